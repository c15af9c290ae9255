/- AE, part 26: any order. -/
import Derived.Test.YtpgoibncgekflaaAexDraw3
set_option linter.unusedVariables false
set_option linter.unusedSimpArgs false
namespace Go.AE
open Go Go.RowKit

structure DInv (B : Nat) (w0 : World) (vt : List Tmp) (nt : Nat) (ops : Array Oper) (cs : List CO) (vars0 : List AV) (H : Nat → List AO) (R : Nat → AV) (S : Array Bool) (a : Act) (w : World) (I : Cells) (σ : List Loc) : Prop where
  size : S.size = ops.size
  down : ∀ (j : Nat) (y : Oper), S.getD j false = true → ops[j]? = some y → ∀ k ∈ bindsOf y, S.getD k false = true
  heap : ∃ q, q ≤ cs.length ∧ Inv B w0 I σ w (H q) ∧ ∀ (e : Nat) (c : CO), cs[e]? = some c → c.op.isE = true → (S.getD e false = true ↔ e < q)
  tsize : a.tmps.size = nt
  defers : a.defers = []
  done : ∀ (j : Nat) (y : Oper) (t : Tmp), ops[j]? = some y → y.dst = some t → S.getD j false = true → Rep I w σ (R j) (a.tmps.getD t undef)
  old : ∀ (k : Nat) (t : Tmp), vt[k]? = some t → (∀ (j : Nat) (y : Oper), ops[j]? = some y → y.dst = some t → S.getD j false = false) → Rep I w σ (vars0.getD k .junk) (a.tmps.getD t undef)

section
variable {P : Program} {B : Nat} {w0 w w' : World} {I I' : Cells} {σ σ' : List Loc} {vt : List Tmp} {nt : Nat} {a : Act} {T : Tb} {call : CallF}
  {aps : List (Option Nat × Nat)} {ops : Array Oper} {cs : List CO} {vars0 vars1 : List AV} {h0 h1 : List AO} {V E : Nat → List AV} {H : Nat → List AO} {R : Nat → AV} {S : Array Bool}

theorem getD_lt {j : Nat} (h : S.getD j false = true) : j < S.size := by
  by_cases hlt : j < S.size
  · exact hlt
  · rw [Array.getD_eq_getD_getElem?, Array.getElem?_eq_none (by omega)] at h; cases h

theorem anc_in (sf : SF aps ops cs (ancGo [] ops.toList)) (hs : S.size = ops.size) (hd : ∀ (j : Nat) (y : Oper), S.getD j false = true → ops[j]? = some y → ∀ k ∈ bindsOf y, S.getD k false = true) :
    ∀ (n j : Nat) (y : Oper), j < n → ops[j]? = some y → (∀ k ∈ bindsOf y, S.getD k false = true) → ∀ i, ((ancGo [] ops.toList).getD j 0).testBit i = true → S.getD i false = true := by
  intro n
  induction n with
  | zero => intro j y h; omega
  | succ n ih =>
    intro j y hj hy hk i hb
    obtain ⟨k, hkm, h⟩ := ancGo_bit ops.toList [] j y i (by simpa using hy) (by simpa using sf.back j y hy) (by simpa using hb)
    rcases h with rfl | h
    · exact hk _ hkm
    · have hkS := hk k hkm
      have hklt := getD_lt hkS
      rw [hs] at hklt
      have hky : ops[k]? = some ops[k] := Array.getElem?_eq_getElem hklt
      have := sf.back j y hy k hkm
      exact ih k _ (by omega) hky (hd k _ hkS hky) i h

theorem set_getD {i j : Nat} (hi : i < S.size) : (S.setIfInBounds i true).getD j false = if j = i then true else S.getD j false := by
  rw [Array.getD_eq_getD_getElem?, Array.getD_eq_getD_getElem?]
  by_cases e : j = i
  · subst e
    rw [Array.getElem?_setIfInBounds_self_of_lt hi, if_pos rfl]; rfl
  · rw [Array.getElem?_setIfInBounds_ne (fun h => e h.symm), if_neg e]

theorem ready_iff {i : Nat} (hs : S.size = ops.size) (hi : i ∈ Region.ready .any ops S) : ∃ o, ops[i]? = some o ∧ i < S.size ∧ S.getD i false = false ∧ ∀ k ∈ bindsOf o, S.getD k false = true := by
  simp only [Region.ready, List.mem_filter, List.mem_range, Bool.and_eq_true, Bool.not_eq_true'] at hi
  obtain ⟨h1, h2, h3⟩ := hi
  have ho : ops[i]? = some ops[i] := Array.getElem?_eq_getElem h1
  refine ⟨_, ho, by omega, ?_, fun k hk => ?_⟩
  · rw [Array.getD_eq_getD_getElem?] at h2 ⊢
    rw [Array.getElem?_eq_getElem (by omega)] at h2 ⊢
    exact h2
  · rw [ho] at h3
    simp only [Option.map_some, Option.getD_some, Array.all_eq_true', Bool.or_eq_true, Bool.not_eq_true'] at h3
    simp only [bindsOf, List.mem_map, List.mem_filter] at hk
    obtain ⟨e, ⟨he1, he2⟩, rfl⟩ := hk
    rcases h3 e (by simpa using he1) with h | h
    · rw [h] at he2; cases he2
    · exact h

theorem apart_at {x y : Oper} {c d : CO} (h : pairOk aps ops cs x y c d = true) : x.apart ops y = true ∧ ¬ (c.op.isE = true ∧ d.op.isE = true) ∧ (c.op.isE = true → d.op.isR = true → exOk aps cs c d = true) ∧ (c.op.isR = true → d.op.isE = true → exOk aps cs d c = true) := by
  simp only [pairOk, Bool.and_eq_true, Bool.or_eq_true, Bool.not_eq_true', Bool.and_eq_false_iff] at h
  obtain ⟨⟨⟨h1, h2⟩, h3⟩, h4⟩ := h
  refine ⟨h1, ?_, fun p q => ?_, fun p q => ?_⟩
  · rintro ⟨p, q⟩
    rw [p, q] at h2
    rcases h2 with h2 | h2 <;> cases h2
  · rw [p, q] at h3
    rcases h3 with (h3 | h3) | h3
    · cases h3
    · cases h3
    · exact h3
  · rw [p, q] at h4
    rcases h4 with (h4 | h4) | h4
    · cases h4
    · cases h4
    · exact h4

theorem varOf_some (hn : vt.Nodup) {k : Nat} {t : Tmp} (h : vt[k]? = some t) : varOf vt t = some k := by
  cases hv : varOf vt t with
  | none => exact absurd (List.mem_of_getElem? h) (varOf_none hv)
  | some k' =>
    obtain ⟨l1, e1⟩ := List.getElem?_eq_some_iff.1 h
    obtain ⟨l2, e2⟩ := List.getElem?_eq_some_iff.1 (varOf_eq hv)
    have := (List.getElem_inj hn).1 (e2.trans e1.symm)
    subst this; rfl

set_option maxHeartbeats 1000000 in
theorem draw_step (hT : TbOk P T) (hcall : CallOk P call) (hnd : vt.Nodup) (hvt : ∀ t ∈ vt, t < nt) (hlen : vars0.length = vt.length) (hc : compOps T nt vt ops [] ops.toList = some cs) (sf : SF aps ops cs (ancGo [] ops.toList))
    (hap : aps.all (apB vars0) = true) (t : Trace call cs vars0 [] h0 vars1 h1 V E H R) (D : DInv B w0 vt nt ops cs vars0 H R S a w I σ) {i : Nat} (hi : i ∈ Region.ready .any ops S)
    {K : Act → World → Prop} {Q : Exit → Act → World → Prop}
    (hK : ∀ a' w' I' σ', DInv B w0 vt nt ops cs vars0 H R (S.setIfInBounds i true) a' w' I' σ' → Step B I σ w I' σ' w' → K a' w') : wpOp P ops Q i K a w := by
  obtain ⟨o, ho, hilt, hiS, hready⟩ := ready_iff D.size hi
  obtain ⟨hclen, hcat⟩ := compOps_at ops.toList 0 cs rfl hc
  have hlist : ∀ (j : Nat) (y : Oper), ops[j]? = some y → ops.toList[j]? = some y := fun j y h => by simpa using h
  have hsz : cs.length = ops.size := by simpa using hclen
  have hSsz := D.size
  have hil : i < ops.size := by omega
  have hic : i < cs.length := by omega
  obtain ⟨c, g, hci, hcomp, hguard, hdlt⟩ := hcat i o (hlist i o ho)
  simp only [Nat.zero_add] at hcomp hguard
  have hcsAt : ∀ (j : Nat) (y : Oper), ops[j]? = some y → ∃ d, cs[j]? = some d ∧ d.wr = y.dst.bind (varOf vt) := fun j y hy => by
    obtain ⟨c', g', q1, _⟩ := hcat j y (hlist j y hy)
    exact ⟨_, q1, rfl⟩
  have inS := anc_in sf D.size D.down
  -- what is ahead of i has been, what is behind has not
  have ahead : ∀ (j : Nat), ((ancGo [] ops.toList).getD i 0).testBit j = true → S.getD j false = true := fun j hb => inS (i + 1) i o (by omega) ho hready j hb
  have behind : ∀ (j : Nat) (y : Oper), ops[j]? = some y → ((ancGo [] ops.toList).getD j 0).testBit i = true → S.getD j false = false := by
    intro j y hy hb
    cases hS : S.getD j false with
    | false => rfl
    | true =>
      have := inS (j + 1) j y (by omega) hy (D.down j y hS hy) i hb
      rw [hiS] at this; cases this
  obtain ⟨q, hq, hI, hqE⟩ := D.heap
  -- operands
  have looks : ∀ (t' : Tmp), t' ∈ o.looksAt ops → ∀ (x : Opd), mOf vt (lmAt vt ops i) t' = some x → Rep I w σ (getO (V i) (E i) x) (a.tmps.getD t' undef) := by
    intro t' ht' x hx
    have writers : ∀ (j : Nat) (y : Oper), ops[j]? = some y → y.dst = some t' → (j < i → S.getD j false = true) ∧ (i < j → S.getD j false = false) := by
      intro j y hy hdst
      obtain ⟨d, hd, _⟩ := hcsAt j y hy
      refine ⟨fun hji => ?_, fun hij => ?_⟩
      · rcases (sf.pair j i y o d _ hji hy ho hd hci).2 with h | h
        · exact ahead j h
        · exact absurd ht' ((Oper.apart_spec (apart_at h).1).1 t' hdst)
      · rcases (sf.pair i j o y _ d hij ho hy hci hd).2 with h | h
        · exact behind j y hy h
        · exact absurd ht' ((Oper.apart_spec (apart_at h).1).2.2 t' hdst)
    unfold mOf at hx
    split at hx
    · rename_i k hk
      cases hx
      have hvk := varOf_eq hk
      have hklt : k < vars0.length := by rw [hlen]; exact (List.getElem?_eq_some_iff.1 hvk).1
      by_cases hw : ∃ (j : Nat) (y : Oper), j < i ∧ ops[j]? = some y ∧ y.dst = some t'
      · obtain ⟨j, y, hji, hy, hdst⟩ := hw
        obtain ⟨d, hd, hwr⟩ := hcsAt j y hy
        have : (V i).getD k .junk = R j := by
          refine t.new hd (by rw [hwr, hdst]; exact hk) hklt i (by omega) hji (fun j' c' h1 h2 hc' hw' => ?_)
          have hj'lt : j' < ops.size := by omega
          have hy' : ops[j']? = some ops[j'] := Array.getElem?_eq_getElem hj'lt
          obtain ⟨d', hd', hwr'⟩ := hcsAt j' _ hy'
          rw [hc'] at hd'; cases hd'
          rw [hwr'] at hw'
          obtain ⟨t2, e1, e2⟩ := Option.bind_eq_some_iff.1 hw'
          have e3 := varOf_eq e2
          rw [hvk] at e3; cases e3
          rcases (sf.pair j j' y _ d _ h1 hy hy' hd hc').1 with h | h
          · rw [hdst] at h; cases h
          · exact h (hdst.trans e1.symm)
        show Rep I w σ ((V i).getD k .junk) _
        rw [this]
        exact D.done j y t' hy hdst ((writers j y hy hdst).1 hji)
      · have : (V i).getD k .junk = vars0.getD k .junk := by
          refine t.old i (by omega) (fun j c' hj hc' hw' => hw ?_)
          have hjlt : j < ops.size := by omega
          have hy' : ops[j]? = some ops[j] := Array.getElem?_eq_getElem hjlt
          obtain ⟨d', hd', hwr'⟩ := hcsAt j _ hy'
          rw [hc'] at hd'; cases hd'
          rw [hwr'] at hw'
          obtain ⟨t2, e1, e2⟩ := Option.bind_eq_some_iff.1 hw'
          have e3 := varOf_eq e2
          rw [hvk] at e3; cases e3
          exact ⟨j, _, hj, hy', e1⟩
        show Rep I w σ ((V i).getD k .junk) _
        rw [this]
        refine D.old k t' hvk (fun j y hy hdst => ?_)
        rcases Nat.lt_trichotomy j i with h | h | h
        · exact absurd ⟨j, y, h, hy, hdst⟩ hw
        · subst h; exact hiS
        · exact (writers j y hy hdst).2 h
    · rename_i hn
      obtain ⟨k, hk, rfl⟩ := Option.map_eq_some_iff.1 hx
      obtain ⟨hklt, hp, _⟩ := List.findIdx?_eq_some_iff_getElem.1 hk
      have hget : (lmAt vt ops i)[k]? = some (some t') := by
        rw [List.getElem?_eq_getElem hklt]; simpa using hp
      obtain ⟨d, y, hdi, rfl, hy, hdst⟩ := lmAt_get i k hget
      show Rep I w σ ((E i).getD (i - 1 - d) .junk) _
      rw [t.env i (by omega) d hdi]
      exact D.done d y t' hy hdst ((writers d y hy hdst).1 hdi)
  -- compiled by what it looks at alone
  let m' : Tmp → Option Opd := fun t' => if t' ∈ o.looksAt ops then mOf vt (lmAt vt ops i) t' else none
  have hcomp' : compOp T m' o = some c := by
    rw [← hcomp]
    refine compOp_cong (fun x hx => cO_cong (fun t' ht' => ?_))
    subst ht'
    have : t' ∈ o.looksAt ops := List.mem_append_left _ (List.mem_filterMap.2 ⟨.tmp t', by simpa using hx, rfl⟩)
    simp only [m', if_pos this]
  have hopsok : OpsOk I w σ (V i) (E i) a.eval m' := by
    intro t' y hy
    simp only [m'] at hy
    split at hy
    · rename_i hmem
      exact looks t' hmem y hy
    · cases hy
  have hargs : c.isR = true → ∀ x ∈ c.args, (getO (V i) (E i) x).lt (H q).length = true := by
    intro hR x hx
    rcases compOp_args hcomp' hR x hx with ⟨v, rfl⟩ | ⟨f, rfl⟩ | ⟨t', ht'⟩
    · simp only [getO, ofVal]
      split
      · split
        · rename_i arr harr
          simp only [AV.lt, List.all_eq_true, List.mem_map]
          rintro _ ⟨z, _, rfl⟩; rfl
        · rfl
      · rfl
    · rfl
    · have := (hopsok t' x ht').lt
      rwa [hI.len] at this
  -- the objects behind it
  have heapTo : ∃ q', q' ≤ cs.length ∧ (∀ (r : AV) (h' : List AO), evOp call (V i) (E i) (H i) c = some (r, h') → h' = H (i + 1) → evOp call (V i) (E i) (H q) c = some (r, H q')) ∧ (H (i + 1) = H i → H q' = H q) ∧
      ∀ (e : Nat) (c : CO), cs[e]? = some c → c.op.isE = true → ((S.setIfInBounds i true).getD e false = true ↔ e < q') := by
    by_cases hE : c.isE = true
    · have hlt : ∀ (e : Nat) (d : CO), cs[e]? = some d → d.op.isE = true → (e < i → S.getD e false = true) ∧ (i < e → S.getD e false = false) := by
        intro e d hd hdE
        have hel : e < ops.size := by have := (List.getElem?_eq_some_iff.1 hd).1; omega
        have hy : ops[e]? = some ops[e] := Array.getElem?_eq_getElem hel
        refine ⟨fun hei => ?_, fun hie => ?_⟩
        · rcases (sf.pair e i _ o d _ hei hy ho hd hci).2 with h | h
          · exact ahead e h
          · exact absurd ⟨hdE, hE⟩ (apart_at h).2.1
        · rcases (sf.pair i e o _ _ d hie ho hy hci hd).2 with h | h
          · exact behind e _ hy h
          · exact absurd ⟨hE, hdE⟩ (apart_at h).2.1
      have hqi : q ≤ i := by
        rcases Nat.lt_or_ge i q with h | h
        · have := (hqE i _ hci hE).2 h
          rw [hiS] at this; cases this
        · exact h
      have hHq : H i = H q := t.const i hqi (by omega) (fun e d h1 h2 hd => by
        cases hdE : d.op.isE with
        | false => rfl
        | true =>
          have := (hqE e d hd hdE).1 ((hlt e d hd hdE).1 h2)
          omega)
      refine ⟨i + 1, by omega, fun r h' he hh => by rw [← hHq, he, hh], fun h => by rw [h, hHq], fun e d hd hdE => ?_⟩
      rw [set_getD hilt]
      rcases Nat.lt_trichotomy e i with h | h | h
      · rw [if_neg (by omega)]
        exact ⟨fun _ => by omega, fun _ => (hlt e d hd hdE).1 h⟩
      · rw [if_pos h]; exact ⟨fun _ => by omega, fun _ => rfl⟩
      · rw [if_neg (by omega), (hlt e d hd hdE).2 h]
        exact ⟨fun h => (by cases h), fun _ => by omega⟩
    · simp only [Bool.not_eq_true] at hE
      refine ⟨q, hq, fun r h' he hh => ?_, fun _ => rfl, fun e d hd hdE => ?_⟩
      · have hkeep : H (i + 1) = H i := t.keep hci hE
        rw [hkeep] at hh
        subst hh
        by_cases hR : c.isR = true
        · have down : q ≤ i → evOp call (V i) (E i) (H q) c = some (r, H q) := by
            intro hqi
            have ch : ∀ (p : Nat) (d : CO), q ≤ p → p < i → cs[p]? = some d → d.op.isE = true → exOk aps cs d ⟨c, o.dst.bind (varOf vt), g⟩ = true := by
              intro p d h1 h2 hd hdE
              have hpl : p < ops.size := by omega
              have hy : ops[p]? = some ops[p] := Array.getElem?_eq_getElem hpl
              rcases (sf.pair p i _ o d _ h2 hy ho hd hci).2 with h | h
              · have := (hqE p d hd hdE).1 (ahead p h)
                omega
              · exact (apart_at h).2.2.1 hdE hR
            have lens : ∀ p, q ≤ p → p ≤ i → (H q).length ≤ (H p).length := by
              intro p
              induction p with
              | zero => intro h1 _; rw [show q = 0 by omega]; exact Nat.le_refl _
              | succ p ih =>
                intro h1 h2
                by_cases e : q = p + 1
                · rw [e]; exact Nat.le_refl _
                · have := ih (by omega) (by omega)
                  have hd : cs[p]? = some cs[p] := List.getElem?_eq_getElem (by omega)
                  cases hdE : cs[p].op.isE with
                  | false => rw [t.keep hd hdE]; exact this
                  | true => exact Nat.le_trans this (t.change hap hd hci hR (ch p _ (by omega) (by omega) hd hdE)).1
            have steps : ∀ n p, p + n = i → q ≤ p → evOp call (V i) (E i) (H p) c = some (r, H p) := by
              intro n
              induction n with
              | zero => intro p h1 _; rw [show p = i by omega]; exact he
              | succ n ih =>
                intro p h1 h2
                have hnext := ih (p + 1) (by omega) (by omega)
                have hd : cs[p]? = some cs[p] := List.getElem?_eq_getElem (by omega)
                cases hdE : cs[p].op.isE with
                | false => rw [t.keep hd hdE] at hnext; exact hnext
                | true =>
                  exact (t.change hap hd hci hR (ch p _ (by omega) (by omega) hd hdE)).2.1 (H q).length r (lens p h2 (by omega)) (hargs hR) hnext
            exact steps (i - q) q (by omega) (Nat.le_refl _)
          rcases Nat.le_total q i with hqi | hqi
          · exact down hqi
          · have ch : ∀ (p : Nat) (d : CO), i ≤ p → p < q → cs[p]? = some d → d.op.isE = true → exOk aps cs d ⟨c, o.dst.bind (varOf vt), g⟩ = true := by
              intro p d h1 h2 hd hdE
              have hpl : p < ops.size := by omega
              have hy : ops[p]? = some ops[p] := Array.getElem?_eq_getElem hpl
              have hip : i < p := by
                rcases Nat.lt_or_ge i p with h | h
                · exact h
                · have : p = i := by omega
                  subst this
                  rw [hci] at hd; cases hd
                  rw [hE] at hdE; cases hdE
              have hSp := (hqE p d hd hdE).2 h2
              rcases (sf.pair i p o _ _ d hip ho hy hci hd).2 with h | h
              · rw [behind p _ hy h] at hSp; cases hSp
              · exact (apart_at h).2.2.2 hR hdE
            have steps : ∀ p, i ≤ p → p ≤ q → evOp call (V i) (E i) (H p) c = some (r, H p) := by
              intro p
              induction p with
              | zero => intro h1 _; rw [show i = 0 by omega] at he ⊢; exact he
              | succ p ih =>
                intro h1 h2
                by_cases e : i = p + 1
                · rw [← e]; exact he
                · have hprev := ih (by omega) (by omega)
                  have hd : cs[p]? = some cs[p] := List.getElem?_eq_getElem (by omega)
                  cases hdE : cs[p].op.isE with
                  | false => rw [t.keep hd hdE]; exact hprev
                  | true => exact (t.change hap hd hci hR (ch p _ (by omega) (by omega) hd hdE)).2.2 r hprev
            exact steps q hqi (Nat.le_refl _)
        · simp only [Bool.not_eq_true] at hR
          exact (ev_plain hE hR he).2 (H q)
      · rw [set_getD hilt]
        by_cases e : e = i
        · subst e
          rw [hci] at hd; cases hd
          rw [hE] at hdE; cases hdE
        · rw [if_neg e]; exact hqE _ d hd hdE
  obtain ⟨q', hq', hrun, hskip, hqE'⟩ := heapTo
  -- the invariant behind it
  have put : ∀ (v : Value) (w1 : World) (I1 : Cells) (σ1 : List Loc), Inv B w0 I1 σ1 w1 (H q') → Step B I σ w I1 σ1 w1 → Rep I1 w1 σ1 (R i) v → DInv B w0 vt nt ops cs vars0 H R (S.setIfInBounds i true) (a.put o.dst v) w1 I1 σ1 := by
    intro v w1 I1 σ1 hI1 st hr
    have hput : ∀ (t' : Tmp), (o.dst = some t' → (a.put o.dst v).tmps.getD t' undef = v) ∧ (o.dst ≠ some t' → (a.put o.dst v).tmps.getD t' undef = a.tmps.getD t' undef) := by
      intro t'
      cases hdd : o.dst with
      | none => exact ⟨fun h => (by cases h), fun _ => rfl⟩
      | some d =>
        rw [hdd] at hdlt
        simp only [Option.all_some, decide_eq_true_eq] at hdlt
        have hd' : d < a.tmps.size := by rw [D.tsize]; exact hdlt
        refine ⟨fun h => ?_, fun h => ?_⟩
        · cases h; rw [put_getD hd', if_pos rfl]
        · rw [put_getD hd', if_neg (fun e => h (by rw [e]))]
    refine ⟨by simp [D.size], fun j y hj hy k hk => ?_, ⟨q', hq', hI1, hqE'⟩, ?_, ?_, fun j y t' hy hdst hj => ?_, fun k t' hk hn => ?_⟩
    · rw [set_getD hilt] at hj ⊢
      split
      · rfl
      · split at hj
        · rename_i e; subst e
          rw [ho] at hy; cases hy
          exact hready k hk
        · exact D.down j y hj hy k hk
    · cases hdd : o.dst <;> simp [Act.put, D.tsize]
    · cases hdd : o.dst <;> simp [Act.put, D.defers]
    · rw [set_getD hilt] at hj
      split at hj
      · rename_i e; subst e
        rw [ho] at hy; cases hy
        rw [(hput t').1 hdst]; exact hr
      · rename_i e
        have hne : o.dst ≠ some t' := by
          intro h
          obtain ⟨d, hd, _⟩ := hcsAt j y hy
          rcases Nat.lt_or_gt_of_ne e with h' | h'
          · rcases (sf.pair j i y o d _ h' hy ho hd hci).1 with h2 | h2
            · rw [hdst] at h2; cases h2
            · exact h2 (hdst.trans h.symm)
          · rcases (sf.pair i j o y _ d h' ho hy hci hd).1 with h2 | h2
            · rw [h] at h2; cases h2
            · exact h2 (h.trans hdst.symm)
        rw [(hput t').2 hne]
        exact (D.done j y t' hy hdst hj).step st
    · have hne : o.dst ≠ some t' := by
        intro h
        have := hn i o ho h
        rw [set_getD hilt, if_pos rfl] at this; cases this
      rw [(hput t').2 hne]
      refine (D.old k t' hk (fun j y hy hdst => ?_)).step st
      have := hn j y hy hdst
      rw [set_getD hilt] at this
      split at this
      · cases this
      · exact this
  -- carried out, or passed over
  have hst := (t.step i _ hci).2.2
  have run : evOp call (V i) (E i) (H i) c = some (R i, H (i + 1)) → Oper.wp P o a w K Q := by
    intro he
    refine op_sound hI hT hcomp' hopsok hcall (hrun _ _ he rfl) ?_
    intro u w1 I1 σ1 hI1 st1 hr1
    exact hK _ _ _ _ (put u w1 I1 σ1 hI1 st1 hr1) st1
  have skip : R i = .v undef → H (i + 1) = H i → K (a.put o.dst undef) w := by
    intro hr hh
    refine hK _ _ I σ (put undef w I σ ?_ (Step.refl _ _ _ _) ?_) (Step.refl _ _ _ _)
    · rw [hskip hh]; exact hI
    · rw [hr]; exact Rep.v _ _
  unfold wpOp
  rw [ho]
  simp only
  cases hg : o.guard with
  | none =>
    rw [hg] at hguard
    simp only [compGuard, Option.some.injEq] at hguard
    subst hguard
    simp only [StepOk] at hst
    rw [if_pos (by simp [Region.wanted, hg])]
    exact .inl (run hst)
  | some gw =>
    obtain ⟨gi, want⟩ := gw
    rw [hg] at hguard
    simp only [compGuard] at hguard
    split at hguard
    · rename_i t' ht'
      obtain ⟨x, hx, rfl⟩ := Option.map_eq_some_iff.1 hguard
      have hmem : t' ∈ o.looksAt ops := by
        unfold Oper.looksAt
        rw [hg]
        refine List.mem_append_right _ ?_
        simp only [ht', Option.toList_some, List.mem_singleton]
      have hrep := looks t' hmem x hx
      have hy : yielded ops a.tmps gi = (match a.tmps.getD t' undef with | .bool b => some b | _ => none) := by
        unfold yielded
        rw [ht']
        simp only [Option.bind_some]
        rw [Array.getD_eq_getD_getElem?]
        cases a.tmps[t']? with
        | none => rfl
        | some z => cases z <;> rfl
      simp only [StepOk] at hst
      rcases hst with ⟨hb, he⟩ | ⟨hb | hb, hr, hh⟩
      · rw [hb] at hrep
        have hbv : a.tmps.getD t' undef = .bool want := by generalize a.tmps.getD t' undef = z at hrep; cases hrep; rfl
        rw [hbv] at hy
        rw [if_pos (by simp [Region.wanted, hg, hy])]
        exact .inl (run he)
      · obtain ⟨b, hb, hne⟩ := hb
        rw [hb] at hrep
        have hbv : a.tmps.getD t' undef = .bool b := by generalize a.tmps.getD t' undef = z at hrep; cases hrep; rfl
        rw [hbv] at hy
        rw [if_neg (by simp [Region.wanted, hg, hy, hne])]
        exact skip hr hh
      · obtain ⟨z, hb⟩ := hb
        rw [hb] at hrep
        have hbv : a.tmps.getD t' undef = .tuple z := by generalize a.tmps.getD t' undef = z' at hrep; cases hrep; rfl
        rw [hbv] at hy
        rw [if_neg (by simp [Region.wanted, hg, hy])]
        exact skip hr hh
    · cases hguard
end
end Go.AE

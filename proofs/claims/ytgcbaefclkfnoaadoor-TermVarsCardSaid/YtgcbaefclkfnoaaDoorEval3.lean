/- The evaluator of compiled functions, proved sound: texts put together. -/
import Derived.Test.YtgcbaefclkfnoaaDoorEval2
import Derived.Test.YtgcbaefclkfnoaaDoorEval1
import Derived.ChangeArms
import Derived.DataElems
/-! AE, part 26: any order. -/
section
set_option linter.unusedVariables false
set_option linter.unusedSimpArgs false
namespace Go.AE
open Go Go.RowKit

structure DInv (B : Nat) (w0 : World) (vt : List Tmp) (nt : Nat) (ops : Array Oper) (cs : List CO) (vars0 : List AV) (H : Nat → List AO) (R : Nat → AV) (S : Array Bool) (a : Act) (w : World) (I : Cells) (σ : List Loc) : Prop where
  size : S.size = ops.size
  down : ∀ (j : Nat) (y : Oper), S.getD j false = true → ops[j]? = some y → ∀ k ∈ bindsOf y, S.getD k false = true
  heap : ∃ q, q ≤ cs.length ∧ Inv B w0 I σ w (H q) ∧ ∀ (e : Nat) (c : CO), cs[e]? = some c → c.op.isE = true → (S.getD e false = true ↔ e < q)
  tsize : a.tmps.size = nt
  defers : a.defers = []
  done : ∀ (j : Nat) (y : Oper) (t : Tmp), ops[j]? = some y → y.dst = some t → S.getD j false = true → Rep I w σ (R j) (a.tmps.getD t undef)
  old : ∀ (k : Nat) (t : Tmp), vt[k]? = some t → (∀ (j : Nat) (y : Oper), ops[j]? = some y → y.dst = some t → S.getD j false = false) → Rep I w σ (vars0.getD k .junk) (a.tmps.getD t undef)

section
variable {P : Program} {B : Nat} {w0 w w' : World} {I I' : Cells} {σ σ' : List Loc} {vt : List Tmp} {nt : Nat} {a : Act} {T : Tb} {call : CallF} {pu : FuncId → Bool}
  {aps : List (Option Nat × Nat)} {ops : Array Oper} {cs : List CO} {vars0 vars1 : List AV} {h0 h1 : List AO} {V E : Nat → List AV} {H : Nat → List AO} {R : Nat → AV} {S : Array Bool}

theorem getD_lt {j : Nat} (h : S.getD j false = true) : j < S.size := by
  by_cases hlt : j < S.size
  · exact hlt
  · rw [Array.getD_eq_getD_getElem?, Array.getElem?_eq_none (by omega)] at h; cases h

theorem anc_in (sf : SF pu aps ops cs (ancGo [] ops.toList)) (hs : S.size = ops.size) (hd : ∀ (j : Nat) (y : Oper), S.getD j false = true → ops[j]? = some y → ∀ k ∈ bindsOf y, S.getD k false = true) :
    ∀ (n j : Nat) (y : Oper), j < n → ops[j]? = some y → (∀ k ∈ bindsOf y, S.getD k false = true) → ∀ i, ((ancGo [] ops.toList).getD j 0).testBit i = true → S.getD i false = true := by
  intro n
  induction n with
  | zero => intro j y h; omega
  | succ n ih =>
    intro j y hj hy hk i hb
    obtain ⟨k, hkm, h⟩ := ancGo_bit ops.toList [] j y i (by simpa using hy) (by simpa using sf.back j y hy) (by simpa using hb)
    rcases h with rfl | h
    · exact hk _ hkm
    · have hkS := hk k hkm
      have hklt := getD_lt hkS
      rw [hs] at hklt
      have hky : ops[k]? = some ops[k] := Array.getElem?_eq_getElem hklt
      have := sf.back j y hy k hkm
      exact ih k _ (by omega) hky (hd k _ hkS hky) i h

theorem set_getD {i j : Nat} (hi : i < S.size) : (S.setIfInBounds i true).getD j false = if j = i then true else S.getD j false := by
  rw [Array.getD_eq_getD_getElem?, Array.getD_eq_getD_getElem?]
  by_cases e : j = i
  · subst e
    rw [Array.getElem?_setIfInBounds_self_of_lt hi, if_pos rfl]; rfl
  · rw [Array.getElem?_setIfInBounds_ne (fun h => e h.symm), if_neg e]

theorem ready_iff {i : Nat} (hs : S.size = ops.size) (hi : i ∈ Region.ready .any ops S) : ∃ o, ops[i]? = some o ∧ i < S.size ∧ S.getD i false = false ∧ ∀ k ∈ bindsOf o, S.getD k false = true := by
  simp only [Region.ready, List.mem_filter, List.mem_range, Bool.and_eq_true, Bool.not_eq_true'] at hi
  obtain ⟨h1, h2, h3⟩ := hi
  have ho : ops[i]? = some ops[i] := Array.getElem?_eq_getElem h1
  refine ⟨_, ho, by omega, ?_, fun k hk => ?_⟩
  · rw [Array.getD_eq_getD_getElem?] at h2 ⊢
    rw [Array.getElem?_eq_getElem (by omega)] at h2 ⊢
    exact h2
  · rw [ho] at h3
    simp only [Option.map_some, Option.getD_some, Array.all_eq_true', Bool.or_eq_true, Bool.not_eq_true'] at h3
    simp only [bindsOf, List.mem_map, List.mem_filter] at hk
    obtain ⟨e, ⟨he1, he2⟩, rfl⟩ := hk
    rcases h3 e (by simpa using he1) with h | h
    · rw [h] at he2; cases he2
    · exact h

theorem apart_at {i j : Nat} {x y : Oper} {c d : CO} (h : pairOk pu aps ops cs i j x y c d = true) : x.apart ops y = true ∧ ¬ (c.op.isE = true ∧ d.op.isE = true) ∧ (c.op.isE = true → d.op.isR = true → exOk pu aps cs i j c d = true) ∧ (c.op.isR = true → d.op.isE = true → exOk pu aps cs j i d c = true) := by
  simp only [pairOk, Bool.and_eq_true, Bool.or_eq_true, Bool.not_eq_true', Bool.and_eq_false_iff] at h
  obtain ⟨⟨⟨h1, h2⟩, h3⟩, h4⟩ := h
  refine ⟨h1, ?_, fun p q => ?_, fun p q => ?_⟩
  · rintro ⟨p, q⟩
    rw [p, q] at h2
    rcases h2 with h2 | h2 <;> cases h2
  · rw [p, q] at h3
    rcases h3 with (h3 | h3) | h3
    · cases h3
    · cases h3
    · exact h3
  · rw [p, q] at h4
    rcases h4 with (h4 | h4) | h4
    · cases h4
    · cases h4
    · exact h4

theorem varOf_some (hn : vt.Nodup) {k : Nat} {t : Tmp} (h : vt[k]? = some t) : varOf vt t = some k := by
  cases hv : varOf vt t with
  | none => exact absurd (List.mem_of_getElem? h) (varOf_none hv)
  | some k' =>
    obtain ⟨l1, e1⟩ := List.getElem?_eq_some_iff.1 h
    obtain ⟨l2, e2⟩ := List.getElem?_eq_some_iff.1 (varOf_eq hv)
    have := (List.getElem_inj hn).1 (e2.trans e1.symm)
    subst this; rfl

set_option maxHeartbeats 1000000 in
theorem draw_step (hpu : ∀ f, pu f = true → ∀ args h r h', call f args h = some (r, h') → ∃ X, h' = h ++ X) (hT : TbOk P T) (hcall : CallOk P B w0 call) (hnd : vt.Nodup) (hvt : ∀ t ∈ vt, t < nt) (hlen : vars0.length = vt.length) (hc : compOps T nt vt ops [] ops.toList = some cs) (sf : SF pu aps ops cs (ancGo [] ops.toList))
    (hap : aps.all (apB vars0) = true) (t : Trace call cs vars0 [] h0 vars1 h1 V E H R) (D : DInv B w0 vt nt ops cs vars0 H R S a w I σ) {i : Nat} (hi : i ∈ Region.ready .any ops S)
    {K : Act → World → Prop} {Q : Exit → Act → World → Prop}
    (hK : ∀ a' w' I' σ', DInv B w0 vt nt ops cs vars0 H R (S.setIfInBounds i true) a' w' I' σ' → Step B I σ w I' σ' w' → K a' w') : wpOp P ops Q i K a w := by
  obtain ⟨o, ho, hilt, hiS, hready⟩ := ready_iff D.size hi
  obtain ⟨hclen, hcat⟩ := compOps_at ops.toList 0 cs rfl hc
  have hlist : ∀ (j : Nat) (y : Oper), ops[j]? = some y → ops.toList[j]? = some y := fun j y h => by simpa using h
  have hsz : cs.length = ops.size := by simpa using hclen
  have hSsz := D.size
  have hil : i < ops.size := by omega
  have hic : i < cs.length := by omega
  obtain ⟨c, g, hci, hcomp, hguard, hdlt⟩ := hcat i o (hlist i o ho)
  simp only [Nat.zero_add] at hcomp hguard
  have hcsAt : ∀ (j : Nat) (y : Oper), ops[j]? = some y → ∃ d, cs[j]? = some d ∧ d.wr = y.dst.bind (varOf vt) := fun j y hy => by
    obtain ⟨c', g', q1, _⟩ := hcat j y (hlist j y hy)
    exact ⟨_, q1, rfl⟩
  have inS := anc_in sf D.size D.down
  -- what is ahead of i has been, what is behind has not
  have ahead : ∀ (j : Nat), ((ancGo [] ops.toList).getD i 0).testBit j = true → S.getD j false = true := fun j hb => inS (i + 1) i o (by omega) ho hready j hb
  have behind : ∀ (j : Nat) (y : Oper), ops[j]? = some y → ((ancGo [] ops.toList).getD j 0).testBit i = true → S.getD j false = false := by
    intro j y hy hb
    cases hS : S.getD j false with
    | false => rfl
    | true =>
      have := inS (j + 1) j y (by omega) hy (D.down j y hS hy) i hb
      rw [hiS] at this; cases this
  obtain ⟨q, hq, hI, hqE⟩ := D.heap
  -- operands
  have looks : ∀ (t' : Tmp), t' ∈ o.looksAt ops → ∀ (x : Opd), mOf vt (lmAt vt ops i) t' = some x → Rep I w σ (getO (V i) (E i) x) (a.tmps.getD t' undef) := by
    intro t' ht' x hx
    have writers : ∀ (j : Nat) (y : Oper), ops[j]? = some y → y.dst = some t' → (j < i → S.getD j false = true) ∧ (i < j → S.getD j false = false) := by
      intro j y hy hdst
      obtain ⟨d, hd, _⟩ := hcsAt j y hy
      refine ⟨fun hji => ?_, fun hij => ?_⟩
      · rcases (sf.pair j i y o d _ hji hy ho hd hci).2 with h | h
        · exact ahead j h
        · exact absurd ht' ((Oper.apart_spec (apart_at h).1).1 t' hdst)
      · rcases (sf.pair i j o y _ d hij ho hy hci hd).2 with h | h
        · exact behind j y hy h
        · exact absurd ht' ((Oper.apart_spec (apart_at h).1).2.2 t' hdst)
    unfold mOf at hx
    split at hx
    · rename_i k hk
      cases hx
      have hvk := varOf_eq hk
      have hklt : k < vars0.length := by rw [hlen]; exact (List.getElem?_eq_some_iff.1 hvk).1
      by_cases hw : ∃ (j : Nat) (y : Oper), j < i ∧ ops[j]? = some y ∧ y.dst = some t'
      · obtain ⟨j, y, hji, hy, hdst⟩ := hw
        obtain ⟨d, hd, hwr⟩ := hcsAt j y hy
        have : (V i).getD k .junk = R j := by
          refine t.new hd (by rw [hwr, hdst]; exact hk) hklt i (by omega) hji (fun j' c' h1 h2 hc' hw' => ?_)
          have hj'lt : j' < ops.size := by omega
          have hy' : ops[j']? = some ops[j'] := Array.getElem?_eq_getElem hj'lt
          obtain ⟨d', hd', hwr'⟩ := hcsAt j' _ hy'
          rw [hc'] at hd'; cases hd'
          rw [hwr'] at hw'
          obtain ⟨t2, e1, e2⟩ := Option.bind_eq_some_iff.1 hw'
          have e3 := varOf_eq e2
          rw [hvk] at e3; cases e3
          rcases (sf.pair j j' y _ d _ h1 hy hy' hd hc').1 with h | h
          · rw [hdst] at h; cases h
          · exact h (hdst.trans e1.symm)
        show Rep I w σ ((V i).getD k .junk) _
        rw [this]
        exact D.done j y t' hy hdst ((writers j y hy hdst).1 hji)
      · have : (V i).getD k .junk = vars0.getD k .junk := by
          refine t.old i (by omega) (fun j c' hj hc' hw' => hw ?_)
          have hjlt : j < ops.size := by omega
          have hy' : ops[j]? = some ops[j] := Array.getElem?_eq_getElem hjlt
          obtain ⟨d', hd', hwr'⟩ := hcsAt j _ hy'
          rw [hc'] at hd'; cases hd'
          rw [hwr'] at hw'
          obtain ⟨t2, e1, e2⟩ := Option.bind_eq_some_iff.1 hw'
          have e3 := varOf_eq e2
          rw [hvk] at e3; cases e3
          exact ⟨j, _, hj, hy', e1⟩
        show Rep I w σ ((V i).getD k .junk) _
        rw [this]
        refine D.old k t' hvk (fun j y hy hdst => ?_)
        rcases Nat.lt_trichotomy j i with h | h | h
        · exact absurd ⟨j, y, h, hy, hdst⟩ hw
        · subst h; exact hiS
        · exact (writers j y hy hdst).2 h
    · rename_i hn
      obtain ⟨k, hk, rfl⟩ := Option.map_eq_some_iff.1 hx
      obtain ⟨hklt, hp, _⟩ := List.findIdx?_eq_some_iff_getElem.1 hk
      have hget : (lmAt vt ops i)[k]? = some (some t') := by
        rw [List.getElem?_eq_getElem hklt]; simpa using hp
      obtain ⟨d, y, hdi, rfl, hy, hdst⟩ := lmAt_get i k hget
      show Rep I w σ ((E i).getD (i - 1 - d) .junk) _
      rw [t.env i (by omega) d hdi]
      exact D.done d y t' hy hdst ((writers d y hy hdst).1 hdi)
  -- compiled by what it looks at alone
  let m' : Tmp → Option Opd := fun t' => if t' ∈ o.looksAt ops then mOf vt (lmAt vt ops i) t' else none
  have hcomp' : compOp T m' o = some c := by
    rw [← hcomp]
    refine compOp_cong (fun x hx => cO_cong (fun t' ht' => ?_))
    subst ht'
    have : t' ∈ o.looksAt ops := List.mem_append_left _ (List.mem_filterMap.2 ⟨.tmp t', by simpa using hx, rfl⟩)
    simp only [m', if_pos this]
  have hopsok : OpsOk I w σ (V i) (E i) a.eval m' := by
    intro t' y hy
    simp only [m'] at hy
    split at hy
    · rename_i hmem
      exact looks t' hmem y hy
    · cases hy
  have hargs : c.isR = true → ∀ x ∈ c.args, (getO (V i) (E i) x).lt (H q).length = true := by
    intro hR x hx
    rcases compOp_args hcomp' hR x hx with ⟨v, rfl⟩ | ⟨f, rfl⟩ | ⟨t', ht'⟩
    · simp only [getO, ofVal]
      split
      · split
        · rename_i arr harr
          simp only [AV.lt, List.all_eq_true, List.mem_map]
          rintro _ ⟨z, _, rfl⟩; rfl
        · rfl
      · rfl
    · rfl
    · have := (hopsok t' x ht').lt
      rwa [hI.len] at this
  -- the objects behind it
  have heapTo : ∃ q', q' ≤ cs.length ∧ (∀ (r : AV) (h' : List AO), evOp call (V i) (E i) (H i) c = some (r, h') → h' = H (i + 1) → evOp call (V i) (E i) (H q) c = some (r, H q')) ∧ (H (i + 1) = H i → H q' = H q) ∧
      ∀ (e : Nat) (c : CO), cs[e]? = some c → c.op.isE = true → ((S.setIfInBounds i true).getD e false = true ↔ e < q') := by
    by_cases hE : c.isE = true
    · have hlt : ∀ (e : Nat) (d : CO), cs[e]? = some d → d.op.isE = true → (e < i → S.getD e false = true) ∧ (i < e → S.getD e false = false) := by
        intro e d hd hdE
        have hel : e < ops.size := by have := (List.getElem?_eq_some_iff.1 hd).1; omega
        have hy : ops[e]? = some ops[e] := Array.getElem?_eq_getElem hel
        refine ⟨fun hei => ?_, fun hie => ?_⟩
        · rcases (sf.pair e i _ o d _ hei hy ho hd hci).2 with h | h
          · exact ahead e h
          · exact absurd ⟨hdE, hE⟩ (apart_at h).2.1
        · rcases (sf.pair i e o _ _ d hie ho hy hci hd).2 with h | h
          · exact behind e _ hy h
          · exact absurd ⟨hE, hdE⟩ (apart_at h).2.1
      have hqi : q ≤ i := by
        rcases Nat.lt_or_ge i q with h | h
        · have := (hqE i _ hci hE).2 h
          rw [hiS] at this; cases this
        · exact h
      have hHq : H i = H q := t.const i hqi (by omega) (fun e d h1 h2 hd => by
        cases hdE : d.op.isE with
        | false => rfl
        | true =>
          have := (hqE e d hd hdE).1 ((hlt e d hd hdE).1 h2)
          omega)
      refine ⟨i + 1, by omega, fun r h' he hh => by rw [← hHq, he, hh], fun h => by rw [h, hHq], fun e d hd hdE => ?_⟩
      rw [set_getD hilt]
      rcases Nat.lt_trichotomy e i with h | h | h
      · rw [if_neg (by omega)]
        exact ⟨fun _ => by omega, fun _ => (hlt e d hd hdE).1 h⟩
      · rw [if_pos h]; exact ⟨fun _ => by omega, fun _ => rfl⟩
      · rw [if_neg (by omega), (hlt e d hd hdE).2 h]
        exact ⟨fun h => (by cases h), fun _ => by omega⟩
    · simp only [Bool.not_eq_true] at hE
      refine ⟨q, hq, fun r h' he hh => ?_, fun _ => rfl, fun e d hd hdE => ?_⟩
      · have hkeep : H (i + 1) = H i := t.keep hci hE
        rw [hkeep] at hh
        subst hh
        by_cases hR : c.isR = true
        · have down : q ≤ i → evOp call (V i) (E i) (H q) c = some (r, H q) := by
            intro hqi
            have ch : ∀ (p : Nat) (d : CO), q ≤ p → p < i → cs[p]? = some d → d.op.isE = true → exOk pu aps cs p i d ⟨c, o.dst.bind (varOf vt), g⟩ = true := by
              intro p d h1 h2 hd hdE
              have hpl : p < ops.size := by omega
              have hy : ops[p]? = some ops[p] := Array.getElem?_eq_getElem hpl
              rcases (sf.pair p i _ o d _ h2 hy ho hd hci).2 with h | h
              · have := (hqE p d hd hdE).1 (ahead p h)
                omega
              · exact (apart_at h).2.2.1 hdE hR
            have lens : ∀ p, q ≤ p → p ≤ i → (H q).length ≤ (H p).length := by
              intro p
              induction p with
              | zero => intro h1 _; rw [show q = 0 by omega]; exact Nat.le_refl _
              | succ p ih =>
                intro h1 h2
                by_cases e : q = p + 1
                · rw [e]; exact Nat.le_refl _
                · have := ih (by omega) (by omega)
                  have hd : cs[p]? = some cs[p] := List.getElem?_eq_getElem (by omega)
                  cases hdE : cs[p].op.isE with
                  | false => rw [t.keep hd hdE]; exact this
                  | true => exact Nat.le_trans this (t.change hpu hap hd hci hR (ch p _ (by omega) (by omega) hd hdE)).1
            have steps : ∀ n p, p + n = i → q ≤ p → evOp call (V i) (E i) (H p) c = some (r, H p) := by
              intro n
              induction n with
              | zero => intro p h1 _; rw [show p = i by omega]; exact he
              | succ n ih =>
                intro p h1 h2
                have hnext := ih (p + 1) (by omega) (by omega)
                have hd : cs[p]? = some cs[p] := List.getElem?_eq_getElem (by omega)
                cases hdE : cs[p].op.isE with
                | false => rw [t.keep hd hdE] at hnext; exact hnext
                | true =>
                  exact (t.change hpu hap hd hci hR (ch p _ (by omega) (by omega) hd hdE)).2.1 (H q).length r (lens p h2 (by omega)) (hargs hR) hnext
            exact steps (i - q) q (by omega) (Nat.le_refl _)
          rcases Nat.le_total q i with hqi | hqi
          · exact down hqi
          · have ch : ∀ (p : Nat) (d : CO), i ≤ p → p < q → cs[p]? = some d → d.op.isE = true → exOk pu aps cs p i d ⟨c, o.dst.bind (varOf vt), g⟩ = true := by
              intro p d h1 h2 hd hdE
              have hpl : p < ops.size := by omega
              have hy : ops[p]? = some ops[p] := Array.getElem?_eq_getElem hpl
              have hip : i < p := by
                rcases Nat.lt_or_ge i p with h | h
                · exact h
                · have : p = i := by omega
                  subst this
                  rw [hci] at hd; cases hd
                  rw [hE] at hdE; cases hdE
              have hSp := (hqE p d hd hdE).2 h2
              rcases (sf.pair i p o _ _ d hip ho hy hci hd).2 with h | h
              · rw [behind p _ hy h] at hSp; cases hSp
              · exact (apart_at h).2.2.2 hR hdE
            have steps : ∀ p, i ≤ p → p ≤ q → evOp call (V i) (E i) (H p) c = some (r, H p) := by
              intro p
              induction p with
              | zero => intro h1 _; rw [show i = 0 by omega] at he ⊢; exact he
              | succ p ih =>
                intro h1 h2
                by_cases e : i = p + 1
                · rw [← e]; exact he
                · have hprev := ih (by omega) (by omega)
                  have hd : cs[p]? = some cs[p] := List.getElem?_eq_getElem (by omega)
                  cases hdE : cs[p].op.isE with
                  | false => rw [t.keep hd hdE]; exact hprev
                  | true => exact (t.change hpu hap hd hci hR (ch p _ (by omega) (by omega) hd hdE)).2.2 r hprev
            exact steps q hqi (Nat.le_refl _)
        · simp only [Bool.not_eq_true] at hR
          exact (ev_plain hE hR he).2 (H q)
      · rw [set_getD hilt]
        by_cases e : e = i
        · subst e
          rw [hci] at hd; cases hd
          rw [hE] at hdE; cases hdE
        · rw [if_neg e]; exact hqE _ d hd hdE
  obtain ⟨q', hq', hrun, hskip, hqE'⟩ := heapTo
  -- the invariant behind it
  have put : ∀ (v : Value) (w1 : World) (I1 : Cells) (σ1 : List Loc), Inv B w0 I1 σ1 w1 (H q') → Step B I σ w I1 σ1 w1 → Rep I1 w1 σ1 (R i) v → DInv B w0 vt nt ops cs vars0 H R (S.setIfInBounds i true) (a.put o.dst v) w1 I1 σ1 := by
    intro v w1 I1 σ1 hI1 st hr
    have hput : ∀ (t' : Tmp), (o.dst = some t' → (a.put o.dst v).tmps.getD t' undef = v) ∧ (o.dst ≠ some t' → (a.put o.dst v).tmps.getD t' undef = a.tmps.getD t' undef) := by
      intro t'
      cases hdd : o.dst with
      | none => exact ⟨fun h => (by cases h), fun _ => rfl⟩
      | some d =>
        rw [hdd] at hdlt
        simp only [Option.all_some, decide_eq_true_eq] at hdlt
        have hd' : d < a.tmps.size := by rw [D.tsize]; exact hdlt
        refine ⟨fun h => ?_, fun h => ?_⟩
        · cases h; rw [put_getD hd', if_pos rfl]
        · rw [put_getD hd', if_neg (fun e => h (by rw [e]))]
    refine ⟨by simp [D.size], fun j y hj hy k hk => ?_, ⟨q', hq', hI1, hqE'⟩, ?_, ?_, fun j y t' hy hdst hj => ?_, fun k t' hk hn => ?_⟩
    · rw [set_getD hilt] at hj ⊢
      split
      · rfl
      · split at hj
        · rename_i e; subst e
          rw [ho] at hy; cases hy
          exact hready k hk
        · exact D.down j y hj hy k hk
    · cases hdd : o.dst <;> simp [Act.put, D.tsize]
    · cases hdd : o.dst <;> simp [Act.put, D.defers]
    · rw [set_getD hilt] at hj
      split at hj
      · rename_i e; subst e
        rw [ho] at hy; cases hy
        rw [(hput t').1 hdst]; exact hr
      · rename_i e
        have hne : o.dst ≠ some t' := by
          intro h
          obtain ⟨d, hd, _⟩ := hcsAt j y hy
          rcases Nat.lt_or_gt_of_ne e with h' | h'
          · rcases (sf.pair j i y o d _ h' hy ho hd hci).1 with h2 | h2
            · rw [hdst] at h2; cases h2
            · exact h2 (hdst.trans h.symm)
          · rcases (sf.pair i j o y _ d h' ho hy hci hd).1 with h2 | h2
            · rw [h] at h2; cases h2
            · exact h2 (h.trans hdst.symm)
        rw [(hput t').2 hne]
        exact (D.done j y t' hy hdst hj).step st
    · have hne : o.dst ≠ some t' := by
        intro h
        have := hn i o ho h
        rw [set_getD hilt, if_pos rfl] at this; cases this
      rw [(hput t').2 hne]
      refine (D.old k t' hk (fun j y hy hdst => ?_)).step st
      have := hn j y hy hdst
      rw [set_getD hilt] at this
      split at this
      · cases this
      · exact this
  -- carried out, or passed over
  have hst := (t.step i _ hci).2.2
  have run : evOp call (V i) (E i) (H i) c = some (R i, H (i + 1)) → Oper.wp P o a w K Q := by
    intro he
    refine op_sound hI hT hcomp' hopsok hcall (hrun _ _ he rfl) ?_
    intro u w1 I1 σ1 hI1 st1 hr1
    exact hK _ _ _ _ (put u w1 I1 σ1 hI1 st1 hr1) st1
  have skip : R i = .v undef → H (i + 1) = H i → K (a.put o.dst undef) w := by
    intro hr hh
    refine hK _ _ I σ (put undef w I σ ?_ (Step.refl _ _ _ _) ?_) (Step.refl _ _ _ _)
    · rw [hskip hh]; exact hI
    · rw [hr]; exact Rep.v _ _
  unfold wpOp
  rw [ho]
  simp only
  cases hg : o.guard with
  | none =>
    rw [hg] at hguard
    simp only [compGuard, Option.some.injEq] at hguard
    subst hguard
    simp only [StepOk] at hst
    rw [if_pos (by simp [Region.wanted, hg])]
    exact .inl (run hst)
  | some gw =>
    obtain ⟨gi, want⟩ := gw
    rw [hg] at hguard
    simp only [compGuard] at hguard
    split at hguard
    · rename_i t' ht'
      obtain ⟨x, hx, rfl⟩ := Option.map_eq_some_iff.1 hguard
      have hmem : t' ∈ o.looksAt ops := by
        unfold Oper.looksAt
        rw [hg]
        refine List.mem_append_right _ ?_
        simp only [ht', Option.toList_some, List.mem_singleton]
      have hrep := looks t' hmem x hx
      have hy : yielded ops a.tmps gi = (match a.tmps.getD t' undef with | .bool b => some b | _ => none) := by
        unfold yielded
        rw [ht']
        simp only [Option.bind_some]
        rw [Array.getD_eq_getD_getElem?]
        cases a.tmps[t']? with
        | none => rfl
        | some z => cases z <;> rfl
      simp only [StepOk] at hst
      rcases hst with ⟨hb, he⟩ | ⟨hb | hb, hr, hh⟩
      · rw [hb] at hrep
        have hbv : a.tmps.getD t' undef = .bool want := by generalize a.tmps.getD t' undef = z at hrep; cases hrep; rfl
        rw [hbv] at hy
        rw [if_pos (by simp [Region.wanted, hg, hy])]
        exact .inl (run he)
      · obtain ⟨b, hb, hne⟩ := hb
        rw [hb] at hrep
        have hbv : a.tmps.getD t' undef = .bool b := by generalize a.tmps.getD t' undef = z at hrep; cases hrep; rfl
        rw [hbv] at hy
        rw [if_neg (by simp [Region.wanted, hg, hy, hne])]
        exact skip hr hh
      · obtain ⟨z, hb⟩ := hb
        rw [hb] at hrep
        have hbv : a.tmps.getD t' undef = .tuple z := by generalize a.tmps.getD t' undef = z' at hrep; cases hrep; rfl
        rw [hbv] at hy
        rw [if_neg (by simp [Region.wanted, hg, hy])]
        exact skip hr hh
    · cases hguard
end
end Go.AE
end

/-! AE, part 27: regions that draw their order. -/
section
set_option linter.unusedVariables false
set_option linter.unusedSimpArgs false
namespace Go.AE
open Go Go.RowKit

theorem countP_lt {p q : Nat → Bool} : ∀ (l : List Nat), (∀ x ∈ l, q x = true → p x = true) → (∃ x ∈ l, p x = true ∧ q x = false) → l.countP q < l.countP p := by
  intro l
  induction l with
  | nil => rintro _ ⟨x, hx, _⟩; simp at hx
  | cons a l ih =>
    rintro h ⟨x, hx, h1, h2⟩
    have hmono : l.countP q ≤ l.countP p := List.countP_mono_left (fun x hx => h x (by simp [hx]))
    simp only [List.countP_cons]
    rcases List.mem_cons.1 hx with rfl | hx
    · rw [h1, h2]; simp; omega
    · have := ih (fun y hy => h y (by simp [hy])) ⟨x, hx, h1, h2⟩
      have ha := h a (by simp)
      cases hq : q a with
      | false => simp; omega
      | true => rw [ha hq]; simp; omega

def left (n : Nat) (S : Array Bool) : Nat := (List.range n).countP fun j => !S.getD j false

section
variable {P : Program} {B : Nat} {w0 w w' : World} {I I' : Cells} {σ σ' : List Loc} {vt : List Tmp} {nt : Nat} {a : Act} {T : Tb} {call : CallF} {pu : FuncId → Bool}
  {aps : List (Option Nat × Nat)} {ops : Array Oper} {cs : List CO} {vars0 vars1 : List AV} {h0 h1 : List AO} {V E : Nat → List AV} {H : Nat → List AO} {R : Nat → AV} {S : Array Bool}

theorem all_of_none (sf : SF pu aps ops cs (ancGo [] ops.toList)) (hs : S.size = ops.size) (hr : Region.ready .any ops S = []) : ∀ n j, j < n → j < ops.size → S.getD j false = true := by
  intro n
  induction n with
  | zero => intro j h; omega
  | succ n ih =>
    intro j hj hlt
    cases hS : S.getD j false with
    | true => rfl
    | false =>
      exfalso
      have ho : ops[j]? = some ops[j] := Array.getElem?_eq_getElem hlt
      have : j ∈ Region.ready .any ops S := by
        simp only [Region.ready, List.mem_filter, List.mem_range, Bool.and_eq_true, Bool.not_eq_true']
        refine ⟨hlt, ?_, ?_⟩
        · rw [Array.getD_eq_getD_getElem?] at hS ⊢
          rw [Array.getElem?_eq_getElem (by omega)] at hS ⊢
          exact hS
        · rw [ho]
          simp only [Option.map_some, Option.getD_some, Array.all_eq_true', Bool.or_eq_true, Bool.not_eq_true']
          intro e he
          cases hb : Region.binds .any e with
          | false => exact .inl rfl
          | true =>
            have hm : e.on ∈ bindsOf ops[j] := by
              simp only [bindsOf, List.mem_map, List.mem_filter]
              exact ⟨e, ⟨by simpa using he, hb⟩, rfl⟩
            have := sf.back j _ ho _ hm
            exact .inr (ih _ (by omega) (by omega))
      rw [hr] at this; simp at this

theorem draw_end (hnd : vt.Nodup) (hvt : ∀ t ∈ vt, t < nt) (hlen : vars0.length = vt.length) (hc : compOps T nt vt ops [] ops.toList = some cs) (sf : SF pu aps ops cs (ancGo [] ops.toList))
    (t : Trace call cs vars0 [] h0 vars1 h1 V E H R) (D : DInv B w0 vt nt ops cs vars0 H R S a w I σ) (hall : ∀ j, j < ops.size → S.getD j false = true) :
    VOk I w σ vt nt vars1 a ∧ Inv B w0 I σ w h1 := by
  obtain ⟨hclen, hcat⟩ := compOps_at ops.toList 0 cs rfl hc
  have hsz : cs.length = ops.size := by simpa using hclen
  have hcsAt : ∀ (j : Nat) (y : Oper), ops[j]? = some y → ∃ d, cs[j]? = some d ∧ d.wr = y.dst.bind (varOf vt) := fun j y hy => by
    obtain ⟨c', g', q1, _⟩ := hcat j y (by simpa using hy)
    exact ⟨_, q1, rfl⟩
  obtain ⟨q, hq, hI, hqE⟩ := D.heap
  have hH : h1 = H q := by
    rw [← t.h1]
    refine t.const cs.length hq (Nat.le_refl _) (fun e d he1 he2 hd => ?_)
    cases hdE : d.op.isE with
    | false => rfl
    | true => have := (hqE e d hd hdE).1 (hall e (by omega)); omega
  refine ⟨⟨by rw [← t.v1, t.len _ (Nat.le_refl _), hlen], D.tsize, D.defers, hnd, hvt, fun k t' v hk hv => ?_⟩, by rw [hH]; exact hI⟩
  have hklt : k < vars0.length := by rw [hlen]; exact (List.getElem?_eq_some_iff.1 hk).1
  have hvd : v = (V cs.length).getD k .junk := by rw [t.v1, List.getD_eq_getElem?_getD, hv]; rfl
  rw [hvd]
  by_cases hw : ∃ (j : Nat) (y : Oper), ops[j]? = some y ∧ y.dst = some t'
  · obtain ⟨j, y, hy, hdst⟩ := hw
    have hjlt : j < ops.size := (Array.getElem?_eq_some_iff.1 hy).1
    obtain ⟨d, hd, hwr⟩ := hcsAt j y hy
    have : (V cs.length).getD k .junk = R j := by
      refine t.new hd (by rw [hwr, hdst]; exact varOf_some hnd hk) hklt _ (Nat.le_refl _) (by omega) (fun j' c' g1 g2 hc' hw' => ?_)
      have hy' : ops[j']? = some ops[j'] := Array.getElem?_eq_getElem (by omega)
      obtain ⟨d', hd', hwr'⟩ := hcsAt j' _ hy'
      rw [hc'] at hd'; cases hd'
      rw [hwr'] at hw'
      obtain ⟨t2, e1, e2⟩ := Option.bind_eq_some_iff.1 hw'
      have e3 := varOf_eq e2
      rw [hk] at e3; cases e3
      rcases (sf.pair j j' y _ d _ g1 hy hy' hd hc').1 with h | h
      · rw [hdst] at h; cases h
      · exact h (hdst.trans e1.symm)
    rw [this]
    exact D.done j y t' hy hdst (hall j hjlt)
  · have : (V cs.length).getD k .junk = vars0.getD k .junk := by
      refine t.old _ (Nat.le_refl _) (fun j c' hj hc' hw' => hw ?_)
      have hy' : ops[j]? = some ops[j] := Array.getElem?_eq_getElem (by omega)
      obtain ⟨d', hd', hwr'⟩ := hcsAt j _ hy'
      rw [hc'] at hd'; cases hd'
      rw [hwr'] at hw'
      obtain ⟨t2, e1, e2⟩ := Option.bind_eq_some_iff.1 hw'
      have e3 := varOf_eq e2
      rw [hk] at e3; cases e3
      exact ⟨j, _, hy', e1⟩
    rw [this]
    exact D.old k t' hk (fun j y hy hdst => absurd ⟨j, y, hy, hdst⟩ hw)

theorem draw_any (hpu : ∀ f, pu f = true → ∀ args h r h', call f args h = some (r, h') → ∃ X, h' = h ++ X) (hT : TbOk P T) (hcall : CallOk P B w0 call) (hnd : vt.Nodup) (hvt : ∀ t ∈ vt, t < nt) (hlen : vars0.length = vt.length) (hc : compOps T nt vt ops [] ops.toList = some cs) (sf : SF pu aps ops cs (ancGo [] ops.toList))
    (hap : aps.all (apB vars0) = true) (t : Trace call cs vars0 [] h0 vars1 h1 V E H R) {Q : Exit → Act → World → Prop} {I0 : Cells} {σ0 : List Loc} {wa : World}
    (hQ : ∀ a' w' I' σ', VOk I' w' σ' vt nt vars1 a' → Inv B w0 I' σ' w' h1 → Step B I0 σ0 wa I' σ' w' → Q .normal a' w') :
    ∀ (fuel : Nat) (S : Array Bool) (a : Act) (w : World) (I : Cells) (σ : List Loc), DInv B w0 vt nt ops cs vars0 H R S a w I σ → Step B I0 σ0 wa I σ w → left ops.size S ≤ fuel → wpAny P .any ops Q fuel S a w := by
  intro fuel
  induction fuel with
  | zero =>
    intro S a w I σ D st hl
    have hall : ∀ j, j < ops.size → S.getD j false = true := by
      intro j hj
      have h0 : left ops.size S = 0 := by omega
      have := List.countP_eq_zero.1 h0 j (by simpa using hj)
      simpa using this
    refine ⟨?_, ?_⟩
    · rw [List.eq_nil_iff_forall_not_mem]
      intro i hi
      obtain ⟨o, ho, h1, h2, _⟩ := ready_iff D.size hi
      rw [hall i (by rw [← D.size]; exact h1)] at h2; cases h2
    · obtain ⟨q1, q2⟩ := draw_end hnd hvt hlen hc sf t D hall
      exact hQ a w I σ q1 q2 st
  | succ fuel ih =>
    intro S a w I σ D st hl
    refine ⟨fun hr => ?_, fun i hi => ?_⟩
    · obtain ⟨q1, q2⟩ := draw_end hnd hvt hlen hc sf t D (fun j hj => all_of_none sf D.size hr (j + 1) j (by omega) hj)
      exact hQ a w I σ q1 q2 st
    · refine draw_step hpu hT hcall hnd hvt hlen hc sf hap t D hi (fun a' w' I' σ' D' st' => ih _ a' w' I' σ' D' (st.trans st') ?_)
      obtain ⟨o, ho, g1, g2, _⟩ := ready_iff D.size hi
      have : left ops.size (S.setIfInBounds i true) < left ops.size S := by
        refine countP_lt _ (fun x _ hx => ?_) ⟨i, by simpa [D.size] using (show i < ops.size by rw [← D.size]; exact g1), by simp [g2], by rw [set_getD g1, if_pos rfl]; rfl⟩
        rw [set_getD g1] at hx
        split at hx
        · cases hx
        · exact hx
      omega
end

theorem draw_ok {P : Program} (hm : P.follows .mixedOrders = true) {T : Tb} (hT : TbOk P T) (nt : Nat) (vt : List Tmp) : DrawOk P T nt vt (drawOk T.push) := by
  intro B w0 call hcall hpu id aps ops cs hc hd w I σ h h' vars vars' a Q hI hv hap he hQ
  obtain ⟨V, E, H, R, t⟩ := trace_of cs vars [] h vars' h' he
  have sf := sf_of hd
  refine wp_region_any hm ?_
  have hbel : Below B w { w with drawn := w.drawn + 1 } := ⟨rfl, rfl, rfl, Nat.le_refl _, fun _ _ => rfl⟩
  have hext : Ext I w I { w with drawn := w.drawn + 1 } := ⟨fun b x h => h, fun _ _ _ => rfl⟩
  have hst : Step B I σ w I σ { w with drawn := w.drawn + 1 } := ⟨hext, Later.refl _, fun _ _ h => .inl h, Nat.le_refl _⟩
  have hI2 : Inv B w0 I σ { w with drawn := w.drawn + 1 } h := hI.same hbel hext (fun b x hb => hI.imm b x hb) (fun j Lj _ _ => ⟨rfl, fun _ h => h⟩)
  have hv2 := hv.step hst
  have hS : ∀ j, (Array.replicate ops.size false).getD j false = false := by
    intro j
    rw [Array.getD_eq_getD_getElem?, Array.getElem?_replicate]
    split <;> rfl
  refine draw_any hpu hT hcall hv.nodup hv.lt hv.len hc sf hap t hQ ops.size _ _ _ I σ ?_ hst ?_
  · refine ⟨by simp, fun j y hj => ?_, ⟨0, Nat.zero_le _, by rw [t.h0]; exact hI2, fun e c _ _ => ?_⟩, hv.size, hv.defers, fun j y t' _ _ hj => ?_, fun k t' hk _ => ?_⟩
    · rw [hS] at hj; cases hj
    · rw [hS]; exact ⟨fun h => (by cases h), fun h => absurd h (Nat.not_lt_zero _)⟩
    · rw [hS] at hj; cases hj
    · have hlt : k < vars.length := by rw [hv.len]; exact (List.getElem?_eq_some_iff.1 hk).1
      exact hv2.rep k t' _ hk (by rw [List.getD_eq_getElem?_getD, List.getElem?_eq_getElem hlt]; rfl)
  · have := List.countP_le_length (p := fun j => !(Array.replicate ops.size false).getD j false) (l := List.range ops.size)
    simpa [left] using this
end Go.AE
end

/-! Objects told under other numbers: behind others. -/
section
set_option linter.unusedVariables false
set_option linter.unusedSimpArgs false
namespace Go.AE
open Go Go.RowKit

section
variable {I : Cells} {w : World} {σ τ : List Loc} {a : AV} {v : Value}
theorem app_at {id : Nat} {L : Loc} (h : τ[id]? = some L) : (σ ++ τ)[σ.length + id]? = some L := by
  rw [List.getElem?_append_right (by omega), Nat.add_sub_cancel_left]; exact h
theorem Rep.sh0 (h : Rep I w τ a v) (ho : a.ok0 = true) : Rep I w (σ ++ τ) (a.sh0 σ.length) v := by
  cases h with
  | v _ x => exact .v _ _
  | junk _ x => exact .junk _ _
  | slc _ sz ex nn l a cap b o g ha hn hnil hcap hex hsz hc hi h1 hr => exact .slc _ sz ex nn l a cap b o g ha hn hnil hcap hex hsz hc hi h1 hr
  | ip _ cs b o g hc hi h1 hr => exact .ip _ cs b o g hc hi h1 hr
  | agg _ cs arr hs h1 hr => cases ho
  | tup _ vs arr hs hr => cases ho
  | own _ sz id ver off n x h1 L hL hv hx => exact .own _ sz (σ.length + id) ver off n _ h1 L (app_at hL) hv hx
  | ptr _ id off L hL hf => exact .ptr _ _ off L (app_at hL) hf
  | ep _ sz id ver idx off x h1 L hL hv hx => exact .ep _ sz _ ver idx off _ h1 L (app_at hL) hv hx
  | fn _ f p q ap aq hp hq hpr hqr =>
    cases p with
    | cons _ _ => simp [AV.ok0] at ho
    | nil => cases q with
      | cons _ _ => simp [AV.ok0] at ho
      | nil => exact .fn _ f [] [] ap aq hp hq (fun i c h => by simp at h) (fun i c h => by simp at h)
  | mp _ id L hL hf => exact .mp _ _ L (app_at hL) hf
  | it _ id L hL hf => exact .it _ _ L (app_at hL) hf
  | bs _ id off n L hL hf o cap h1 h2 => exact .bs _ _ off n L (app_at hL) hf o cap h1 h2
theorem map_at {α β : Type} {f : α → β} {l : List α} {i : Nat} {y : β} (h : (l.map f)[i]? = some y) : ∃ x, l[i]? = some x ∧ y = f x := by
  rw [List.getElem?_map] at h
  obtain ⟨x, h1, h2⟩ := Option.map_eq_some_iff.1 h
  exact ⟨x, h1, h2.symm⟩
theorem all_at {α : Type} {f : α → Bool} {l : List α} (h : l.all f = true) {i : Nat} {x : α} (hx : l[i]? = some x) : f x = true := List.all_eq_true.1 h x (List.mem_of_getElem? hx)
theorem Rep.sh1 (h : Rep I w τ a v) (ho : a.ok1 = true) : Rep I w (σ ++ τ) (a.sh1 σ.length) v := by
  cases h with
  | agg _ cs arr hs h1 hr =>
    refine .agg _ _ arr (by simp [hs]) (fun i c hc => ?_) (fun i c hc => ?_)
    · obtain ⟨x, hx, rfl⟩ := map_at hc; exact h1 i x hx
    · obtain ⟨x, hx, rfl⟩ := map_at hc; exact (hr i x hx).sh0 (all_at ho hx)
  | fn _ f p q ap aq hp hq hpr hqr =>
    simp only [AV.ok1, Bool.and_eq_true] at ho
    refine .fn _ f _ _ ap aq (by simp [hp]) (by simp [hq]) (fun i c hc => ?_) (fun i c hc => ?_)
    · obtain ⟨x, hx, rfl⟩ := map_at hc; exact (hpr i x hx).sh0 (all_at ho.1 hx)
    · obtain ⟨x, hx, rfl⟩ := map_at hc; exact (hqr i x hx).sh0 (all_at ho.2 hx)
  | v _ x => exact Rep.sh0 (.v _ _) ho
  | junk _ x => exact Rep.sh0 (.junk _ _) ho
  | slc _ sz ex nn l a cap b o g ha hn hnil hcap hex hsz hc hi h1 hr => exact Rep.sh0 (.slc _ sz ex nn l a cap b o g ha hn hnil hcap hex hsz hc hi h1 hr) ho
  | ip _ cs b o g hc hi h1 hr => exact Rep.sh0 (.ip _ cs b o g hc hi h1 hr) ho
  | tup _ vs arr hs hr => cases ho
  | own _ sz id ver off n x h1 L hL hv hx => exact Rep.sh0 (.own _ sz id ver off n _ h1 L hL hv hx) ho
  | ptr _ id off L hL hf => exact Rep.sh0 (.ptr _ id off L hL hf) ho
  | ep _ sz id ver idx off x h1 L hL hv hx => exact Rep.sh0 (.ep _ sz id ver idx off _ h1 L hL hv hx) ho
  | mp _ id L hL hf => exact Rep.sh0 (.mp _ id L hL hf) ho
  | it _ id L hL hf => exact Rep.sh0 (.it _ id L hL hf) ho
  | bs _ id off n L hL hf o cap h1 h2 => exact Rep.sh0 (.bs _ id off n L hL hf o cap h1 h2) ho
theorem Rep.sh2 (h : Rep I w τ a v) (ho : a.ok2 = true) : Rep I w (σ ++ τ) (a.sh2 σ.length) v := by
  cases h with
  | tup _ vs arr hs hr =>
    refine .tup _ _ arr (by simp [hs]) (fun i c hc => ?_)
    obtain ⟨x, hx, rfl⟩ := map_at hc; exact (hr i x hx).sh1 (all_at ho hx)
  | agg _ cs arr hs h1 hr => exact Rep.sh1 (.agg _ cs arr hs h1 hr) ho
  | fn _ f p q ap aq hp hq hpr hqr => exact Rep.sh1 (.fn _ f p q ap aq hp hq hpr hqr) ho
  | v _ x => exact Rep.sh1 (.v _ _) ho
  | junk _ x => exact Rep.sh1 (.junk _ _) ho
  | slc _ sz ex nn l a cap b o g ha hn hnil hcap hex hsz hc hi h1 hr => exact Rep.sh1 (.slc _ sz ex nn l a cap b o g ha hn hnil hcap hex hsz hc hi h1 hr) ho
  | ip _ cs b o g hc hi h1 hr => exact Rep.sh1 (.ip _ cs b o g hc hi h1 hr) ho
  | own _ sz id ver off n x h1 L hL hv hx => exact Rep.sh1 (.own _ sz id ver off n _ h1 L hL hv hx) ho
  | ptr _ id off L hL hf => exact Rep.sh1 (.ptr _ id off L hL hf) ho
  | ep _ sz id ver idx off x h1 L hL hv hx => exact Rep.sh1 (.ep _ sz id ver idx off _ h1 L hL hv hx) ho
  | mp _ id L hL hf => exact Rep.sh1 (.mp _ id L hL hf) ho
  | it _ id L hL hf => exact Rep.sh1 (.it _ id L hL hf) ho
  | bs _ id off n L hL hf o cap h1 h2 => exact Rep.sh1 (.bs _ id off n L hL hf o cap h1 h2) ho
theorem RepO.sh {L : Loc} {o : AO} (h : RepO I w τ L o) (ho : o.ok = true) : RepO I w (σ ++ τ) L (o.sh σ.length) := by
  cases o with
  | box bt cs =>
    obtain ⟨h1, h2, h3, ⟨arr, h4, h5, h6, h7⟩, h8⟩ := h
    refine ⟨h1, h2, h3, ⟨arr, h4, by simp [h5], fun i c hc => ?_, fun i c hc => ?_⟩, h8⟩
    · obtain ⟨x, hx, rfl⟩ := map_at hc; exact h6 i x hx
    · obtain ⟨x, hx, rfl⟩ := map_at hc; exact (h7 i x hx).sh1 (all_at ho hx)
  | row rt sz ver l k => exact h
  | map kk c es => exact h
  | siter s pos => exact h
theorem Inv.join {P : Program} {B : Nat} {w0 w' : World} {h k : List AO} {I' : Cells} (hI : Inv B w0 I σ w h) (hJ : Inv w.heap.size w I' τ w' k) (hs : Step w.heap.size I [] w I' τ w') (hok : k.all AO.ok = true) :
    Inv B w0 I' (σ ++ τ) w' (h ++ k.map (AO.sh h.length)) ∧ Step B I σ w I' (σ ++ τ) w' := by
  have hsz := hs.size
  have hl := hI.len
  have hl2 := hJ.len
  have get : ∀ (j : Nat) (M : Loc), (σ ++ τ)[j]? = some M → (j < σ.length ∧ σ[j]? = some M) ∨ (∃ q, j = σ.length + q ∧ τ[q]? = some M) := by
    intro j M hM
    by_cases e : j < σ.length
    · rw [List.getElem?_append_left e] at hM; exact .inl ⟨e, hM⟩
    · rw [List.getElem?_append_right (by omega)] at hM
      exact .inr ⟨j - σ.length, by omega, hM⟩
  have old : ∀ (j : Nat) (L : Loc), σ[j]? = some L → L.has = true → w'.heap[L.b]? = w.heap[L.b]? ∧ ∀ x, I' L.b x → I L.b x := by
    intro j L hL hh
    have hm := (hI.mine j L hL hh).2
    refine ⟨hJ.below.block _ hm, fun x hx => ?_⟩
    rcases hs.new _ _ hx with h1 | h1
    · exact h1
    · omega
  refine ⟨⟨hI.below.trans (hJ.below.mono hI.base), Nat.le_trans hI.base hsz, by simp [hl, hl2], ?_, ?_, ?_, hJ.imm⟩, ⟨hs.ext, .append _ _, fun b x hx => ?_, hsz⟩⟩
  · intro j o M ho hM
    rcases get j M hM with ⟨hj, hM2⟩ | ⟨q, rfl, hM2⟩
    · rw [List.getElem?_append_left (by omega)] at ho
      exact (hI.obj j o M ho hM2).mono hs.ext (Later.append _ _) (fun hh => (old j M hM2 hh).1) (fun hh => (old j M hM2 hh).2)
    · rw [List.getElem?_append_right (by omega), show σ.length + q - h.length = q by omega] at ho
      obtain ⟨x, hx, rfl⟩ := map_at ho
      rw [← hl]
      exact (hJ.obj q x M hx hM2).sh (all_at hok hx)
  · intro j M hM hh
    rcases get j M hM with ⟨hj, hM2⟩ | ⟨q, rfl, hM2⟩
    · exact ⟨(hI.mine j M hM2 hh).1, Nat.lt_of_lt_of_le (hI.mine j M hM2 hh).2 hsz⟩
    · exact ⟨Nat.le_trans hI.base (hJ.mine q M hM2 hh).1, (hJ.mine q M hM2 hh).2⟩
  · intro i j Li Lj hi hj hne hhi hhj
    rcases get i Li hi with ⟨hi', hi2⟩ | ⟨p, rfl, hi2⟩ <;> rcases get j Lj hj with ⟨hj', hj2⟩ | ⟨q, rfl, hj2⟩
    · exact hI.dist i j Li Lj hi2 hj2 hne hhi hhj
    · have h1 := (hI.mine i Li hi2 hhi).2
      have h2 := (hJ.mine q Lj hj2 hhj).1
      omega
    · have h1 := (hI.mine j Lj hj2 hhj).2
      have h2 := (hJ.mine p Li hi2 hhi).1
      omega
    · exact hJ.dist p q Li Lj hi2 hj2 (by omega) hhi hhj
  · rcases hs.new b x hx with h1 | h1
    · exact .inl h1
    · exact .inr (Nat.le_trans hI.base h1)
end
end Go.AE
end

/-! AE, part 22: functions and calls. -/
section
set_option linter.unusedVariables false
set_option linter.unusedSimpArgs false
namespace Go.AE
open Go Go.RowKit

def compRes (T : Tb) (vt : List Tmp) : ResultVar → Option CRes
  | .tmp t => (varOf vt t).map .var
  | .cell t ty => match T.ty ty, varOf vt t with
    | some i, some j => some (.cell j i.agg i.size)
    | _, _ => none

def compFun (T : Tb) (H : Hints) (vt : List Tmp) (fn : Func) : Option CFun :=
  if vt.take (fn.params.size + fn.nfree) = List.range (fn.params.size + fn.nfree) ∧ vt.Nodup ∧ (vt.all fun t => decide (t < fn.ntmps)) = true ∧ (fn.params.size + fn.nfree) ≤ fn.ntmps then
    match fn.body with
    | some c => match compCode T fn.ntmps vt H (drawOk T.push) 0 c, fn.results.toList.mapM (compRes T vt) with
      | some cc, some rs => some ⟨(fn.params.size + fn.nfree), vt.length, cc, rs⟩
      | _, _ => none
    | none => none
  else none

def Hints.of (rm : List (Nat × List Mark)) (ap : List (Nat × List (Option Nat × Nat))) (lk : List (Nat × List Bool × List Mark)) : Hints :=
  ⟨fun id => (rm.lookup id).getD [], fun id => (ap.lookup id).getD [], fun id => (lk.lookup id).getD ([], [])⟩

theorem tiok_of {P : Program} {t : TypeId} {i : TI} (h1 : (P.info? t).map (fun x => (x.size, x.bytes, x.zero)) = some (i.size, i.bytes, some i.zero)) (h2 : P.underlying t = some i.desc)
    (h5 : (match i.desc with
      | .struct fs => !flatB P fs || (!P.stoodInHeld t && !P.eqGuardType P.depth t)
      | _ => true) = true := by kernel_rfl) : TIok P t i := by
  obtain ⟨inf, h3, h4⟩ := Option.map_eq_some_iff.1 h1
  simp only [Prod.mk.injEq] at h4
  refine ⟨⟨inf, h3, h4.1, h4.2.1, h4.2.2⟩, h2, fun fs hfs hb => ?_⟩
  rw [hfs] at h5
  simp only [hb, Bool.not_true, Bool.false_or, Bool.and_eq_true, Bool.not_eq_true'] at h5
  exact h5
theorem tbok_of {P : Program} {l : List (TypeId × TI)} {q : FuncId → Bool} {lits : TypeId → Bool} {z : FuncId → Bool} {pz : FuncId → Bool} (h : ∀ p ∈ l, TIok P p.1 p.2) : TbOk P ⟨fun t => l.lookup t, q, lits, z, pz⟩ := by
  intro t i hti
  simp only at hti
  induction l with
  | nil => simp at hti
  | cons p l ih =>
    obtain ⟨a, b⟩ := p
    rw [List.lookup_cons] at hti
    split at hti
    · rename_i e
      cases hti
      have : t = a := by simpa using e
      subst this
      exact h (t, i) (by simp)
    · exact ih (fun p hp => h p (by simp [hp])) hti

structure CodeOk (P : Program) (T : Tb) (f : FuncId) (c : CFun) : Prop where
  ok : ∃ (fn : Func) (H : Hints) (vt : List Tmp), P.funcs[f]? = some fn ∧ compFun T H vt fn = some c ∧ (fn.name == "runtime.NumGoroutine") = false

section
variable {P : Program} {B : Nat} {w0 w w' : World} {I I' : Cells} {σ σ' : List Loc} {h : List AO} {vt : List Tmp} {nt : Nat} {vars env : List AV} {lm : List (Option Tmp)} {a : Act}

theorem enter_of {f : FuncId} {fn : Func} {c : Code} (hf : P.funcs[f]? = some fn) (hb : fn.body = some c) (hn : (fn.name == "runtime.NumGoroutine") = false) (vals : Array Value) (w : World) : (callFunc f vals).run P w = .ok (.enter f vals) w := by
  have hn' : ¬ fn.name = "runtime.NumGoroutine" := by simpa using hn
  simp [callFunc, hf, hb, hn']

theorem results_ok (hI : Inv B w0 I σ w h) (hv : VOk I w σ vt nt vars a) {T : Tb} (hT : TbOk P T) {fn : Func} {cs : List CRes} (hc : fn.results.toList.mapM (compRes T vt) = some cs) {rs : List AV} (hr : cs.mapM (resOf vars h) = some rs) :
    ∃ v, (results fn a.tmps).run P w = .ok v w ∧ Rep I w σ (pack rs) v := by
  have key : ∀ (l : List ResultVar) (cs : List CRes) (rs : List AV), l.mapM (compRes T vt) = some cs → cs.mapM (resOf vars h) = some rs →
      ∃ vs : List Value, (l.mapM fun r => (match r with
        | .tmp t => pure (a.tmps.getD t undef)
        | .cell b t => do loadVar t (← asAddr (a.tmps.getD b undef)) : Sem Value)).run P w = .ok vs w ∧ vs.length = rs.length ∧ ∀ (i : Nat) (r : AV), rs[i]? = some r → ∃ v, vs[i]? = some v ∧ Rep I w σ r v := by
    intro l
    induction l with
    | nil =>
      intro cs rs h1 h2
      simp at h1; subst h1
      simp at h2; subst h2
      exact ⟨[], rfl, rfl, fun i r h => by simp at h⟩
    | cons x l ih =>
      intro cs rs h1 h2
      simp only [List.mapM_cons, Option.bind_eq_bind, Option.bind_eq_some_iff, Option.pure_def, Option.some.injEq] at h1
      obtain ⟨c, hc1, cs', hcs', rfl⟩ := h1
      simp only [List.mapM_cons, Option.bind_eq_bind, Option.bind_eq_some_iff, Option.pure_def, Option.some.injEq] at h2
      obtain ⟨r, hr1, rs', hrs', rfl⟩ := h2
      obtain ⟨vs, g1, g2, g3⟩ := ih cs' rs' hcs' hrs'
      have one : ∃ v, ((match x with
        | .tmp t => pure (a.tmps.getD t undef)
        | .cell b t => do loadVar t (← asAddr (a.tmps.getD b undef)) : Sem Value)).run P w = .ok v w ∧ Rep I w σ r v := by
        cases x with
        | tmp t =>
          simp only [compRes, Option.map_eq_some_iff] at hc1
          obtain ⟨i, hi, rfl⟩ := hc1
          simp only [resOf, Option.some.injEq] at hr1
          subst hr1
          have h1 := varOf_eq hi
          have hlt := (List.getElem?_eq_some_iff.1 h1).1
          have h2 : vars[i]? = some (vars.getD i .junk) := by
            rw [List.getD_eq_getElem?_getD, List.getElem?_eq_getElem (by rw [hv.len]; exact hlt)]; rfl
          exact ⟨_, rfl, hv.rep i t _ h1 h2⟩
        | cell b ty =>
          simp only [compRes] at hc1
          split at hc1
          · rename_i i j hi hj
            cases hc1
            simp only [resOf] at hr1
            have h1 := varOf_eq hj
            have hlt := (List.getElem?_eq_some_iff.1 h1).1
            have h2 : vars[j]? = some (vars.getD j .junk) := by
              rw [List.getD_eq_getElem?_getD, List.getElem?_eq_getElem (by rw [hv.len]; exact hlt)]; rfl
            obtain ⟨v, q1, q2⟩ := run_load_rep (P := P) hI (hT _ _ hi) (hv.rep j b _ h1 h2) hr1
            refine ⟨v, ?_, q2⟩
            have hz : ∀ z : Value, (Instr.loadAt ty z).run P w = .ok v w → (do loadVar ty (← asAddr z) : Sem Value).run P w = .ok v w := by
              intro z q
              cases z with
              | pointer p =>
                cases p with
                | some ad => simpa [Instr.loadAt, Instr.sureAddr, asAddr] using q
                | none => simp [Instr.loadAt, Instr.sureAddr] at q
              | _ => simp [Instr.loadAt, Instr.sureAddr] at q
            exact hz _ q1
          · cases hc1
      obtain ⟨v, q1, q2⟩ := one
      refine ⟨v :: vs, ?_, by simp [g2], fun i r h => ?_⟩
      · simp only [List.mapM_cons, Sem.run_bind, q1, Result.andThen_ok, g1, Sem.run_pure]
      · cases i with
        | zero => simp at h; subst h; exact ⟨v, rfl, q2⟩
        | succ i => simpa using g3 i r (by simpa using h)
  obtain ⟨vs, g1, g2, g3⟩ := key fn.results.toList cs rs hc hr
  have hrun : (results fn a.tmps).run P w = .ok (if hh : vs.toArray.size = 1 then vs.toArray[0] else .tuple vs.toArray) w := by
    unfold results
    rw [← Array.toArray_toList (xs := fn.results), List.mapM_toArray]
    simp only [Sem.run_bind, Sem.run_map, Sem.run_pure]
    exact congrArg (fun r => (Result.andThen (Result.andThen r fun (a : List Value) w' => Result.ok a.toArray w') fun a w' => Result.ok (if h : a.size = 1 then a[0] else Value.tuple a) w')) g1
  refine ⟨_, hrun, ?_⟩
  unfold pack
  split
  · rename_i x
    simp only [List.length_cons, List.length_nil] at g2
    obtain ⟨v, hv1, hv2⟩ := g3 0 x rfl
    have : vs = [v] := by
      match vs, g2, hv1 with
      | [u], _, hv1 => simp at hv1; subst hv1; rfl
    subst this
    exact hv2
  · rename_i hne
    have hlen : ¬ vs.toArray.size = 1 := by
      intro e
      simp only [List.size_toArray] at e
      match rs, hne, g2 with
      | [x], hne, _ => exact hne x rfl
      | [], _, g2 => simp only [List.length_nil] at g2; omega
      | _ :: _ :: _, _, g2 => simp only [List.length_cons] at g2; omega
    rw [dif_neg hlen]
    refine .tup σ rs vs.toArray (by simp [g2]) (fun i r hi => ?_)
    obtain ⟨v, hv1, hv2⟩ := g3 i r hi
    have : vs.toArray[i]? = some v := by simpa using hv1
    rw [getD_get this]; exact hv2

theorem body_ok (hm : P.follows .mixedOrders = true) {T : Tb} (hT : TbOk P T) {call : CallF} (hcall : CallOk P B w0 call) (hpu : PushOk T call) {f : FuncId} {c : CFun} (hf : CodeOk P T f c) {args : List AV} {vals : Array Value} (ha : ArgsRep I w σ args vals) (hn : args.length = c.np) (hI : Inv B w0 I σ w h)
    {fuel : Nat} {x : AXit} {vars' : List AV} {h' : List AO} (he : exec call fuel c.body (start c args) h = some (x, vars', h')) (hx : x = .normal ∨ x = .ret) {rs : List AV} (hr : c.res.mapM (resOf vars' h') = some rs) {R : Ending → World → Prop}
    (hR : ∀ v w' I' σ', Inv B w0 I' σ' w' h' → Step B I σ w I' σ' w' → Rep I' w' σ' (pack rs) v → R (.returned v) w') : Calls P f vals w R := by
  obtain ⟨fn, H, vt, h1, h2, h4⟩ := hf.ok
  unfold compFun at h2
  split at h2
  · rename_i hcond
    obtain ⟨c1, c2, c3, c4⟩ := hcond
    split at h2
    · rename_i code hb
      split at h2
      · rename_i cc rs' hcc hrs
        cases h2
        simp only at hn he hr
        have hsz : vals.size = (fn.params.size + fn.nfree) := by rw [ha.size, hn]
        have hvl : vt.length ≥ (fn.params.size + fn.nfree) := by
          have := congrArg List.length c1
          simp at this; omega
        have hv0 : VOk I w σ vt fn.ntmps (start ⟨(fn.params.size + fn.nfree), vt.length, cc, rs'⟩ args) { tmps := vals ++ Array.replicate (fn.ntmps - vals.size) undef, defers := [] } := by
          refine ⟨by simp [start, hn]; omega, by simp [hsz]; omega, rfl, c2, fun t ht => by simpa using List.all_eq_true.1 c3 t ht, fun i t v g1 g2 => ?_⟩
          have par : ∀ j, j < (fn.params.size + fn.nfree) → vt[j]? = some j := by
            intro j hj
            have : (vt.take (fn.params.size + fn.nfree))[j]? = some j := by rw [c1]; simp [hj]
            rwa [List.getElem?_take_of_lt hj] at this
          simp only [start] at g2
          by_cases hi : i < args.length
          · rw [List.getElem?_append_left hi] at g2
            have hti : t = i := by
              have := par i (by omega)
              rw [this] at g1; exact (Option.some.inj g1).symm
            subst hti
            rw [getD_left (by omega)]
            exact ha.rep _ v g2
          · rw [List.getElem?_append_right (by omega), List.getElem?_replicate] at g2
            split at g2
            · cases g2
              have hlt := (List.getElem?_eq_some_iff.1 g1).1
              have htn : (fn.params.size + fn.nfree) ≤ t := by
                rcases Nat.lt_or_ge t (fn.params.size + fn.nfree) with hlt' | hge
                · have g3 := par t hlt'
                  obtain ⟨l1, e1⟩ := List.getElem?_eq_some_iff.1 g1
                  obtain ⟨l2, e2⟩ := List.getElem?_eq_some_iff.1 g3
                  have := (List.getElem_inj c2).1 (e1.trans e2.symm)
                  omega
                · exact hge
              have htl : @LT.lt Nat _ t fn.ntmps := by simpa using List.all_eq_true.1 c3 t (List.mem_of_getElem? g1)
              rw [getD_right (by omega), Array.getD_eq_getD_getElem?]
              have : (Array.replicate (fn.ntmps - vals.size) undef)[t - vals.size]? = some undef := by
                rw [Array.getElem?_replicate, if_pos (by omega)]
              rw [this]
              exact .v _ _
            · cases g2
        refine calls_of_wp h1 hb ?_
        refine exec_sound hT (draw_ok hm hT _ _) hcall hpu fuel code 0 cc hcc _ _ _ _ _ I σ w _ _ he hv0 hI (fun a' w' I' σ' q1 q2 q3 => ?_)
        obtain ⟨v, r1, r2⟩ := results_ok (P := P) q2 q1 hT hrs hr
        rcases hx with rfl | rfl
        · exact ⟨q1.defers, v, r1, hR v w' I' σ' q2 q3 r2⟩
        · exact ⟨q1.defers, v, r1, hR v w' I' σ' q2 q3 r2⟩
      · cases h2
    · cases h2
  · cases h2

theorem CodeOk.enter {T : Tb} {f : FuncId} {c : CFun} (hf : CodeOk P T f c) (vals : Array Value) (w : World) : (callFunc f vals).run P w = .ok (.enter f vals) w := by
  obtain ⟨fn, H, vt, h1, h2, h4⟩ := hf.ok
  unfold compFun at h2
  split at h2
  · split at h2
    · rename_i code hb
      exact enter_of h1 hb h4 vals w
    · cases h2
  · cases h2

def EntryOk (P : Program) (T : Tb) (B : Nat) (w0 : World) (f : FuncId) : FEntry → Prop
  | .code c => CodeOk P T f c
  | .keep c => CodeOk P T f c
  | .pcode c => CodeOk P T f c
  | .pkeep c => CodeOk P T f c
  | .oracle g => ∀ args h r h', g args h = some (r, h') → (∀ (vals : Array Value) (w : World), (callFunc f vals).run P w = .ok (.enter f vals) w) ∧
      ∀ I σ w (vals : Array Value), Inv B w0 I σ w h → ArgsRep I w σ args vals → Calls P f vals w (Ends B w0 I σ w r h')
theorem entries_of {P : Program} {T : Tb} {B : Nat} {w0 : World} {l : List (FuncId × FEntry)} (h : ∀ p ∈ l, EntryOk P T B w0 p.1 p.2) : ∀ f e, l.lookup f = some e → EntryOk P T B w0 f e := by
  intro f e hl
  induction l with
  | nil => simp at hl
  | cons p l ih =>
    obtain ⟨a, b⟩ := p
    rw [List.lookup_cons] at hl
    split at hl
    · rename_i ee
      cases hl
      have : f = a := by simpa using ee
      subst this
      exact h (f, e) (by simp)
    · exact ih (fun p hp => h p (by simp [hp])) hl

theorem leave_cases {n0 : Nat} {c : CFun} {run : CRun} {r : AV} {h' : List AO} (hl : leave n0 c run = some (r, h')) :
    ∃ x vars hh rs, run = some (x, vars, hh) ∧ (x = .normal ∨ x = .ret) ∧ c.res.mapM (resOf vars hh) = some rs ∧ (pack rs).frz2 n0 hh = some r ∧ n0 ≤ hh.length ∧ (hh.take n0).all (AO.below n0) = true ∧ h' = hh.take n0 := by
  have key : ∀ (vars : List AV) (hh : List AO), (match (c.res.mapM (resOf vars hh)).bind fun rs => (pack rs).frz2 n0 hh with
      | some r => if n0 ≤ hh.length ∧ (hh.take n0).all (AO.below n0) = true then some (r, hh.take n0) else none
      | none => none) = some (r, h') → ∃ rs, c.res.mapM (resOf vars hh) = some rs ∧ (pack rs).frz2 n0 hh = some r ∧ n0 ≤ hh.length ∧ (hh.take n0).all (AO.below n0) = true ∧ h' = hh.take n0 := by
    intro vars hh he
    split at he
    · rename_i r' hb
      obtain ⟨rs, h1, h2⟩ := Option.bind_eq_some_iff.1 hb
      split at he
      · rename_i hc
        cases he
        exact ⟨rs, h1, h2, hc.1, hc.2, rfl⟩
      · cases he
    · cases he
  unfold leave at hl
  split at hl
  · rename_i vars hh
    obtain ⟨rs, h1⟩ := key vars hh hl
    exact ⟨.normal, vars, hh, rs, rfl, .inl rfl, h1⟩
  · rename_i vars hh
    obtain ⟨rs, h1⟩ := key vars hh hl
    exact ⟨.ret, vars, hh, rs, rfl, .inr rfl, h1⟩
  · cases hl

theorem keep_cases {c : CFun} {run : CRun} {r : AV} {h' : List AO} (hl : leaveKeep c run = some (r, h')) :
    ∃ x vars hh rs, run = some (x, vars, hh) ∧ (x = .normal ∨ x = .ret) ∧ c.res.mapM (resOf vars hh) = some rs ∧ r = pack rs ∧ h' = hh := by
  unfold leaveKeep at hl
  split at hl
  · rename_i vars hh
    obtain ⟨rs, h1, h2⟩ := Option.map_eq_some_iff.1 hl
    cases h2
    exact ⟨.normal, vars, _, rs, rfl, .inl rfl, h1, rfl, rfl⟩
  · rename_i vars hh
    obtain ⟨rs, h1, h2⟩ := Option.map_eq_some_iff.1 hl
    cases h2
    exact ⟨.ret, vars, _, rs, rfl, .inr rfl, h1, rfl, rfl⟩
  · cases hl

def Holds (K : Nat → World → Prop) : Prop := ∀ B w0 I σ w h, K B w0 → Inv B w0 I σ w h → K w.heap.size w

theorem callN_ok (hm : P.follows .mixedOrders = true) {T : Tb} (hT : TbOk P T) {F : FuncId → Option FEntry} {K : Nat → World → Prop} (hKs : Holds K) (hF : ∀ B w0, K B w0 → ∀ f e, F f = some e → EntryOk P T B w0 f e) (hP : ∀ f, T.push f = true → (∃ g, F f = some (.oracle g) ∧ ∀ args h r h', g args h = some (r, h') → ∃ X, h' = h ++ X) ∨ ∃ c, F f = some (.pkeep c)) : ∀ n B w0, K B w0 → CallOk P B w0 (callN F n) := by
  have pn : ∀ n, PushOk T (callN F n) := by
    intro n f hf args h r h' he
    cases n with
    | zero => simp [callN] at he
    | succ n =>
      rcases hP f hf with ⟨g, hg, hX⟩ | ⟨c, hc⟩
      · simp only [callN, hg] at he
        exact hX _ _ _ _ he
      · simp only [callN, hc] at he
        split at he
        · split at he
          · split at he
            · split at he
              · cases he; exact ⟨_, rfl⟩
              · cases he
            · cases he
          · cases he
        · cases he
  intro n
  induction n with
  | zero => intro B w0 hK; exact ⟨fun f args h r h' he => by simp [callN] at he, fun f args h r h' he => by simp [callN] at he, fun f args r he => by simp [callN] at he⟩
  | succ n ih =>
    have ent : ∀ B w0, K B w0 → ∀ f args h r h', callN F (n + 1) f args h = some (r, h') → ∀ (vals : Array Value) (w : World), (callFunc f vals).run P w = .ok (.enter f vals) w := by
      intro B w0 hK f args h r h' he vals w
      simp only [callN] at he
      split at he
      · rename_i c hf; exact CodeOk.enter (hF B w0 hK f _ hf) vals w
      · rename_i c hf; exact CodeOk.enter (hF B w0 hK f _ hf) vals w
      · rename_i c hf; exact CodeOk.enter (hF B w0 hK f _ hf) vals w
      · rename_i c hf; exact CodeOk.enter (hF B w0 hK f _ hf) vals w
      · rename_i g hf; exact (hF B w0 hK f _ hf args h r h' he).1 vals w
      · cases he
    have cal : ∀ B w0, K B w0 → ∀ f args h r h', callN F (n + 1) f args h = some (r, h') → ∀ I σ w (vals : Array Value), Inv B w0 I σ w h → ArgsRep I w σ args vals → Calls P f vals w (Ends B w0 I σ w r h') := by
      intro B w0 hK f args h r h' he I σ w vals hI ha
      simp only [callN] at he
      split at he
      · rename_i c hf
        split at he
        · rename_i hlen
          obtain ⟨x, vars, hh, rs, e1, e2, e3, e4, e5, e6, rfl⟩ := leave_cases he
          refine body_ok hm hT (ih B w0 hK) (pn n) (hF B w0 hK f _ hf) ha hlen hI e1 e2 e3 (fun v w' I' σ' q1 q2 q3 => ?_)
          exact ⟨v, _, _, rfl, q1.leave e5 e6, gone_step q1 q2 hI.len, q3.frz2 q1 e4⟩
        · cases he
      · rename_i c hf
        split at he
        · rename_i hlen
          obtain ⟨x, vars, hh, rs, e1, e2, e3, rfl, rfl⟩ := keep_cases he
          exact body_ok hm hT (ih B w0 hK) (pn n) (hF B w0 hK f _ hf) ha hlen hI e1 e2 e3 (fun v w' I' σ' q1 q2 q3 => ⟨v, _, _, rfl, q1, q2, q3⟩)
        · cases he
      · rename_i c hf
        split at he
        · rename_i as has
          split at he
          · rename_i hlen
            split at he
            · rename_i r' hl
              cases he
              obtain ⟨x, vars, hh, rs, e1, e2, e3, e4, e5, e6, e7⟩ := leave_cases hl
              have hI0 := inv_none hI
              refine (body_ok (R := Ends w.heap.size w I [] w r []) hm hT (ih w.heap.size w (hKs B w0 I σ w h hK hI)) (pn n) (hF B w0 hK f _ hf) (args_snap hI ha has) hlen hI0 e1 e2 e3 (fun v w' I' σ' q1 q2 q3 => ?_)).mono (fun e w' he => ends_conv hI he)
              have q1' := q1.leave e5 e6
              rw [← e7] at q1'
              exact ⟨v, _, _, rfl, q1', gone_step q1 q2 hI0.len, q3.frz2 q1 e4⟩
            · cases he
          · cases he
        · cases he
      · rename_i c hf
        split at he
        · rename_i as has
          split at he
          · rename_i hlen
            split at he
            · rename_i r' k hl
              split at he
              · rename_i hok
                cases he
                simp only [Bool.and_eq_true] at hok
                obtain ⟨x, vars, hh, rs, e1, e2, e3, rfl, rfl⟩ := keep_cases hl
                refine body_ok hm hT (ih w.heap.size w (hKs B w0 I σ w h hK hI)) (pn n) (hF B w0 hK f _ hf) (args_snap hI ha has) hlen (inv_none hI) e1 e2 e3 (fun v w' I' σ' q1 q2 q3 => ?_)
                obtain ⟨j1, j2⟩ := hI.join (P := P) q1 q2 hok.2
                exact ⟨v, I', σ ++ σ', rfl, j1, j2, by rw [← hI.len]; exact q3.sh2 hok.1⟩
              · cases he
            · cases he
          · cases he
        · cases he
      · rename_i g hf
        exact (hF B w0 hK f _ hf args h r h' he).2 I σ w vals hI ha
      · cases he
    intro B w0 hK
    exact ⟨ent B w0 hK, cal B w0 hK, fun f args r he I σ w h vals hI hI0 ha => cal w.heap.size w (hKs B w0 I σ w h hK hI) f args [] r [] he I [] w vals hI0 ha⟩
end
end Go.AE
end

/-! AE, part 30: calls without a bound. -/
section
set_option linter.unusedVariables false
set_option linter.unusedSimpArgs false
namespace Go.AE
open Go Go.RowKit

def CallF.le (a b : CallF) : Prop := ∀ (f : FuncId) (as : List AV) (h : List AO) (r : AV × List AO), a f as h = some r → b f as h = some r

section
variable {call call' : CallF} {vars env : List AV} {h : List AO}
theorem evOp_mono (hle : call.le call') {c : COp} {r : AV × List AO} (he : evOp call vars env h c = some r) : evOp call' vars env h c = some r := by
  cases c with
  | call p f args =>
    cases p with
    | true =>
      simp only [evOp] at he ⊢
      split at he
      · rename_i as has
        split at he
        · rename_i hc
          cases he
          rw [hle _ _ _ _ hc]
        · cases he
      · cases he
    | false => exact hle _ _ _ _ he
  | callf f args =>
    simp only [evOp] at he ⊢
    split at he
    · rename_i as has
      split at he
      · rename_i hc
        cases he
        rw [hle _ _ _ _ hc]
      · cases he
    · cases he
  | callv x args =>
    simp only [evOp] at he ⊢
    split at he
    · exact hle _ _ _ _ he
    · cases he
  | _ => exact he

theorem evOps_mono (hle : call.le call') : ∀ (cs : List CO) (vars env : List AV) (h : List AO) (r : List AV × List AO), evOps call cs vars env h = some r → evOps call' cs vars env h = some r := by
  intro cs
  induction cs with
  | nil => intro vars env h r he; exact he
  | cons c cs ih =>
    intro vars env h r he
    simp only [evOps] at he ⊢
    split at he
    · rename_i hg
      split at he
      · rename_i v h' hev
        rw [evOp_mono hle hev]
        exact ih _ _ _ _ he
      · cases he
    · rename_i g want hg
      split at he
      · rename_i b hb
        split at he
        · rename_i hbw
          rw [if_pos hbw]
          split at he
          · rename_i v h' hev
            rw [evOp_mono hle hev]
            exact ih _ _ _ _ he
          · cases he
        · rename_i hbw
          rw [if_neg hbw]
          exact ih _ _ _ _ he
      · rename_i z hz
        exact ih _ _ _ _ he
      · cases he

theorem loopN_mono {step step' : List AV → List AO → CRun} {keep : List Bool} (hs : ∀ vars h r, step vars h = some r → step' vars h = some r) : ∀ (n m : Nat), n ≤ m → ∀ vars h r, loopN step keep n vars h = some r → loopN step' keep m vars h = some r := by
  intro n
  induction n with
  | zero => intro m _ vars h r he; simp [loopN] at he
  | succ n ih =>
    intro m hm vars h r he
    obtain ⟨m, rfl⟩ : ∃ k, m = k + 1 := ⟨m - 1, by omega⟩
    simp only [loopN] at he ⊢
    cases hst : step (clr keep vars) h with
    | none => rw [hst] at he; cases he
    | some q =>
      rw [hst] at he
      rw [hs _ _ _ hst]
      obtain ⟨x, v', h'⟩ := q
      cases x with
      | normal => exact ih m (by omega) _ _ _ he
      | exit id => exact he
      | ret => exact he

theorem exec_mono (hle : call.le call') {n m : Nat} (hnm : n ≤ m) : ∀ (c : CC) (vars : List AV) (h : List AO) (r : AXit × List AV × List AO), exec call n c vars h = some r → exec call' m c vars h = some r := by
  intro c
  induction c with
  | skip => intro vars h r he; exact he
  | exit id => intro vars h r he; exact he
  | ret => intro vars h r he; exact he
  | region ms aps ops =>
    intro vars h r he
    simp only [exec] at he ⊢
    split at he
    · rename_i hap
      rw [if_pos hap]
      obtain ⟨q, h1, rfl⟩ := Option.map_eq_some_iff.1 he
      rw [evOps_mono hle _ _ _ _ _ h1]; rfl
    · cases he
  | seq a b iha ihb =>
    intro vars h r he
    simp only [exec] at he ⊢
    cases ha : exec call n a vars h with
    | none => rw [ha] at he; cases he
    | some q =>
      rw [ha] at he
      rw [iha _ _ _ ha]
      obtain ⟨x, v', h'⟩ := q
      cases x with
      | normal => exact ihb _ _ _ he
      | exit id => exact he
      | ret => exact he
  | cond c x y ihx ihy =>
    intro vars h r he
    simp only [exec] at he ⊢
    split at he
    · rename_i b hb
      cases b
      · exact ihy _ _ _ he
      · exact ihx _ _ _ he
    · cases he
  | block id b ih =>
    intro vars h r he
    simp only [exec] at he ⊢
    cases hb : exec call n b vars h with
    | none => rw [hb] at he; cases he
    | some q => rw [hb] at he; rw [ih _ _ _ hb]; exact he
  | loop keep ms b ih =>
    intro vars h r he
    simp only [exec] at he ⊢
    exact loopN_mono ih n m hnm _ _ _ he
end

theorem callN_mono (F : FuncId → Option FEntry) : ∀ (n m : Nat), n ≤ m → (callN F n).le (callN F m) := by
  intro n
  induction n with
  | zero => intro m _ f as h r he; simp [callN] at he
  | succ n ih =>
    intro m hm f as h r he
    obtain ⟨m, rfl⟩ : ∃ k, m = k + 1 := ⟨m - 1, by omega⟩
    have hle := ih m (by omega)
    simp only [callN] at he ⊢
    split at he
    · rename_i c hf
      split at he
      · rename_i hl
        rw [if_pos hl]
        cases hx : exec (callN F n) n c.body (start c as) h with
        | none => rw [hx] at he; cases he
        | some q => rw [hx] at he; rw [exec_mono hle (by omega) _ _ _ _ hx]; exact he
      · cases he
    · rename_i c hf
      split at he
      · rename_i hl
        rw [if_pos hl]
        cases hx : exec (callN F n) n c.body (start c as) h with
        | none => rw [hx] at he; cases he
        | some q => rw [hx] at he; rw [exec_mono hle (by omega) _ _ _ _ hx]; exact he
      · cases he
    · rename_i c hf
      split at he
      · rename_i as has
        split at he
        · rename_i hl
          simp only [if_pos hl]
          cases hx : exec (callN F n) n c.body (start c as) [] with
          | none => rw [hx] at he; simp [leave] at he
          | some q => rw [hx] at he; rw [exec_mono hle (by omega) _ _ _ _ hx]; exact he
        · cases he
      · cases he
    · rename_i c hf
      split at he
      · rename_i as has
        split at he
        · rename_i hl
          simp only [if_pos hl]
          cases hx : exec (callN F n) n c.body (start c as) [] with
          | none => rw [hx] at he; simp [leaveKeep] at he
          | some q => rw [hx] at he; rw [exec_mono hle (by omega) _ _ _ _ hx]; exact he
        · cases he
      · cases he
    · rename_i g hf
      exact he
    · cases he

def Comes (F : FuncId → Option FEntry) (f : FuncId) (as : List AV) (h : List AO) (r : AV × List AO) : Prop := ∃ n, callN F n f as h = some r

theorem Comes.unique {F : FuncId → Option FEntry} {f : FuncId} {as : List AV} {h : List AO} {r s : AV × List AO} (a : Comes F f as h r) (b : Comes F f as h s) : r = s := by
  obtain ⟨n, hn⟩ := a
  obtain ⟨m, hm⟩ := b
  have h1 := callN_mono F n (max n m) (Nat.le_max_left _ _) _ _ _ _ hn
  have h2 := callN_mono F m (max n m) (Nat.le_max_right _ _) _ _ _ _ hm
  rw [h1] at h2
  exact Option.some.inj h2

open Classical in
noncomputable def callW (F : FuncId → Option FEntry) : CallF := fun f as h => if hx : ∃ r, Comes F f as h r then some (Classical.choose hx) else none

theorem callW_iff {F : FuncId → Option FEntry} {f : FuncId} {as : List AV} {h : List AO} {r : AV × List AO} : callW F f as h = some r ↔ ∃ n, callN F n f as h = some r := by
  unfold callW
  constructor
  · intro he
    split at he
    · rename_i hx
      cases he
      exact Classical.choose_spec hx
    · cases he
  · intro hc
    have hx : ∃ r, Comes F f as h r := ⟨r, hc⟩
    rw [dif_pos hx, Comes.unique (Classical.choose_spec hx) hc]

section
variable {F : FuncId → Option FEntry} {vars env : List AV} {h : List AO}
theorem lim_op {c : COp} {r : AV × List AO} (he : evOp (callW F) vars env h c = some r) : ∃ n, evOp (callN F n) vars env h c = some r := by
  cases c with
  | call p f args =>
    cases p with
    | true =>
      simp only [evOp] at he ⊢
      split at he
      · rename_i as has
        split at he
        · rename_i hc
          cases he
          obtain ⟨n, hn⟩ := callW_iff.1 hc
          exact ⟨n, by rw [hn]⟩
        · cases he
      · cases he
    | false => exact callW_iff.1 he
  | callf f args =>
    simp only [evOp] at he ⊢
    split at he
    · rename_i as has
      split at he
      · rename_i hc
        cases he
        obtain ⟨n, hn⟩ := callW_iff.1 hc
        exact ⟨n, by rw [hn]⟩
      · cases he
    · cases he
  | callv x args =>
    simp only [evOp] at he ⊢
    split at he
    · exact callW_iff.1 he
    · cases he
  | _ => exact ⟨0, he⟩

theorem lim_ops : ∀ (cs : List CO) (vars env : List AV) (h : List AO) (r : List AV × List AO), evOps (callW F) cs vars env h = some r → ∃ n, evOps (callN F n) cs vars env h = some r := by
  intro cs
  induction cs with
  | nil => intro vars env h r he; exact ⟨0, he⟩
  | cons c cs ih =>
    intro vars env h r he
    have go : ∀ v h' q, evOp (callW F) vars env h c.op = some (v, h') → evOps (callW F) cs (setO vars c.wr v) (v :: env) h' = some q →
        ∃ n, evOp (callN F n) vars env h c.op = some (v, h') ∧ evOps (callN F n) cs (setO vars c.wr v) (v :: env) h' = some q := by
      intro v h' q h1 h2
      obtain ⟨n, hn⟩ := lim_op h1
      obtain ⟨m, hm⟩ := ih _ _ _ _ h2
      exact ⟨max n m, evOp_mono (callN_mono F _ _ (Nat.le_max_left _ _)) hn, evOps_mono (callN_mono F _ _ (Nat.le_max_right _ _)) _ _ _ _ _ hm⟩
    simp only [evOps] at he ⊢
    split at he
    · rename_i hg
      split at he
      · rename_i v h' hev
        obtain ⟨n, h1, h2⟩ := go _ _ _ hev he
        exact ⟨n, by rw [h1]; exact h2⟩
      · cases he
    · rename_i g want hg
      split at he
      · rename_i b hb
        split at he
        · rename_i hbw
          simp only [if_pos hbw]
          split at he
          · rename_i v h' hev
            obtain ⟨n, h1, h2⟩ := go _ _ _ hev he
            exact ⟨n, by rw [h1]; exact h2⟩
          · cases he
        · rename_i hbw
          simp only [if_neg hbw]
          exact ih _ _ _ _ he
      · rename_i z hz
        exact ih _ _ _ _ he
      · cases he

theorem lim_exec {k : Nat} : ∀ (c : CC) (vars : List AV) (h : List AO) (r : AXit × List AV × List AO), exec (callW F) k c vars h = some r → ∃ n, exec (callN F n) k c vars h = some r := by
  have up : ∀ {n m : Nat}, n ≤ m → ∀ (c : CC) (vars : List AV) (h : List AO) (r : AXit × List AV × List AO), exec (callN F n) k c vars h = some r → exec (callN F m) k c vars h = some r :=
    fun hnm => exec_mono (callN_mono F _ _ hnm) (Nat.le_refl k)
  intro c
  induction c with
  | skip => intro vars h r he; exact ⟨0, he⟩
  | exit id => intro vars h r he; exact ⟨0, he⟩
  | ret => intro vars h r he; exact ⟨0, he⟩
  | region ms aps ops =>
    intro vars h r he
    simp only [exec] at he ⊢
    split at he
    · rename_i hap
      simp only [if_pos hap]
      obtain ⟨q, h1, rfl⟩ := Option.map_eq_some_iff.1 he
      obtain ⟨n, hn⟩ := lim_ops _ _ _ _ _ h1
      exact ⟨n, by rw [hn]; rfl⟩
    · cases he
  | seq a b iha ihb =>
    intro vars h r he
    simp only [exec] at he ⊢
    cases ha : exec (callW F) k a vars h with
    | none => rw [ha] at he; cases he
    | some q =>
      rw [ha] at he
      obtain ⟨n, hn⟩ := iha _ _ _ ha
      obtain ⟨x, v', h'⟩ := q
      cases x with
      | normal =>
        obtain ⟨m, hm⟩ := ihb _ _ _ he
        exact ⟨max n m, by rw [up (Nat.le_max_left _ _) _ _ _ _ hn]; exact up (Nat.le_max_right _ _) _ _ _ _ hm⟩
      | exit id => exact ⟨n, by rw [hn]; exact he⟩
      | ret => exact ⟨n, by rw [hn]; exact he⟩
  | cond c x y ihx ihy =>
    intro vars h r he
    simp only [exec] at he ⊢
    split at he
    · rename_i b hb
      cases b
      · exact ihy _ _ _ he
      · exact ihx _ _ _ he
    · cases he
  | block id b ih =>
    intro vars h r he
    simp only [exec] at he ⊢
    cases hb : exec (callW F) k b vars h with
    | none => rw [hb] at he; cases he
    | some q =>
      rw [hb] at he
      obtain ⟨n, hn⟩ := ih _ _ _ hb
      exact ⟨n, by rw [hn]; exact he⟩
  | loop keep ms b ih =>
    intro vars h r he
    simp only [exec] at he ⊢
    generalize (ms.foldl doMark (vars, h)).1 = vars0 at he ⊢
    generalize (ms.foldl doMark (vars, h)).2 = h0 at he ⊢
    have key : ∀ (j : Nat) (vars : List AV) (h : List AO), loopN (exec (callW F) k b) keep j vars h = some r → ∃ n, loopN (exec (callN F n) k b) keep j vars h = some r := by
      intro j
      induction j with
      | zero => intro vars h he; simp [loopN] at he
      | succ j ihj =>
        intro vars h he
        simp only [loopN] at he ⊢
        cases hb : exec (callW F) k b (clr keep vars) h with
        | none => rw [hb] at he; cases he
        | some q =>
          rw [hb] at he
          obtain ⟨n, hn⟩ := ih _ _ _ hb
          obtain ⟨x, v', h'⟩ := q
          cases x with
          | normal =>
            obtain ⟨m, hm⟩ := ihj _ _ he
            refine ⟨max n m, ?_⟩
            rw [up (Nat.le_max_left _ _) _ _ _ _ hn]
            exact loopN_mono (up (Nat.le_max_right _ _) b) j j (Nat.le_refl _) _ _ _ hm
          | exit id => exact ⟨n, by rw [hn]; exact he⟩
          | ret => exact ⟨n, by rw [hn]; exact he⟩
    exact key k _ _ he

theorem callW_code {f : FuncId} {c : CFun} (hf : F f = some (.code c)) {args : List AV} {r : AV × List AO} (hl : args.length = c.np) (k : Nat) (he : leave h.length c (exec (callW F) k c.body (start c args) h) = some r) : callW F f args h = some r := by
  rw [callW_iff]
  cases hx : exec (callW F) k c.body (start c args) h with
  | none => rw [hx] at he; cases he
  | some q =>
    obtain ⟨n, hn⟩ := lim_exec _ _ _ _ hx
    refine ⟨max n k + 1, ?_⟩
    simp only [callN, hf, if_pos hl]
    rw [exec_mono (callN_mono F _ _ (Nat.le_max_left n k)) (Nat.le_max_right n k) _ _ _ _ hn]
    rw [hx] at he
    exact he
theorem callW_oracle {f : FuncId} {g : List AV → List AO → Option (AV × List AO)} (hf : F f = some (.oracle g)) {args : List AV} {r : AV × List AO} (he : g args h = some r) : callW F f args h = some r := by
  rw [callW_iff]
  exact ⟨1, by simp only [callN, hf]; exact he⟩
end
end Go.AE
end

/-! AE, part 31: runs, step by step (rows for simp: what is still to be done is data, so nothing is looked into ahead of its turn). -/
section
set_option linter.unusedVariables false
set_option linter.unusedSimpArgs false
namespace Go.AE
open Go Go.RowKit

structure St where
  vars : List AV
  env : List AV
  h : List AO

def put1 (wr : Option Nat) (vars env : List AV) : Option (AV × List AO) → Option St
  | some (v, h) => some ⟨setO vars wr v, v :: env, h⟩
  | none => none
def pass1 (wr : Option Nat) (vars env : List AV) (h : List AO) : Option St := some ⟨setO vars wr (.v undef), .v undef :: env, h⟩
def pick1 (g : AV) (want : Bool) (y n : Option St) : Option St := match g with
  | .v (.bool b) => if b = want then y else n
  | .v (.tuple _) => n
  | _ => none
def stp (call : CallF) (o : CO) : Option St → Option St
  | some ⟨vars, env, h⟩ => match o.guard with
    | none => put1 o.wr vars env (evOp call vars env h o.op)
    | some (g, want) => pick1 (getO vars env g) want (put1 o.wr vars env (evOp call vars env h o.op)) (pass1 o.wr vars env h)
  | none => none
def run (call : CallF) : List CO → Option St → Option St
  | [], s => s
  | o :: r, s => run call r (stp call o s)
def outS : Option St → Option (List AV × List AO)
  | some ⟨vars, _, h⟩ => some (vars, h)
  | none => none

theorem run_none {call : CallF} : ∀ (cs : List CO), run call cs none = none := by
  intro cs
  induction cs with
  | nil => rfl
  | cons c cs ih => simp only [run, stp, ih]
theorem ops_run {call : CallF} : ∀ (cs : List CO) (vars env : List AV) (h : List AO), evOps call cs vars env h = outS (run call cs (some ⟨vars, env, h⟩)) := by
  intro cs
  induction cs with
  | nil => intro vars env h; rfl
  | cons c cs ih =>
    intro vars env h
    simp only [run, evOps, stp]
    cases hg : c.guard with
    | none =>
      simp only
      cases he : evOp call vars env h c.op with
      | none => simp only [put1, run_none]; rfl
      | some q => obtain ⟨v, h'⟩ := q; simp only [put1]; exact ih _ _ _
    | some gw =>
      obtain ⟨g, want⟩ := gw
      simp only
      have go : (match evOp call vars env h c.op with
          | some (v, h') => evOps call cs (setO vars c.wr v) (v :: env) h'
          | none => none) = outS (run call cs (put1 c.wr vars env (evOp call vars env h c.op))) := by
        cases he : evOp call vars env h c.op with
        | none => simp only [put1, run_none]; rfl
        | some q => obtain ⟨v, h'⟩ := q; simp only [put1]; exact ih _ _ _
      have no : evOps call cs (setO vars c.wr (.v undef)) (.v undef :: env) h = outS (run call cs (pass1 c.wr vars env h)) := ih _ _ _
      cases hv : getO vars env g with
      | v x =>
        cases x with
        | bool b =>
          simp only [pick1]
          by_cases hb : b = want
          · rw [if_pos hb, if_pos hb]; exact go
          · rw [if_neg hb, if_neg hb]; exact no
        | tuple a => exact no
        | _ => simp only [pick1, run_none]; rfl
      | _ => simp only [pick1, run_none]; rfl

section
variable {call : CallF} {vars env : List AV} {h : List AO} {fuel : Nat}
theorem Q0 {s : Option St} : run call [] s = s := rfl
theorem Q1 {o : CO} {r : List CO} {s : Option St} : run call (o :: r) s = run call r (stp call o s) := rfl
theorem Q2 {op : COp} {wr : Option Nat} : stp call ⟨op, wr, none⟩ (some ⟨vars, env, h⟩) = put1 wr vars env (evOp call vars env h op) := rfl
theorem Q3 {op : COp} {wr : Option Nat} {g : Opd} {want : Bool} : stp call ⟨op, wr, some (g, want)⟩ (some ⟨vars, env, h⟩) = pick1 (getO vars env g) want (put1 wr vars env (evOp call vars env h op)) (pass1 wr vars env h) := rfl
theorem Q4 {wr : Option Nat} {v : AV} : put1 wr vars env (some (v, h)) = some ⟨setO vars wr v, v :: env, h⟩ := rfl
theorem Q5 {wr : Option Nat} : pass1 wr vars env h = some ⟨setO vars wr (.v undef), .v undef :: env, h⟩ := rfl
theorem Q6 {y n : Option St} : pick1 (.v (.bool true)) true y n = y := rfl
theorem Q7 {y n : Option St} : pick1 (.v (.bool false)) false y n = y := rfl
theorem Q8 {y n : Option St} : pick1 (.v (.bool true)) false y n = n := rfl
theorem Q9 {y n : Option St} : pick1 (.v (.bool false)) true y n = n := rfl
theorem Q10 {a : Array Value} {w : Bool} {y n : Option St} : pick1 (.v (.tuple a)) w y n = n := rfl
def reg (a : Option St) : CRun := match a with
  | some ⟨v, _, h⟩ => some (.normal, v, h)
  | none => none
theorem Q11 : reg (some ⟨vars, env, h⟩) = some (.normal, vars, h) := rfl
theorem Q21 {ops : List CO} : exec call fuel (.region [] [] ops) vars h = reg (run call ops (some ⟨vars, [], h⟩)) := by
  simp only [exec, List.all_nil, if_true, List.foldl_nil, ops_run]
  cases run call ops (some ⟨vars, [], h⟩) <;> rfl
def thn (call : CallF) (fuel : Nat) (b : CC) (a : CRun) : CRun := match a with
  | some (.normal, v, h) => exec call fuel b v h
  | r => r
theorem Q20 {a b : CC} : exec call fuel (.seq a b) vars h = thn call fuel b (exec call fuel a vars h) := rfl
theorem Q12 {b : CC} : thn call fuel b (some (.normal, vars, h)) = exec call fuel b vars h := rfl
theorem Q13 {b : CC} {id : Nat} : thn call fuel b (some (.exit id, vars, h)) = some (.exit id, vars, h) := rfl
theorem Q14 {b : CC} : thn call fuel b (some (.ret, vars, h)) = some (.ret, vars, h) := rfl
def cnd (call : CallF) (fuel : Nat) (x y : CC) (vars : List AV) (h : List AO) (g : AV) : CRun := match g with
  | .v (.bool b) => cond b (exec call fuel x vars h) (exec call fuel y vars h)
  | _ => none
theorem Q22 {c : Opd} {x y : CC} : exec call fuel (.cond c x y) vars h = cnd call fuel x y vars h (getO vars [] c) := rfl
theorem Q15 {x y : CC} : cnd call fuel x y vars h (.v (.bool true)) = exec call fuel x vars h := rfl
theorem Q16 {x y : CC} : cnd call fuel x y vars h (.v (.bool false)) = exec call fuel y vars h := rfl
def blk (id : Nat) (a : CRun) : CRun := match a with
  | some (.exit id', v, h) => some (if id' = id then .normal else .exit id', v, h)
  | r => r
theorem Q23 {id : Nat} {b : CC} : exec call fuel (.block id b) vars h = blk id (exec call fuel b vars h) := rfl
theorem Q17 {id : Nat} : blk id (some (.normal, vars, h)) = some (.normal, vars, h) := rfl
theorem Q18 {id : Nat} : blk id (some (.ret, vars, h)) = some (.ret, vars, h) := rfl
theorem Q19 {id : Nat} : blk id (some (.exit id, vars, h)) = some (.normal, vars, h) := by simp [blk]
theorem Q24 {keep : List Bool} {b : CC} : exec call fuel (.loop keep [] b) vars h = loopN (exec call fuel b) keep fuel vars h := rfl
theorem Q26 {id : Nat} : exec call fuel (.exit id) vars h = some (.exit id, vars, h) := rfl
theorem Q25 : exec call fuel .ret vars h = some (.ret, vars, h) := rfl
theorem Q27 : exec call fuel .skip vars h = some (.normal, vars, h) := rfl
theorem loop_normal {keep : List Bool} {b : CC} {n : Nat} {v' : List AV} {h' : List AO} (hs : exec call fuel b (clr keep vars) h = some (.normal, v', h')) : loopN (exec call fuel b) keep (n + 1) vars h = loopN (exec call fuel b) keep n v' h' := by
  simp only [loopN, hs]
theorem loop_exit {keep : List Bool} {b : CC} {n id : Nat} {v' : List AV} {h' : List AO} (hs : exec call fuel b (clr keep vars) h = some (.exit id, v', h')) : loopN (exec call fuel b) keep (n + 1) vars h = some (.exit id, v', h') := by
  simp only [loopN, hs]
theorem loop_ret {keep : List Bool} {b : CC} {n : Nat} {v' : List AV} {h' : List AO} (hs : exec call fuel b (clr keep vars) h = some (.ret, v', h')) : loopN (exec call fuel b) keep (n + 1) vars h = some (.ret, v', h') := by
  simp only [loopN, hs]

/-! ### Values -/
theorem Q63 {x : AV} {l : List AV} : getO (x :: l) env (.var 0) = x := rfl
theorem Q64 {x : AV} {l : List AV} {n : Nat} : getO (x :: l) env (.var (n + 1)) = getO l env (.var n) := rfl
theorem Q65 {x : AV} {e : List AV} : getO vars (x :: e) (.loc 0) = x := rfl
theorem Q66 {x : AV} {e : List AV} {n : Nat} : getO vars (x :: e) (.loc (n + 1)) = getO vars e (.loc n) := rfl
theorem Q67 {k : IntKind} {n : Int} : getO vars env (.k (.int k n)) = .v (.int k n) := rfl
theorem Q68 {b : Bool} : getO vars env (.k (.bool b)) = .v (.bool b) := rfl
theorem Q69 {s : ByteArray} : getO vars env (.k (.string s)) = .v (.string s) := rfl
theorem Q70 {a : Option Addr} {l c : Nat} : getO vars env (.k (.slice a l c)) = .v (.slice a l c) := rfl
theorem Q116 {a : Array Value} : getO vars env (.k (.agg a)) = ofVal (.agg a) := rfl
theorem Q71 {v : AV} : setO vars none v = vars := rfl
theorem Q72 {x v : AV} {l : List AV} : setO (x :: l) (some 0) v = v :: l := rfl
theorem Q73 {x v : AV} {l : List AV} {n : Nat} : setO (x :: l) (some (n + 1)) v = x :: setO l (some n) v := rfl

/-! ### Calls of pure functions -/
def fin (h : List AO) : Option (AV × List AO) → Option (AV × List AO)
  | some (r, []) => some (r, h)
  | _ => none
theorem Q62 {r : AV} : fin h (some (r, [])) = some (r, h) := rfl
def pc0 (call : CallF) (f : FuncId) (h : List AO) : Option (AV × List AO) := fin h (call f [] [])
def pc1 (call : CallF) (f : FuncId) (h : List AO) (a : Option AV) : Option (AV × List AO) := match a with
  | some a => fin h (call f [a] [])
  | none => none
def pc2 (call : CallF) (f : FuncId) (h : List AO) (a b : Option AV) : Option (AV × List AO) := match a, b with
  | some a, some b => fin h (call f [a, b] [])
  | _, _ => none
def pc3 (call : CallF) (f : FuncId) (h : List AO) (a b c : Option AV) : Option (AV × List AO) := match a, b, c with
  | some a, some b, some c => fin h (call f [a, b, c] [])
  | _, _, _ => none
theorem Q54 {f : FuncId} : evOp call vars env h (.call true f []) = pc0 call f h := by
  simp only [evOp, List.map_nil, List.mapM_nil, Option.pure_def, pc0, fin]
  rfl
theorem Q55 {f : FuncId} {x : Opd} : evOp call vars env h (.call true f [x]) = pc1 call f h ((getO vars env x).snap1 h) := by
  simp only [evOp, List.map_cons, List.map_nil, List.mapM_cons, List.mapM_nil, Option.pure_def, Option.bind_eq_bind]
  cases (getO vars env x).snap1 h <;> rfl
theorem Q56 {f : FuncId} {x y : Opd} : evOp call vars env h (.call true f [x, y]) = pc2 call f h ((getO vars env x).snap1 h) ((getO vars env y).snap1 h) := by
  simp only [evOp, List.map_cons, List.map_nil, List.mapM_cons, List.mapM_nil, Option.pure_def, Option.bind_eq_bind]
  cases (getO vars env x).snap1 h <;> cases (getO vars env y).snap1 h <;> rfl
theorem Q57 {f : FuncId} {x y z : Opd} : evOp call vars env h (.call true f [x, y, z]) = pc3 call f h ((getO vars env x).snap1 h) ((getO vars env y).snap1 h) ((getO vars env z).snap1 h) := by
  simp only [evOp, List.map_cons, List.map_nil, List.mapM_cons, List.mapM_nil, Option.pure_def, Option.bind_eq_bind]
  cases (getO vars env x).snap1 h <;> cases (getO vars env y).snap1 h <;> cases (getO vars env z).snap1 h <;> rfl
theorem Q58 {f : FuncId} : pc0 call f h = fin h (call f [] []) := rfl
theorem Q59 {f : FuncId} {a : AV} : pc1 call f h (some a) = fin h (call f [a] []) := rfl
theorem Q60 {f : FuncId} {a b : AV} : pc2 call f h (some a) (some b) = fin h (call f [a, b] []) := rfl
theorem Q61 {f : FuncId} {a b c : AV} : pc3 call f h (some a) (some b) (some c) = fin h (call f [a, b, c] []) := rfl

/-! ### Operations, one by one -/
theorem Q28 {x : Opd} : evOp call vars env h (.mov x) = some (getO vars env x, h) := rfl
def pk (h : List AO) (c a b : AV) : Option (AV × List AO) := match c with
  | .v (.bool t) => some (cond t a b, h)
  | _ => none
theorem Q29 {c a b : Opd} : evOp call vars env h (.pick c a b) = pk h (getO vars env c) (getO vars env a) (getO vars env b) := rfl
theorem Q30 {a b : AV} : pk h (.v (.bool true)) a b = some (a, h) := rfl
theorem Q31 {a b : AV} : pk h (.v (.bool false)) a b = some (b, h) := rfl
def withH (h : List AO) : Option AV → Option (AV × List AO)
  | some v => some (v, h)
  | none => none
theorem Q32 {v : AV} : withH h (some v) = some (v, h) := rfl
theorem map_withH {a : Option AV} : (a.map fun v => (v, h)) = withH h a := by cases a <;> rfl
def bx (h : List AO) (bt : TypeId) : Option (List AV) → Option (AV × List AO)
  | some cs => some (.ptr h.length 0, h ++ [.box bt cs])
  | none => none
theorem Q33 {bt : TypeId} {x : Opd} : evOp call vars env h (.box bt x) = bx h bt (getO vars env x).cl := by
  simp only [evOp]; cases (getO vars env x).cl <;> rfl
theorem Q34 {bt : TypeId} {cs : List AV} : bx h bt (some cs) = some (.ptr h.length 0, h ++ [.box bt cs]) := rfl
theorem Q35 {a : Bool} {sz : Nat} {x : Opd} : evOp call vars env h (.load a sz x) = withH h (Q76 h a sz (getO vars env x)) := map_withH
def stH : Option (List AO) → Option (AV × List AO)
  | some h' => some (.v (.tuple #[]), h')
  | none => none
theorem Q37 {h' : List AO} : stH (some h') = some (.v (.tuple #[]), h') := rfl
theorem Q36 {sz : Nat} {a x : Opd} : evOp call vars env h (.store sz a x) = stH (Q113 h sz (getO vars env a) (getO vars env x)) := by
  simp only [evOp]; cases Q113 h sz (getO vars env a) (getO vars env x) <;> rfl
theorem Q38 {x : Opd} : evOp call vars env h (.nilchk x) = withH h (Q75 h (getO vars env x)) := map_withH
theorem Q39 {op : BinOp} {x y : Opd} : evOp call vars env h (.bin op x y) = withH h (Q78 op (getO vars env x) (getO vars env y)) := map_withH
def eqH (h : List AO) (neg : Bool) : Option Bool → Option (AV × List AO)
  | some b => some (.v (.bool (if neg then !b else b)), h)
  | none => none
theorem Q40 {k : EqK} {neg : Bool} {x y : Opd} : evOp call vars env h (.eqv k neg x y) = eqH h neg (eqNil h k (getO vars env x) (getO vars env y)) := by
  simp only [evOp]; cases eqNil h k (getO vars env x) (getO vars env y) <;> rfl
theorem Q41 {b : Bool} : eqH h false (some b) = some (.v (.bool b), h) := rfl
theorem Q42 {b : Bool} : eqH h true (some b) = some (.v (.bool !b), h) := rfl
theorem Q43 {op : UnOp} {x : Opd} : evOp call vars env h (.un op x) = withH h (Q81 op (getO vars env x)) := map_withH
theorem Q44 {o : Nat} {x : Opd} : evOp call vars env h (.fa o x) = withH h (Q74 h o (getO vars env x)) := map_withH
theorem Q45 {sz : Nat} {x i : Opd} : evOp call vars env h (.ia sz x i) = withH h (evIa vars env h sz x i) := map_withH
def lnH (h : List AO) : Option Nat → Option (AV × List AO)
  | some n => some (.v (.int .i64 (n : Int)), h)
  | none => none
theorem Q50 {n : Nat} : lnH h (some n) = some (.v (.int .i64 (n : Int)), h) := rfl
theorem Q49 {k : LenK} {x : Opd} : evOp call vars env h (.len k x) = lnH h (evLen h k (getO vars env x)) := by
  simp only [evOp]; cases evLen h k (getO vars env x) <;> rfl
def exH (h : List AO) (i : Nat) : AV → Option (AV × List AO)
  | .tup vs => match vs[i]? with
    | some v => some (v, h)
    | none => none
  | _ => none
theorem Q51 {x : Opd} {i : Nat} : evOp call vars env h (.extract x i) = exH h i (getO vars env x) := rfl
theorem Q52 {v : AV} {vs : List AV} : exH h 0 (.tup (v :: vs)) = some (v, h) := rfl
theorem Q53 {u v : AV} {vs : List AV} : exH h 1 (.tup (u :: v :: vs)) = some (v, h) := rfl
def iaV (h : List AO) (sz : Nat) (x : AV) (i : Option Nat) : Option AV := match x, i with
  | .slc sz' _ _ l, some i => match l[i]? with
    | some el => if sz' = sz then some (.ip el.cells) else none
    | none => none
  | .own sz' id ver off n, some i => if sz' = sz ∧ i < n then (rowAt h sz id ver (off + n)).map fun _ => .ep sz id ver (off + i) 0 else none
  | _, _ => none
theorem Q46 {sz : Nat} {x i : Opd} : evIa vars env h sz x i = iaV h sz (getO vars env x) (natO vars env i) := rfl
def natV : AV → Option Nat
  | .v (.int _ n) => if 0 ≤ n then some n.toNat else none
  | _ => none
theorem Q47 {x : Opd} : natO vars env x = natV (getO vars env x) := rfl
theorem Q48 {k : IntKind} {n : Nat} : natV (.v (.int k (n : Int))) = some n := by simp [natV]
theorem iaV_slc {sz : Nat} {ex nn : Bool} {l : List AV} {i : Nat} {el : AV} (he : l[i]? = some el) : iaV h sz (.slc sz ex nn l) (some i) = some (.ip el.cells) := by simp [iaV, he]

theorem Q82 : evLen h .slice (.v (.slice none 0 0)) = some 0 := rfl
theorem Q83 {sz : Nat} {ex nn : Bool} {l : List AV} : evLen h .slice (.slc sz ex nn l) = some l.length := rfl
theorem Q84 {s : ByteArray} : evLen h .string (.v (.string s)) = some s.size := rfl

/-! ### A variable made here -/
theorem Q114 {x : AO} : (h ++ [x])[h.length]? = some x := by simp
theorem Q115 {x y : AO} : (h ++ [x]).set h.length y = h ++ [y] := by simp
theorem st_new {bt : TypeId} {sz : Nat} {cs xs : List AV} {x : AV} (hx : x.cl = some xs) (h1 : xs.length = sz) (h2 : cs.length = sz) : Q113 (h ++ [.box bt cs]) sz (.ptr h.length 0) x = some (h ++ [.box bt xs]) := by
  have hp : ∀ (xs a b : List AV), a.length + xs.length = b.length → Q112 b a.length xs = b.take a.length ++ xs := by
    intro xs
    induction xs with
    | nil => intro a b hl; simp only [Q112, List.append_nil]; rw [List.take_of_length_le (by simp at hl; omega)]
    | cons x xs ih =>
      intro a b hl
      simp only [Q112]
      have := ih (b.take a.length ++ [x]) (b.set a.length x) (by simp at hl ⊢; omega)
      have e : (b.take a.length ++ [x]).length = a.length + 1 := by simp at hl ⊢; omega
      rw [e] at this
      rw [this]
      have hlt : a.length < b.length := by simp at hl; omega
      rw [List.take_add_one, List.getElem?_set_self hlt, List.take_set, List.set_eq_of_length_le (by simp; omega)]
      simp
  have := hp xs [] cs (by simp; omega)
  simp only [List.length_nil, List.take_zero, List.nil_append] at this
  simp only [Q113, Q114, hx, h1, Nat.zero_add, h2, Nat.le_refl, and_self, if_true, Q115, this]
theorem ld_new {bt : TypeId} {a : Bool} {sz : Nat} {cs : List AV} {off : Nat} : Q76 (h ++ [.box bt cs]) a sz (.ptr h.length off) = if off + sz ≤ cs.length then Q77 a ((cs.drop off).take sz) else none := by
  simp only [Q76, Q114]

def bs1 (h : List AO) (sz : Nat) : Option AV → Option (AV × List AO)
  | some y => match y.cl with
    | some ys => if ys.length = sz then some (.slc sz true true [y], h) else none
    | none => none
  | none => none
theorem Q104 {sz : Nat} {zero : List Value} {x : Opd} : evOp call vars env h (.bslice sz zero 1 [(0, x)]) = bs1 h sz ((getO vars env x).snap1 h) := by
  simp only [evOp, evElems]
  cases hs : (getO vars env x).snap1 h with
  | none => rfl
  | some y =>
    simp only [bs1, Option.bind_some]
    cases hc : y.cl with
    | none => rfl
    | some ys =>
      simp only [Option.map_some, List.length_replicate]
      by_cases hl : ys.length = sz
      · rw [if_pos ⟨hl, by omega⟩, if_pos hl]; rfl
      · rw [if_neg (fun h => hl h.1), if_neg hl]; rfl
theorem bs1_some {sz : Nat} {y : AV} {ys : List AV} (hc : y.cl = some ys) (hl : ys.length = sz) : bs1 h sz (some y) = some (.slc sz true true [y], h) := by
  simp only [bs1, hc, hl, if_true]
def bs2 (h : List AO) (sz : Nat) : Option AV → Option AV → Option (AV × List AO)
  | some a, some b => match a.cl, b.cl with
    | some xs, some ys => if xs.length = sz then if ys.length = sz then some (.slc sz true true [a, b], h) else none else none
    | _, _ => none
  | _, _ => none
theorem Q105 {sz : Nat} {zero : List Value} {x y : Opd} : evOp call vars env h (.bslice sz zero 2 [(0, x), (1, y)]) = bs2 h sz ((getO vars env x).snap1 h) ((getO vars env y).snap1 h) := by
  simp only [evOp, evElems]
  cases hs : (getO vars env x).snap1 h with
  | none => rfl
  | some a =>
    cases hs' : (getO vars env y).snap1 h with
    | none =>
      simp only [bs2, Option.bind_some, Option.bind_none]
      cases hc : a.cl with
      | none => rfl
      | some xs =>
        simp only [Option.map_some]
        split <;> rfl
    | some b =>
      simp only [bs2, Option.bind_some]
      cases hc : a.cl with
      | none => rfl
      | some xs =>
        simp only [Option.map_some]
        cases hc' : b.cl with
        | none =>
          simp only [Option.map_none]
          split <;> rfl
        | some ys =>
          simp only [Option.map_some, List.length_replicate, List.length_set]
          by_cases h1 : xs.length = sz
          · by_cases h2 : ys.length = sz
            · simp [h1, h2]
            · simp [h1, h2]
          · simp [h1]
def bdH (h : List AO) : Option (List AV) → Option (AV × List AO)
  | some cs => some (.agg cs, h)
  | none => none
theorem Q106 {zero : List Value} {ps : List (Nat × Nat × Opd)} : evOp call vars env h (.build zero ps) = bdH h (evBuild vars env (toL zero) ps) := by
  simp only [evOp]; cases evBuild vars env (toL zero) ps <;> rfl
theorem Q107 {cs : List AV} : bdH h (some cs) = some (.agg cs, h) := rfl
def bd1 (vars env : List AV) (cs : List AV) (off sz : Nat) (r : List (Nat × Nat × Opd)) (xs : Option (List AV)) : Option (List AV) := match xs with
  | some xs => if xs.length = sz ∧ off + sz ≤ cs.length then evBuild vars env (Q112 cs off xs) r else none
  | none => none
theorem Q108 {cs : List AV} : evBuild vars env cs [] = some cs := rfl
theorem Q109 {cs : List AV} {off sz : Nat} {x : Opd} {r : List (Nat × Nat × Opd)} : evBuild vars env cs ((off, sz, x) :: r) = bd1 vars env cs off sz r (getO vars env x).cl := rfl
theorem e_append {rt : TypeId} {sz bytes : Nat} {s x : Opd} : evOp call vars env h (.append rt sz bytes s x) = evAppend h rt sz bytes (getO vars env s) (getO vars env x) := rfl
theorem Q110 {cs : List AV} : (AV.agg cs).cl = some cs := rfl
theorem Q111 {k : IntKind} {n : Int} : (AV.v (.int k n)).cl = some [.v (.int k n)] := rfl
theorem ap_new {rt : TypeId} {sz bytes : Nat} {ex nn : Bool} {l : List AV} (hl : l ≠ []) (hf : fits l.length bytes = true) : evAppend h rt sz bytes (.v (.slice none 0 0)) (.slc sz ex nn l) = some (.own sz h.length 0 0 l.length, h ++ [.row rt sz 0 l 0]) := by
  simp [evAppend, evAppendL, elemsOf, hl, hf]

/-! ### Leaving -/
def lvf (h : List AO) (v : AV) : Option (AV × List AO) := match v.frz2 0 h with
  | some r => some (r, [])
  | none => none
def lvs (h : List AO) (rs : Option (List AV)) : Option (AV × List AO) := match rs with
  | some rs => lvf h (pack rs)
  | none => none
def lv (rs : List CRes) (r : CRun) : Option (AV × List AO) := match r with
  | some (.normal, vars, h) | some (.ret, vars, h) => lvs h (rs.mapM (resOf vars h))
  | _ => none
theorem leave_lv {c : CFun} {r : CRun} : leave 0 c r = lv c.res r := by
  have key : ∀ (vars : List AV) (h : List AO), (match (c.res.mapM (resOf vars h)).bind fun rs => (pack rs).frz2 0 h with
      | some r => if 0 ≤ h.length ∧ (h.take 0).all (AO.below 0) = true then some (r, h.take 0) else none
      | none => none) = lvs h (c.res.mapM (resOf vars h)) := by
    intro vars h
    cases c.res.mapM (resOf vars h) with
    | none => rfl
    | some rs =>
      simp only [Option.bind_some, lvs, lvf]
      cases (pack rs).frz2 0 h with
      | none => rfl
      | some r => simp
  cases r with
  | none => rfl
  | some q =>
    obtain ⟨x, vars, h⟩ := q
    cases x with
    | normal => exact key _ _
    | ret => exact key _ _
    | exit id => rfl
theorem Q85 {vars : List AV} {rs : List CRes} : lv rs (some (.ret, vars, h)) = lvs h (rs.mapM (resOf vars h)) := rfl
theorem Q86 {vars : List AV} {rs : List CRes} : lv rs (some (.normal, vars, h)) = lvs h (rs.mapM (resOf vars h)) := rfl
theorem Q87 {vars : List AV} {i : Nat} : lvs h ([CRes.var i].mapM (resOf vars h)) = lvf h (getO vars [] (.var i)) := rfl
def lv2 (h : List AO) (a b : Option AV) : Option (AV × List AO) := match a, b with
  | some a, some b => lvf h (.tup [a, b])
  | _, _ => none
theorem Q88 {vars : List AV} {a b : CRes} : lvs h ([a, b].mapM (resOf vars h)) = lv2 h (resOf vars h a) (resOf vars h b) := by
  simp only [List.mapM_cons, List.mapM_nil, Option.pure_def, Option.bind_eq_bind]
  cases resOf vars h a <;> cases resOf vars h b <;> rfl
theorem Q89 {a b : AV} : lv2 h (some a) (some b) = lvf h (.tup [a, b]) := rfl
theorem Q90 {vars : List AV} {i : Nat} : resOf vars h (.var i) = some (getO vars [] (.var i)) := rfl
theorem Q91 {vars : List AV} {i : Nat} {a : Bool} {sz : Nat} : resOf vars h (.cell i a sz) = Q76 h a sz (getO vars [] (.var i)) := rfl
theorem Q92 {x : Value} : lvf h (.v x) = some (.v x, []) := rfl
theorem Q93 {sz : Nat} {ex nn : Bool} {l : List AV} : lvf h (.slc sz ex nn l) = some (.slc sz ex nn l, []) := rfl
theorem callW_pure {F : FuncId → Option FEntry} {f : FuncId} {c : CFun} (hf : F f = some (.code c)) {args : List AV} {r : AV × List AO} (hl : args.length = c.np) (k : Nat) (he : lv c.res (exec (callW F) k c.body (start c args) []) = some r) : callW F f args [] = some r :=
  callW_code hf hl k (by rw [← he]; exact leave_lv)
end
end Go.AE
end

/-! AE, part 32: loops as folds. -/
section
set_option linter.unusedVariables false
set_option linter.unusedSimpArgs false
namespace Go.AE
open Go Go.RowKit

/-! ### Objects of a caller's, and those made since -/
theorem own_get {h l : List AO} {k : Nat} : (h ++ l)[h.length + k]? = l[k]? := by
  rw [List.getElem?_append_right (by omega)]
  simp
theorem own_set {h l : List AO} {k : Nat} {x : AO} : (h ++ l).set (h.length + k) x = h ++ l.set k x := by
  rw [List.set_append_right _ _ (by omega)]
  simp
theorem his_get {h l : List AO} {id : Nat} {o : AO} (ho : h[id]? = some o) : (h ++ l)[id]? = some o := by
  rw [List.getElem?_append_left (List.getElem?_eq_some_iff.1 ho).1]; exact ho
end Go.AE
end

/-! AE, part 33: a function's own objects, behind those of its caller. -/
section
set_option linter.unusedVariables false
set_option linter.unusedSimpArgs false
namespace Go.AE
open Go Go.RowKit

def ldAt (l : List AO) (k : Nat) (a : Bool) (sz o : Nat) : Option AV := match l[k]? with
  | some (.box _ cs) => if o + sz ≤ cs.length then Q77 a ((cs.drop o).take sz) else none
  | _ => none
def stAt (l : List AO) (sz k o : Nat) (x : AV) : Option (List AO) := match l[k]? with
  | some (.box bt cs) => match x.cl with
    | some xs => if xs.length = sz ∧ o + sz ≤ cs.length then some (l.set k (.box bt (Q112 cs o xs))) else none
    | none => none
  | _ => none
def preH (H : List AO) : Option (List AO) → Option (List AO)
  | some l => some (H ++ l)
  | none => none
section
variable {H l : List AO} {B : Nat}
theorem preH_some : preH H (some l) = some (H ++ l) := rfl
theorem obj_get (hB : H.length = B) {k : Nat} : (H ++ l)[B + k]? = l[k]? := by subst hB; exact own_get
theorem obj_set (hB : H.length = B) {k : Nat} {x : AO} : (H ++ l).set (B + k) x = H ++ l.set k x := by subst hB; exact own_set
theorem own_ld (hB : H.length = B) {a : Bool} {sz k o : Nat} : Q76 (H ++ l) a sz (.ptr (B + k) o) = ldAt l k a sz o := by
  simp only [Q76, obj_get hB, ldAt]
  cases l[k]? with
  | none => rfl
  | some b => cases b <;> rfl
theorem own_ld0 (hB : H.length = B) {a : Bool} {sz o : Nat} : Q76 (H ++ l) a sz (.ptr B o) = ldAt l 0 a sz o := own_ld hB (k := 0)
theorem own_st (hB : H.length = B) {sz k o : Nat} {x : AV} : Q113 (H ++ l) sz (.ptr (B + k) o) x = preH H (stAt l sz k o x) := by
  simp only [Q113, obj_get hB, stAt]
  cases l[k]? with
  | none => rfl
  | some b =>
    cases b with
    | box bt cs =>
      simp only
      cases x.cl with
      | none => rfl
      | some xs => simp only [obj_set hB]; split <;> rfl
    | _ => rfl
theorem own_st0 (hB : H.length = B) {sz o : Nat} {x : AV} : Q113 (H ++ l) sz (.ptr B o) x = preH H (stAt l sz 0 o x) := own_st hB (k := 0)
theorem own_bx (hB : H.length = B) {bt : TypeId} {cs : List AV} : bx (H ++ l) bt (some cs) = some (.ptr (B + l.length) 0, H ++ (l ++ [.box bt cs])) := by
  simp only [bx, List.length_append, hB, List.append_assoc]
def lvo (B : Nat) (H l : List AO) (rs : Option (List AV)) : Option (AV × List AO) := match rs with
  | some rs => match (pack rs).frz2 B (H ++ l) with
    | some r => some (r, H)
    | none => none
  | none => none
theorem leave_own {c : CFun} {vars : List AV} (hB : H.length = B) (hb : H.all (AO.below B) = true) : leave B c (some (.ret, vars, H ++ l)) = lvo B H l (c.res.mapM (resOf vars (H ++ l))) := by
  subst hB
  simp only [leave, lvo]
  cases c.res.mapM (resOf vars (H ++ l)) with
  | none => rfl
  | some rs =>
    simp only [Option.bind_some]
    cases (pack rs).frz2 H.length (H ++ l) with
    | none => rfl
    | some r =>
      have : (H ++ l).take H.length = H := by simp
      simp only [this]
      rw [if_pos ⟨by simp, hb⟩]
theorem own_res1 {vars : List AV} {a : CRes} {x : AV} (h : resOf vars (H ++ l) a = some x) : [a].mapM (resOf vars (H ++ l)) = some [x] := by
  simp [h]
theorem lvo_one {x r : AV} (h : x.frz2 B (H ++ l) = some r) : lvo B H l (some [x]) = some (r, H) := by simp [lvo, pack, h]
theorem callW_own {F : FuncId → Option FEntry} {f : FuncId} {c : CFun} (hf : F f = some (.code c)) {args : List AV} {r : AV × List AO} (hl : args.length = c.np) (k : Nat) (he : leave H.length c (exec (callW F) k c.body (start c args) (H ++ [])) = some r) : callW F f args H = some r :=
  callW_code hf hl k (by rw [List.append_nil] at he; exact he)
theorem Q99 : (AV.v (.slice none 0 0)).cl = some [.v (.slice none 0 0)] := rfl
theorem Q100 {s : ByteArray} : (AV.v (.string s)).cl = some [.v (.string s)] := rfl
theorem Q101 {b : Bool} : (AV.v (.bool b)).cl = some [.v (.bool b)] := rfl
theorem Q102 {sz : Nat} {ex nn : Bool} {l : List AV} : (AV.slc sz ex nn l).cl = some [.slc sz ex nn l] := rfl
theorem Q103 {sz id ver off n : Nat} : (AV.own sz id ver off n).cl = some [.own sz id ver off n] := rfl
def mmH (h : List AO) (mx : Bool) : AV → AV → Option (AV × List AO)
  | .v (.int k a), .v (.int _ b) => some (.v (.int k (if mx then (if a < b then b else a) else (if b < a then b else a))), h)
  | _, _ => none
theorem Q96 {call : CallF} {vars env : List AV} {h : List AO} {mx : Bool} {x y : Opd} : evOp call vars env h (.mm mx x y) = mmH h mx (getO vars env x) (getO vars env y) := by
  simp only [evOp, mmH]
  rfl
theorem Q97 {h : List AO} {k k' : IntKind} {a b : Int} : mmH h true (.v (.int k a)) (.v (.int k' b)) = some (.v (.int k (max a b)), h) := by
  have e : (if a < b then b else a) = max a b := by rw [Int.max_def]; split <;> split <;> omega
  simp only [mmH, if_true, e]
theorem Q98 {h : List AO} {k k' : IntKind} {a b : Int} : mmH h false (.v (.int k a)) (.v (.int k' b)) = some (.v (.int k (min a b)), h) := by
  have e : (if b < a then b else a) = min a b := by rw [Int.min_def]; split <;> split <;> omega
  simp only [mmH, Bool.false_eq_true, if_false, e]
def lvo1 (h : List AO) : Option AV → Option (AV × List AO)
  | some v => lvf h v
  | none => none
theorem Q94 {h : List AO} {vars : List AV} {i sz : Nat} {a : Bool} : lvs h ([CRes.cell i a sz].mapM (resOf vars h)) = lvo1 h (Q76 h a sz (getO vars [] (.var i))) := by
  simp only [List.mapM_cons, List.mapM_nil, Option.pure_def, Option.bind_eq_bind, Q91]
  cases Q76 h a sz (getO vars [] (.var i)) <;> rfl
theorem Q95 {h : List AO} {v : AV} : lvo1 h (some v) = lvf h v := rfl
theorem e_callh {call : CallF} {vars env : List AV} {h : List AO} {f : FuncId} {args : List Opd} : evOp call vars env h (.call false f args) = call f (args.map (getO vars env)) h := rfl

theorem below0_mono {n m : Nat} (hle : n ≤ m) : ∀ x : AV, x.below0 n = true → x.below0 m = true := by
  intro x hx
  cases x with
  | fn f a b => cases a <;> cases b <;> simp_all [AV.below0]
  | _ => simp_all [AV.below0] <;> omega
theorem below1_mono {n m : Nat} (hle : n ≤ m) : ∀ x : AV, x.below1 n = true → x.below1 m = true := by
  intro x hx
  cases x with
  | fn f a b =>
    simp only [AV.below1, Bool.and_eq_true, List.all_eq_true] at hx ⊢
    exact ⟨fun y hy => below0_mono hle y (hx.1 y hy), fun y hy => below0_mono hle y (hx.2 y hy)⟩
  | _ => simp only [AV.below1] at hx ⊢; exact below0_mono hle _ hx
theorem below_mono {n m : Nat} (hle : n ≤ m) (o : AO) (h : o.below n = true) : o.below m = true := by
  cases o with
  | box bt cs => simp only [AO.below, List.all_eq_true] at h ⊢; exact fun y hy => below1_mono hle y (h y hy)
  | _ => rfl
theorem all_below_mono {n m : Nat} (hle : n ≤ m) {H : List AO} (h : H.all (AO.below n) = true) : H.all (AO.below m) = true := by
  simp only [List.all_eq_true] at h ⊢; exact fun y hy => below_mono hle y (h y hy)
end
end Go.AE
end

/-! AE, part 34: slices that are read, slices that are made. -/
section
set_option linter.unusedVariables false
set_option linter.unusedSimpArgs false
namespace Go.AE
open Go Go.RowKit

inductive Sl (sz : Nat) : AV → List AV → Prop
  | nil : Sl sz (.v (.slice none 0 0)) []
  | slc (ex nn : Bool) (es : List AV) : Sl sz (.slc sz ex nn es) es
section
variable {sz : Nat} {c : AV} {es : List AV} {h : List AO}
theorem Sl.len (s : Sl sz c es) (h : List AO) : evLen h .slice c = some es.length := by cases s <;> rfl
theorem Sl.ia (s : Sl sz c es) {i : Nat} {e : AV} (he : es[i]? = some e) (h : List AO) : iaV h sz c (some i) = some (.ip e.cells) := by
  cases s with
  | nil => simp at he
  | slc ex nn es => exact iaV_slc he
theorem Sl.snap (s : Sl sz c es) (h : List AO) : c.snap1 h = some c := by cases s <;> rfl
theorem Sl.snap0 (s : Sl sz c es) (h : List AO) : c.snap0 h = some c := by cases s <;> rfl
theorem Sl.elems (s : Sl sz c es) (h : List AO) : elemsOf h sz c = some es := by
  cases s with
  | nil => rfl
  | slc ex nn es => simp [elemsOf]
theorem Sl.frz (s : Sl sz c es) (B : Nat) (h : List AO) : c.frz0 B h = some c := by cases s <;> rfl
theorem Sl.bel (s : Sl sz c es) (B : Nat) : c.below0 B = true := by cases s <;> rfl
theorem Sl.cl (s : Sl sz c es) : c.cl = some [c] := by cases s <;> rfl
theorem Sl.lvf (s : Sl sz c es) (h : List AO) : lvf h c = some (c, []) := by cases s <;> rfl
end

inductive Acc (rt : TypeId) (sz : Nat) (h : List AO) : AV → List AV → Prop
  | nil : Acc rt sz h (.v (.slice none 0 0)) []
  | own (id ver k : Nat) (es : List AV) (hr : h[id]? = some (.row rt sz ver es k)) (hk : k ≤ es.length) (hne : es ≠ []) : Acc rt sz h (.own sz id ver 0 es.length) es
def Keeps (h h' : List AO) : Prop := h.length ≤ h'.length ∧ ∀ (j : Nat) (bt : TypeId) (cs : List AV), h[j]? = some (.box bt cs) → h'[j]? = some (.box bt cs)
section
variable {rt bt : TypeId} {sz : Nat} {h h' : List AO} {c : AV} {es : List AV}
theorem Keeps.refl (h : List AO) : Keeps h h := ⟨Nat.le_refl _, fun _ _ _ e => e⟩
theorem Keeps.trans {h'' : List AO} (a : Keeps h h') (b : Keeps h' h'') : Keeps h h'' := ⟨Nat.le_trans a.1 b.1, fun j bt cs e => b.2 j bt cs (a.2 j bt cs e)⟩
theorem Keeps.app (h : List AO) (x : AO) : Keeps h (h ++ [x]) := ⟨by simp, fun j bt cs e => his_get e⟩
theorem Acc.app (a : Acc rt sz h c es) (x : AO) : Acc rt sz (h ++ [x]) c es := by
  cases a with
  | nil => exact .nil
  | own id ver k es hr hk hne => exact .own id ver k es (his_get hr) hk hne
theorem Acc.len (a : Acc rt sz h c es) : evLen h .slice c = some es.length := by
  cases a with
  | nil => rfl
  | own id ver k es hr hk hne => simp [evLen, rowAt, hr]
theorem Acc.add (a : Acc rt sz h c es) {bytes : Nat} {x : AV} {ys : List AV} (hx : elemsOf h sz x = some ys) (hf : fits (es.length + ys.length) bytes = true) : ∃ c' h', evAppend h rt sz bytes c x = some (c', h') ∧ Acc rt sz h' c' (es ++ ys) ∧ Keeps h h' := by
  cases a with
  | nil =>
    by_cases hys : ys = []
    · subst hys
      exact ⟨_, _, by simp [evAppend, evAppendL, rowT, hx], .nil, .refl h⟩
    · refine ⟨.own sz h.length 0 0 ys.length, h ++ [.row rt sz 0 ys 0], by simp [evAppend, evAppendL, rowT, hx, hys, by simpa using hf], ?_, .app _ _⟩
      exact .own h.length 0 0 ys (by simp) (Nat.zero_le _) hys
  | own id ver k es hr hk hne =>
    by_cases hys : ys = []
    · subst hys
      refine ⟨.own sz id ver 0 es.length, h, by simp [evAppend, evAppendL, rowT, hx, rowAt, hr, hk], ?_, .refl h⟩
      rw [List.append_nil]
      exact .own id ver k es hr hk hne
    · have hlt : id < h.length := (List.getElem?_eq_some_iff.1 hr).1
      have := Acc.own (rt := rt) (sz := sz) (h := h.set id (.row rt sz (ver + 1) (es ++ ys) k)) id (ver + 1) k (es ++ ys) (by simp [hlt]) (by simp; omega) (by simp [hys])
      rw [List.length_append] at this
      refine ⟨_, h.set id (.row rt sz (ver + 1) (es ++ ys) k), ?_, this, by simp, ?_⟩
      · simp [evAppend, evAppendL, rowT, hx, rowAt, hr, hys, hf, hk]
      · intro j bt cs e
        by_cases hj : j = id
        · subst hj; rw [hr] at e; cases e
        · rw [List.getElem?_set_ne (Ne.symm hj)]; exact e
theorem Acc.frz0 (a : Acc rt sz h c es) : ∃ c', c.frz0 0 h = some c' ∧ Sl sz c' es := by
  cases a with
  | nil => exact ⟨_, rfl, .nil⟩
  | own id ver k es hr hk hne => exact ⟨.slc sz false false es, by simp [AV.frz0, rowAt, hr], .slc _ _ _⟩
theorem Acc.lvf (a : Acc rt sz h c es) : ∃ c', lvf h c = some (c', []) ∧ Sl sz c' es := by
  obtain ⟨c', h1, h2⟩ := a.frz0
  refine ⟨c', ?_, h2⟩
  cases a with
  | nil => simp only [AV.frz0] at h1; cases h1; rfl
  | own id ver k es hr hk hne => simp only [Go.AE.lvf, AV.frz2, AV.frz1, h1]
theorem Acc.cl (a : Acc rt sz h c es) : c.cl = some [c] := by cases a <;> rfl
theorem Acc.fix (a : Acc rt sz h c es) : Acc rt sz (raise1 h c) c es ∧ Keeps h (raise1 h c) ∧ ∃ c', c.snap1 (raise1 h c) = some c' ∧ Sl sz c' es := by
  cases a with
  | nil => exact ⟨.nil, .refl h, _, rfl, .nil⟩
  | own id ver k es hr hk hne =>
    have hlt : id < h.length := (List.getElem?_eq_some_iff.1 hr).1
    have e : raise1 h (.own sz id ver 0 es.length) = h.set id (.row rt sz ver es es.length) := by
      simp [raise1, raise0, raise, rowT, rowAt, hr, Nat.max_eq_right hk]
    rw [e]
    have hg : (h.set id (.row rt sz ver es es.length))[id]? = some (.row rt sz ver es es.length) := by simp [hlt]
    refine ⟨.own id ver es.length es hg (Nat.le_refl _) hne, ⟨by simp, ?_⟩, .slc sz false false es, by simp [AV.snap1, AV.snap0, rowAt, hg], .slc _ _ _⟩
    intro j bt cs ej
    by_cases hj : j = id
    · subst hj; rw [hr] at ej; cases ej
    · rw [List.getElem?_set_ne (Ne.symm hj)]; exact ej
theorem elems_one {ex nn : Bool} {x : AV} : elemsOf h sz (.slc sz ex nn [x]) = some [x] := by simp [elemsOf]

/-! ### Variables by what they hold -/
theorem bx_ld {id : Nat} {cs : List AV} (hb : h[id]? = some (.box bt cs)) {a : Bool} {n o : Nat} : Q76 h a n (.ptr id o) = if o + n ≤ cs.length then Q77 a ((cs.drop o).take n) else none := by
  simp only [Q76, hb]
theorem bx_st {id : Nat} {cs xs : List AV} {x : AV} (hb : h[id]? = some (.box bt cs)) (hx : x.cl = some xs) {n o : Nat} (h1 : xs.length = n) (h2 : o + n ≤ cs.length) : Q113 h n (.ptr id o) x = some (h.set id (.box bt (Q112 cs o xs))) := by
  simp only [Q113, hb, hx, h1, h2, and_self, if_true]

/-! ### Rows that are made whole -/
def mkS (h : List AO) (rt : TypeId) (sz bytes : Nat) (zero : List Value) (a b : AV) : Option (AV × List AO) := match a, b with
  | .v (.int .i64 n), .v (.int .i64 m) =>
    if 0 ≤ n ∧ n ≤ m ∧ m ≤ 9223372036854775807 ∧ bytes * m ≤ 281474976710656 then
      some (.own sz h.length 0 0 n.toNat, h ++ [.row rt sz 0 (List.replicate n.toNat (zeroEl zero)) 0])
    else none
  | _, _ => none
theorem e_mkslice {call : CallF} {vars env : List AV} {bytes : Nat} {zero : List Value} {l c : Opd} : evOp call vars env h (.mkslice rt sz bytes zero l c) = mkS h rt sz bytes zero (getO vars env l) (getO vars env c) := by
  simp only [evOp, mkS]
  rfl
theorem mkS_own {H l : List AO} {B : Nat} (hB : H.length = B) {bytes : Nat} {zero : List Value} {n : Nat} (h1 : (n : Int) ≤ 9223372036854775807) (h2 : (bytes : Int) * (n : Int) ≤ 281474976710656) : mkS (H ++ l) rt sz bytes zero (.v (.int .i64 n)) (.v (.int .i64 n)) = some (.own sz (B + l.length) 0 0 n, H ++ (l ++ [.row rt sz 0 (List.replicate n (zeroEl zero)) 0])) := by
  subst hB
  simp [mkS, h1, h2]
section
variable {H l : List AO} {B : Nat}
theorem own_row (hB : H.length = B) {k ver m : Nat} {L : List AV} {f : Nat} (hr : l[k]? = some (.row rt sz ver L f)) (hm : m ≤ L.length) : rowAt (H ++ l) sz (B + k) ver m = some (L, f) := by
  simp only [rowAt, obj_get hB, hr, and_self, true_and, hm, if_true]
theorem own_ia (hB : H.length = B) {k ver n i : Nat} {L : List AV} {f : Nat} (hr : l[k]? = some (.row rt sz ver L f)) (hm : n ≤ L.length) (hi : i < n) : iaV (H ++ l) sz (.own sz (B + k) ver 0 n) (some i) = some (.ep sz (B + k) ver i 0) := by
  have := own_row (m := n) hB hr hm
  simp only [iaV, hi, and_self, if_true, this, Option.map_some, Nat.zero_add]
theorem own_est (hB : H.length = B) {k ver i : Nat} {L : List AV} {el : List AV} (hr : l[k]? = some (.row rt sz ver L 0)) (he : L[i]? = some (.agg el)) (hel : el.length = sz) {x : AV} {xs : List AV} (hs : x.snap1 (H ++ l) = some x) (hx : x.cl = some xs) (hn : xs.length = sz) (hc : xs.all AV.isCell = true) :
    Q113 (H ++ l) sz (.ep sz (B + k) ver i 0) x = some (H ++ l.set k (.row rt sz ver (L.set i (.agg xs)) 0)) := by
  have hi : i < L.length := (List.getElem?_eq_some_iff.1 he).1
  have hp : ∀ (xs a b : List AV), a.length + xs.length = b.length → Q112 b a.length xs = b.take a.length ++ xs := by
    intro xs
    induction xs with
    | nil => intro a b hl; simp only [Q112, List.append_nil]; rw [List.take_of_length_le (by simp at hl; omega)]
    | cons x xs ih =>
      intro a b hl
      simp only [Q112]
      have := ih (b.take a.length ++ [x]) (b.set a.length x) (by simp at hl ⊢; omega)
      have e : (b.take a.length ++ [x]).length = a.length + 1 := by simp at hl ⊢; omega
      rw [e] at this
      rw [this]
      have hlt : a.length < b.length := by simp at hl; omega
      rw [List.take_add_one, List.getElem?_set_self hlt, List.take_set, List.set_eq_of_length_le (by simp; omega)]
      simp
  have := hp xs [] el (by simp; omega)
  simp only [List.length_nil, List.take_zero, List.nil_append] at this
  simp only [Q113, own_row hB hr hi, he, hs, Option.bind_some, hx, hn, hc, AV.cells, hel, Nat.zero_le, Nat.zero_add, Nat.le_refl, and_self, if_true, putEl, this, rowT, obj_get hB, hr, obj_set hB]
end
end
end Go.AE
end

/-! AE, part 29: what comes in, read. -/
section
set_option linter.unusedVariables false
set_option linter.unusedSimpArgs false
namespace Go.AE
open Go Go.RowKit

inductive WT (T : Tb) : TypeId → List AV → Prop
  | bool (t : TypeId) (i : TI) (b : Bool) (ht : T.ty t = some i) (hd : i.desc = .bool) : WT T t [.v (.bool b)]
  | int (t : TypeId) (i : TI) (k : IntKind) (n : Int) (ht : T.ty t = some i) (hd : i.desc = .int k) (hw : (Lit.int k n).wf = true) : WT T t [.v (.int k n)]
  | str (t : TypeId) (i : TI) (s : ByteArray) (ht : T.ty t = some i) (hd : i.desc = .string) (hs : s.size ≤ maxLen) : WT T t [.v (.string s)]
  | nil (t : TypeId) (i : TI) (e : TypeId) (ht : T.ty t = some i) (hd : i.desc = .slice e) : WT T t [.v (.slice none 0 0)]
  | slc (t : TypeId) (i : TI) (e : TypeId) (j : TI) (l : List AV) (ht : T.ty t = some i) (hd : i.desc = .slice e) (he : T.ty e = some j) (hl : l.length ≤ maxLen)
      (hel : ∀ el ∈ l, WT T e el.cells) (has : ∀ el ∈ l, Q77 j.agg el.cells = some el) : WT T t [.slc j.size false true l]
  | struct (t : TypeId) (i : TI) (fs : Array Field) (as : List (List AV)) (ht : T.ty t = some i) (hd : i.desc = .struct fs) (hlen : as.length = fs.size)
      (hf : ∀ (k : Nat) (f : Field) (a : List AV), fs[k]? = some f → as[k]? = some a → WT T f.type a) : WT T t as.flatten

def layB (T : Tb) (G : List TypeId) : Nat → List Field → Nat → Bool
  | off, [], total => off == total
  | off, f :: r, total => f.offset == off && G.contains f.type && (match T.ty f.type with
    | some j => layB T G (off + j.size) r total
    | none => false)
def goodB (T : Tb) (G : List TypeId) : Bool := G.all fun t => match T.ty t with
  | some i => (match i.desc with
    | .bool | .int _ | .string => i.size == 1
    | .slice e => i.size == 1 && G.contains e && (match T.ty e with
      | some j => decide (0 < j.size) && (j.agg || j.size == 1)
      | none => false)
    | .struct fs => layB T G 0 fs.toList i.size
    | _ => false)
  | none => false

theorem layB_le {T : Tb} {G : List TypeId} : ∀ {fs : List Field} {off total : Nat}, layB T G off fs total = true → off ≤ total := by
  intro fs
  induction fs with
  | nil => intro off total h; simp [layB] at h; omega
  | cons f r ih =>
    intro off total h
    simp only [layB, Bool.and_eq_true] at h
    obtain ⟨_, h⟩ := h
    split at h
    · have := ih h; omega
    · cases h

def AllCells (w : World) : Cells := fun b x => ∃ v, w.cell? ⟨b, x, none⟩ = some v

def CellOk (w : World) (a : AV) (v : Value) : Prop := v.oneCell' = true ∧ Rep (AllCells w) w [] a v

section
variable {H : Type} {enc : TypeId × Value → H} {P : Program} {w : World} {spare : Nat → Bool} {held : Bool} {T : Tb} {G : List TypeId}

theorem TIok.cellsOf {t : TypeId} {i : TI} (h : TIok P t i) : P.cellsOf t = i.size := by
  obtain ⟨inf, h1, h2, h3, h4⟩ := h.info
  simp [Program.cellsOf, h1, h2]

theorem cells_some {a : Addr} {n : Nat} {cs : List Value} (h : w.cells? 0 a n = some cs) : cs.length = n ∧ ∀ i, i < n → w.cell? (a.add i) = cs[i]? := (World.cells?_some h).2

theorem trod_rd (hT : TbOk P T) (hG : goodB T G = true) : ∀ (fuel : Nat) (t : TypeId) (cs : List Value) (x : DataW H × List MemPlace), t ∈ G → DataW.trod enc P w 0 spare held fuel t cs = some x →
    ∃ as, WT T t as ∧ as.length = cs.length ∧ (∃ i, T.ty t = some i ∧ as.length = i.size) ∧ ∀ (i : Nat) (a : AV), as[i]? = some a → CellOk w a (cs.getD i undef) := by
  intro fuel
  induction fuel with
  | zero => intro t cs x _ h; simp [DataW.trod] at h
  | succ fuel ih =>
    intro t cs x ht h
    have hg := List.all_eq_true.1 hG t ht
    split at hg
    · rename_i i hti
      have hok := hT _ _ hti
      split at hg
      · rename_i hd
        obtain ⟨b, rfl, _⟩ := DataW.trod_bool (hd ▸ hok.und) h
        refine ⟨_, .bool t i b hti hd, rfl, ⟨i, hti, by simpa using (beq_iff_eq.1 hg).symm⟩, fun k a hk => ?_⟩
        match k, hk with
        | 0, hk => cases hk; exact ⟨rfl, .v _ _⟩
      · rename_i k hd
        obtain ⟨n, rfl, _, hw⟩ := DataW.trod_int (hd ▸ hok.und) h
        refine ⟨_, .int t i k n hti hd hw, rfl, ⟨i, hti, by simpa using (beq_iff_eq.1 hg).symm⟩, fun k a hk => ?_⟩
        match k, hk with
        | 0, hk => cases hk; exact ⟨rfl, .v _ _⟩
      · rename_i hd
        obtain ⟨s, rfl, _, hs⟩ := DataW.trod_string (hd ▸ hok.und) h
        refine ⟨_, .str t i s hti hd hs, rfl, ⟨i, hti, by simpa using (beq_iff_eq.1 hg).symm⟩, fun k a hk => ?_⟩
        match k, hk with
        | 0, hk => cases hk; exact ⟨rfl, .v _ _⟩
      · rename_i e hd
        simp only [Bool.and_eq_true] at hg
        obtain ⟨⟨hsz, he⟩, hj⟩ := hg
        split at hj
        · rename_i j hej
          simp only [Bool.and_eq_true, decide_eq_true_eq] at hj
          obtain ⟨hj0, hj1⟩ := hj
          have hoke := hT _ _ hej
          rcases DataW.trod_slice (hd ▸ hok.und) h with ⟨rfl, _⟩ | ⟨a, len, cap, elems, rest, n, hn, rfl, _, _, hlc, hcm, hel, hat, _, _⟩
          · refine ⟨_, .nil t i e hti hd, rfl, ⟨i, hti, by simpa using (beq_iff_eq.1 hsz).symm⟩, fun k a hk => ?_⟩
            match k, hk with
            | 0, hk => cases hk; exact ⟨rfl, .v _ _⟩
          · cases hn
            rw [hoke.cellsOf] at hat
            -- each element
            have each : ∀ q, q < len → ∃ as, WT T e as ∧ as.length = j.size ∧ ∀ (i : Nat) (c : AV), as[i]? = some c → ∃ v, w.cell? (a.add (q * j.size + i)) = some v ∧ CellOk w c v := by
              intro q hq
              have hq' := hat q hq
              rw [List.getElem?_eq_getElem (by omega), Option.bind_eq_some_iff] at hq'
              obtain ⟨cs, hcs, htr⟩ := hq'
              obtain ⟨c1, c2⟩ := cells_some hcs
              obtain ⟨as, w1, w2, _, w3⟩ := ih e cs _ (List.contains_iff_mem.1 he) htr
              refine ⟨as, w1, by omega, fun i c hi => ?_⟩
              have hlt := (List.getElem?_eq_some_iff.1 hi).1
              refine ⟨cs.getD i undef, ?_, w3 i c hi⟩
              rw [← Addr.add_add, c2 i (by omega), List.getD_eq_getElem?_getD, List.getElem?_eq_getElem (by omega)]
              rfl
            -- all of them
            have all : ∀ m, m ≤ len → ∃ l : List AV, l.length = m ∧ ∀ q el, l[q]? = some el → WT T e el.cells ∧ Q77 j.agg el.cells = some el ∧ el.cells.length = j.size ∧
                ∀ (i : Nat) (c : AV), el.cells[i]? = some c → ∃ v, w.cell? (a.add (q * j.size + i)) = some v ∧ CellOk w c v := by
              intro m
              induction m with
              | zero => intro _; exact ⟨[], rfl, fun q el h => by simp at h⟩
              | succ m ihm =>
                intro hm
                obtain ⟨l, l1, l2⟩ := ihm (by omega)
                obtain ⟨as, a1, a2, a3⟩ := each m (by omega)
                have hel : ∃ el : AV, el.cells = as ∧ Q77 j.agg as = some el := by
                  cases hag : j.agg with
                  | true => exact ⟨.agg as, rfl, rfl⟩
                  | false =>
                    rw [hag] at hj1
                    simp at hj1
                    match as, a2, a1, a3 with
                    | [c], _, a1, a3 =>
                      refine ⟨c, ?_, rfl⟩
                      obtain ⟨v, _, h1, h2⟩ := a3 0 c rfl
                      cases h2 <;> first | rfl | (simp [Value.oneCell'] at h1)
                    | [], h, _, _ => simp at h; omega
                    | _ :: _ :: _, h, _, _ => simp at h; omega
                obtain ⟨el, e1, e2⟩ := hel
                refine ⟨l ++ [el], by simp [l1], fun q x hx => ?_⟩
                by_cases hq : q < l.length
                · rw [List.getElem?_append_left hq] at hx
                  exact l2 q x hx
                · have : q = m := by
                    have := (List.getElem?_eq_some_iff.1 hx).1
                    simp at this; omega
                  subst this
                  rw [List.getElem?_append_right (by omega), l1] at hx
                  simp at hx
                  subst hx
                  rw [e1]
                  exact ⟨a1, e2, a2, a3⟩
            obtain ⟨l, l1, l2⟩ := all len (Nat.le_refl _)
            refine ⟨[.slc j.size false true l], .slc t i e j l hti hd hej (by omega) (fun el hm => ?_) (fun el hm => ?_), rfl, ⟨i, hti, by simpa using (beq_iff_eq.1 hsz).symm⟩, fun k x hk => ?_⟩
            · obtain ⟨q, hq⟩ := List.getElem?_of_mem hm
              exact (l2 q el hq).1
            · obtain ⟨q, hq⟩ := List.getElem?_of_mem hm
              exact (l2 q el hq).2.1
            · match k, hk with
              | 0, hk =>
                cases hk
                refine ⟨rfl, ?_⟩
                show Rep (AllCells w) w [] (.slc j.size false true l) (.slice (some a) len cap)
                rw [← l1]
                have hspot : l ≠ [] → some a = some ⟨a.block, a.off, none⟩ := by
                  intro hne
                  have h0 : l[0]? = some (l[0]'(List.length_pos_iff.2 hne)) := List.getElem?_eq_getElem _
                  obtain ⟨_, _, p3, p4⟩ := l2 0 _ h0
                  obtain ⟨v, hv, _⟩ := p4 0 _ (List.getElem?_eq_getElem (by omega))
                  simp only [Nat.zero_mul, Nat.add_zero, Addr.add, if_true] at hv
                  cases a with
                  | mk ab ao asp =>
                    cases asp with
                    | none => rfl
                    | some s =>
                      simp only [World.cell?] at hv
                      split at hv <;> simp at hv
                have hadd : ∀ n, l ≠ [] → a.add n = ⟨a.block, a.off + n, none⟩ := by
                  intro n hne
                  have := hspot hne
                  simp only [Option.some.injEq] at this
                  rw [this, Addr.add_lit]
                have ne : ∀ {q : Nat} {el : AV}, l[q]? = some el → l ≠ [] := by rintro q el h rfl; simp at h
                have cellv : ∀ (q : Nat) (el : AV) (i : Nat) (c : AV), l[q]? = some el → el.cells[i]? = some c → ∃ v, w.cell? ⟨a.block, a.off + (q * j.size + i), none⟩ = some v ∧ CellOk w c v := by
                  intro q el i c hq hi
                  obtain ⟨_, _, _, p4⟩ := l2 q el hq
                  obtain ⟨v, hv, hc⟩ := p4 i c hi
                  rw [hadd _ (ne hq)] at hv
                  exact ⟨v, hv, hc⟩
                refine .slc [] j.size false true l (some a) cap a.block a.off (fun q i => (w.cell? ⟨a.block, a.off + (q * j.size + i), none⟩).getD undef) hspot (fun _ h => by cases h) (fun h => by cases h) (by omega) (fun h => by cases h)
                  (fun q el hq => (l2 q el hq).2.2.1) (fun q el i c hq hi => ?_) (fun q el i c hq hi => ?_) (fun q el i c hq hi => ?_) (fun q el i c hq hi => ?_)
                · obtain ⟨v, hv, _⟩ := cellv q el i c hq hi
                  rw [hv]; rfl
                · obtain ⟨v, hv, _⟩ := cellv q el i c hq hi
                  exact ⟨v, hv⟩
                · obtain ⟨v, hv, hc⟩ := cellv q el i c hq hi
                  rw [hv]; exact hc.1
                · obtain ⟨v, hv, hc⟩ := cellv q el i c hq hi
                  rw [hv]; exact hc.2
        · cases hj
      · rename_i fs hd
        obtain ⟨xs, n, hn, _, hcl, hxl, hxs⟩ := DataW.trod_struct (hd ▸ hok.und) h
        cases hn
        rw [hok.cellsOf] at hcl
        have key : ∀ (l : List Field) (off : Nat), layB T G off l i.size = true → (∀ f ∈ l, ∃ x, DataW.trod enc P w 0 spare held fuel f.type ((cs.drop f.offset).take (P.cellsOf f.type)) = some x) →
            ∃ ass : List (List AV), ass.length = l.length ∧ (∀ (k : Nat) (f : Field) (a : List AV), l[k]? = some f → ass[k]? = some a → WT T f.type a) ∧ off + ass.flatten.length = i.size ∧
              ∀ (k : Nat) (a : AV), ass.flatten[k]? = some a → CellOk w a (cs.getD (off + k) undef) := by
          intro l
          induction l with
          | nil =>
            intro off hl _
            simp [layB] at hl
            exact ⟨[], rfl, fun k f a h => by simp at h, by simpa using hl, fun k a h => by simp at h⟩
          | cons f l ihl =>
            intro off hl hx
            simp only [layB, Bool.and_eq_true, beq_iff_eq] at hl
            obtain ⟨⟨hoff, hfg⟩, hl⟩ := hl
            split at hl
            · rename_i j hfj
              obtain ⟨x, hx0⟩ := hx f (by simp)
              have hle := layB_le hl
              rw [(hT _ _ hfj).cellsOf, hoff] at hx0
              obtain ⟨as, a1, a2, _, a3⟩ := ih f.type _ x (List.contains_iff_mem.1 hfg) hx0
              have hal : as.length = j.size := by rw [a2]; simp; omega
              obtain ⟨ass, b1, b2, b3, b4⟩ := ihl (off + j.size) hl (fun g hg => hx g (by simp [hg]))
              refine ⟨as :: ass, by simp [b1], fun k g a hk ha => ?_, by rw [List.flatten_cons, List.length_append]; omega, fun k a hk => ?_⟩
              · cases k with
                | zero => simp at hk ha; subst hk; subst ha; exact a1
                | succ k => exact b2 k g a (by simpa using hk) (by simpa using ha)
              · rw [List.flatten_cons] at hk
                by_cases hlt : k < as.length
                · rw [List.getElem?_append_left hlt] at hk
                  have := a3 k a hk
                  rw [List.getD_eq_getElem?_getD, List.getElem?_take_of_lt (by omega), List.getElem?_drop, ← List.getD_eq_getElem?_getD] at this
                  exact this
                · rw [List.getElem?_append_right (by omega)] at hk
                  have := b4 _ a hk
                  rw [show off + j.size + (k - as.length) = off + k by omega] at this
                  exact this
            · cases hl
        obtain ⟨ass, b1, b2, b3, b4⟩ := key fs.toList 0 hg (fun f hf => by
          obtain ⟨k, hk⟩ := List.getElem?_of_mem hf
          have hk' : fs[k]? = some f := by simpa using hk
          have := hxs k f hk'
          have hlt := (Array.getElem?_eq_some_iff.1 hk').1
          rw [List.getElem?_eq_getElem (by omega)] at this
          exact ⟨_, this⟩)
        refine ⟨ass.flatten, .struct t i fs ass hti hd (by simpa using b1) (fun k f a hk ha => b2 k f a (by simpa using hk) ha), by omega, ⟨i, hti, by omega⟩, fun k a hk => ?_⟩
        simpa using b4 k a hk
      · cases hg
    · cases hg

theorem trod_arg (hT : TbOk P T) (hG : goodB T G = true) {t : TypeId} {i : TI} (ht : t ∈ G) (hti : T.ty t = some i) {r : Reach} {base : Nat} {v : Value} {d : DataW H} {ps : List MemPlace} (hval : Value.okWide P w r base t v)
    (h : DataW.Trod enc P w 0 spare held t v d ps) : ∃ a, WT T t a.cells ∧ Q77 i.agg a.cells = some a ∧ Rep (AllCells w) w [] a v := by
  obtain ⟨fuel, h⟩ := h
  obtain ⟨as, w1, w2, ⟨i', hi', w4⟩, w3⟩ := trod_rd hT hG fuel t _ _ ht h
  rw [hti] at hi'; cases hi'
  have hg := List.all_eq_true.1 hG t ht
  rw [hti] at hg
  simp only at hg
  cases hag : i.agg with
  | true =>
    have : ∃ fs, i.desc = .struct fs := by
      unfold TI.agg at hag
      split at hg <;> first | (rename_i hd; rw [hd] at hag; cases hag; done) | (rename_i _ hd; rw [hd] at hag; cases hag; done) | skip
      · rename_i fs hd; exact ⟨fs, hd⟩
      · cases hg
    obtain ⟨fs, hd⟩ := this
    obtain ⟨cs, rfl, hcs⟩ := WideShapes.okWide_struct (hd ▸ (hT _ _ hti).und) hval
    refine ⟨.agg as, w1, rfl, .agg [] as cs (by simpa [Value.cells] using w2.symm) (fun k c hk => ?_) (fun k c hk => ?_)⟩
    · have := (w3 k c hk).1
      simpa [Value.cells] using this
    · have := (w3 k c hk).2
      simpa [Value.cells] using this
  | false =>
    have hv : v.cells = #[v] := by
      split at hg
      · rename_i hd; obtain ⟨b, rfl⟩ := WideShapes.okWide_bool (hd ▸ (hT _ _ hti).und) hval; rfl
      · rename_i k hd; obtain ⟨n, rfl⟩ := WideShapes.okWide_int (hd ▸ (hT _ _ hti).und) hval; rfl
      · rename_i hd; obtain ⟨s, rfl⟩ := WideShapes.okWide_string (hd ▸ (hT _ _ hti).und) hval; rfl
      · rename_i e hd; obtain ⟨a, l, c, rfl⟩ := WideShapes.okWide_slice (hd ▸ (hT _ _ hti).und) hval; rfl
      · rename_i fs hd; unfold TI.agg at hag; rw [hd] at hag; cases hag
      · cases hg
    rw [hv] at w2 w3
    match as, w2, w1, w3 with
    | [c], _, w1, w3 =>
      obtain ⟨h1, h2⟩ := w3 0 c rfl
      have hc : c.cells = [c] := by
        cases c with
        | agg cs =>
          exfalso
          have e : (#[v].toList.getD 0 undef) = v := rfl
          rw [e] at h1 h2
          cases h2; simp [Value.oneCell'] at h1
        | _ => rfl
      exact ⟨c, by rw [hc]; exact w1, by rw [hc]; rfl, h2⟩
end
end Go.AE
end

/-! Terms and bindings as values of the evaluator (the same in each program here). -/
section
set_option linter.unusedVariables false
set_option linter.unusedSimpArgs false
namespace Go.AE
open Go

inductive Tm where
  | mk (k : Int) (s : ByteArray) (n : Int) (l : List Tm)
mutual
inductive IsT : AV → Tm → Prop
  | mk (k : Int) (s : ByteArray) (n : Int) (c : AV) (l : List Tm) (h : IsL c l) : IsT (.agg [.v (.int .i64 k), .v (.string s), .v (.int .i64 n), c]) (.mk k s n l)
inductive IsL : AV → List Tm → Prop
  | nil : IsL (.v (.slice none 0 0)) []
  | slc (ex nn : Bool) (es : List AV) (l : List Tm) (h : All2 es l) (hb : es.length ≤ maxLen) : IsL (.slc 4 ex nn es) l
inductive All2 : List AV → List Tm → Prop
  | nil : All2 [] []
  | cons (a : AV) (t : Tm) (es : List AV) (ts : List Tm) (h : IsT a t) (hs : All2 es ts) : All2 (a :: es) (t :: ts)
end
theorem All2.length : ∀ {es : List AV} {l : List Tm}, All2 es l → es.length = l.length
  | _, _, .nil => rfl
  | _, _, .cons _ _ _ _ _ hs => by simp [hs.length]
theorem All2.get : ∀ {es : List AV} {l : List Tm}, All2 es l → ∀ {i : Nat} {e : AV}, es[i]? = some e → ∃ t, l[i]? = some t ∧ IsT e t
  | _, _, .nil, i, e, h => by simp at h
  | _, _, .cons a t es ts h hs, i, e, he => by
    cases i with
    | zero => simp at he; subst he; exact ⟨t, rfl, h⟩
    | succ i => exact hs.get (by simpa using he)
mutual
def same : Tm → Tm → Bool
  | .mk k s n l, .mk k' s' n' l' => k == k' && s.toList == s'.toList && n == n' && l.length == l'.length && sameL l l'
def sameL : List Tm → List Tm → Bool
  | [], _ => true
  | _, [] => true
  | a :: l, b :: l' => same a b && sameL l l'
end
theorem IsT.snap {h : List AO} {a : AV} {t : Tm} (ht : IsT a t) : a.snap1 h = some a := by
  cases ht with
  | mk k s n c l hc => cases hc <;> rfl
theorem IsT.load {h : List AO} {a : AV} {t : Tm} (ht : IsT a t) : Q76 h true 4 (.ip a.cells) = some a := by
  cases ht with
  | mk k s n c l hc => rfl
theorem wrap_ok {n : Int} (h0 : 0 ≤ n) (h1 : n ≤ 9223372036854775807) : IntKind.i64.wrap n = n := IntWalk.i64_in (by omega) (by omega)
mutual
def fewT : Tm → Int → Int
  | .mk _ _ _ l, m => fewL l (IntKind.i64.wrap (m - 1))
def fewL : List Tm → Int → Int
  | [], m => m
  | a :: l, m => if m < 0 then m else fewL l (fewT a m)
end
theorem IsT.cl {a : AV} {t : Tm} (ht : IsT a t) : a.cl = some a.cells ∧ a.cells.length = 4 := by
  cases ht with
  | mk k s n c l hc => exact ⟨rfl, rfl⟩
theorem IsT.asEl {a : AV} {t : Tm} (ht : IsT a t) : Q77 true (a.cells.take 4) = some a := by
  cases ht with
  | mk k s n c l hc => rfl
theorem loop_cong {call : CallF} {K : Nat} {b : CC} {keep : List Bool} {m : Nat} {v1 v2 : List AV} {h : List AO} (e : clr keep v1 = clr keep v2) : loopN (exec call K b) keep (m + 1) v1 h = loopN (exec call K b) keep (m + 1) v2 h := by
  simp only [loopN, e]
theorem wrap_succ {i len : Nat} (h : i < len) (hm : len ≤ maxLen) : IntKind.i64.wrap ((i : Int) + 1) = ((i + 1 : Nat) : Int) := by
  rw [wrap_ok (by omega) (by have : maxLen = 9223372036854775807 := rfl; omega)]; simp
inductive IsBd : AV → Int → Tm → Prop
  | mk (v : Int) (cs : List AV) (t : Tm) (h : IsT (.agg cs) t) : IsBd (.agg (.v (.int .i64 v) :: cs)) v t
theorem IsBd.load {h : List AO} {a : AV} {v : Int} {t : Tm} (hb : IsBd a v t) : Q76 h true 5 (.ip a.cells) = some a := by
  cases hb with
  | mk v cs t h => cases h with | mk k s n c l hc => rfl
theorem IsBd.cl {a : AV} {v : Int} {t : Tm} (hb : IsBd a v t) : a.cl = some a.cells ∧ a.cells.length = 5 := by
  cases hb with
  | mk v cs t h => cases h with | mk k s n c l hc => exact ⟨rfl, rfl⟩
inductive AllB : List AV → List (Int × Tm) → Prop
  | nil : AllB [] []
  | cons (a : AV) (v : Int) (t : Tm) (es : List AV) (bs : List (Int × Tm)) (h : IsBd a v t) (hs : AllB es bs) : AllB (a :: es) ((v, t) :: bs)
theorem AllB.length : ∀ {es : List AV} {l : List (Int × Tm)}, AllB es l → es.length = l.length
  | _, _, .nil => rfl
  | _, _, .cons _ _ _ _ _ _ hs => by simp [hs.length]
inductive IsB : AV → List (Int × Tm) → Prop
  | nil : IsB (.v (.slice none 0 0)) []
  | slc (ex nn : Bool) (es : List AV) (l : List (Int × Tm)) (h : AllB es l) (hb : es.length ≤ maxLen) : IsB (.slc 5 ex nn es) l
theorem AllB.append : ∀ {es es' : List AV} {l l' : List (Int × Tm)}, AllB es l → AllB es' l' → AllB (es ++ es') (l ++ l')
  | _, _, _, _, .nil, h => h
  | _, _, _, _, .cons a v t es bs h hs, h' => .cons a v t _ _ h (hs.append h')
theorem AllB.reverse : ∀ {es : List AV} {l : List (Int × Tm)}, AllB es l → AllB es.reverse l.reverse
  | _, _, .nil => .nil
  | _, _, .cons a v t es bs h hs => by
    rw [List.reverse_cons, List.reverse_cons]
    exact hs.reverse.append (.cons a v t [] [] h .nil)
def zeroC : List AV := [.v (.int .i64 0), .v (.string ⟨#[]⟩), .v (.int .i64 0), .v (.slice none 0 0)]
theorem AllB.get : ∀ {es : List AV} {l : List (Int × Tm)}, AllB es l → ∀ {i : Nat} {e : AV}, es[i]? = some e → ∃ v t, l[i]? = some (v, t) ∧ IsBd e v t
  | _, _, .nil, i, e, h => by simp at h
  | _, _, .cons a v t es ts h hs, i, e, he => by
    cases i with
    | zero => simp at he; subst he; exact ⟨v, t, rfl, h⟩
    | succ i => exact hs.get (by simpa using he)
theorem q9z : (ofVal (.agg #[(.int .i64 0), (.string ⟨#[]⟩), (.int .i64 0), (.slice none 0 0)])).cl = some [.v (.int .i64 0), .v (.string ⟨#[]⟩), .v (.int .i64 0), .v (.slice none 0 0)] := by simp [ofVal, AV.cl, Value.oneCell']
theorem IsT.bel {a : AV} {t : Tm} (ht : IsT a t) : AO.below 0 (.box 0 a.cells) = true := by
  cases ht with
  | mk k s n c l hc => cases hc <;> rfl
theorem IsT.frz {a : AV} {t : Tm} (ht : IsT a t) (B : Nat) (h : List AO) : a.frz1 B h = some a := by
  cases ht with
  | mk k s n c l hc => cases hc <;> rfl
theorem lv1 {a : AV} {t : Tm} (ht : IsT a t) (h : List AO) : lvf h a = some (a, []) := by
  cases ht with
  | mk k s n c l hc => cases hc <;> rfl
mutual
def shiftT (by' : Int) : Tm → Tm
  | .mk k s n l => .mk k s (if k = 1 then IntKind.i64.wrap (n + by') else n) (shiftL by' l)
def shiftL (by' : Int) : List Tm → List Tm
  | [] => []
  | t :: l => shiftT by' t :: shiftL by' l
end
mutual
def size : Tm → Nat
  | .mk _ _ _ l => 1 + sizeL l
def sizeL : List Tm → Nat
  | [] => 0
  | t :: l => size t + sizeL l
end
theorem size_pos (t : Tm) : 1 ≤ size t := by cases t; simp only [size]; omega
theorem sizeL_len : ∀ l : List Tm, l.length ≤ sizeL l
  | [] => Nat.le_refl _
  | t :: l => by
    have := sizeL_len l
    have := size_pos t
    simp only [sizeL, List.length_cons]; omega
theorem size_mem : ∀ {l : List Tm} {t : Tm}, t ∈ l → size t ≤ sizeL l
  | u :: l, t, h => by
    simp only [sizeL]
    rcases List.mem_cons.1 h with rfl | h
    · omega
    · have := size_mem h; omega
theorem IsL.sl {c : AV} {l : List Tm} (h : IsL c l) : ∃ es, Sl 4 c es ∧ All2 es l ∧ es.length ≤ maxLen := by
  cases h with
  | nil => exact ⟨[], .nil, .nil, by simp⟩
  | slc ex nn es l h hb => exact ⟨es, .slc ex nn es, h, hb⟩
theorem Sl.isL {c : AV} {es : List AV} {l : List Tm} (h : Sl 4 c es) (ha : All2 es l) (hb : es.length ≤ maxLen) : IsL c l := by
  cases h with
  | nil => cases ha; exact .nil
  | slc ex nn es => exact .slc ex nn es l ha hb
theorem All2.app : ∀ {es es' : List AV} {l l' : List Tm}, All2 es l → All2 es' l' → All2 (es ++ es') (l ++ l')
  | _, _, _, _, .nil, h => h
  | _, _, _, _, .cons a t es ts h hs, h' => .cons a t _ _ h (hs.app h')
theorem All2.one {a : AV} {t : Tm} (h : IsT a t) : All2 [a] [t] := .cons a t [] [] h .nil
theorem small_max {n : Nat} (h : n ≤ 100000) : n ≤ maxLen := by have : maxLen = 9223372036854775807 := rfl; omega
theorem IsT.st {bt : TypeId} {e : AV} {t : Tm} (ht : IsT e t) (h : List AO) (cs : List AV) (hl : cs.length = 4) : Q113 (h ++ [.box bt cs]) 4 (.ptr h.length 0) e = some (h ++ [.box bt e.cells]) := st_new ht.cl.1 ht.cl.2 hl
theorem IsT.ld {bt : TypeId} {e : AV} {t : Tm} (ht : IsT e t) (h : List AO) : Q76 (h ++ [.box bt e.cells]) true 4 (.ptr h.length 0) = some e := by
  rw [ld_new, if_pos (by rw [ht.cl.2]; omega), List.drop_zero]; exact ht.asEl
end Go.AE
end

/-! slices.IndexFunc and slices.DeleteFunc of any kind of elements, walked. -/
section
set_option linter.unusedVariables false
set_option linter.unusedSimpArgs false
namespace Go.AE
open Go Go.RowKit

theorem putAt_take : ∀ (xs a b : List AV), a.length + xs.length = b.length → Q112 b a.length xs = b.take a.length ++ xs := by
  intro xs
  induction xs with
  | nil => intro a b hl; simp only [Q112, List.append_nil]; rw [List.take_of_length_le (by simp at hl; omega)]
  | cons x xs ih =>
    intro a b hl
    simp only [Q112]
    have := ih (b.take a.length ++ [x]) (b.set a.length x) (by simp at hl ⊢; omega)
    have e : (b.take a.length ++ [x]).length = a.length + 1 := by simp at hl ⊢; omega
    rw [e] at this
    rw [this]
    have hlt : a.length < b.length := by simp at hl; omega
    rw [List.take_add_one, List.getElem?_set_self hlt, List.take_set, List.set_eq_of_length_le (by simp; omega)]
    simp
theorem putAt_all {cs xs : List AV} (h : xs.length = cs.length) : Q112 cs 0 xs = xs := by
  have := putAt_take xs [] cs (by simpa using h)
  simpa using this
structure El (agg : Bool) (sz : Nat) (e : AV) : Prop where
  el : Q77 agg e.cells = some e
  len : e.cells.length = sz
  snap : ∀ h : List AO, e.snap1 h = some e
  cl : e.cl = some e.cells
  cell : e.cells.all AV.isCell = true
  bel : AO.below 0 (.box 0 e.cells) = true
theorem El.put {agg : Bool} {sz : Nat} {e x : AV} (he : El agg sz e) (hx : El agg sz x) : putEl e 0 x.cells = x := by
  have h1 := he.el
  have h2 := hx.el
  cases agg with
  | true =>
    rw [← (by simpa [Q77] using h1 : AV.agg e.cells = e)]
    simp only [putEl]
    rw [putAt_all (by rw [hx.len, he.len])]
    simpa [Q77] using h2
  | false =>
    unfold Q77 at h1 h2
    simp only [Bool.false_eq_true, if_false] at h1 h2
    split at h1
    · rename_i c hc
      cases h1
      split at h2
      · rename_i d hd
        cases h2
        rw [hd]
        cases e <;> first | rfl | (have := he.cell; rw [hc] at this; simp [AV.isCell] at this)
      · cases h2
    · cases h1

section
variable {rt : TypeId} {H : List AO} {sz id ver k n off : Nat} {l : List AV}
theorem row_at (hr : H[id]? = some (.row rt sz ver l k)) (hm : n ≤ l.length) : rowAt H sz id ver n = some (l, k) := by
  simp only [rowAt, hr, and_self, true_and, hm, if_true]
theorem row_len (hr : H[id]? = some (.row rt sz ver l k)) (hm : n ≤ l.length) : evLen H .slice (.own sz id ver 0 n) = some n := by
  simp only [evLen, Nat.zero_add, row_at hr hm, Option.map_some]
theorem row_ia (hr : H[id]? = some (.row rt sz ver l k)) (hm : n ≤ l.length) {i : Nat} (hi : i < n) : iaV H sz (.own sz id ver 0 n) (some i) = some (.ep sz id ver i 0) := by
  simp only [iaV, hi, and_self, if_true, Nat.zero_add, row_at hr hm, Option.map_some]
theorem row_ld {agg : Bool} (hr : H[id]? = some (.row rt sz ver l k)) {i : Nat} {e : AV} (he : l[i]? = some e) (h : El agg sz e) : Q76 H agg sz (.ep sz id ver i 0) = some e := by
  have hi := (List.getElem?_eq_some_iff.1 he).1
  simp only [Q76, row_at hr (show i + 1 ≤ l.length from hi), he, h.len, Nat.zero_add, Nat.le_refl, if_true, List.drop_zero]
  rw [List.take_of_length_le (by rw [h.len]; exact Nat.le_refl _)]
  exact h.el
theorem row_st {agg : Bool} (hr : H[id]? = some (.row rt sz ver l 0)) {i : Nat} {e x : AV} (he : l[i]? = some e) (h : El agg sz e) (hx : El agg sz x) : Q113 H sz (.ep sz id ver i 0) x = some (H.set id (.row rt sz ver (l.set i x) 0)) := by
  have hi := (List.getElem?_eq_some_iff.1 he).1
  have ht : rowT H id = rt := by simp only [rowT, hr]
  simp only [Q113, ht, row_at hr (show i + 1 ≤ l.length from hi), he, hx.snap, Option.bind_some, hx.cl, hx.len, h.len, hx.cell, Nat.zero_le, Nat.zero_add, Nat.le_refl, and_self, if_true, h.put hx]
end

structure Rd (H : List AO) (agg : Bool) (sz : Nat) (s : AV) (l : List AV) : Prop where
  len : evLen H .slice s = some l.length
  get : ∀ (i : Nat) (e : AV), l[i]? = some e → ∃ p, iaV H sz s (some i) = some p ∧ Q76 H agg sz p = some e
theorem Rd.own {rt : TypeId} {H : List AO} {agg : Bool} {sz id ver k : Nat} {l : List AV} (hr : H[id]? = some (.row rt sz ver l k)) (hel : ∀ e ∈ l, El agg sz e) : Rd H agg sz (.own sz id ver 0 l.length) l :=
  ⟨row_len hr (Nat.le_refl _), fun i e he => ⟨_, row_ia hr (Nat.le_refl _) (List.getElem?_eq_some_iff.1 he).1, row_ld hr he (hel e (List.mem_of_getElem? he))⟩⟩
theorem Rd.sl {H : List AO} {agg : Bool} {sz : Nat} {s : AV} {l : List AV} (hs : Sl sz s l) (hel : ∀ e ∈ l, El agg sz e) : Rd H agg sz s l :=
  ⟨hs.len H, fun i e he => ⟨_, hs.ia he H, by
    have h := hel e (List.mem_of_getElem? he)
    simp only [Q76, h.len, Nat.le_refl, if_true]
    rw [List.take_of_length_le (by rw [h.len]; exact Nat.le_refl _)]
    exact h.el⟩⟩

section
variable {F : FuncId → Option FEntry} {fi g : FuncId} {agg : Bool} {sz : Nat} {first cap : List AV} {p : AV → Bool} {H : List AO} {s : AV} {l : List AV}
def cv1 (call : CallF) (h : List AO) (f x : AV) : Option (AV × List AO) := match f with
  | .fn (.func g) first cap => call g (first ++ [x] ++ cap) h
  | _ => none
theorem Q117 {call : CallF} {vars env : List AV} {h : List AO} {x y : Opd} : evOp call vars env h (.callv x [y]) = cv1 call h (getO vars env x) (getO vars env y) := by
  rfl
theorem Q118 {call : CallF} {h : List AO} {x : AV} : cv1 call h (.fn (.func g) first cap) x = call g (first ++ [x] ++ cap) h := rfl

/-! ### Slices of slices -/
def slo (d : Nat) : Option (Option Nat) → Option Nat
  | none => some d
  | some r => r
def slV (h : List AO) (sz : Nat) (lo hi : Option (Option Nat)) : AV → Option AV
  | .v (.slice none 0 0) => match slo 0 hi, slo 0 lo with
    | some h, some l => if l ≤ h ∧ h ≤ 0 then some (.v (.slice none 0 0)) else none
    | _, _ => none
  | .slc sz' ex nn xs => if sz' = sz then match slo xs.length hi, slo 0 lo with
      | some h, some l => if l ≤ h ∧ h ≤ xs.length then some (.slc sz (ex && h == xs.length) nn ((xs.drop l).take (h - l))) else none
      | _, _ => none
    else none
  | .own sz' id ver off n => if sz' = sz then match slo n hi, slo 0 lo with
      | some h', some l => if l ≤ h' ∧ h' ≤ n then some (.own sz id ver (off + l) (h' - l)) else none
      | _, _ => none
    else none
  | _ => none
theorem slo_opt {vars env : List AV} {d : Nat} {x : Option Opd} : optN vars env d x = slo d (x.map (natO vars env)) := by cases x <;> rfl
theorem Q119 {call : CallF} {vars env : List AV} {h : List AO} {sz : Nat} {x : Opd} {lo hi : Option Opd} : evOp call vars env h (.slice sz x lo hi none) = withH h (slV h sz (lo.map (natO vars env)) (hi.map (natO vars env)) (getO vars env x)) := by
  simp only [evOp, map_withH]
  congr 1
  generalize getO vars env x = y
  cases y with
  | v x =>
    cases x with
    | slice a n c =>
      cases a with
      | some a => rfl
      | none =>
        cases n with
        | succ n => rfl
        | zero =>
          cases c with
          | succ c => rfl
          | zero =>
            simp only [evSlice, slV, bounds, slo_opt]
            cases slo 0 (hi.map (natO vars env)) <;> cases slo 0 (lo.map (natO vars env)) <;> simp
            split <;> simp
    | _ => rfl
  | slc sz' ex nn xs =>
    simp only [evSlice, slV, bounds, slo_opt]
    by_cases hs : sz' = sz
    · rw [if_pos hs, if_pos hs]
      cases slo xs.length (hi.map (natO vars env)) <;> cases slo 0 (lo.map (natO vars env)) <;> simp
      split <;> simp
    · rw [if_neg hs, if_neg hs]
  | own sz' id ver off n =>
    simp only [evSlice, slV, bounds, slo_opt]
    by_cases hs : sz' = sz
    · rw [if_pos hs, if_pos hs]
      cases slo n (hi.map (natO vars env)) <;> cases slo 0 (lo.map (natO vars env)) <;> first | rfl | skip
      rename_i a b
      simp only
      by_cases hc : b ≤ a ∧ a ≤ n
      · simp only [hc, and_self, if_true]; rfl
      · simp only [if_neg hc]; rfl
    · rw [if_neg hs, if_neg hs]
  | _ => rfl
theorem Q120 {call : CallF} {vars env : List AV} {h : List AO} {sz : Nat} {zero : List Value} {x : Opd} : evOp call vars env h (.clrrow sz zero x) = stH (evClr h sz zero (getO vars env x)) := by
  simp only [evOp]; cases evClr h sz zero (getO vars env x) <;> rfl

/-! ### DeleteFunc -/
section
variable {bt rt : TypeId} {f : FuncId} {id ver : Nat} {L : List AV} {zero : List Value} {G : List AO}
def kept (p : AV → Bool) (l : List AV) (j : Nat) : List AV := (l.take j).filter (fun x => !p x)
theorem Q121 {call : CallF} {vars env : List AV} {h : List AO} {f : FuncId} {x y : Opd} : evOp call vars env h (.call false f [x, y]) = call f [getO vars env x, getO vars env y] h := rfl
end
end
end Go.AE
end

/-! Loops by what stays. -/
section
set_option linter.unusedVariables false
set_option linter.unusedSimpArgs false
namespace Go.AE
open Go

def Aft (n i : Nat) (keep : List Bool) (I : Nat → List AV → List AO → Prop) (Post : AXit → List AV → List AO → Prop) : AXit → List AV → List AO → Prop
  | .normal, v, h => i < n ∧ I (i + 1) (clr keep v) h
  | x, v, h => Post x v h
theorem loop_rule {call : CallF} {K : Nat} {b : CC} {keep : List Bool} (I : Nat → List AV → List AO → Prop) (Post : AXit → List AV → List AO → Prop) (n : Nat)
    (hs : ∀ (i : Nat) (v : List AV) (h : List AO), i ≤ n → I i v h → ∃ x v' h', exec call K b v h = some (x, v', h') ∧ Aft n i keep I Post x v' h') :
    ∀ (d i m : Nat) (v : List AV) (h : List AO), i + d = n → d < m → I i (clr keep v) h → ∃ x v' h', loopN (exec call K b) keep m v h = some (x, v', h') ∧ x ≠ .normal ∧ Post x v' h' := by
  intro d
  induction d with
  | zero =>
    intro i m v h hi hm hI
    obtain ⟨m, rfl⟩ : ∃ k, m = k + 1 := ⟨m - 1, by omega⟩
    obtain ⟨x, v', h', h1, h2⟩ := hs i _ h (by omega) hI
    cases x with
    | normal => exact absurd h2.1 (by omega)
    | exit id => exact ⟨_, _, _, loop_exit h1, by simp, h2⟩
    | ret => exact ⟨_, _, _, loop_ret h1, by simp, h2⟩
  | succ d ih =>
    intro i m v h hi hm hI
    obtain ⟨m, rfl⟩ : ∃ k, m = k + 1 := ⟨m - 1, by omega⟩
    obtain ⟨x, v', h', h1, h2⟩ := hs i _ h (by omega) hI
    cases x with
    | normal =>
      obtain ⟨x, v2, h2', h3, h4, h5⟩ := ih (i + 1) m v' h' (by omega) (by omega) h2.2
      exact ⟨x, v2, h2', by rw [loop_normal h1]; exact h3, h4, h5⟩
    | exit id => exact ⟨_, _, _, loop_exit h1, by simp, h2⟩
    | ret => exact ⟨_, _, _, loop_ret h1, by simp, h2⟩
theorem loop_rule0 {call : CallF} {K : Nat} {b : CC} {keep : List Bool} (I : Nat → List AV → List AO → Prop) (Post : AXit → List AV → List AO → Prop) (n : Nat) {m : Nat} {v : List AV} {h : List AO}
    (hm : n < m) (h0 : I 0 (clr keep v) h) (hs : ∀ (i : Nat) (v : List AV) (h : List AO), i ≤ n → I i v h → ∃ x v' h', exec call K b v h = some (x, v', h') ∧ Aft n i keep I Post x v' h') :
    ∃ x v' h', loopN (exec call K b) keep m v h = some (x, v', h') ∧ x ≠ .normal ∧ Post x v' h' := loop_rule I Post n hs n 0 m v h (by omega) hm h0
theorem Q123 {cs : List AV} : (AV.agg cs).cells = cs := rfl
theorem e_mkfn {call : CallF} {vars env : List AV} {h : List AO} {f : Fn} {first cap : List Opd} : evOp call vars env h (.mkfn f first cap) = some (.fn f (first.map (getO vars env)) (cap.map (getO vars env)), h) := rfl
theorem Q122 {w : Bool} {y n : Option St} : pick1 (.v undef) w y n = n := rfl
def cf (call : CallF) (f : FuncId) (h : List AO) (xs : List AV) : Option (AV × List AO) := match xs.mapM (AV.snap1 (xs.foldl raise1 h)) with
  | some vs => match call f vs [] with
    | some (r, []) => some (r, xs.foldl raise1 h)
    | _ => none
  | none => none
theorem e_callf {call : CallF} {vars env : List AV} {h : List AO} {f : FuncId} {args : List Opd} : evOp call vars env h (.callf f args) = cf call f h (args.map (getO vars env)) := rfl
theorem cf_of {call : CallF} {f : FuncId} {h h' : List AO} {xs vs : List AV} {r : AV} (hr : xs.foldl raise1 h = h') (hs : xs.mapM (AV.snap1 h') = some vs) (hc : call f vs [] = some (r, [])) : cf call f h xs = some (r, h') := by
  simp only [cf, hr, hs, hc]
theorem lt_t {i n : Nat} (h : i < n) : decide ((i : Int) < (n : Int)) = true := by simp; omega
theorem lt_f {n : Nat} : decide ((n : Int) < (n : Int)) = false := by simp
/-! ### Two that are being made beside one another -/
def Oth (sz : Nat) (h h' : List AO) : Prop := h.length ≤ h'.length ∧ ∀ (j : Nat) (x : AO), h[j]? = some x → (∀ t v L k, x ≠ .row t sz v L k) → h'[j]? = some x
section
variable {rt bt : TypeId} {sz sz' : Nat} {h h' : List AO} {c : AV} {es : List AV}
theorem Oth.refl (h : List AO) : Oth sz h h := ⟨Nat.le_refl _, fun _ _ e _ => e⟩
theorem Oth.trans {h'' : List AO} (a : Oth sz h h') (b : Oth sz h' h'') : Oth sz h h'' := ⟨Nat.le_trans a.1 b.1, fun j x e n => b.2 j x (a.2 j x e n) n⟩
theorem Oth.app (h : List AO) (x : AO) : Oth sz h (h ++ [x]) := ⟨by simp, fun j cs e _ => his_get e⟩
theorem Oth.set {id v k : Nat} {L : List AV} {y : AO} (hr : h[id]? = some (.row rt sz v L k)) : Oth sz h (h.set id y) := by
  refine ⟨by simp, fun j x e n => ?_⟩
  by_cases hj : j = id
  · subst hj; rw [hr] at e; cases e; exact absurd rfl (n _ _ _ _)
  · rw [List.getElem?_set_ne (Ne.symm hj)]; exact e
theorem Oth.box (a : Oth sz h h') {j : Nat} {cs : List AV} (e : h[j]? = some (.box bt cs)) : h'[j]? = some (.box bt cs) := a.2 j _ e (by simp)
inductive Fxd (rt : TypeId) (sz : Nat) (h : List AO) : AV → List AV → Prop
  | nil : Fxd rt sz h (.v (.slice none 0 0)) []
  | own (id ver : Nat) (es : List AV) (hr : h[id]? = some (.row rt sz ver es es.length)) (hne : es ≠ []) : Fxd rt sz h (.own sz id ver 0 es.length) es
theorem Fxd.acc (a : Fxd rt sz h c es) : Acc rt sz h c es := by
  cases a with
  | nil => exact .nil
  | own id ver es hr hne => exact .own id ver _ es hr (Nat.le_refl _) hne
theorem Fxd.snap (a : Fxd rt sz h c es) : ∃ c', c.snap1 h = some c' ∧ Sl sz c' es := by
  cases a with
  | nil => exact ⟨_, rfl, .nil⟩
  | own id ver es hr hne => exact ⟨.slc sz false false es, by simp [AV.snap1, AV.snap0, rowAt, hr], .slc _ _ _⟩
end
end Go.AE
end

/-! What comes in, by its type (the same in each program here). -/
section
set_option linter.unusedVariables false
set_option linter.unusedSimpArgs false
namespace Go.AE
open Go
section
variable {T : Tb} {t : TypeId} {i : TI} {cs : List AV}
theorem wt_int_of {k : IntKind} (h : T.ty t = some i) (hd : i.desc = .int k) (w : WT T t cs) : ∃ n : Int, cs = [.v (.int k n)] ∧ (Lit.int k n).wf = true := by
  cases w with
  | bool _ i' b h' hd' => rw [h] at h'; cases h'; rw [hd] at hd'; cases hd'
  | int _ i' k' n h' hd' hw => rw [h] at h'; cases h'; rw [hd] at hd'; cases hd'; exact ⟨n, rfl, hw⟩
  | str _ i' s h' hd' hs => rw [h] at h'; cases h'; rw [hd] at hd'; cases hd'
  | nil _ i' e h' hd' => rw [h] at h'; cases h'; rw [hd] at hd'; cases hd'
  | slc _ i' e j l h' hd' he hl hel has => rw [h] at h'; cases h'; rw [hd] at hd'; cases hd'
  | struct _ i' fs pts h' hd' hlen hf => rw [h] at h'; cases h'; rw [hd] at hd'; cases hd'
theorem wt_str_of (h : T.ty t = some i) (hd : i.desc = .string) (w : WT T t cs) : ∃ s : ByteArray, cs = [.v (.string s)] ∧ s.size ≤ maxLen := by
  cases w with
  | bool _ i' b h' hd' => rw [h] at h'; cases h'; rw [hd] at hd'; cases hd'
  | int _ i' k' n h' hd' hw => rw [h] at h'; cases h'; rw [hd] at hd'; cases hd'
  | str _ i' s h' hd' hs => exact ⟨s, rfl, hs⟩
  | nil _ i' e h' hd' => rw [h] at h'; cases h'; rw [hd] at hd'; cases hd'
  | slc _ i' e j l h' hd' he hl hel has => rw [h] at h'; cases h'; rw [hd] at hd'; cases hd'
  | struct _ i' fs pts h' hd' hlen hf => rw [h] at h'; cases h'; rw [hd] at hd'; cases hd'
theorem one_cell {a c : AV} (h : Q77 false a.cells = some a) (hc : a.cells = [c]) : a = c := by
  rw [hc] at h
  simpa [Q77] using h.symm
theorem agg_cells {a : AV} (h : Q77 true a.cells = some a) : a = .agg a.cells := by
  simp only [Q77, if_true, Option.some.injEq] at h
  exact h.symm
end

structure TmTy (T : Tb) (tI tS tN tT tL : TypeId) : Prop where
  i : ∃ x, T.ty tI = some x ∧ x.desc = .int .i64
  s : ∃ x, T.ty tS = some x ∧ x.desc = .string
  n : ∃ x, T.ty tN = some x ∧ x.desc = .int .i64
  t : ∃ x f0 f1 f2 f3, T.ty tT = some x ∧ x.desc = .struct #[f0, f1, f2, f3] ∧ f0.type = tI ∧ f1.type = tS ∧ f2.type = tN ∧ f3.type = tL ∧ x.size = 4 ∧ x.agg = true
  l : ∃ x, T.ty tL = some x ∧ x.desc = .slice tT
section
variable {T : Tb} {tI tS tN tT tL : TypeId}
theorem all2_of : ∀ {l : List AV}, (∀ el ∈ l, ∃ t, IsT el t) → ∃ ts, All2 l ts
  | [], _ => ⟨[], .nil⟩
  | a :: l, h => by
    obtain ⟨t, ht⟩ := h a (by simp)
    obtain ⟨ts, hts⟩ := all2_of (l := l) (fun el hm => h el (by simp [hm]))
    exact ⟨t :: ts, .cons a t l ts ht hts⟩
theorem TmTy.good (h : TmTy T tI tS tN tT tL) : ∀ {t : TypeId} {cs : List AV}, WT T t cs → (t = tT → ∃ x, IsT (.agg cs) x) ∧ (t = tL → ∃ c l, cs = [c] ∧ IsL c l) := by
  obtain ⟨xt, f0, f1, f2, f3, ht1, ht2, e0, e1, e2, e3, hsz, hag⟩ := h.t
  obtain ⟨xl, hl1, hl2⟩ := h.l
  obtain ⟨xi, hi1, hi2⟩ := h.i
  obtain ⟨xs, hs1, hs2⟩ := h.s
  obtain ⟨xn, hn1, hn2⟩ := h.n
  intro t cs w
  induction w with
  | bool t i b ht hd => exact ⟨(by rintro rfl; rw [ht1] at ht; cases ht; rw [ht2] at hd; cases hd), (by rintro rfl; rw [hl1] at ht; cases ht; rw [hl2] at hd; cases hd)⟩
  | int t i k n ht hd hw => exact ⟨(by rintro rfl; rw [ht1] at ht; cases ht; rw [ht2] at hd; cases hd), (by rintro rfl; rw [hl1] at ht; cases ht; rw [hl2] at hd; cases hd)⟩
  | str t i s ht hd hs => exact ⟨(by rintro rfl; rw [ht1] at ht; cases ht; rw [ht2] at hd; cases hd), (by rintro rfl; rw [hl1] at ht; cases ht; rw [hl2] at hd; cases hd)⟩
  | nil t i e ht hd => exact ⟨(by rintro rfl; rw [ht1] at ht; cases ht; rw [ht2] at hd; cases hd), fun _ => ⟨_, [], rfl, .nil⟩⟩
  | slc t i e j l ht hd he hl hel has ih =>
    refine ⟨(by rintro rfl; rw [ht1] at ht; cases ht; rw [ht2] at hd; cases hd), ?_⟩
    rintro rfl
    rw [hl1] at ht; cases ht; rw [hl2] at hd; cases hd
    rw [ht1] at he; cases he
    obtain ⟨ts, hts⟩ := all2_of (l := l) (fun el hm => by
      obtain ⟨x, hx⟩ := (ih el hm).1 rfl
      have := has el hm
      rw [hag] at this
      rw [← agg_cells this] at hx
      exact ⟨x, hx⟩)
    rw [hsz]
    exact ⟨_, ts, rfl, .slc _ _ _ _ hts hl⟩
  | struct t i fs pts ht hd hlen hf ih =>
    refine ⟨?_, (by rintro rfl; rw [hl1] at ht; cases ht; rw [hl2] at hd; cases hd)⟩
    rintro rfl
    rw [ht1] at ht; cases ht; rw [ht2] at hd; cases hd
    match pts, hlen, hf, ih with
    | [a, b, c, d], _, hf, ih =>
      have w0 := hf 0 f0 a rfl rfl
      have w1 := hf 1 f1 b rfl rfl
      have w2 := hf 2 f2 c rfl rfl
      have w3 := (ih 3 f3 d rfl rfl).2 e3
      rw [e0] at w0; rw [e1] at w1; rw [e2] at w2
      obtain ⟨k, rfl, _⟩ := wt_int_of hi1 hi2 w0
      obtain ⟨s, rfl, _⟩ := wt_str_of hs1 hs2 w1
      obtain ⟨n, rfl, _⟩ := wt_int_of hn1 hn2 w2
      obtain ⟨x, l, rfl, hx⟩ := w3
      exact ⟨_, .mk k s n x l hx⟩
theorem TmTy.term (h : TmTy T tI tS tN tT tL) {cs : List AV} (w : WT T tT cs) : ∃ x, IsT (.agg cs) x := (h.good w).1 rfl
end
end Go.AE
end

/-! Terms as elements of slices: what a round's copy of one gives. -/
section
set_option linter.unusedVariables false
set_option linter.unusedSimpArgs false
namespace Go.AE
open Go
theorem IsT.facts {e : AV} {t : Tm} (ht : IsT e t) : (∀ h : List AO, Q76 h true 4 (.ip e.cells) = some e) ∧ (∀ h : List AO, e.snap1 h = some e) ∧
    (∀ (h : List AO) (bt : TypeId) (a b c d : AV), Q113 (h ++ [.box bt [a, b, c, d]]) 4 (.ptr h.length 0) e = some (h ++ [.box bt e.cells])) ∧
    (∀ (h : List AO) (bt : TypeId), Q76 (h ++ [.box bt e.cells]) true 4 (.ptr h.length 0) = some e) ∧ e.cl = some e.cells :=
  ⟨fun h => ht.load, fun h => ht.snap, fun h bt a b c d => ht.st h _ rfl, fun h bt => ht.ld h, ht.cl.1⟩
theorem snap_int (h : List AO) (k : IntKind) (x : Int) : (AV.v (.int k x)).snap1 h = some (.v (.int k x)) := rfl
theorem All2.at : ∀ {es : List AV} {l : List Tm}, All2 es l → ∀ {i : Nat} (h : i < es.length) (h' : i < l.length), IsT es[i] l[i]
  | _, _, .cons a t es ts h hs, 0, _, _ => h
  | _, _, .cons a t es ts h hs, i + 1, h1, h2 => hs.at (i := i) (by simpa using h1) (by simpa using h2)
theorem IsL.mem_size {l : List Tm} {k n : Int} {s : ByteArray} {t : Tm} (h : t ∈ l) : SizeOf.sizeOf t < SizeOf.sizeOf (Tm.mk k s n l) := by
  have h1 := List.sizeOf_lt_of_mem h
  have h2 := Tm.mk.sizeOf_spec k s n l
  omega
end Go.AE
end

/-! A term read back from its value in the evaluator. -/
section
set_option linter.unusedVariables false
set_option linter.unusedSimpArgs false
namespace Go.AE
open Go

def toT : Nat → AV → Option Tm
  | 0, _ => none
  | N + 1, .agg [.v (.int .i64 k), .v (.string s), .v (.int .i64 n), c] =>
    if IntKind.i64.wrap n = n then match c with
      | .v (.slice none 0 0) => some (.mk k s n [])
      | .slc 4 _ _ es => if es.length ≤ 1000000 then (es.mapM (toT N)).map (.mk k s n) else none
      | _ => none
    else none
  | _, _ => none
mutual
def okT : Tm → Prop
  | .mk _ _ n l => IntKind.i64.wrap n = n ∧ l.length ≤ 1000000 ∧ okL l
def okL : List Tm → Prop
  | [] => True
  | t :: l => okT t ∧ okL l
end
theorem okL_get : ∀ {l : List Tm}, okL l → ∀ {i : Nat} (hi : i < l.length), okT l[i]
  | [], _, i, hi => by simp at hi
  | t :: l, h, i, hi => by
    rw [okL] at h
    cases i with
    | zero => exact h.1
    | succ i => exact okL_get h.2 (i := i) (by simpa using hi)
theorem mapM_all2 {f : AV → Option Tm} : ∀ {es : List AV} {ts : List Tm}, es.mapM f = some ts → (∀ e t, e ∈ es → f e = some t → IsT e t ∧ okT t) → All2 es ts ∧ okL ts
  | [], ts, h, _ => by
    simp at h; subst h
    exact ⟨.nil, by rw [okL]; trivial⟩
  | e :: es, ts, h, hf => by
    rw [List.mapM_cons] at h
    obtain ⟨t, ht, h⟩ := Option.bind_eq_some_iff.1 h
    obtain ⟨r, hr, h⟩ := Option.bind_eq_some_iff.1 h
    cases h
    obtain ⟨h1, h2⟩ := mapM_all2 hr (fun e t he => hf e t (by simp [he]))
    obtain ⟨h3, h4⟩ := hf e t (by simp) ht
    exact ⟨.cons _ _ _ _ h3 h1, by rw [okL]; exact ⟨h4, h2⟩⟩
theorem toT_is : ∀ (N : Nat) (a : AV) (t : Tm), toT N a = some t → IsT a t ∧ okT t := by
  intro N
  induction N with
  | zero => intro a t h; simp [toT] at h
  | succ N ih =>
    intro a t h
    unfold toT at h
    split at h
    · rename_i he; cases he
    · rename_i M k s n c he
      obtain rfl : N = M := by omega
      split at h
      · rename_i hw
        split at h
        · cases h
          exact ⟨.mk _ _ _ _ _ .nil, by rw [okT, okL]; exact ⟨hw, by simp, trivial⟩⟩
        · rename_i es
          split at h
          · rename_i hlen
            obtain ⟨ts, h1, rfl⟩ := Option.map_eq_some_iff.1 h
            obtain ⟨g1, g2⟩ := mapM_all2 h1 (fun e t _ he => ih e t he)
            have hl := g1.length
            refine ⟨.mk _ _ _ _ _ (.slc _ _ _ _ g1 (by have : maxLen = 9223372036854775807 := rfl; omega)), by rw [okT]; exact ⟨hw, by omega, g2⟩⟩
          · cases h
        · cases h
      · cases h
    · cases h
theorem all2_mapM {f : AV → Option Tm} : ∀ {es : List AV} {ts : List Tm}, All2 es ts → (∀ e t, t ∈ ts → IsT e t → f e = some t) → es.mapM f = some ts
  | _, _, .nil, _ => rfl
  | _, _, .cons a t es ts h hs, hf => by
    rw [List.mapM_cons, hf a t (by simp) h, all2_mapM hs (fun e t ht => hf e t (by simp [ht]))]
    rfl
theorem toT_of : ∀ (N : Nat) (a : AV) (t : Tm), IsT a t → okT t → size t ≤ N → toT N a = some t := by
  intro N
  induction N with
  | zero => intro a t ha ho h; have := size_pos t; omega
  | succ N ih =>
    intro a t ha ho h
    cases ha with
    | mk k s n c l hc =>
    rw [okT] at ho
    cases hc with
    | nil => simp [toT, ho.1]
    | slc ex nn es l hs hb =>
      have hl := hs.length
      rw [size] at h
      have := all2_mapM (f := toT N) hs (fun e t ht he => ih e t he (by
        obtain ⟨i, hi, rfl⟩ := List.getElem_of_mem ht
        exact okL_get ho.2.2 hi) (by have := size_mem ht; omega))
      simp [toT, ho.1, this, show es.length ≤ 1000000 by omega]
end Go.AE
end

/-! slices.Clone of any kind of elements, as an entry of the evaluator's table (whether a slice without elements is nil is not asked). -/
section
set_option linter.unusedVariables false
set_option linter.unusedSimpArgs false
namespace Go.AE
open Go Go.RowKit

section
variable {rt : TypeId} {P : Program} {B : Nat} {w0 : World} {T : Tb} {f : FuncId} {sz bytes : Nat} {zero : List Value}
end
end Go.AE
end

/-! Clauses as values of the evaluator; elements of rows. -/
section
set_option linter.unusedVariables false
set_option linter.unusedSimpArgs false
namespace Go.AE
open Go

theorem IsT.elm {a : AV} {t : Tm} (h : IsT a t) : El true 4 a := by
  cases h with
  | mk k s n c l hc =>
    refine ⟨rfl, rfl, fun _ => IsT.snap (.mk k s n c l hc), rfl, ?_, IsT.bel (.mk k s n c l hc)⟩
    cases hc <;> rfl
theorem IsBd.elm {a : AV} {v : Int} {t : Tm} (h : IsBd a v t) : El true 5 a := by
  cases h with
  | mk v cs t h =>
    cases h with
    | mk k s n c l hc => cases hc <;> exact ⟨rfl, rfl, fun _ => rfl, rfl, rfl, rfl⟩
theorem El.ld {agg : Bool} {sz : Nat} {e : AV} (h : El agg sz e) (H : List AO) : Q76 H agg sz (.ip e.cells) = some e := by
  simp only [Q76, h.len, Nat.le_refl, if_true]
  rw [List.take_of_length_le (by rw [h.len]; exact Nat.le_refl _)]
  exact h.el
theorem El.st {bt : TypeId} {agg : Bool} {sz : Nat} {e : AV} (h : El agg sz e) (H : List AO) {z : List AV} (hz : z.length = sz) : Q113 (H ++ [.box bt z]) sz (.ptr H.length 0) e = some (H ++ [.box bt e.cells]) := st_new h.cl h.len hz
inductive AllR {α : Type} (R : AV → α → Prop) : List AV → List α → Prop
  | nil : AllR R [] []
  | cons (a : AV) (x : α) (es : List AV) (xs : List α) (h : R a x) (hs : AllR R es xs) : AllR R (a :: es) (x :: xs)
section
variable {α : Type} {R : AV → α → Prop}
theorem AllR.length : ∀ {es : List AV} {l : List α}, AllR R es l → es.length = l.length
  | _, _, .nil => rfl
  | _, _, .cons _ _ _ _ _ hs => by simp [hs.length]
theorem AllR.get : ∀ {es : List AV} {l : List α}, AllR R es l → ∀ {i : Nat} {e : AV}, es[i]? = some e → ∃ x, l[i]? = some x ∧ R e x
  | _, _, .nil, i, e, h => by simp at h
  | _, _, .cons a t es ts h hs, i, e, he => by
    cases i with
    | zero => simp at he; subst he; exact ⟨t, rfl, h⟩
    | succ i => exact hs.get (by simpa using he)
theorem AllR.app : ∀ {es es' : List AV} {l l' : List α}, AllR R es l → AllR R es' l' → AllR R (es ++ es') (l ++ l')
  | _, _, _, _, .nil, h => h
  | _, _, _, _, .cons a t es ts h hs, h' => .cons a t _ _ h (hs.app h')
theorem AllR.one {a : AV} {x : α} (h : R a x) : AllR R [a] [x] := .cons a x [] [] h .nil
end

def IsI (a : AV) (n : Int) : Prop := a = .v (.int .i64 n)
theorem IsI.elm {a : AV} {n : Int} (h : IsI a n) : El false 1 a := by
  cases h; exact ⟨rfl, rfl, fun _ => rfl, rfl, rfl, rfl⟩
theorem El.int (n : Int) : El false 1 (.v (.int .i64 n)) := ⟨rfl, rfl, fun _ => rfl, rfl, rfl, rfl⟩
theorem El.str (s : ByteArray) : El false 1 (.v (.string s)) := ⟨rfl, rfl, fun _ => rfl, rfl, rfl, rfl⟩

structure Cl where
  hd : Tm
  body : List Tm
  vars : Int
inductive IsCl : AV → Cl → Prop
  | mk (k : Int) (s : ByteArray) (n : Int) (c : AV) (l : List Tm) (hc : IsL c l) (b : AV) (bl : List Tm) (hb : IsL b bl) (vs : Int) : IsCl (.agg [.v (.int .i64 k), .v (.string s), .v (.int .i64 n), c, b, .v (.int .i64 vs)]) ⟨.mk k s n l, bl, vs⟩
theorem IsL.len {c : AV} {l : List Tm} (h : IsL c l) (H : List AO) : evLen H .slice c = some l.length := by
  cases h with
  | nil => rfl
  | slc ex nn es l h1 h2 => rw [← h1.length]; rfl
theorem IsCl.elm {a : AV} {x : Cl} (h : IsCl a x) : El true 6 a := by
  cases h with
  | mk k s n c l hc b bl hb vs =>
    cases hc <;> cases hb <;> exact ⟨rfl, rfl, fun _ => rfl, rfl, rfl, rfl⟩
theorem IsB.sl {c : AV} {l : List (Int × Tm)} (h : IsB c l) : ∃ es, Sl 5 c es ∧ AllB es l ∧ es.length ≤ maxLen := by
  cases h with
  | nil => exact ⟨[], .nil, .nil, by simp⟩
  | slc ex nn es l h hb => exact ⟨es, .slc ex nn es, h, hb⟩
/-! ### What comes in -/
section
variable {T : Tb}
end
end Go.AE
end

/-! Maps by what they answer. -/
section
set_option linter.unusedVariables false
set_option linter.unusedSimpArgs false
namespace Go.AE
open Go

section
variable {call : CallF} {vars env : List AV} {h : List AO}
end
theorem keyEq_int {k : IntKind} {a b : Int} : keyEq (.int k a) (.int k b) = (a == b) := by simp [keyEq]
theorem keyEq_of {k : IntKind} {a : Int} {v : Value} (h : keyEq (.int k a) v = true) : v = .int k a := by
  cases v <;> simp [keyEq] at h
  obtain ⟨rfl, rfl⟩ := h; rfl
theorem look_upd {k : IntKind} {a b : Int} {x : AV} : ∀ es : List (Value × AV), look (.int k b) (upd (.int k a) x es) = if a = b then some x else look (.int k b) es
  | [] => by
    by_cases h : a = b
    · subst h; simp [upd, look, keyEq]
    · have : ¬ b = a := fun e => h e.symm
      simp [upd, look, keyEq, h, this]
  | e :: es => by
    simp only [upd]
    by_cases h1 : keyEq (.int k a) e.1 = true
    · rw [if_pos h1]
      have he := keyEq_of h1
      simp only [look, he, keyEq_int]
      by_cases h : a = b
      · subst h; simp
      · have : ¬ b = a := fun e => h e.symm
        simp [h, this]
    · rw [if_neg h1]
      simp only [look]
      rw [look_upd es]
      by_cases h2 : keyEq (.int k b) e.1 = true
      · rw [if_pos h2, if_pos h2]
        by_cases h : a = b
        · subst h; exact absurd h2 h1
        · rw [if_neg h]
      · rw [if_neg h2, if_neg h2]
def Seen (k : IntKind) (es : List (Value × AV)) (S : List Int) : Prop := ∀ n, look (.int k n) es = if n ∈ S then some (.v (.bool true)) else none
theorem Seen.nil (k : IntKind) : Seen k [] [] := fun n => by simp [look]
theorem Seen.add {k : IntKind} {es : List (Value × AV)} {S : List Int} (h : Seen k es S) (a : Int) : Seen k (upd (.int k a) (.v (.bool true)) es) (a :: S) := by
  intro n
  rw [look_upd, h n]
  by_cases e : a = n
  · subst e; simp
  · have : ¬ n = a := fun x => e x.symm
    simp [e, this]
theorem Seen.of {k : IntKind} {es : List (Value × AV)} {S S' : List Int} (h : Seen k es S) (hS : ∀ n, n ∈ S ↔ n ∈ S') : Seen k es S' := fun n => by
  rw [h n]; simp only [hS n]
theorem Seen.look {k : IntKind} {es : List (Value × AV)} {S : List Int} (h : Seen k es S) {H : List AO} {id : Nat} {mc : Nat} (hm : H[id]? = some (.map (.int k) mc es)) (n : Int) : evLook H (.int k) (.bool false) false (.mp id) (.v (.int k n)) = some (.v (.bool (S.contains n))) := by
  simp only [evLook, hm, KK.ok, decide_true, and_self, if_true, h n]
  by_cases e : n ∈ S <;> simp [e]
end Go.AE
end

/-! A call whose objects stay, made of two functions of which the inner one is elsewhere a plain one; one function of a table replaced. -/
section
set_option linter.unusedVariables false
set_option linter.unusedSimpArgs false
namespace Go.AE
open Go Go.RowKit

section
variable {P : Program} {B : Nat} {w0 w w' : World} {I I' : Cells} {σ σ' τ : List Loc} {h : List AO}

theorem callW_callOk {F : FuncId → Option FEntry} (hn : ∀ n, CallOk P B w0 (callN F n)) : CallOk P B w0 (callW F) := by
  refine ⟨fun f args h r h' he => ?_, fun f args h r h' he => ?_, fun f args r he => ?_⟩
  · obtain ⟨n, hc⟩ := callW_iff.1 he
    exact (hn n).enter f args h r h' hc
  · obtain ⟨n, hc⟩ := callW_iff.1 he
    exact (hn n).calls f args h r h' hc
  · obtain ⟨n, hc⟩ := callW_iff.1 he
    exact (hn n).pure f args r hc
noncomputable def withG (call : CallF) (f : FuncId) (g : List AV → List AO → Option (AV × List AO)) : CallF := fun f' args h => if f' = f then g args h else call f' args h
theorem withG_ok {call : CallF} {f : FuncId} {g : List AV → List AO → Option (AV × List AO)} (hc : CallOk P B w0 call) {K : Nat → World → Prop} (hKs : Holds K) (hK : K B w0)
    (hg : ∀ B w0, K B w0 → ∀ args h r h', g args h = some (r, h') → (∀ (vals : Array Value) (w : World), (callFunc f vals).run P w = .ok (.enter f vals) w) ∧ ∀ I σ w (vals : Array Value), Inv B w0 I σ w h → ArgsRep I w σ args vals → Calls P f vals w (Ends B w0 I σ w r h')) :
    CallOk P B w0 (withG call f g) := by
  refine ⟨fun f' args h r h' he vals w => ?_, fun f' args h r h' he I σ w vals hI ha => ?_, fun f' args r he I σ w h vals hI hI0 ha => ?_⟩
  · unfold withG at he
    split at he
    · rename_i e; subst e
      exact (hg B w0 hK args h r h' he).1 vals w
    · exact hc.enter f' args h r h' he vals w
  · unfold withG at he
    split at he
    · rename_i e; subst e
      exact (hg B w0 hK args h r h' he).2 I σ w vals hI ha
    · exact hc.calls f' args h r h' he I σ w vals hI ha
  · unfold withG at he
    split at he
    · rename_i e; subst e
      exact (hg w.heap.size w (hKs B w0 I σ w h hK hI) args [] r [] he).2 I [] w vals hI0 ha
    · exact hc.pure f' args r he I σ w h vals hI hI0 ha

def keepX (call : CallF) (f : FuncId) (c : CFun) (k : Nat) : CallF := fun g args h =>
  if g = f ∧ args.length = c.np then (match leaveKeep c (exec call k c.body (start c args) h) with
    | some (r, x :: t) => some (r, x :: t)
    | _ => none) else none
theorem keepX_ok (hm : P.follows .mixedOrders = true) {T : Tb} (hT : TbOk P T) {call : CallF} (hc : CallOk P B w0 call) (hpu : PushOk T call) {f : FuncId} {c : CFun} (hf : CodeOk P T f c) (k : Nat) : CallOk P B w0 (keepX call f c k) := by
  have key : ∀ g args h r h', keepX call f c k g args h = some (r, h') → g = f ∧ args.length = c.np ∧ leaveKeep c (exec call k c.body (start c args) h) = some (r, h') ∧ h' ≠ [] := by
    intro g args h r h' he
    unfold keepX at he
    split at he
    · rename_i e
      split at he
      · rename_i r' x t hl
        cases he
        exact ⟨e.1, e.2, hl, by simp⟩
      · cases he
    · cases he
  refine ⟨fun g args h r h' he vals w => ?_, fun g args h r h' he I σ w vals hI ha => ?_, fun g args r he => ?_⟩
  · obtain ⟨rfl, _⟩ := key _ _ _ _ _ he
    exact CodeOk.enter hf vals w
  · obtain ⟨rfl, hl, hk, _⟩ := key _ _ _ _ _ he
    obtain ⟨x, vars, hh, rs, e1, e2, e3, rfl, rfl⟩ := keep_cases hk
    exact body_ok hm hT hc hpu hf ha hl hI e1 e2 e3 (fun v w' I' σ' q1 q2 q3 => ⟨v, _, _, rfl, q1, q2, q3⟩)
  · exact absurd rfl (key _ _ _ _ _ he).2.2.2

theorem withG_ne {call : CallF} {f f' : FuncId} {g : List AV → List AO → Option (AV × List AO)} {args : List AV} {h : List AO} (hne : f' ≠ f) : withG call f g f' args h = call f' args h := if_neg hne
theorem withG_eq {call : CallF} {f : FuncId} {g : List AV → List AO → Option (AV × List AO)} {args : List AV} {h : List AO} : withG call f g f args h = g args h := if_pos rfl
theorem CallOk.anywhere {call : CallF} (hc : CallOk P B w0 call) {f : FuncId} {args : List AV} {r : AV} (he : call f args [] = some (r, [])) (hI : Inv B w0 I σ w h) {vals : Array Value} (ha : ArgsRep I w [] args vals) : Calls P f vals w (Ends B w0 I σ w r h) :=
  (hc.pure f args r he I σ w h vals hI (inv_none hI) ha).mono (fun e w' he => ends_conv hI he)
theorem law_body (hm : P.follows .mixedOrders = true) {T : Tb} (hT : TbOk P T) {call : CallF} (hc : CallOk P B w0 call) (hpu : PushOk T call) {f : FuncId} {c : CFun} (hf : CodeOk P T f c)
    {args : List AV} {vals : Array Value} (ha : ArgsRep I w σ args vals) (hlen : args.length = c.np) (hI : Inv B w0 I σ w h) {k : Nat} {r : AV} {h' : List AO} (hl : leave h.length c (exec call k c.body (start c args) h) = some (r, h')) :
    Calls P f vals w (Ends B w0 I σ w r h') := by
  obtain ⟨x, vars, hh, rs, e1, e2, e3, e4, e5, e6, rfl⟩ := leave_cases hl
  refine body_ok hm hT hc hpu hf ha hlen hI e1 e2 e3 (fun v w' I' σ' q1 q2 q3 => ?_)
  exact ⟨v, _, _, rfl, q1.leave e5 e6, gone_step q1 q2 hI.len, q3.frz2 q1 e4⟩

theorem Inv.one {k : List AO} (hJ : Inv B w0 I τ w k) {j : Nat} {rt : TypeId} {sz ver f : Nat} {l : List AV} (hr : k[j]? = some (.row rt sz ver l f)) : ∃ L, τ[j]? = some L ∧ Inv B w0 I [L] w [.row rt sz ver l f] := by
  have hj : j < τ.length := by rw [hJ.len]; exact (List.getElem?_eq_some_iff.1 hr).1
  refine ⟨τ[j], List.getElem?_eq_getElem hj, hJ.below, hJ.base, rfl, ?_, ?_, ?_, hJ.imm⟩
  · intro id o L ho hL
    cases id with
    | zero =>
      simp at ho hL
      subst ho; subst hL
      exact hJ.obj j _ _ hr (List.getElem?_eq_getElem hj)
    | succ id => simp at ho
  · intro id L hL hh
    cases id with
    | zero =>
      simp at hL; subst hL
      exact hJ.mine j _ (List.getElem?_eq_getElem hj) hh
    | succ id => simp at hL
  · intro i j Li Lj hi hj' hne h1 h2
    cases i with
    | zero => cases j with
      | zero => exact absurd rfl hne
      | succ j => simp at hj'
    | succ i => simp at hi
theorem keep_calls (hm : P.follows .mixedOrders = true) {T : Tb} (hT : TbOk P T) {call : CallF} {f : FuncId} {c : CFun} (hf : CodeOk P T f c) (hcall : ∀ (w : World) I σ h, Inv B w0 I σ w h → CallOk P w.heap.size w call) (hpu : PushOk T call)
    {args : List AV} (hn : args.length = c.np) {k : Nat} {x : AXit} {vars : List AV} {hh : List AO} (he : exec call k c.body (start c args) [] = some (x, vars, hh)) (hx : x = .normal ∨ x = .ret)
    {y0 y1 y2 : Value} {sz j ver m f' : Nat} {rt : TypeId} {l : List AV} (hr : c.res.mapM (resOf vars hh) = some [.agg [.v y0, .v y1, .v y2, .own sz j ver 0 m]]) (hrow : hh[j]? = some (.row rt sz ver l f'))
    (hI : Inv B w0 I σ w h) {vals : Array Value} (ha : ArgsRep I w [] args vals) :
    Calls P f vals w (Ends B w0 I σ w (.agg [.v y0, .v y1, .v y2, .own sz h.length ver 0 m]) (h ++ [.row rt sz ver l f'])) := by
  refine body_ok hm hT (hcall w I σ h hI) hpu hf ha hn (inv_none hI) he hx hr (fun v w' I' τ q1 q2 q3 => ?_)
  obtain ⟨L, hL, hJ⟩ := q1.one hrow
  have hs : Step w.heap.size I [] w I' [L] w' := ⟨q2.ext, Later.nil _, q2.new, q2.size⟩
  obtain ⟨j1, j2⟩ := hI.join (P := P) hJ hs rfl
  refine ⟨v, I', σ ++ [L], rfl, j1, j2, ?_⟩
  have q3 : Rep I' w' τ (.agg [.v y0, .v y1, .v y2, .own sz j ver 0 m]) v := q3
  cases q3 with
  | agg _ cs arr hs h1 hr =>
    refine .agg _ _ arr (by simpa using hs) (fun i c hi => ?_) (fun i c hi => ?_)
    · match i, hi with
      | 0, hi => exact h1 0 _ rfl
      | 1, hi => exact h1 1 _ rfl
      | 2, hi => exact h1 2 _ rfl
      | 3, hi => exact h1 3 _ rfl
    · match i, hi with
      | 0, hi => cases hi; exact (hr 0 _ rfl).of_free0 rfl
      | 1, hi => cases hi; exact (hr 1 _ rfl).of_free0 rfl
      | 2, hi => cases hi; exact (hr 2 _ rfl).of_free0 rfl
      | 3, hi =>
        cases hi
        have h3 := hr 3 _ rfl
        generalize arr.getD 3 undef = z at h3 ⊢
        cases h3 with
        | own _ _ _ _ _ _ x h1x L' hL' hv hx =>
          rw [hL] at hL'; cases hL'
          exact .own _ sz h.length ver 0 m _ h1x L (by rw [← hI.len]; simp) hv hx
end
end Go.AE
end

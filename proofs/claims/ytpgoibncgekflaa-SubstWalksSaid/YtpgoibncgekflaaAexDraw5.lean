/- AE, part 27: regions that draw their order. -/
import Derived.Test.YtpgoibncgekflaaAexDraw4
set_option linter.unusedVariables false
set_option linter.unusedSimpArgs false
namespace Go.AE
open Go Go.RowKit

theorem countP_lt {p q : Nat → Bool} : ∀ (l : List Nat), (∀ x ∈ l, q x = true → p x = true) → (∃ x ∈ l, p x = true ∧ q x = false) → l.countP q < l.countP p := by
  intro l
  induction l with
  | nil => rintro _ ⟨x, hx, _⟩; simp at hx
  | cons a l ih =>
    rintro h ⟨x, hx, h1, h2⟩
    have hmono : l.countP q ≤ l.countP p := List.countP_mono_left (fun x hx => h x (by simp [hx]))
    simp only [List.countP_cons]
    rcases List.mem_cons.1 hx with rfl | hx
    · rw [h1, h2]; simp; omega
    · have := ih (fun y hy => h y (by simp [hy])) ⟨x, hx, h1, h2⟩
      have ha := h a (by simp)
      cases hq : q a with
      | false => simp; omega
      | true => rw [ha hq]; simp; omega

def left (n : Nat) (S : Array Bool) : Nat := (List.range n).countP fun j => !S.getD j false

section
variable {P : Program} {B : Nat} {w0 w w' : World} {I I' : Cells} {σ σ' : List Loc} {vt : List Tmp} {nt : Nat} {a : Act} {T : Tb} {call : CallF}
  {aps : List (Option Nat × Nat)} {ops : Array Oper} {cs : List CO} {vars0 vars1 : List AV} {h0 h1 : List AO} {V E : Nat → List AV} {H : Nat → List AO} {R : Nat → AV} {S : Array Bool}

theorem all_of_none (sf : SF aps ops cs (ancGo [] ops.toList)) (hs : S.size = ops.size) (hr : Region.ready .any ops S = []) : ∀ n j, j < n → j < ops.size → S.getD j false = true := by
  intro n
  induction n with
  | zero => intro j h; omega
  | succ n ih =>
    intro j hj hlt
    cases hS : S.getD j false with
    | true => rfl
    | false =>
      exfalso
      have ho : ops[j]? = some ops[j] := Array.getElem?_eq_getElem hlt
      have : j ∈ Region.ready .any ops S := by
        simp only [Region.ready, List.mem_filter, List.mem_range, Bool.and_eq_true, Bool.not_eq_true']
        refine ⟨hlt, ?_, ?_⟩
        · rw [Array.getD_eq_getD_getElem?] at hS ⊢
          rw [Array.getElem?_eq_getElem (by omega)] at hS ⊢
          exact hS
        · rw [ho]
          simp only [Option.map_some, Option.getD_some, Array.all_eq_true', Bool.or_eq_true, Bool.not_eq_true']
          intro e he
          cases hb : Region.binds .any e with
          | false => exact .inl rfl
          | true =>
            have hm : e.on ∈ bindsOf ops[j] := by
              simp only [bindsOf, List.mem_map, List.mem_filter]
              exact ⟨e, ⟨by simpa using he, hb⟩, rfl⟩
            have := sf.back j _ ho _ hm
            exact .inr (ih _ (by omega) (by omega))
      rw [hr] at this; simp at this

theorem draw_end (hnd : vt.Nodup) (hvt : ∀ t ∈ vt, t < nt) (hlen : vars0.length = vt.length) (hc : compOps T nt vt ops [] ops.toList = some cs) (sf : SF aps ops cs (ancGo [] ops.toList))
    (t : Trace call cs vars0 [] h0 vars1 h1 V E H R) (D : DInv B w0 vt nt ops cs vars0 H R S a w I σ) (hall : ∀ j, j < ops.size → S.getD j false = true) :
    VOk I w σ vt nt vars1 a ∧ Inv B w0 I σ w h1 := by
  obtain ⟨hclen, hcat⟩ := compOps_at ops.toList 0 cs rfl hc
  have hsz : cs.length = ops.size := by simpa using hclen
  have hcsAt : ∀ (j : Nat) (y : Oper), ops[j]? = some y → ∃ d, cs[j]? = some d ∧ d.wr = y.dst.bind (varOf vt) := fun j y hy => by
    obtain ⟨c', g', q1, _⟩ := hcat j y (by simpa using hy)
    exact ⟨_, q1, rfl⟩
  obtain ⟨q, hq, hI, hqE⟩ := D.heap
  have hH : h1 = H q := by
    rw [← t.h1]
    refine t.const cs.length hq (Nat.le_refl _) (fun e d he1 he2 hd => ?_)
    cases hdE : d.op.isE with
    | false => rfl
    | true => have := (hqE e d hd hdE).1 (hall e (by omega)); omega
  refine ⟨⟨by rw [← t.v1, t.len _ (Nat.le_refl _), hlen], D.tsize, D.defers, hnd, hvt, fun k t' v hk hv => ?_⟩, by rw [hH]; exact hI⟩
  have hklt : k < vars0.length := by rw [hlen]; exact (List.getElem?_eq_some_iff.1 hk).1
  have hvd : v = (V cs.length).getD k .junk := by rw [t.v1, List.getD_eq_getElem?_getD, hv]; rfl
  rw [hvd]
  by_cases hw : ∃ (j : Nat) (y : Oper), ops[j]? = some y ∧ y.dst = some t'
  · obtain ⟨j, y, hy, hdst⟩ := hw
    have hjlt : j < ops.size := (Array.getElem?_eq_some_iff.1 hy).1
    obtain ⟨d, hd, hwr⟩ := hcsAt j y hy
    have : (V cs.length).getD k .junk = R j := by
      refine t.new hd (by rw [hwr, hdst]; exact varOf_some hnd hk) hklt _ (Nat.le_refl _) (by omega) (fun j' c' g1 g2 hc' hw' => ?_)
      have hy' : ops[j']? = some ops[j'] := Array.getElem?_eq_getElem (by omega)
      obtain ⟨d', hd', hwr'⟩ := hcsAt j' _ hy'
      rw [hc'] at hd'; cases hd'
      rw [hwr'] at hw'
      obtain ⟨t2, e1, e2⟩ := Option.bind_eq_some_iff.1 hw'
      have e3 := varOf_eq e2
      rw [hk] at e3; cases e3
      rcases (sf.pair j j' y _ d _ g1 hy hy' hd hc').1 with h | h
      · rw [hdst] at h; cases h
      · exact h (hdst.trans e1.symm)
    rw [this]
    exact D.done j y t' hy hdst (hall j hjlt)
  · have : (V cs.length).getD k .junk = vars0.getD k .junk := by
      refine t.old _ (Nat.le_refl _) (fun j c' hj hc' hw' => hw ?_)
      have hy' : ops[j]? = some ops[j] := Array.getElem?_eq_getElem (by omega)
      obtain ⟨d', hd', hwr'⟩ := hcsAt j _ hy'
      rw [hc'] at hd'; cases hd'
      rw [hwr'] at hw'
      obtain ⟨t2, e1, e2⟩ := Option.bind_eq_some_iff.1 hw'
      have e3 := varOf_eq e2
      rw [hk] at e3; cases e3
      exact ⟨j, _, hy', e1⟩
    rw [this]
    exact D.old k t' hk (fun j y hy hdst => absurd ⟨j, y, hy, hdst⟩ hw)

theorem draw_any (hT : TbOk P T) (hcall : CallOk P call) (hnd : vt.Nodup) (hvt : ∀ t ∈ vt, t < nt) (hlen : vars0.length = vt.length) (hc : compOps T nt vt ops [] ops.toList = some cs) (sf : SF aps ops cs (ancGo [] ops.toList))
    (hap : aps.all (apB vars0) = true) (t : Trace call cs vars0 [] h0 vars1 h1 V E H R) {Q : Exit → Act → World → Prop} {I0 : Cells} {σ0 : List Loc} {wa : World}
    (hQ : ∀ a' w' I' σ', VOk I' w' σ' vt nt vars1 a' → Inv B w0 I' σ' w' h1 → Step B I0 σ0 wa I' σ' w' → Q .normal a' w') :
    ∀ (fuel : Nat) (S : Array Bool) (a : Act) (w : World) (I : Cells) (σ : List Loc), DInv B w0 vt nt ops cs vars0 H R S a w I σ → Step B I0 σ0 wa I σ w → left ops.size S ≤ fuel → wpAny P .any ops Q fuel S a w := by
  intro fuel
  induction fuel with
  | zero =>
    intro S a w I σ D st hl
    have hall : ∀ j, j < ops.size → S.getD j false = true := by
      intro j hj
      have h0 : left ops.size S = 0 := by omega
      have := List.countP_eq_zero.1 h0 j (by simpa using hj)
      simpa using this
    refine ⟨?_, ?_⟩
    · rw [List.eq_nil_iff_forall_not_mem]
      intro i hi
      obtain ⟨o, ho, h1, h2, _⟩ := ready_iff D.size hi
      rw [hall i (by rw [← D.size]; exact h1)] at h2; cases h2
    · obtain ⟨q1, q2⟩ := draw_end hnd hvt hlen hc sf t D hall
      exact hQ a w I σ q1 q2 st
  | succ fuel ih =>
    intro S a w I σ D st hl
    refine ⟨fun hr => ?_, fun i hi => ?_⟩
    · obtain ⟨q1, q2⟩ := draw_end hnd hvt hlen hc sf t D (fun j hj => all_of_none sf D.size hr (j + 1) j (by omega) hj)
      exact hQ a w I σ q1 q2 st
    · refine draw_step hT hcall hnd hvt hlen hc sf hap t D hi (fun a' w' I' σ' D' st' => ih _ a' w' I' σ' D' (st.trans st') ?_)
      obtain ⟨o, ho, g1, g2, _⟩ := ready_iff D.size hi
      have : left ops.size (S.setIfInBounds i true) < left ops.size S := by
        refine countP_lt _ (fun x _ hx => ?_) ⟨i, by simpa [D.size] using (show i < ops.size by rw [← D.size]; exact g1), by simp [g2], by rw [set_getD g1, if_pos rfl]; rfl⟩
        rw [set_getD g1] at hx
        split at hx
        · cases hx
        · exact hx
      omega
end

/-- A region whose order the check lets be drawn ends as one in the order of the text. -/
theorem draw_ok {P : Program} (hm : P.follows .mixedOrders = true) {T : Tb} (hT : TbOk P T) (nt : Nat) (vt : List Tmp) : DrawOk P T nt vt drawOk := by
  intro call hcall id aps ops cs hc hd B w0 w I σ h h' vars vars' a Q hI hv hap he hQ
  obtain ⟨V, E, H, R, t⟩ := trace_of cs vars [] h vars' h' he
  have sf := sf_of hd
  refine wp_region_any hm ?_
  have hbel : Below B w { w with drawn := w.drawn + 1 } := ⟨rfl, rfl, rfl, Nat.le_refl _, fun _ _ => rfl⟩
  have hext : Ext I w I { w with drawn := w.drawn + 1 } := ⟨fun b x h => h, fun _ _ _ => rfl⟩
  have hst : Step B I σ w I σ { w with drawn := w.drawn + 1 } := ⟨hext, Later.refl _, fun _ _ h => .inl h, Nat.le_refl _⟩
  have hI2 : Inv B w0 I σ { w with drawn := w.drawn + 1 } h := hI.same hbel hext (fun b x hb => hI.imm b x hb) (fun j Lj _ _ => ⟨rfl, fun _ h => h⟩)
  have hv2 := hv.step hst
  have hS : ∀ j, (Array.replicate ops.size false).getD j false = false := by
    intro j
    rw [Array.getD_eq_getD_getElem?, Array.getElem?_replicate]
    split <;> rfl
  refine draw_any hT hcall hv.nodup hv.lt hv.len hc sf hap t hQ ops.size _ _ _ I σ ?_ hst ?_
  · refine ⟨by simp, fun j y hj => ?_, ⟨0, Nat.zero_le _, by rw [t.h0]; exact hI2, fun e c _ _ => ?_⟩, hv.size, hv.defers, fun j y t' _ _ hj => ?_, fun k t' hk _ => ?_⟩
    · rw [hS] at hj; cases hj
    · rw [hS]; exact ⟨fun h => (by cases h), fun h => absurd h (Nat.not_lt_zero _)⟩
    · rw [hS] at hj; cases hj
    · have hlt : k < vars.length := by rw [hv.len]; exact (List.getElem?_eq_some_iff.1 hk).1
      exact hv2.rep k t' _ hk (by rw [List.getD_eq_getElem?_getD, List.getElem?_eq_getElem hlt]; rfl)
  · have := List.countP_le_length (p := fun j => !(Array.replicate ops.size false).getD j false) (l := List.range ops.size)
    simpa [left] using this
end Go.AE

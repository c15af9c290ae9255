/- AE, part 14: conversions, slice expressions, lengths, ranges over strings. -/
import Derived.Test.YtpgoibncgekflaaAexSmall
set_option linter.unusedVariables false
set_option linter.unusedSimpArgs false
namespace Go.AE
open Go Go.RowKit

section
variable {P : Program} {B : Nat} {w0 w w' : World} {I I' : Cells} {σ σ' : List Loc} {h : List AO}

theorem gives_conv (hI : Inv B w0 I σ w h) {src dst : TypeId} {d : TypeDesc} {k : IntKind} (hs : P.underlying src = some d) (hd : P.underlying dst = some (.int k)) {kk : IntKind} {n : Int} {vx : Value} (hx : Rep I w σ (.v (.int kk n)) vx) :
    Gives P B w0 I σ w (do pure (.value (← convert src dst vx))) (.v (.int k (k.wrap n))) h := by
  cases hx
  refine Gives.same hI ?_ (.v σ _)
  simp only [convert, Sem.run_bind, run_underlying hs, run_underlying hd, Result.andThen_ok, Conv.intToInt, Sem.run_pure]

theorem gives_same (hI : Inv B w0 I σ w h) {src dst : TypeId} {d : TypeDesc} (hs : P.underlying src = some d) (hd : P.underlying dst = some .string) {s : ByteArray} {vx : Value} (hx : Rep I w σ (.v (.string s)) vx) :
    Gives P B w0 I σ w (do pure (.value (← convert src dst vx))) (.v (.string s)) h := by
  cases hx
  refine Gives.same hI ?_ (.v σ _)
  cases d <;> simp only [convert, Sem.run_bind, run_underlying hs, run_underlying hd, Result.andThen_ok, Sem.run_pure]

theorem run_bound {vars env : List AV} {x : Opd} {n : Nat} (hn : natO vars env x = some n) {v : Value} (hx : Rep I w σ (getO vars env x) v) {y : Nat} (hy : n ≤ y) (c : BoundsCode) :
    (Instr.sliceBound v y c).run P w = .ok n w := by
  obtain ⟨k, rfl⟩ := natO_eq hn hx
  have h0 : (0 : Int) ≤ (n : Int) ∧ (n : Int) ≤ (y : Int) := by omega
  simp only [Instr.sliceBound, asIntOf, Sem.run_bind, Sem.run_pure, Result.andThen_ok, Sem.run_ite, if_pos h0, Int.toNat_natCast]

/-- An optional operand and its value. -/
def OptOk (I : Cells) (w : World) (σ : List Loc) (vars env : List AV) : Option Opd → Option Value → Prop
  | none, none => True
  | some x, some v => Rep I w σ (getO vars env x) v
  | _, _ => False

theorem run_low {vars env : List AV} {lo : Option Opd} {lov : Option Value} (hlo : OptOk I w σ vars env lo lov) {l y : Nat} (hl : optN vars env 0 lo = some l) (hy : l ≤ y) (c : BoundsCode) :
    (match lov with
      | some v => Instr.sliceBound v y c
      | none => (pure 0 : Sem Nat)).run P w = .ok l w := by
  cases lo with
  | none =>
    cases lov with
    | none => simp only [optN, Option.some.injEq] at hl; subst hl; rfl
    | some v => exact hlo.elim
  | some x =>
    cases lov with
    | none => exact hlo.elim
    | some v => exact run_bound hl hlo hy c

theorem run_bounds {vars env : List AV} {len top cap : Nat} {lo hi mx : Option Opd} {lov hiv mxv : Option Value} (hlo : OptOk I w σ vars env lo lov) (hhi : OptOk I w σ vars env hi hiv) (hmx : OptOk I w σ vars env mx mxv)
    {l hh : Nat} {m : Option Nat} (he : bounds vars env len top lo hi mx = some (l, hh, m)) (htop : top ≤ cap) (isSlice : Bool) :
    (Instr.sliceBounds isSlice len cap lov hiv mxv).run P w = .ok (l, hh, m.getD cap) w ∧ l ≤ hh ∧ hh ≤ m.getD top ∧ m.getD top ≤ top := by
  unfold bounds at he
  split at he
  · cases mxv with
    | some v => exact hmx.elim
    | none =>
      split at he
      · rename_i h' l' e1 e2
        split at he
        · rename_i hc
          simp only [Option.some.injEq, Prod.mk.injEq] at he
          obtain ⟨rfl, rfl, rfl⟩ := he
          refine ⟨?_, hc.1, hc.2, Nat.le_refl _⟩
          have low := run_low (P := P) hlo e2 hc.1 .sliceB
          cases hi with
          | none =>
            cases hiv with
            | some v => exact hhi.elim
            | none =>
              simp only [optN, Option.some.injEq] at e1
              subst e1
              simp only [Instr.sliceBounds, Sem.run_bind, Sem.run_pure, Result.andThen_ok, Option.isSome_none, Bool.false_eq_true, if_false, low, Option.getD_none]
              cases lov with
              | none => simp only [Sem.run_pure, Result.ok.injEq, and_true] at low; subst low; rfl
              | some v => simp only [Sem.run_bind, low, Result.andThen_ok, Sem.run_pure]
          | some x =>
            cases hiv with
            | none => exact hhi.elim
            | some v =>
              have hb := run_bound (P := P) e1 hhi (y := cap) (by omega) (if isSlice then .sliceAcap else .sliceAlen)
              simp only [Instr.sliceBounds, Sem.run_bind, Sem.run_pure, Result.andThen_ok, hb, Option.isSome_none, Bool.false_eq_true, if_false, low, Option.getD_none]
              cases lov with
              | none => simp only [Sem.run_pure, Result.ok.injEq, and_true] at low; subst low; rfl
              | some v => simp only [Sem.run_bind, low, Result.andThen_ok, Sem.run_pure]
        · cases he
      · cases he
  · cases mxv with
    | none => exact hmx.elim
    | some v =>
      split at he
      · cases he
      · cases hiv with
        | none => exact hhi.elim
        | some u =>
          split at he
          · rename_i m' h' l' e0 e1 e2
            split at he
            · rename_i hc
              simp only [Option.some.injEq, Prod.mk.injEq] at he
              obtain ⟨rfl, rfl, rfl⟩ := he
              refine ⟨?_, hc.1, hc.2.1, hc.2.2⟩
              have low := run_low (P := P) hlo e2 hc.1 .slice3C
              have hb := run_bound (P := P) e0 hmx (y := cap) (by omega) (if isSlice then .slice3Acap else .slice3Alen)
              have hb2 := run_bound (P := P) e1 hhi (y := m') hc.2.1 .slice3B
              simp only [Instr.sliceBounds, Sem.run_bind, Sem.run_pure, Result.andThen_ok, hb, hb2, Option.isSome_some, if_true, low, Option.getD_some]
              cases lov with
              | none => simp only [Sem.run_pure, Result.ok.injEq, and_true] at low; subst low; rfl
              | some v => simp only [Sem.run_bind, low, Result.andThen_ok, Sem.run_pure]
            · cases he
          · cases he

theorem take_all_len {α : Type} (xs : List α) (l hh : Nat) (h1 : l ≤ hh) (h2 : hh ≤ xs.length) : ((xs.drop l).take (hh - l)).length = hh - l := by simp; omega

theorem gives_slice (hI : Inv B w0 I σ w h) {t e : TypeId} {i : TI} (hu : P.underlying t = some (.slice e)) (ht : TIok P e i) {vars env : List AV} {x : AV} {vx : Value} (hx : Rep I w σ x vx)
    {lo hi mx : Option Opd} {lov hiv mxv : Option Value} (hlo : OptOk I w σ vars env lo lov) (hhi : OptOk I w σ vars env hi hiv) (hmx : OptOk I w σ vars env mx mxv) {r : AV} (he : evSlice vars env h i.size x lo hi mx = some r) :
    Gives P B w0 I σ w (do pure (.value (← Instr.sliceAt t vx lov hiv mxv))) r h := by
  have hrun : ∀ (a : Option Addr) (len cap l hh m : Nat), (Instr.sliceBounds true len cap lov hiv mxv).run P w = .ok (l, hh, m) w →
      (do pure (.value (← Instr.sliceAt t (.slice a len cap) lov hiv mxv)) : Sem Next).run P w = .ok (.value (.slice (if m = l then a else a.map (·.add (l * i.size))) (hh - l) (m - l))) w := by
    intro a len cap l hh m hb
    simp only [Instr.sliceAt, Sem.run_bind, run_underlying hu, Result.andThen_ok, Instr.slice, hb, ht.sizeOf, Sem.run_pure]
  unfold evSlice at he
  split at he
  · simp only [Option.bind_eq_bind, Option.bind_eq_some_iff] at he
    obtain ⟨⟨l, hh, m⟩, hb, he⟩ := he
    simp only [Option.pure_def, Option.some.injEq] at he
    subst he
    cases hx
    obtain ⟨g1, g2, g3, g4⟩ := run_bounds (P := P) hlo hhi hmx hb (Nat.le_refl _) true
    have hl0 : l = 0 := by omega
    have hh0 : hh = 0 := by omega
    subst hl0; subst hh0
    have hm0 : m.getD 0 = 0 := by omega
    rw [hm0] at g1
    exact Gives.same hI (v := .slice none 0 0) (by rw [hrun _ _ _ _ _ _ g1]; simp) (.v σ _)
  · rename_i sz' ex nn xs
    split at he
    · rename_i hsz; subst hsz
      simp only [Option.bind_eq_bind, Option.bind_eq_some_iff] at he
      obtain ⟨⟨l, hh, m⟩, hb, he⟩ := he
      cases hx with
      | slc _ _ _ _ _ a cap b o g ha hn hnil hcap hex hsz hc hi' h1 hr =>
        obtain ⟨g1, g2, g3, g4⟩ := run_bounds (P := P) hlo hhi hmx hb hcap true
        have hhl : hh ≤ xs.length := by omega
        have hlen := take_all_len xs l hh g2 hhl
        -- the part as a slice, whatever its capacity
        have key : ∀ (cap' m' : Nat) (ex' : Bool), hh ≤ m' → cap' = m' - l → (a = none → m' = 0) → (ex' = true → cap' = hh - l) →
            Rep I w σ (.slc i.size ex' nn ((xs.drop l).take (hh - l))) (.slice (if m' = l then a else a.map (·.add (l * i.size))) (hh - l) cap') := by
          intro cap' m' ex' hm hc' hna hex'
          have r0 := Rep.slc (I := I) (w := w) σ i.size ex' nn ((xs.drop l).take (hh - l)) (if m' = l then a else a.map (·.add (l * i.size))) cap' b (o + l * i.size) (fun j q => g (l + j) q)
            (fun hne => by
              have hlt : l < hh := by
                rcases Nat.lt_or_ge l hh with h1 | h1
                · exact h1
                · exfalso; apply hne; rw [show hh - l = 0 by omega]; simp
              have hxne : xs ≠ [] := by rintro rfl; simp at hhl; omega
              rw [if_neg (by omega), ha hxne]
              simp [Addr.add_lit])
            (fun hnn => by
              have := hn hnn
              split
              · exact this
              · cases a with
                | none => exact absurd rfl this
                | some ad => simp)
            (fun e => by
              have : a = none := by
                split at e
                · exact e
                · simpa using e
              have := hna this
              omega)
            (by rw [hlen]; omega) (by rw [hlen]; exact hex') (fun j el e => hsz _ el (drop_take_get xs l _ j el e).1)
            (fun j el q c e f => by
              have := hc _ el q c (drop_take_get xs l _ j el e).1 f
              rwa [show o + l * i.size + (j * i.size + q) = o + ((l + j) * i.size + q) by rw [Nat.add_mul]; omega])
            (fun j el q c e f => by
              have := hi' _ el q c (drop_take_get xs l _ j el e).1 f
              rwa [show o + l * i.size + (j * i.size + q) = o + ((l + j) * i.size + q) by rw [Nat.add_mul]; omega])
            (fun j el q c e f => h1 _ el q c (drop_take_get xs l _ j el e).1 f) (fun j el q c e f => hr _ el q c (drop_take_get xs l _ j el e).1 f)
          rw [hlen] at r0
          exact r0
        simp only at he
        split at he
        · rename_i m'
          split at he
          · rename_i hmh
            simp only [Option.pure_def, Option.some.injEq] at he
            subst he; subst hmh
            simp only [Option.getD_some] at g1 g3 g4
            refine Gives.same hI (hrun _ _ _ _ _ _ g1) (key (m' - l) m' true (Nat.le_refl _) rfl (fun e => ?_) (fun _ => rfl))
            have := hnil e; omega
          · cases he
        · simp only [Option.pure_def, Option.some.injEq] at he
          subst he
          simp only [Option.getD_none] at g1 g3 g4
          refine Gives.same hI (hrun _ _ _ _ _ _ g1) (key (cap - l) cap _ (by omega) rfl hnil (fun e => ?_))
          simp only [Bool.and_eq_true, beq_iff_eq] at e
          have := hex e.1
          omega
    · cases he
  · rename_i sz' id ver off n
    split at he
    · rename_i hsz; subst hsz
      simp only [Option.bind_eq_bind, Option.bind_eq_some_iff] at he
      obtain ⟨⟨xs, k⟩, hra, ⟨l, hh, m⟩, hb, he⟩ := he
      obtain ⟨ho, hm⟩ := rowAt_eq hra
      simp only at he
      split at he
      · cases he
      · simp only [Option.pure_def, Option.some.injEq] at he
        subst he
        cases hx with
        | own _ _ _ _ _ _ x h1x L hL hv hxo =>
          obtain ⟨hf, hver, hR⟩ := hI.obj _ _ L ho hL
          rcases hxo hver.symm with ⟨hhas, hcap, rfl⟩ | ⟨rfl, a, rfl⟩
          · obtain ⟨g1, g2, g3, g4⟩ := run_bounds (P := P) hlo hhi hmx hb (cap := L.cap - off) (by omega) true
            simp only [Option.getD_none] at g1 g3 g4
            refine Gives.same hI (hrun _ _ _ _ _ _ g1) (.own σ i.size id ver (off + l) (hh - l) _ rfl L hL hv (fun _ => ?_))
            by_cases hcl : L.cap - off = l
            · right
              refine ⟨by omega, some ⟨L.b, L.o + off * i.size, none⟩, ?_⟩
              rw [if_pos hcl, show hh - l = 0 by omega, show L.cap - off - l = 0 by omega]
            · left
              refine ⟨hhas, by omega, ?_⟩
              rw [if_neg hcl]
              simp only [Option.map_some, Addr.add_lit]
              rw [show L.o + off * i.size + l * i.size = L.o + (off + l) * i.size by rw [Nat.add_mul]; omega, show L.cap - off - l = L.cap - (off + l) by omega]
          · obtain ⟨g1, g2, g3, g4⟩ := run_bounds (P := P) hlo hhi hmx hb (cap := 0) (by omega) true
            simp only [Option.getD_none] at g1 g3 g4
            refine Gives.same hI (hrun _ _ _ _ _ _ g1) (.own σ i.size id ver (off + l) (hh - l) _ rfl L hL hv (fun _ => .inr ⟨by omega, a, ?_⟩))
            have hl0 : l = 0 := by omega
            have hh0 : hh = 0 := by omega
            subst hl0; subst hh0
            simp
    · cases he
  · cases he

theorem gives_sslice (hI : Inv B w0 I σ w h) {t : TypeId} (hu : P.underlying t = some .string) {vars env : List AV} {s : ByteArray} {vx : Value} (hx : Rep I w σ (.v (.string s)) vx)
    {lo hi : Option Opd} {lov hiv : Option Value} (hlo : OptOk I w σ vars env lo lov) (hhi : OptOk I w σ vars env hi hiv) {l hh : Nat} {m : Option Nat} (he : bounds vars env s.size s.size lo hi none = some (l, hh, m)) :
    Gives P B w0 I σ w (do pure (.value (← Instr.sliceAt t vx lov hiv none))) (.v (.string (s.extract l hh))) h := by
  cases hx
  obtain ⟨g1, g2, g3, g4⟩ := run_bounds (P := P) (mx := none) (mxv := none) hlo hhi trivial he (Nat.le_refl _) false
  refine Gives.same hI ?_ (.v σ _)
  simp only [Instr.sliceAt, Sem.run_bind, run_underlying hu, Result.andThen_ok, Instr.slice, Option.isSome_none, Bool.false_eq_true, if_false, g1, Sem.run_pure]

def LenK.ok : LenK → TypeDesc → Bool
  | .slice, .slice _ => true
  | .string, .string => true
  | .map, .map _ _ => true
  | _, _ => false

theorem gives_len (hI : Inv B w0 I σ w h) {t ty : TypeId} {d : TypeDesc} (hu : P.underlying t = some d) {k : LenK} (hk : k.ok d = true) {x : AV} {vx : Value} (hx : Rep I w σ x vx) {n : Nat} (he : evLen h k x = some n) :
    Gives P B w0 I σ w (do pure (.value (← Builtin.len_ #[t] ty #[vx]))) (.v (.int .i64 n)) h := by
  unfold evLen at he
  split at he <;> first | (cases he; done) | skip
  · cases hx; cases he
    cases d <;> simp [LenK.ok] at hk
    exact Gives.same hI (by simp [Builtin.len_, run_underlying hu, goInt]) (.v σ _)
  · cases he
    cases hx with
    | slc _ _ _ _ _ a cap b o g ha hn hnil hcap hex hsz hc hi h1 hr =>
      cases d <;> simp [LenK.ok] at hk
      exact Gives.same hI (by simp [Builtin.len_, run_underlying hu, goInt]) (.v σ _)
  · obtain ⟨⟨l, k'⟩, hra, rfl⟩ := Option.map_eq_some_iff.1 he
    obtain ⟨ho, hm⟩ := rowAt_eq hra
    cases hx with
    | own _ _ _ _ _ _ x h1x L hL hv hxo =>
      obtain ⟨hf, hver, hR⟩ := hI.obj _ _ L ho hL
      cases d <;> simp [LenK.ok] at hk
      rcases hxo hver.symm with ⟨hhas, hcap, rfl⟩ | ⟨rfl, a, rfl⟩
      · exact Gives.same hI (by simp [Builtin.len_, run_underlying hu, goInt]) (.v σ _)
      · exact Gives.same hI (by simp [Builtin.len_, run_underlying hu, goInt]) (.v σ _)
  · cases hx; cases he
    cases d <;> simp [LenK.ok] at hk
    exact Gives.same hI (by simp [Builtin.len_, run_underlying hu, goInt]) (.v σ _)
  · cases hx with
    | mp _ id L hL hf =>
      split at he
      · rename_i es ho
        cases he
        obtain ⟨_, _, entries, clock, hb, hs, _⟩ := hI.obj _ _ L ho hL
        cases d <;> simp [LenK.ok] at hk
        refine Gives.same hI (v := .int .i64 (es.length : Int)) ?_ (.v σ _)
        have : (getObj L.b).run P w = .ok (.map entries clock) w := by simp [getObj, Sem.run, hb]
        simp [Builtin.len_, run_underlying hu, goInt, this, hs]
      · cases he
end
end Go.AE

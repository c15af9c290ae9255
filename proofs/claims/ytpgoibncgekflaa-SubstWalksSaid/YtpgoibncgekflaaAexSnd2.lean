/- AE, part 17: the same, operation by operation. -/
import Derived.Test.YtpgoibncgekflaaAexSnd
set_option linter.unusedVariables false
set_option linter.unusedSimpArgs false
namespace Go.AE
open Go Go.RowKit

section
variable {P : Program} {B : Nat} {w0 w w' : World} {I I' : Cells} {σ σ' : List Loc} {h : List AO}

theorem Gives.congr {s s' : Sem Next} {r : AV} {h' : List AO} (hg : Gives P B w0 I σ w s r h') (hs : s.run P w = s'.run P w) : Gives P B w0 I σ w s' r h' := by
  unfold Gives at *
  rw [← hs]
  exact hg

theorem optOk_of {vars env : List AV} {a : Act} {m : Tmp → Option Opd} (ho : OpsOk I w σ vars env a.eval m) {x : Option Operand} {y : Option Opd} (hx : cOo m x = some y) : OptOk I w σ vars env y (x.map a.eval) := by
  cases x with
  | none => simp only [cOo, Option.some.injEq] at hx; subst hx; trivial
  | some x =>
    simp only [cOo, Option.map_eq_some_iff] at hx
    obtain ⟨z, hz, rfl⟩ := hx
    exact ho.get hz

theorem zip_parts {α β : Type} {f : α → Option β} {l : List α} {r : List β} (hm : l.mapM f = some r) : ∃ z : List (α × β), z.map (·.1) = l ∧ z.map (·.2) = r ∧ ∀ p ∈ z, f p.1 = some p.2 := by
  induction l generalizing r with
  | nil => simp at hm; subst hm; exact ⟨[], rfl, rfl, by simp⟩
  | cons a l ih =>
    simp only [List.mapM_cons, Option.bind_eq_bind, Option.bind_eq_some_iff, Option.pure_def, Option.some.injEq] at hm
    obtain ⟨b, hb, r', hr', rfl⟩ := hm
    obtain ⟨z, h1, h2, h3⟩ := ih hr'
    refine ⟨(a, b) :: z, by simp [h1], by simp [h2], fun p hp => ?_⟩
    rcases List.mem_cons.1 hp with rfl | hp
    · exact hb
    · exact h3 p hp

set_option maxHeartbeats 1000000 in
theorem op_sound (hI : Inv B w0 I σ w h) {T : Tb} (hT : TbOk P T) {m : Tmp → Option Opd} {o : Oper} {c : COp} (hc : compOp T m o = some c) {vars env : List AV} {a : Act} (ho : OpsOk I w σ vars env a.eval m)
    {call : CallF} (hcall : CallOk P call) {r : AV} {h' : List AO} (he : evOp call vars env h c = some (r, h')) {next : Act → World → Prop} {Q : Exit → Act → World → Prop} (hn : Goes B w0 I σ w o a r h' next) :
    Oper.wp P o a w next Q := by
  obtain ⟨dst, op, type, pos, after, guard⟩ := o
  cases op with
  | move x =>
    simp only [compOp, Option.map_eq_some_iff] at hc
    obtain ⟨y, hy, rfl⟩ := hc
    cases he
    exact (Gives.same hI (v := a.eval x) (by simp [execOp]) (ho.get hy)).wp hn
  | assign x =>
    simp only [compOp, Option.map_eq_some_iff] at hc
    obtain ⟨y, hy, rfl⟩ := hc
    cases he
    exact (Gives.same hI (v := a.eval x) (by simp [execOp]) (ho.get hy)).wp hn
  | pick c x y =>
    simp only [compOp] at hc
    split at hc
    · rename_i c' x' y' h1 h2 h3
      cases hc
      simp only [evOp] at he
      split at he
      · rename_i t ht
        cases he
        have hb := ho.get h1
        rw [ht] at hb
        have hbv : a.eval c = .bool t := by generalize a.eval c = z at hb; cases hb; rfl
        refine (Gives.same hI (v := if t then a.eval x else a.eval y) ?_ ?_).wp hn
        · simp [execOp, hbv, asBool]
        · cases t
          · exact ho.get h3
          · exact ho.get h2
      · cases he
    · cases hc
  | alloc e =>
    simp only [compOp] at hc
    split at hc
    · rename_i i hi
      cases hc
      simp only [evOp, Option.map_eq_some_iff] at he
      obtain ⟨cs, hcl, he⟩ := he
      cases he
      have hz : Rep I w σ (getO vars env (.k i.zero)) i.zero := Rep.ofVal _
      have := gives_box (P := P) hI hz hcl e
      refine Gives.wp (o := ⟨dst, .alloc e, type, pos, after, guard⟩) ?_ hn
      simpa [execOp, Instr.alloc, (hT _ _ hi).zeroValue, Instr.box, Gives] using this
    · cases hc
  | box e x =>
    simp only [compOp, Option.map_eq_some_iff] at hc
    obtain ⟨y, hy, rfl⟩ := hc
    simp only [evOp, Option.map_eq_some_iff] at he
    obtain ⟨cs, hcl, he⟩ := he
    cases he
    exact Gives.wp (o := ⟨dst, .box e x, type, pos, after, guard⟩) (gives_box hI (ho.get hy) hcl e) hn
  | build t parts =>
    simp only [compOp] at hc
    split at hc
    · rename_i i hi
      split at hc
      · rename_i fs hd
        split at hc
        · rename_i places hp
          split at hc
          · rename_i ps hps
            split at hc
            · rename_i hz
              cases hc
              simp only [evOp, Option.map_eq_some_iff] at he
              obtain ⟨cs, hb, he⟩ := he
              cases he
              obtain ⟨z1, z2⟩ := zok_iff hz
              obtain ⟨p1, p2⟩ := places_ok hT hp
              obtain ⟨z, q1, q2, q3⟩ := zip_parts hps
              have hl : ∀ x ∈ z.map (fun p => ((p.1.1, a.eval p.1.2), p.2)), places[x.1.1]? = some (x.2.1, x.2.2.1) ∧ Rep I w σ (getO vars env x.2.2.2) x.1.2 := by
                intro x hx
                obtain ⟨p, hp, rfl⟩ := List.mem_map.1 hx
                have := q3 p hp
                simp only [Option.bind_eq_some_iff, Option.map_eq_some_iff] at this
                obtain ⟨q, hq, y, hy, e⟩ := this
                rw [← e]
                exact ⟨hq, ho.get hy⟩
              have := gives_build (P := P) hI (vars := vars) (env := env) (hT _ _ hi) hd z1 places p1 p2 _ hl (cs := cs) (by rw [List.map_map]; rw [show (fun x : (Nat × Value) × (Nat × Nat × Opd) => x.2) ∘ (fun p : (Nat × Operand) × (Nat × Nat × Opd) => ((p.1.1, a.eval p.1.2), p.2)) = (fun p => p.2) from rfl, q2]; exact hb)
              refine Gives.wp (o := ⟨dst, .build t parts, type, pos, after, guard⟩) ?_ hn
              have e1 : (List.map (fun x : (Nat × Value) × (Nat × Nat × Opd) => x.1) (List.map (fun p : (Nat × Operand) × (Nat × Nat × Opd) => ((p.1.1, a.eval p.1.2), p.2)) z)).toArray = parts.map (fun (i, x) => (i, a.eval x)) := by
                apply Array.ext'
                rw [Array.toList_map, ← q1]
                simp [List.map_map, Function.comp_def]
              rw [e1] at this
              exact this
            · cases hc
          · cases hc
        · cases hc
      · cases hc
    · cases hc
  | buildSlice t n parts =>
    simp only [compOp] at hc
    split at hc
    · rename_i i hi
      split at hc
      · rename_i e hd
        split at hc
        · rename_i j hj
          split at hc
          · rename_i ps hps
            split at hc
            · rename_i hz
              cases hc
              simp only [Bool.and_eq_true, decide_eq_true_eq] at hz
              simp only [evOp, Option.map_eq_some_iff] at he
              obtain ⟨els, hb, he⟩ := he
              cases he
              obtain ⟨z1, z2⟩ := zok_iff hz.1
              obtain ⟨z, q1, q2, q3⟩ := zip_parts hps
              have hl : ∀ x ∈ z.map (fun p => ((p.1.1, a.eval p.1.2), p.2)), x.1.1 = x.2.1 ∧ Rep I w σ (getO vars env x.2.2) x.1.2 := by
                intro x hx
                obtain ⟨p, hp, rfl⟩ := List.mem_map.1 hx
                have := q3 p hp
                simp only [Option.map_eq_some_iff] at this
                obtain ⟨y, hy, e⟩ := this
                rw [← e]
                exact ⟨rfl, ho.get hy⟩
              have hu : P.underlying t = some (.slice e) := by rw [← hd]; exact (hT _ _ hi).und
              have := gives_bslice (P := P) hI (vars := vars) (env := env) hu (hT _ _ hj) z1 z2 n hz.2 _ hl (els := els) (by rw [List.map_map]; rw [show (fun x : (Nat × Value) × (Nat × Opd) => x.2) ∘ (fun p : (Nat × Operand) × (Nat × Opd) => ((p.1.1, a.eval p.1.2), p.2)) = (fun p => p.2) from rfl, q2]; exact hb)
              refine Gives.wp (o := ⟨dst, .buildSlice t n parts, type, pos, after, guard⟩) ?_ hn
              have e1 : (List.map (fun x : (Nat × Value) × (Nat × Opd) => x.1) (List.map (fun p : (Nat × Operand) × (Nat × Opd) => ((p.1.1, a.eval p.1.2), p.2)) z)).toArray = parts.map (fun (i, x) => (i, a.eval x)) := by
                apply Array.ext'
                rw [Array.toList_map, ← q1]
                simp [List.map_map, Function.comp_def]
              rw [e1] at this
              exact this
            · cases hc
          · cases hc
        · cases hc
      · cases hc
    · cases hc
  | load t x =>
    simp only [compOp] at hc
    split at hc
    · rename_i i y hi hy
      cases hc
      simp only [evOp, Option.map_eq_some_iff] at he
      obtain ⟨v, hv, he⟩ := he
      cases he
      obtain ⟨u, h1, h2⟩ := run_load_rep (P := P) hI (hT _ _ hi) (ho.get hy) hv
      exact (Gives.same hI (v := u) (by simp [execOp, h1]) h2).wp hn
    · cases hc
  | store t x y =>
    simp only [compOp] at hc
    split at hc
    · rename_i i x' y' hi hx hy
      cases hc
      simp only [evOp, Option.map_eq_some_iff] at he
      obtain ⟨h2, hs, he⟩ := he
      cases he
      have rx := ho.get hx
      have ry := ho.get hy
      refine Gives.wp (o := ⟨dst, .store t x y, type, pos, after, guard⟩) ?_ hn
      simp only [execOp]
      unfold evStore at hs
      split at hs
      · rename_i id off hx1
        split at hs
        · rename_i cs hh
          split at hs
          · rename_i xs hcl
            split at hs
            · rename_i hle
              cases hs
              rw [hx1] at rx
              generalize a.eval x = vx at rx ⊢
              cases rx with
              | ptr _ _ _ L hL hf => exact gives_store_box hI (hT _ _ hi) hL hh ry hcl hle.1 hle.2
            · cases hs
          · cases hs
        · cases hs
      · rename_i sz' id ver idx off hx1
        split at hs
        · rename_i l k hra
          obtain ⟨hh, hm⟩ := rowAt_eq hra
          split at hs
          · rename_i el ys hel hys
            split at hs
            · rename_i hle
              cases hs
              obtain ⟨y2, hsn, hcl⟩ := Option.bind_eq_some_iff.1 hys
              rw [hx1] at rx
              generalize a.eval x = vx at rx ⊢
              cases rx with
              | ep _ _ _ _ _ _ _ h1x L hL hv hxo =>
                obtain ⟨hf, hver, hR⟩ := hI.obj _ _ L hh hL
                obtain ⟨hhas, rfl⟩ := hxo hver.symm
                exact gives_store_row hI (hT _ _ hi) hL hh ry hsn hcl hel hle.1 hle.2.1 hle.2.2.1 hle.2.2.2
            · cases hs
          · cases hs
        · cases hs
      · cases hs
    · cases hc
  | nilCheck x =>
    simp only [compOp, Option.map_eq_some_iff] at hc
    obtain ⟨y, hy, rfl⟩ := hc
    simp only [evOp, Option.map_eq_some_iff] at he
    obtain ⟨v, hv, he⟩ := he
    cases he
    exact Gives.wp (o := ⟨dst, .nilCheck x, type, pos, after, guard⟩) (gives_nilchk hI (ho.get hy) hv _ a.eval x rfl rfl) hn
  | binOp op xt x y yt =>
    simp only [compOp] at hc
    split at hc
    · rename_i x' y' hx hy
      refine Gives.wp (o := ⟨dst, .binOp op xt x y yt, type, pos, after, guard⟩) ?_ hn
      have rx := ho.get hx
      have ry := ho.get hy
      simp only [compBin] at hc
      have eqv : ∀ (k : EqK) (neg : Bool) (d : TypeDesc), P.underlying xt = some d → k.ok d = true → c = .eqv k neg x' y' → op = (if neg then .neq else .eql) → Gives P B w0 I σ w (execOp a.eval ⟨dst, .binOp op xt x y yt, type, pos, after, guard⟩) r h' := by
        rintro k neg d hd hk rfl rfl
        simp only [evOp, Option.map_eq_some_iff] at he
        obtain ⟨b, hb, he⟩ := he
        cases he
        refine (gives_eqv hI rx ry hb hd hk x y).congr ?_
        simp only [execOp, Sem.run_bind]
        cases (eqGuard (if neg then BinOp.neq else BinOp.eql) xt x y (a.eval x) (a.eval y)).run P w <;> rfl
      have bin : c = .bin op x' y' → Gives P B w0 I σ w (execOp a.eval ⟨dst, .binOp op xt x y yt, type, pos, after, guard⟩) r h' := by
        rintro rfl
        simp only [evOp, Option.map_eq_some_iff] at he
        obtain ⟨v, hv, he⟩ := he
        cases he
        refine (gives_bin hI rx ry hv xt x y).congr ?_
        simp only [execOp, Sem.run_bind]
        cases (eqGuard op xt x y (a.eval x) (a.eval y)).run P w <;> rfl
      split at hc
      · rename_i i hi
        have hu := (hT _ _ hi).und
        split at hc
        · cases hc; exact bin rfl
        · cases hc; exact bin rfl
        · rename_i hd
          rw [hd] at hu
          split at hc <;> first | (cases hc; done) | skip
          · cases hc; exact eqv .bool false _ hu rfl rfl rfl
          · cases hc; exact eqv .bool true _ hu rfl rfl rfl
        · rename_i e hd
          rw [hd] at hu
          split at hc <;> first | (cases hc; done) | skip
          · cases hc; exact eqv .slice false _ hu rfl rfl rfl
          · cases hc; exact eqv .slice true _ hu rfl rfl rfl
        · rename_i e hd
          rw [hd] at hu
          split at hc <;> first | (cases hc; done) | skip
          · cases hc; exact eqv .pointer false _ hu rfl rfl rfl
          · cases hc; exact eqv .pointer true _ hu rfl rfl rfl
        · cases hc
      · cases hc
    · cases hc
  | unOp op xt x =>
    simp only [compOp, Option.map_eq_some_iff] at hc
    obtain ⟨y, hy, rfl⟩ := hc
    simp only [evOp, Option.map_eq_some_iff] at he
    obtain ⟨v, hv, he⟩ := he
    cases he
    exact Gives.wp (o := ⟨dst, .unOp op xt x, type, pos, after, guard⟩) (gives_un hI (ho.get hy) hv) hn
  | convert src dt x =>
    simp only [compOp] at hc
    split at hc
    · rename_i i j y hi hj hy
      have ry := ho.get hy
      refine Gives.wp (o := ⟨dst, .convert src dt x, type, pos, after, guard⟩) ?_ hn
      split at hc
      · rename_i k hd
        cases hc
        simp only [evOp] at he
        split at he
        · rename_i kk n hx1
          cases he
          rw [hx1] at ry
          exact gives_conv hI (hT _ _ hi).und (by rw [← hd]; exact (hT _ _ hj).und) ry
        · cases he
      · rename_i hd
        cases hc
        simp only [evOp] at he
        split at he
        · rename_i s hx1
          cases he
          rw [hx1] at ry
          exact gives_same hI (hT _ _ hi).und (by rw [← hd]; exact (hT _ _ hj).und) ry
        · cases he
      · cases hc
    · cases hc
  | makeFunc fn first cap =>
    simp only [compOp] at hc
    split at hc
    · rename_i p q hp hq
      cases hc
      cases he
      have rp := cOs_args ho hp
      have rq := cOs_args ho hq
      exact (Gives.same hI (v := .func fn (first.map a.eval) (cap.map a.eval)) (by simp [execOp, Instr.makeFunc]) (.fn σ fn _ _ _ _ rp.size rq.size rp.rep rq.rep)).wp hn
    · cases hc
  | makeSlice t l cp =>
    simp only [compOp] at hc
    split at hc
    · rename_i i l' c' hi hl hcp
      split at hc
      · rename_i e hd
        split at hc
        · rename_i j hj
          split at hc
          · rename_i hz
            cases hc
            obtain ⟨z1, z2⟩ := zok_iff hz
            have rl := ho.get hl
            have rc := ho.get hcp
            simp only [evOp] at he
            split at he
            · rename_i n mm e1 e2
              split at he
              · rename_i hb
                cases he
                rw [e1] at rl; rw [e2] at rc
                refine Gives.wp (o := ⟨dst, .makeSlice t l cp, type, pos, after, guard⟩) ?_ hn
                simp only [execOp]
                generalize a.eval l = vl at rl ⊢
                generalize a.eval cp = vc at rc ⊢
                cases rl; cases rc
                exact gives_mkslice hI (by rw [← hd]; exact (hT _ _ hi).und) (hT _ _ hj) z1 z2 hb.1 hb.2.1 hb.2.2.1 hb.2.2.2
              · cases he
            · cases he
          · cases hc
        · cases hc
      · cases hc
    · cases hc
  | slice t x lo hi mx =>
    simp only [compOp] at hc
    split at hc
    · rename_i i x' lo' hi' mx' hti hx hlo hhi hmx
      have rx := ho.get hx
      have r1 := optOk_of ho hlo
      have r2 := optOk_of ho hhi
      have r3 := optOk_of ho hmx
      refine Gives.wp (o := ⟨dst, .slice t x lo hi mx, type, pos, after, guard⟩) ?_ hn
      split at hc
      · rename_i e hd
        split at hc
        · rename_i j hj
          cases hc
          simp only [evOp, Option.map_eq_some_iff] at he
          obtain ⟨v, hv, he⟩ := he
          cases he
          exact gives_slice hI (by rw [← hd]; exact (hT _ _ hti).und) (hT _ _ hj) rx r1 r2 r3 hv
        · cases hc
      · rename_i hd
        split at hc
        · cases hc
          have hmn : mx = none := by
            cases mx with
            | none => rfl
            | some z => simp [cOo] at hmx
          subst hmn
          simp only [evOp] at he
          split at he
          · rename_i s hx1
            simp only [Option.map_eq_some_iff] at he
            obtain ⟨⟨l, hh, mm⟩, hb, he⟩ := he
            cases he
            rw [hx1] at rx
            exact gives_sslice hI (by rw [← hd]; exact (hT _ _ hti).und) rx r1 r2 hb
          · cases he
        · cases hc
      · cases hc
    · cases hc
  | fieldAddr t x f =>
    simp only [compOp] at hc
    split at hc
    · rename_i i x' hti hx
      split at hc
      · rename_i fs hd
        split at hc
        · rename_i fd hfd
          split at hc
          · rename_i j hj
            split at hc
            · cases hc
            · rename_i hsz
              cases hc
              simp only [evOp, Option.map_eq_some_iff] at he
              obtain ⟨v, hv, he⟩ := he
              cases he
              exact Gives.wp (o := ⟨dst, .fieldAddr t x f, type, pos, after, guard⟩) (gives_fa hI (by rw [← hd]; exact (hT _ _ hti).und) hfd (hT _ _ hj) hsz (ho.get hx) hv) hn
          · cases hc
        · cases hc
      · cases hc
    · cases hc
  | field t x f =>
    simp only [compOp] at hc
    split at hc
    · rename_i i x' hti hx
      split at hc
      · rename_i fs hd
        split at hc
        · rename_i fd hfd
          split at hc
          · rename_i j hj
            cases hc
            have rx := ho.get hx
            simp only [evOp] at he
            split at he
            · rename_i cs hx1
              split at he
              · rename_i hle
                simp only [Option.map_eq_some_iff] at he
                obtain ⟨v, hv, he⟩ := he
                cases he
                rw [hx1] at rx
                exact Gives.wp (o := ⟨dst, .field t x f, type, pos, after, guard⟩) (gives_fld hI (by rw [← hd]; exact (hT _ _ hti).und) hfd (hT _ _ hj) rx hle hv) hn
              · cases he
            · cases he
          · cases hc
        · cases hc
      · cases hc
    · cases hc
  | indexAddr t x i =>
    simp only [compOp] at hc
    split at hc
    · rename_i ti x' i' hti hx hi
      split at hc
      · rename_i e hd
        split at hc
        · rename_i j hj
          cases hc
          simp only [evOp, Option.map_eq_some_iff] at he
          obtain ⟨v, hv, he⟩ := he
          cases he
          exact Gives.wp (o := ⟨dst, .indexAddr t x i, type, pos, after, guard⟩) (gives_ia hI (by rw [← hd]; exact (hT _ _ hti).und) (hT _ _ hj) (ho.get hx) (ho.get hi) hv) hn
        · cases hc
      · cases hc
    · cases hc
  | index t x i =>
    simp only [compOp] at hc
    split at hc
    · rename_i ti x' i' hti hx hi
      split at hc
      · rename_i hd
        cases hc
        have rx := ho.get hx
        simp only [evOp] at he
        split at he
        · rename_i s n hx1 hn1
          split at he
          · rename_i b hb
            cases he
            rw [hx1] at rx
            exact Gives.wp (o := ⟨dst, .index t x i, type, pos, after, guard⟩) (gives_ixs hI (by rw [← hd]; exact (hT _ _ hti).und) rx (ho.get hi) hn1 hb) hn
          · cases he
        · cases he
      · cases hc
    · cases hc
  | extract x i =>
    simp only [compOp, Option.map_eq_some_iff] at hc
    obtain ⟨y, hy, rfl⟩ := hc
    have ry := ho.get hy
    simp only [evOp] at he
    split at he
    · rename_i vs hx1
      split at he
      · rename_i v hv
        cases he
        rw [hx1] at ry
        exact Gives.wp (o := ⟨dst, .extract x i, type, pos, after, guard⟩) (gives_extract hI ry hv) hn
      · cases he
    · cases he
  | call cl =>
    obtain ⟨callee, args, argTypes⟩ := cl
    simp only [compOp] at hc
    split at hc
    · -- a function
      rename_i f
      simp only [Option.map_eq_some_iff] at hc
      obtain ⟨l, hl, rfl⟩ := hc
      have ra := cOs_args ho hl
      have hrun : ∀ (vals : Array Value), vals = args.map a.eval → (callFunc f vals).run P w = .ok (.enter f vals) w → (execOp a.eval ⟨dst, .call { callee := .value (.func f), args := args, argTypes := argTypes }, type, pos, after, guard⟩).run P w = .ok (.enter f vals) w := by
        rintro vals rfl hr
        simp only [execOp, resolve, Act.eval, Deferred.ofValue, Sem.run_bind, Sem.run_pure, Result.andThen_ok, invoke]
        simpa using hr
      cases hp : T.pureF f with
      | true =>
        rw [hp] at he
        simp only [evOp] at he
        split at he
        · rename_i as' hs
          split at he
          · rename_i r' hcr
            cases he
            exact ends_wp (hrun _ rfl (hcall.enter _ _ _ _ _ hcr _ _)) (pure_call hI hcall ra hs hcr) hn
          · cases he
        · cases he
      | false =>
        rw [hp] at he
        simp only [evOp] at he
        exact ends_wp (hrun _ rfl (hcall.enter _ _ _ _ _ he _ _)) (hcall.calls _ _ _ _ _ he B w0 I σ w _ hI ra) hn
    · rename_i t
      split at hc
      · rename_i x' l hx hl
        cases hc
        have ra := cOs_args ho hl
        have rx := ho t x' hx
        simp only [evOp] at he
        split at he
        · rename_i f first cap hx1
          rw [hx1] at rx
          generalize hv : a.eval (.tmp t) = vx at rx
          cases rx with
          | fn _ _ _ _ ap aq hp hq hpr hqr =>
            have hargs : ArgsRep I w σ (first ++ l.map (getO vars env) ++ cap) (ap ++ args.map a.eval ++ aq) := by
              refine ⟨by simp [hp, hq, ← ra.size], fun i v hi => ?_⟩
              have s1 := ra.size
              by_cases h1 : i < first.length
              · rw [List.append_assoc, List.getElem?_append_left h1] at hi
                rw [Array.append_assoc, getD_left (by omega)]
                exact hpr i v hi
              · rw [List.append_assoc, List.getElem?_append_right (by omega)] at hi
                rw [Array.append_assoc, getD_right (by omega)]
                by_cases h2 : i - first.length < (l.map (getO vars env)).length
                · rw [List.getElem?_append_left h2] at hi
                  rw [getD_left (by omega), hp]
                  exact ra.rep _ v hi
                · rw [List.getElem?_append_right (by omega)] at hi
                  rw [getD_right (by omega), hp, s1]
                  exact hqr _ v hi
            have hr := hcall.enter _ _ _ _ _ he (ap ++ args.map a.eval ++ aq) w
            refine ends_wp (f := f) (vals := ap ++ args.map a.eval ++ aq) ?_ (hcall.calls _ _ _ _ _ he B w0 I σ w _ hI hargs) hn
            simp only [execOp, resolve, hv, Deferred.ofValue, Sem.run_bind, Sem.run_pure, Result.andThen_ok, invoke]
            simpa using hr
        · cases he
      · cases hc
    · -- append
      split at hc
      · rename_i s x t t' hargs htys
        split at hc
        · rename_i i s' x' hti hs hx
          split at hc
          · rename_i htt
            subst htt
            split at hc
            · rename_i e hd
              split at hc
              · rename_i j hj
                split at hc
                · rename_i hz
                  cases hc
                  obtain ⟨z1, z2⟩ := zok_iff hz
                  simp only [evOp] at he
                  have := gives_append (P := P) (ty := type) hI (by rw [← hd]; exact (hT _ _ hti).und) (hT _ _ hj) z2 (ho.get hs) (ho.get hx) he
                  refine Gives.wp (o := ⟨dst, .call { callee := .builtin .append, args := args, argTypes := argTypes }, type, pos, after, guard⟩) ?_ hn
                  have e1 : args = #[s, x] := Array.ext' hargs
                  have e2 : argTypes = #[t, t] := Array.ext' htys
                  subst e1; subst e2
                  simpa [execOp, resolve, invoke, builtin] using this
                · cases hc
              · cases hc
            · cases hc
          · cases hc
        · cases hc
      · cases hc
    · -- len
      split at hc
      · rename_i x t hargs htys
        have e1 : args = #[x] := Array.ext' hargs
        have e2 : argTypes = #[t] := Array.ext' htys
        subst e1; subst e2
        split at hc
        · rename_i i x' hti hx
          have len : ∀ k : LenK, k.ok i.desc = true → c = .len k x' → Oper.wp P ⟨dst, .call { callee := .builtin .len, args := #[x], argTypes := #[t] }, type, pos, after, guard⟩ a w next Q := by
            rintro k hk rfl
            simp only [evOp, Option.map_eq_some_iff] at he
            obtain ⟨n, hn1, he⟩ := he
            cases he
            have := gives_len (P := P) (ty := type) hI (hT _ _ hti).und hk (ho.get hx) hn1
            refine Gives.wp (o := ⟨dst, .call { callee := .builtin .len, args := #[x], argTypes := #[t] }, type, pos, after, guard⟩) ?_ hn
            simpa [execOp, resolve, invoke, builtin] using this
          split at hc <;> first | (cases hc; done) | skip
          · rename_i e hd; cases hc; exact len .slice (by rw [hd]; rfl) rfl
          · rename_i hd; cases hc; exact len .string (by rw [hd]; rfl) rfl
          · rename_i k e hd; cases hc; exact len .map (by rw [hd]; rfl) rfl
        · cases hc
      · cases hc
    · cases hc
  | _ => simp [compOp] at hc
end
end Go.AE

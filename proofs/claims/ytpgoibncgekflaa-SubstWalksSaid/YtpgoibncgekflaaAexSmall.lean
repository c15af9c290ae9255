/- AE, part 13: the other operations. -/
import Derived.Test.YtpgoibncgekflaaAexApp2
set_option linter.unusedVariables false
set_option linter.unusedSimpArgs false
namespace Go.AE
open Go Go.RowKit

section
variable {P : Program} {B : Nat} {w0 w w' : World} {I I' : Cells} {σ σ' : List Loc} {h : List AO}

theorem run_intBin {op : BinOp} {k : IntKind} {a b : Int} {r : AV} (he : intBin op k a b = some r) (xt : TypeId) (hsh : op ≠ .shl ∧ op ≠ .shr) :
    ∃ v, (binOp op xt (.int k a) (.int k b)).run P w = .ok v w ∧ r = .v v := by
  cases op <;> simp only [intBin] at he <;> first
    | (cases he; done)
    | (cases he; exact ⟨_, by simp [binOp, Op.intArith, Op.intCmp], rfl⟩)
    | (split at he
       · cases he
       · rename_i hb
         cases he
         exact ⟨_, by simp [binOp, Op.intDiv, hb], rfl⟩)

theorem run_strBin {op : BinOp} {x y : ByteArray} {r : AV} (he : strBin op x y = some r) (xt : TypeId) :
    ∃ v, (binOp op xt (.string x) (.string y)).run P w = .ok v w ∧ r = .v v := by
  cases op <;> simp only [strBin] at he <;> first
    | (cases he; done)
    | (cases he; exact ⟨_, by simp [binOp, Op.stringOp], rfl⟩)
    | (split at he
       · rename_i hb
         cases he
         have : ¬ (((x.size + y.size : Nat) : Int) > 9223372036854775807) := by omega
         refine ⟨.string (x ++ y), ?_, rfl⟩
         simp only [binOp, Op.stringOp]
         rw [if_neg]
         · rfl
         · simpa [IntKind.max, IntKind.signed, IntKind.bits] using hb
       · cases he)

theorem gives_bin (hI : Inv B w0 I σ w h) {op : BinOp} {x y : AV} {vx vy : Value} (hx : Rep I w σ x vx) (hy : Rep I w σ y vy) {r : AV} (he : evBin op x y = some r) (xt : TypeId) (ox oy : Operand) :
    Gives P B w0 I σ w (do pure (.value (← do eqGuard op xt ox oy vx vy; binOp op xt vx vy))) r h := by
  unfold evBin at he
  split at he
  · rename_i k a k' b
    split at he
    · rename_i e; subst e
      cases hx; cases hy
      have hsh : op ≠ .shl ∧ op ≠ .shr := by constructor <;> (rintro rfl; simp [intBin] at he)
      obtain ⟨v, h1, rfl⟩ := run_intBin (P := P) (w := w) he xt hsh
      refine Gives.same hI (v := v) ?_ (.v σ v)
      have hg : (eqGuard op xt ox oy (.int k a) (.int k b)).run P w = .ok () w := by
        unfold eqGuard
        split <;> simp
      simp only [Sem.run_bind, hg, Result.andThen_ok, h1, Sem.run_pure]
    · cases he
  · rename_i a b
    cases hx; cases hy
    obtain ⟨v, h1, rfl⟩ := run_strBin (P := P) (w := w) he xt
    refine Gives.same hI (v := v) ?_ (.v σ v)
    have hg : (eqGuard op xt ox oy (.string a) (.string b)).run P w = .ok () w := by
      unfold eqGuard
      split <;> simp
    simp only [Sem.run_bind, hg, Result.andThen_ok, h1, Sem.run_pure]
  · cases he

theorem gives_un (hI : Inv B w0 I σ w h) {op : UnOp} {x : AV} {vx : Value} (hx : Rep I w σ x vx) {r : AV} (he : evUn op x = some r) :
    Gives P B w0 I σ w (do pure (.value (← Op.unary op vx))) r h := by
  unfold evUn at he
  split at he
  · cases hx
    split at he
    · cases he
      exact Gives.same hI (by simp [Op.unary, Op.intArith]) (.v σ _)
    · cases he
  · cases hx
    split at he
    · cases he
      exact Gives.same hI (by simp [Op.unary]) (.v σ _)
    · cases he
  · cases he

def EqK.ok : EqK → TypeDesc → Bool
  | .bool, .bool => true
  | .slice, .slice _ => true
  | .pointer, .pointer _ => true
  | _, _ => false

theorem equal_in (t : TypeId) (x y : Value) : Op.equal t x y = Op.equalIn (9999 + 1) t x y := rfl
theorem run_equal {xt : TypeId} {d : TypeDesc} (hd : P.underlying xt = some d) (x y : Value) (b : Bool)
    (hb : (d = .bool ∧ ∃ p q, x = .bool p ∧ y = .bool q ∧ b = (p == q)) ∨ (∃ e, d = .slice e ∧ ((x = .slice none 0 0 ∧ y = .slice none 0 0 ∧ b = true) ∨ (∃ a n c, x = .slice (some a) n c ∧ y = .slice none 0 0 ∧ b = false))) ∨
      (∃ e, d = .pointer e ∧ ((x = .pointer none ∧ y = .pointer none ∧ b = true) ∨ (∃ a, x = .pointer (some a) ∧ y = .pointer none ∧ b = false)))) :
    (Op.equal xt x y).run P w = .ok b w := by
  rw [equal_in]
  unfold Op.equalIn
  simp only [Sem.run_bind, run_underlying hd w, Result.andThen_ok]
  rcases hb with ⟨rfl, p, q, rfl, rfl, rfl⟩ | ⟨e, rfl, ⟨rfl, rfl, rfl⟩ | ⟨a, n, c, rfl, rfl, rfl⟩⟩ | ⟨e, rfl, ⟨rfl, rfl, rfl⟩ | ⟨a, rfl, rfl, rfl⟩⟩ <;> rfl

theorem run_eqNil (hI : Inv B w0 I σ w h) {k : EqK} {x y : AV} {vx vy : Value} (hx : Rep I w σ x vx) (hy : Rep I w σ y vy) {b : Bool} (he : eqNil h k x y = some b) {xt : TypeId} {d : TypeDesc} (hd : P.underlying xt = some d)
    (hk : k.ok d = true) : (Op.equal xt vx vy).run P w = .ok b w ∧ (∀ ops, (∀ ox oy, (eqGuard ops xt ox oy vx vy).run P w = .ok () w)) ∧ (binOp .eql xt vx vy = (do pure (.bool (← Op.equal xt vx vy)))) ∧ (binOp .neq xt vx vy = (do pure (.bool (!(← Op.equal xt vx vy))))) := by
  have hun := run_underlying hd w
  unfold eqNil at he
  split at he <;> first | (cases he; done) | skip
  · cases hx; cases hy; cases he
    cases d <;> simp [EqK.ok] at hk
    refine ⟨run_equal hd _ _ _ (by first | exact .inl ⟨rfl, _, _, rfl, rfl, rfl⟩ | exact .inr (.inl ⟨_, rfl, .inl ⟨rfl, rfl, rfl⟩⟩) | exact .inr (.inl ⟨_, rfl, .inr ⟨_, _, _, rfl, rfl, rfl⟩⟩) | exact .inr (.inr ⟨_, rfl, .inl ⟨rfl, rfl, rfl⟩⟩) | exact .inr (.inr ⟨_, rfl, .inr ⟨_, rfl, rfl, rfl⟩⟩)), fun ops ox oy => ?_, rfl, rfl⟩
    unfold eqGuard; split <;> simp
  · cases hx; cases hy; cases he
    cases d <;> simp [EqK.ok] at hk
    refine ⟨run_equal hd _ _ _ (by first | exact .inl ⟨rfl, _, _, rfl, rfl, rfl⟩ | exact .inr (.inl ⟨_, rfl, .inl ⟨rfl, rfl, rfl⟩⟩) | exact .inr (.inl ⟨_, rfl, .inr ⟨_, _, _, rfl, rfl, rfl⟩⟩) | exact .inr (.inr ⟨_, rfl, .inl ⟨rfl, rfl, rfl⟩⟩) | exact .inr (.inr ⟨_, rfl, .inr ⟨_, rfl, rfl, rfl⟩⟩)), fun ops ox oy => ?_, rfl, rfl⟩
    unfold eqGuard; split <;> simp
  · cases hy
    cases hx with
    | slc _ sz ex nn l a cap b' o g ha hn hnil hcap hex hsz hc hi h1 hr =>
      split at he
      · rename_i hcond
        cases he
        cases d <;> simp [EqK.ok] at hk
        obtain ⟨ad, rfl⟩ : ∃ ad, a = some ad := by
          cases a with
          | some ad => exact ⟨ad, rfl⟩
          | none =>
            simp only [Bool.or_eq_true, Bool.not_eq_true', List.isEmpty_eq_false_iff] at hcond
            rcases hcond with h0 | h0
            · exact absurd rfl (hn h0)
            · exact absurd (ha h0) (by simp)
        refine ⟨run_equal hd _ _ _ (by first | exact .inl ⟨rfl, _, _, rfl, rfl, rfl⟩ | exact .inr (.inl ⟨_, rfl, .inl ⟨rfl, rfl, rfl⟩⟩) | exact .inr (.inl ⟨_, rfl, .inr ⟨_, _, _, rfl, rfl, rfl⟩⟩) | exact .inr (.inr ⟨_, rfl, .inl ⟨rfl, rfl, rfl⟩⟩) | exact .inr (.inr ⟨_, rfl, .inr ⟨_, rfl, rfl, rfl⟩⟩)), fun ops ox oy => ?_, rfl, rfl⟩
        unfold eqGuard; split <;> simp
      · cases he
  · cases hy
    cases hx with
    | own _ sz id ver off n x h1x L hL hv hxo =>
      split at he
      · rename_i pr hra
        obtain ⟨l, k⟩ := pr
        split at he
        · rename_i hn
          cases he
          cases d <;> simp [EqK.ok] at hk
          obtain ⟨hh, hm⟩ := rowAt_eq hra
          obtain ⟨hf, hver, hR⟩ := hI.obj _ _ L hh hL
          rcases hxo hver.symm with ⟨hhas, hcap, rfl⟩ | ⟨rfl, a, rfl⟩
          · refine ⟨run_equal hd _ _ _ (by first | exact .inl ⟨rfl, _, _, rfl, rfl, rfl⟩ | exact .inr (.inl ⟨_, rfl, .inl ⟨rfl, rfl, rfl⟩⟩) | exact .inr (.inl ⟨_, rfl, .inr ⟨_, _, _, rfl, rfl, rfl⟩⟩) | exact .inr (.inr ⟨_, rfl, .inl ⟨rfl, rfl, rfl⟩⟩) | exact .inr (.inr ⟨_, rfl, .inr ⟨_, rfl, rfl, rfl⟩⟩)), fun ops ox oy => ?_, rfl, rfl⟩
            unfold eqGuard; split <;> simp
          · omega
        · cases he
      · cases he
  · cases hy
    cases hx with
    | ptr _ id off L hL hf =>
      cases he
      cases d <;> simp [EqK.ok] at hk
      refine ⟨run_equal hd _ _ _ (by first | exact .inl ⟨rfl, _, _, rfl, rfl, rfl⟩ | exact .inr (.inl ⟨_, rfl, .inl ⟨rfl, rfl, rfl⟩⟩) | exact .inr (.inl ⟨_, rfl, .inr ⟨_, _, _, rfl, rfl, rfl⟩⟩) | exact .inr (.inr ⟨_, rfl, .inl ⟨rfl, rfl, rfl⟩⟩) | exact .inr (.inr ⟨_, rfl, .inr ⟨_, rfl, rfl, rfl⟩⟩)), fun ops ox oy => ?_, rfl, rfl⟩
      unfold eqGuard; split <;> simp
  · cases hy
    cases hx with
    | ip _ cs b o g hc hi h1 hr =>
      cases he
      cases d <;> simp [EqK.ok] at hk
      refine ⟨run_equal hd _ _ _ (by first | exact .inl ⟨rfl, _, _, rfl, rfl, rfl⟩ | exact .inr (.inl ⟨_, rfl, .inl ⟨rfl, rfl, rfl⟩⟩) | exact .inr (.inl ⟨_, rfl, .inr ⟨_, _, _, rfl, rfl, rfl⟩⟩) | exact .inr (.inr ⟨_, rfl, .inl ⟨rfl, rfl, rfl⟩⟩) | exact .inr (.inr ⟨_, rfl, .inr ⟨_, rfl, rfl, rfl⟩⟩)), fun ops ox oy => ?_, rfl, rfl⟩
      unfold eqGuard; split <;> simp
  · cases hx; cases hy; cases he
    cases d <;> simp [EqK.ok] at hk
    refine ⟨run_equal hd _ _ _ (by first | exact .inl ⟨rfl, _, _, rfl, rfl, rfl⟩ | exact .inr (.inl ⟨_, rfl, .inl ⟨rfl, rfl, rfl⟩⟩) | exact .inr (.inl ⟨_, rfl, .inr ⟨_, _, _, rfl, rfl, rfl⟩⟩) | exact .inr (.inr ⟨_, rfl, .inl ⟨rfl, rfl, rfl⟩⟩) | exact .inr (.inr ⟨_, rfl, .inr ⟨_, rfl, rfl, rfl⟩⟩)), fun ops ox oy => ?_, rfl, rfl⟩
    unfold eqGuard; split <;> simp

theorem gives_eqv (hI : Inv B w0 I σ w h) {k : EqK} {neg : Bool} {x y : AV} {vx vy : Value} (hx : Rep I w σ x vx) (hy : Rep I w σ y vy) {b : Bool} (he : eqNil h k x y = some b) {xt : TypeId} {d : TypeDesc} (hd : P.underlying xt = some d)
    (hk : k.ok d = true) (ox oy : Operand) :
    Gives P B w0 I σ w (do pure (.value (← do eqGuard (if neg then .neq else .eql) xt ox oy vx vy; binOp (if neg then .neq else .eql) xt vx vy))) (.v (.bool (if neg then !b else b))) h := by
  obtain ⟨h1, h2, h3, h4⟩ := run_eqNil (P := P) hI hx hy he hd hk
  refine Gives.same hI ?_ (.v σ _)
  cases neg <;> simp [h2, h3, h4, h1]

/-! ### Parts of what is there -/
theorem gives_nilchk (hI : Inv B w0 I σ w h) {x r : AV} {vx : Value} (hx : Rep I w σ x vx) (he : evNil h x = some r) (o : Oper) (ρ : Operand → Value) (ox : Operand) (hop : o.op = .nilCheck ox) (ho : ρ ox = vx) :
    Gives P B w0 I σ w (execOp ρ o) r h := by
  cases hx with
  | ptr _ id off L hL hf => cases he; exact Gives.same hI (by simp [execOp, hop, ho]) (.ptr σ id off L hL hf)
  | ip _ cs b o g hc hi h1 hr => cases he; exact Gives.same hI (by simp [execOp, hop, ho]) (.ip σ cs b o g hc hi h1 hr)
  | ep _ sz id ver idx off x h1x L hL hv hxo =>
    simp only [evNil, Option.map_eq_some_iff] at he
    obtain ⟨⟨l, k⟩, hra, rfl⟩ := he
    obtain ⟨hh, hm⟩ := rowAt_eq hra
    obtain ⟨hf, hver, hR⟩ := hI.obj id _ L hh hL
    obtain ⟨hhas, rfl⟩ := hxo hver.symm
    exact Gives.same hI (by simp [execOp, hop, ho]) (.ep σ sz id ver idx off _ rfl L hL hv hxo)
  | _ => cases he

theorem gives_fa (hI : Inv B w0 I σ w h) {t : TypeId} {fields : Array Field} (hu : P.underlying t = some (.struct fields)) {fi : Nat} {f : Field} (hf : fields[fi]? = some f) {tf : TI} (htf : TIok P f.type tf) (hsz : tf.size ≠ 0)
    {x : AV} {vx : Value} (hx : Rep I w σ x vx) {r : AV} (he : evFa h f.offset x = some r) :
    Gives P B w0 I σ w (do pure (.value (← Instr.fieldAt t vx fi))) r h := by
  cases hx with
  | ptr _ id o L hL hfx =>
    cases he
    refine Gives.same hI (v := .pointer (some ⟨L.b, L.o + (o + f.offset), none⟩)) ?_ (.ptr σ id (o + f.offset) L hL hfx)
    simp [Instr.fieldAt, run_underlying hu, hf, Instr.sureAddr, fieldPlace, htf.sizeOf, hsz, Addr.add_lit, Nat.add_assoc]
  | ep _ sz id ver i o x h1x L hL hv hxo =>
    simp only [evFa, Option.map_eq_some_iff] at he
    obtain ⟨⟨l, k⟩, hra, rfl⟩ := he
    obtain ⟨hh, hm⟩ := rowAt_eq hra
    obtain ⟨_, hver, hR⟩ := hI.obj id _ L hh hL
    obtain ⟨hhas, rfl⟩ := hxo hver.symm
    refine Gives.same hI (v := .pointer (some ⟨L.b, L.o + (i * sz + (o + f.offset)), none⟩)) ?_ (.ep σ sz id ver i (o + f.offset) _ rfl L hL hv (fun _ => ⟨hhas, rfl⟩))
    simp [Instr.fieldAt, run_underlying hu, hf, Instr.sureAddr, fieldPlace, htf.sizeOf, hsz, Addr.add_lit, Nat.add_assoc]
  | ip _ cs b o g hc hi h1 hr =>
    cases he
    refine Gives.same hI (v := .pointer (some ⟨b, o + f.offset, none⟩)) ?_ (.ip σ (cs.drop f.offset) b (o + f.offset) (fun i => g (f.offset + i)) ?_ ?_ ?_ ?_)
    · simp [Instr.fieldAt, run_underlying hu, hf, Instr.sureAddr, fieldPlace, htf.sizeOf, hsz, Addr.add_lit]
    all_goals (intro i c hi'; rw [List.getElem?_drop] at hi')
    · rw [Nat.add_assoc]; exact hc _ c hi'
    · rw [Nat.add_assoc]; exact hi _ c hi'
    · exact h1 _ c hi'
    · exact hr _ c hi'
  | _ => cases he

theorem get_getD {arr : Array Value} {i : Nat} (h : i < arr.size) : ∃ u, arr[i]? = some u ∧ arr.getD i undef = u :=
  ⟨arr[i], Array.getElem?_eq_getElem h, by simp [Array.getD, h]⟩

theorem extract_getD (arr : Array Value) (off sz i : Nat) (hi : i < sz) (hle : off + sz ≤ arr.size) : (arr.extract off (off + sz)).getD i undef = arr.getD (off + i) undef := by
  rw [Array.getD_eq_getD_getElem?, Array.getD_eq_getD_getElem?, Array.getElem?_extract]
  rw [if_pos (by omega)]

theorem gives_fld (hI : Inv B w0 I σ w h) {t : TypeId} {fields : Array Field} (hu : P.underlying t = some (.struct fields)) {fi : Nat} {f : Field} (hf : fields[fi]? = some f) {tf : TI} (htf : TIok P f.type tf)
    {cs : List AV} {vx : Value} (hx : Rep I w σ (.agg cs) vx) (hle : f.offset + tf.size ≤ cs.length) {r : AV} (he : asEl tf.agg ((cs.drop f.offset).take tf.size) = some r) :
    Gives P B w0 I σ w (do pure (.value (← Instr.field t vx fi))) r h := by
  cases hx with
  | agg _ _ arr hs h1 hr =>
    unfold asEl at he
    cases hg : tf.agg with
    | true =>
      simp only [hg, if_true, Option.some.injEq] at he
      subst he
      refine Gives.same hI (v := .agg (arr.extract f.offset (f.offset + tf.size))) ?_ ?_
      · simp [Instr.field, run_underlying hu, hf, asAgg, part, htf.isAgg, hg, htf.sizeOf]
      · refine .agg σ _ _ (by simp; omega) (fun i c hi => ?_) (fun i c hi => ?_)
        · obtain ⟨g1, g2⟩ := drop_take_get cs f.offset _ i c hi
          rw [extract_getD _ _ _ _ g2 (by omega)]; exact h1 _ c g1
        · obtain ⟨g1, g2⟩ := drop_take_get cs f.offset _ i c hi
          rw [extract_getD _ _ _ _ g2 (by omega)]; exact hr _ c g1
    | false =>
      simp only [hg, Bool.false_eq_true, if_false] at he
      generalize hl : (cs.drop f.offset).take tf.size = l at he
      match l, he with
      | [c], he =>
        cases he
        have h0 : ((cs.drop f.offset).take tf.size)[0]? = some r := by rw [hl]; rfl
        obtain ⟨g1, g2⟩ := drop_take_get cs f.offset _ 0 r h0
        have hlt := (List.getElem?_eq_some_iff.1 g1).1
        simp only [Nat.add_zero] at hlt g1
        obtain ⟨u, hv, hu2⟩ := get_getD (arr := arr) (i := f.offset) (by omega)
        have := hr _ r g1
        rw [hu2] at this
        exact Gives.same hI (v := u) (by simp [Instr.field, run_underlying hu, hf, asAgg, part, htf.isAgg, hg, hv]) this

theorem gives_extract (hI : Inv B w0 I σ w h) {vs : List AV} {vx : Value} (hx : Rep I w σ (.tup vs) vx) {i : Nat} {r : AV} (he : vs[i]? = some r) :
    Gives P B w0 I σ w (do pure (.value (← Instr.extract vx i))) r h := by
  cases hx with
  | tup _ _ arr hs hr =>
    have hlt := (List.getElem?_eq_some_iff.1 he).1
    obtain ⟨u, hv, hu2⟩ := get_getD (arr := arr) (i := i) (by omega)
    have := hr i r he
    rw [hu2] at this
    exact Gives.same hI (v := u) (by simp [Instr.extract, hv]) this

theorem natO_eq {vars env : List AV} {x : Opd} {n : Nat} (hn : natO vars env x = some n) {v : Value} (hx : Rep I w σ (getO vars env x) v) : ∃ k, v = .int k (n : Int) := by
  unfold natO at hn
  split at hn
  · rename_i k m hm
    split at hn
    · cases hn
      rw [hm] at hx
      cases hx
      exact ⟨k, by congr 1; omega⟩
    · cases hn
  · cases hn

theorem gives_ia (hI : Inv B w0 I σ w h) {t e : TypeId} {i : TI} (hu : P.underlying t = some (.slice e)) (ht : TIok P e i) {vars env : List AV} {x j : Opd} {vx vj : Value}
    (hx : Rep I w σ (getO vars env x) vx) (hj : Rep I w σ (getO vars env j) vj) {r : AV} (he : evIa vars env h i.size x j = some r) :
    Gives P B w0 I σ w (do pure (.value (← Instr.indexAt t vx vj))) r h := by
  unfold evIa at he
  split at he
  · rename_i sz' ex nn l jn hgx hgj
    rw [hgx] at hx
    obtain ⟨k, rfl⟩ := natO_eq hgj hj
    split at he
    · rename_i el hel
      split at he
      · rename_i hsz; subst hsz
        cases he
        cases hx with
        | slc _ _ _ _ _ a cap b o g ha hn hnil hcap hex hsz hc hi h1 hr =>
          have hne : l ≠ [] := by rintro rfl; simp at hel
          have hlt := (List.getElem?_eq_some_iff.1 hel).1
          rw [ha hne]
          refine Gives.same hI (v := .pointer (some ⟨b, o + jn * i.size, none⟩)) ?_ (.ip σ el.cells b (o + jn * i.size) (fun q => g jn q) ?_ ?_ ?_ ?_)
          · have h0 : (0 : Int) ≤ (jn : Int) ∧ (jn : Int) < (l.length : Int) := by omega
            simp only [Instr.indexAt, asIntOf, Sem.run_bind, Sem.run_pure, Result.andThen_ok, run_underlying hu, Sem.run_ite, if_pos h0, ht.sizeOf, Addr.add_lit, Int.toNat_natCast]
          · intro q c hq; rw [Nat.add_assoc]; exact hc jn el q c hel hq
          · intro q c hq; rw [Nat.add_assoc]; exact hi jn el q c hel hq
          · intro q c hq; exact h1 jn el q c hel hq
          · intro q c hq; exact hr jn el q c hel hq
      · cases he
    · cases he
  · rename_i sz' id ver off n jn hgx hgj
    rw [hgx] at hx
    obtain ⟨k, rfl⟩ := natO_eq hgj hj
    split at he
    · rename_i hc
      obtain ⟨rfl, hlt⟩ := hc
      simp only [Option.map_eq_some_iff] at he
      obtain ⟨⟨l, k'⟩, hra, rfl⟩ := he
      obtain ⟨hh, hm⟩ := rowAt_eq hra
      cases hx with
      | own _ _ _ _ _ _ x h1x L hL hv hxo =>
        obtain ⟨_, hver, hR⟩ := hI.obj id _ L hh hL
        rcases hxo hver.symm with ⟨hhas, hcap, rfl⟩ | ⟨rfl, a, rfl⟩
        · refine Gives.same hI (v := .pointer (some ⟨L.b, L.o + ((off + jn) * i.size + 0), none⟩)) ?_ (.ep σ i.size id ver (off + jn) 0 _ rfl L hL hv (fun _ => ⟨hhas, rfl⟩))
          have : L.o + off * i.size + jn * i.size = L.o + ((off + jn) * i.size + 0) := by rw [Nat.add_mul]; omega
          have h0 : (0 : Int) ≤ (jn : Int) ∧ (jn : Int) < (n : Int) := by omega
          simp only [Instr.indexAt, asIntOf, Sem.run_bind, Sem.run_pure, Result.andThen_ok, run_underlying hu, Sem.run_ite, if_pos h0, ht.sizeOf, Addr.add_lit, Int.toNat_natCast, this]
        · omega
    · cases he
  · cases he

theorem gives_ixs (hI : Inv B w0 I σ w h) {t : TypeId} (hu : P.underlying t = some .string) {s : ByteArray} {vx : Value} (hx : Rep I w σ (.v (.string s)) vx) {vars env : List AV} {j : Opd} {vj : Value} (hj : Rep I w σ (getO vars env j) vj) {n : Nat} (hn : natO vars env j = some n)
    {b : UInt8} (hb : s[n]? = some b) : Gives P B w0 I σ w (do pure (.value (← Instr.index t vx vj))) (.v (.int .u8 b.toNat)) h := by
  obtain ⟨k, rfl⟩ := natO_eq hn hj
  cases hx
  exact Gives.same hI (by simp [Instr.index, asIntOf, run_underlying hu, hb]) (.v σ _)
end
end Go.AE

/- The evaluator of compiled functions, proved sound: texts put together. -/
import Derived.Test.YtgcbaefclkfnoaaDoorEval1
import Derived.MapKept
import Derived.Laws.BytesString
/-! AE, part 14b: maps, shifts, strings gone through, clear. -/
section
set_option linter.unusedVariables false
set_option linter.unusedSimpArgs false
namespace Go.AE
open Go Go.RowKit

def KK.desc : KK → TypeDesc
  | .int k => .int k
  | .string => .string
  | .bool => .bool
theorem KK.isKey {kk : KK} {v : Value} (hv : kk.ok v = true) : MapKept.IsKey kk.desc v := by
  cases kk <;> cases v <;> simp_all [KK.ok, KK.desc, MapKept.IsKey]
theorem sameNow_keyEq {kk : KK} {a b : Value} (ha : kk.ok a = true) (hb : kk.ok b = true) : Instr.sameNow kk.desc a b = some (keyEq a b) := by
  cases kk <;> cases a <;> cases b <;> simp_all [KK.ok, KK.desc, Instr.sameNow, keyEq]
theorem keyEq_eq {kk : KK} {a b : Value} (ha : kk.ok a = true) (hb : kk.ok b = true) (h : keyEq a b = true) : a = b := by
  cases kk <;> cases a <;> cases b <;> simp_all [KK.ok, keyEq, MapKept.bytes_beq]

theorem findNow_look {kk : KK} {k : Value} (hk : kk.ok k = true) {R : AV → Value → Prop} : ∀ (es : List (Value × AV)) (l : List MapEntry) (i : Nat), l.length = es.length → (∀ e ∈ es, kk.ok e.1 = true) →
    (∀ (j : Nat) (e : Value × AV), es[j]? = some e → ∃ m, l[j]? = some m ∧ m.key = e.1 ∧ R e.2 m.val) →
    (look k es = none ∧ Instr.findNow kk.desc k l i = some none ∧ (∀ x, upd k x es = es ++ [(k, x)]) ∧ keyAt k es = none) ∨
    (∃ j e m, es[j]? = some e ∧ l[j]? = some m ∧ m.key = e.1 ∧ e.1 = k ∧ look k es = some e.2 ∧ Instr.findNow kk.desc k l i = some (some (i + j, m.val)) ∧ R e.2 m.val ∧ (∀ x, upd k x es = es.set j (e.1, x)) ∧ keyAt k es = some (j, e.2)) := by
  intro es
  induction es with
  | nil =>
    intro l i hl _ _
    obtain rfl : l = [] := List.length_eq_zero_iff.1 (by simpa using hl)
    exact .inl ⟨rfl, rfl, fun x => rfl, rfl⟩
  | cons e es ih =>
    intro l i hl hall hr
    cases l with
    | nil => simp at hl
    | cons m l =>
      obtain ⟨m', h1, h2, h3⟩ := hr 0 e rfl
      simp only [List.getElem?_cons_zero, Option.some.injEq] at h1
      subst h1
      have he := hall e (by simp)
      have hs := sameNow_keyEq hk he
      cases hq : keyEq k e.1 with
      | true =>
        refine .inr ⟨0, e, m, rfl, rfl, h2, (keyEq_eq hk he hq).symm, by simp [look, hq], ?_, h3, fun x => by simp [upd, hq], by simp [keyAt, hq]⟩
        simp [Instr.findNow, h2, hs, hq]
      | false =>
        rcases ih l (i + 1) (by simpa using hl) (fun e he => hall e (by simp [he])) (fun j e hj => by simpa using hr (j + 1) e (by simpa using hj)) with ⟨g1, g2, g3, g9⟩ | ⟨j, e', m', g1, g2, g3, g4, g5, g6, g7, g8, g9⟩
        · exact .inl ⟨by simp [look, hq, g1], by simp [Instr.findNow, h2, hs, hq, g2], fun x => by simp [upd, hq, g3], by simp [keyAt, hq, g9]⟩
        · refine .inr ⟨j + 1, e', m', by simpa using g1, by simpa using g2, g3, g4, by simp [look, hq, g5], ?_, g7, fun x => by simp [upd, hq, g8], by simp [keyAt, hq, g9]⟩
          simp [Instr.findNow, h2, hs, hq, g6]; omega

section
variable {P : Program} {B : Nat} {w0 w w' : World} {I I' : Cells} {σ σ' : List Loc} {h : List AO}

theorem gives_shf (hI : Inv B w0 I σ w h) {left : Bool} {x y : AV} {vx vy : Value} (hx : Rep I w σ x vx) (hy : Rep I w σ y vy) {r : AV} (he : evShf left x y = some r) (xt : TypeId) (ox oy : Operand) :
    Gives P B w0 I σ w (do pure (.value (← do eqGuard (if left then .shl else .shr) xt ox oy vx vy; binOp (if left then .shl else .shr) xt vx vy))) r h := by
  unfold evShf at he
  split at he
  · rename_i k a k' b
    split at he
    · rename_i hb
      cases he
      cases hx; cases hy
      have hb' : ¬ b < 0 := by omega
      cases left
      · exact Gives.same hI (v := .int k (a.fdiv (2 ^ min b.toNat k.bits))) (by simp [eqGuard, binOp, Op.shift, hb']) (.v σ _)
      · exact Gives.same hI (v := .int k (k.wrap (a * 2 ^ min b.toNat k.bits))) (by simp [eqGuard, binOp, Op.shift, hb']) (.v σ _)
    · cases he
  · cases he

theorem gives_mkmap (hI : Inv B w0 I σ w h) (t : TypeId) (kk : KK) :
    Gives P B w0 I σ w (do pure (.value (← Instr.makeMap t none))) (.mp h.length) (h ++ [.map kk 0 []]) := by
  have hg := hI.grow (.map #[] 0) (o' := .map kk 0 []) (L' := ⟨true, true, w.heap.size, 0, 0, 0⟩) (fun _ => rfl) (fun he =>
    ⟨rfl, rfl, #[], heap_new _, rfl, fun e h => by simp at h, fun i e hi => by simp at hi⟩)
  refine ⟨.map (some w.heap.size), _, I, _, .inl ?_, hg.1, hg.2, ?_⟩
  · rfl
  · have : (σ ++ [(⟨true, true, w.heap.size, 0, 0, 0⟩ : Loc)])[h.length]? = some ⟨true, true, w.heap.size, 0, 0, 0⟩ := by
      rw [← hI.len]; simp
    exact .mp _ _ _ this rfl

theorem gives_lookup (hI : Inv B w0 I σ w h) {t ke el : TypeId} {i : TI} {kk : KK} (hu : P.underlying t = some (.map ke el)) (hk : P.underlying ke = some kk.desc) (ht : TIok P el i) {ok : Bool} {x y : AV} {vx vy : Value} (hx : Rep I w σ x vx) (hy : Rep I w σ y vy) {r : AV} (he : evLook h kk i.zero ok x y = some r) :
    Gives P B w0 I σ w (do pure (.value (← Instr.lookup t vx vy ok))) r h := by
  unfold evLook at he
  split at he
  · rename_i id k
    split at he
    · rename_i kk' c es ho
      split at he
      · rename_i hc
        obtain ⟨rfl, hkk⟩ := hc
        cases hy
        cases hx with
        | mp _ _ L hL hf =>
          obtain ⟨_, _, entries, hb, hs, hall, hr⟩ := hI.obj id _ L ho hL
          obtain ⟨clock, hclk⟩ : ∃ q, q = c + es.length := ⟨_, rfl⟩
          rw [← hclk] at hb
          have hr0 : ∀ (i : Nat) (e : Value × AV), es[i]? = some e → ∃ m, entries.toList[i]? = some m ∧ m.key = e.1 ∧ Rep I w [] e.2 m.val := fun i e h => by obtain ⟨m, m1, m2, m3, _⟩ := hr i e h; exact ⟨m, by simpa using m1, m2, m3⟩
          have hg : (getObj L.b).run P w = .ok (.map entries clock) w := MapKept.run_getObj_map hb
          have hck : ∀ e, (Instr.checkKey e 10000 ke vy).run P w = .ok () w := fun e => MapKept.run_checkKey hk (KK.isKey hkk) e 9999
          have hz := ht.zeroValue (w := w)
          rcases findNow_look hkk (R := fun a v => Rep I w [] a v) es entries.toList 0 (by simpa using hs) hall hr0 with ⟨g1, g2, g3, g8⟩ | ⟨j, e, m, g1, g2, g2', g2'', g4, g5, g6, g7, g8⟩
          · have hf := MapKept.run_findKey (P := P) (w := w) hk g2
            simp only [g1, Option.some.injEq] at he
            subst he
            cases ok
            · refine Gives.same hI (v := i.zero) ?_ (.v σ _)
              simp [Instr.lookup, run_underlying hu, hg, hck, hf, hz]
            · refine Gives.same hI (v := .tuple #[i.zero, .bool false]) ?_ ?_
              · simp [Instr.lookup, run_underlying hu, hg, hck, hf, hz]
              · refine .tup σ _ _ rfl (fun q c hq => ?_)
                match q, hq with
                | 0, hq => cases hq; exact .v σ _
                | 1, hq => cases hq; exact .v σ _
          · have hf := MapKept.run_findKey (P := P) (w := w) hk g5
            simp only [g4, Option.some.injEq] at he
            subst he
            have g6' := g6.mono (Ext.refl I w) (Later.nil σ)
            cases ok
            · refine Gives.same hI (v := m.val) ?_ g6'
              simp [Instr.lookup, run_underlying hu, hg, hck, hf]
            · refine Gives.same hI (v := .tuple #[m.val, .bool true]) ?_ ?_
              · simp [Instr.lookup, run_underlying hu, hg, hck, hf]
              · refine .tup σ _ _ rfl (fun q c hq => ?_)
                match q, hq with
                | 0, hq => cases hq; exact g6'
                | 1, hq => cases hq; exact .v σ _
      · cases he
    · cases he
  · cases he

theorem Inv.turn (hI : Inv B w0 I σ w h) {id : Nat} {L : Loc} (hL : σ[id]? = some L) {o : Obj} (hb : w.heap[L.b]? = some o) (hno : ∀ x, w.cell? ⟨L.b, x, none⟩ = none) (hh : L.has = true) (o1 : Obj) (o' : AO)
    (hrep : ∀ he : Ext I w I { w with heap := w.heap.setIfInBounds L.b o1 }, RepO I { w with heap := w.heap.setIfInBounds L.b o1 } σ L o') :
    Inv B w0 I σ { w with heap := w.heap.setIfInBounds L.b o1 } (h.set id o') ∧ Step B I σ w I σ { w with heap := w.heap.setIfInBounds L.b o1 } := by
  have g3 : ∀ j, j ≠ L.b → ({ w with heap := w.heap.setIfInBounds L.b o1 } : World).heap[j]? = w.heap[j]? := (MapKept.heap_set hb).2
  have g4 : ({ w with heap := w.heap.setIfInBounds L.b o1 } : World).heap.size = w.heap.size := by simp
  have hI' : ∀ x, ¬ I L.b x := by
    intro x hx
    obtain ⟨v, hv⟩ := hI.imm _ x hx
    rw [hno] at hv; cases hv
  have he : Ext I w I { w with heap := w.heap.setIfInBounds L.b o1 } := ext_ours hI' _ g3
  have hset : σ.set id L = σ := by
    apply List.ext_getElem?
    intro j
    by_cases e : id = j
    · subst e; rw [List.getElem?_set_self (List.getElem?_eq_some_iff.1 hL).1, hL]
    · rw [List.getElem?_set_ne e]
  have hBb := hI.mine id L hL hh
  have hinv := hI.upd hL (w' := { w with heap := w.heap.setIfInBounds L.b o1 }) (I' := I) ⟨rfl, rfl, rfl, Nat.le_of_eq g4.symm, fun j hj => g3 j (by omega)⟩ he (fun b x hx => by obtain ⟨v, hv⟩ := hI.imm b x hx; exact ⟨v, by rw [he.cell b x hx]; exact hv⟩)
    (fun j Lj hj hLj hhj => ⟨g3 _ (hI.dist j id Lj L hLj hL hj hhj hh), fun x hx => hx⟩) (.inl rfl) (o' := o')
    (by rw [hset]; exact hrep he)
    (fun _ => ⟨hBb.1, by rw [g4]; exact hBb.2, fun j Lj hj hLj hhj => hI.dist j id Lj L hLj hL hj hhj hh⟩)
  rw [hset] at hinv
  exact ⟨hinv, ⟨he, Later.refl _, fun b x hx => .inl hx, Nat.le_of_eq g4.symm⟩⟩

theorem gives_mapupd (hI : Inv B w0 I σ w h) {t ke el : TypeId} {kk : KK} (hu : P.underlying t = some (.map ke el)) (hk : P.underlying ke = some kk.desc) {x y z : AV} {vx vy vz : Value} (hx : Rep I w σ x vx) (hy : Rep I w σ y vy) (hz : Rep I w σ z vz) {h' : List AO} (he : evUpd h kk x y z = some h') :
    Gives P B w0 I σ w (do Instr.mapUpdate t vx vy vz; pure .skip) (.v undef) h' := by
  unfold evUpd at he
  split at he
  · rename_i id k
    split at he
    · rename_i kk' c es ho
      split at he
      · rename_i zs hsn
        split at he
        · rename_i hc
          obtain ⟨rfl, hkk⟩ := hc
          cases he
          cases hy
          have hzs := hz.snap1 hI hsn
          cases hx with
          | mp _ _ L hL hf =>
            obtain ⟨hfx, hhas, entries, hb, hs, hall, hr⟩ := hI.obj id _ L ho hL
            obtain ⟨clock, hclk⟩ : ∃ q, q = c + es.length := ⟨_, rfl⟩
            rw [← hclk] at hb
            have hr0 : ∀ (i : Nat) (e : Value × AV), es[i]? = some e → ∃ m, entries.toList[i]? = some m ∧ m.key = e.1 ∧ Rep I w [] e.2 m.val := fun i e h => by obtain ⟨m, m1, m2, m3, _⟩ := hr i e h; exact ⟨m, by simpa using m1, m2, m3⟩
            have hg : (getObj L.b).run P w = .ok (.map entries clock) w := MapKept.run_getObj_map hb
            have hck : ∀ e, (Instr.checkKey e 10000 ke vy).run P w = .ok () w := fun e => MapKept.run_checkKey hk (KK.isKey hkk) e 9999
            have hno : ∀ x, w.cell? ⟨L.b, x, none⟩ = none := fun x => by simp [World.cell?, hb]
            rcases findNow_look hkk (R := fun a v => Rep I w [] a v) es entries.toList 0 (by simpa using hs) hall hr0 with ⟨g1, g2, g3, g8⟩ | ⟨j, e, m, g1, g2, g2', g2'', g4, g5, g6, g7, g8⟩
            · have hf := MapKept.run_findKey (P := P) (w := w) hk g2
              have ht := hI.turn hL hb hno hhas (.map (entries.push { key := vy, val := vz, born := clock }) (clock + 1)) (.map kk' c (upd vy zs es)) (fun he => by
                refine ⟨hfx, hhas, _, by rw [g3, show c + (es ++ [(vy, zs)]).length = clock + 1 by simp; omega]; exact (MapKept.heap_set hb).1, ?_, ?_, ?_⟩
                · rw [g3]; simp [hs]
                · rw [g3]; intro e hm
                  rcases List.mem_append.1 hm with hm | hm
                  · exact hall e hm
                  · simp only [List.mem_singleton] at hm; subst hm; exact hkk
                · intro q e hq
                  rw [g3] at hq
                  by_cases hlt : q < es.length
                  · rw [List.getElem?_append_left hlt] at hq
                    obtain ⟨m, m1, m2, m3, m4⟩ := hr q e hq
                    exact ⟨m, by rw [Array.getElem?_push_lt (by omega)]; rw [Array.getElem?_eq_getElem (by omega)] at m1; exact m1, m2, m3.mono he (Later.nil _), m4⟩
                  · rw [List.getElem?_append_right (by omega)] at hq
                    have hq0 : q - es.length = 0 := by
                      have := (List.getElem?_eq_some_iff.1 hq).1
                      simp at this; omega
                    have hqe : q = entries.size := by omega
                    subst hqe
                    rw [hq0] at hq; cases hq
                    exact ⟨{ key := vy, val := vz, born := clock }, by simp, rfl, hzs.mono he (Later.nil _), (by show clock = c + entries.size; omega)⟩)
              refine ⟨undef, _, I, σ, .inr ⟨?_, rfl⟩, ht.1, ht.2, .v _ _⟩
              simp [Instr.mapUpdate, run_underlying hu, hg, hck, hf, MapKept.run_setObj_map _ hb]
            · have hf := MapKept.run_findKey (P := P) (w := w) hk g5
              have hjl : j < entries.size := by have := (List.getElem?_eq_some_iff.1 g2).1; simpa using this
              have hje : entries[j]? = some m := by simpa using g2
              have hmk : m.key = vy := g2'.trans g2''
              have ht := hI.turn hL hb hno hhas (.map (entries.modify j fun e => { e with key := vy, val := vz }) clock) (.map kk' c (upd vy zs es)) (fun he => by
                refine ⟨hfx, hhas, _, by rw [g7, List.length_set, ← hclk]; exact (MapKept.heap_set hb).1, ?_, ?_, ?_⟩
                · rw [g7]; simp [hs]
                · rw [g7]; intro e' hm
                  obtain ⟨q, hq⟩ := List.getElem?_of_mem hm
                  by_cases hqj : j = q
                  · subst hqj
                    rw [List.getElem?_set_self (by omega)] at hq; cases hq
                    rw [g2'']; exact hkk
                  · rw [List.getElem?_set_ne hqj] at hq
                    exact hall e' (List.mem_of_getElem? hq)
                · intro q e' hq
                  rw [g7] at hq
                  by_cases hqj : j = q
                  · subst hqj
                    rw [List.getElem?_set_self (by omega)] at hq; cases hq
                    obtain ⟨mm, n1, _, _, n4⟩ := hr j e g1
                    have hmm : mm = m := by rw [hje] at n1; exact (Option.some.inj n1).symm
                    exact ⟨{ m with key := vy, val := vz }, by rw [Array.getElem?_modify, if_pos rfl, hje]; rfl, g2''.symm, hzs.mono he (Later.nil _), by rw [← hmm]; exact n4⟩
                  · rw [List.getElem?_set_ne hqj] at hq
                    obtain ⟨m', m1, m2, m3, m4⟩ := hr q e' hq
                    exact ⟨m', by rw [Array.getElem?_modify, if_neg hqj]; exact m1, m2, m3.mono he (Later.nil _), m4⟩)
              refine ⟨undef, _, I, σ, .inr ⟨?_, rfl⟩, ht.1, ht.2, .v _ _⟩
              have hks : (Instr.keyThatStays vy vy).run P w = .ok vy w := MapKept.run_keyThatStays (KK.isKey hkk)
              simp [Instr.mapUpdate, run_underlying hu, hg, hck, hf, hje, hmk, hks, MapKept.run_setObj_map _ hb]
        · cases he
      · cases he
    · cases he
  · cases he

theorem gives_mentry (hI : Inv B w0 I σ w h) {t ke el : TypeId} {i : TI} {kk : KK} (hu : P.underlying t = some (.map ke el)) (hk : P.underlying ke = some kk.desc) (ht : TIok P el i) {x y : AV} {vx vy : Value} (hx : Rep I w σ x vx) (hy : Rep I w σ y vy) {r : AV} {h' : List AO} (he : evEntry h kk i.zero x y = some (r, h')) :
    Gives P B w0 I σ w (do pure (.value (← Instr.mapEntry t vx vy))) r h' := by
  unfold evEntry at he
  split at he
  · rename_i id k
    split at he
    · rename_i kk' c es ho
      split at he
      · rename_i hc
        obtain ⟨rfl, hkk⟩ := hc
        cases hy
        cases hx with
        | mp _ _ L hL hf =>
          obtain ⟨hfx, hhas, entries, hb, hs, hall, hr⟩ := hI.obj id _ L ho hL
          obtain ⟨clock, hclk⟩ : ∃ q, q = c + es.length := ⟨_, rfl⟩
          rw [← hclk] at hb
          have hr0 : ∀ (i : Nat) (e : Value × AV), es[i]? = some e → ∃ m, entries.toList[i]? = some m ∧ m.key = e.1 ∧ Rep I w [] e.2 m.val := fun i e h => by obtain ⟨m, m1, m2, m3, _⟩ := hr i e h; exact ⟨m, by simpa using m1, m2, m3⟩
          have hg : (getObj L.b).run P w = .ok (.map entries clock) w := MapKept.run_getObj_map hb
          have hck : ∀ e, (Instr.checkKey e 10000 ke vy).run P w = .ok () w := fun e => MapKept.run_checkKey hk (KK.isKey hkk) e 9999
          have hno : ∀ x, w.cell? ⟨L.b, x, none⟩ = none := fun x => by simp [World.cell?, hb]
          have hz := ht.zeroValue (w := w)
          have pair : ∀ {I' : Cells} {w' : World} {a : AV} {v : Value} {n : Nat}, Rep I' w' [] a v → Rep I' w' σ (.tup [a, .v (.int .i64 ((n : Nat) : Int))]) (.tuple #[v, .int .i64 ((n : Nat) : Int)]) := by
            intro I' w' a v n ha
            refine .tup σ _ _ rfl (fun q c hq => ?_)
            match q, hq with
            | 0, hq => cases hq; exact ha.mono (Ext.refl _ _) (Later.nil _)
            | 1, hq => cases hq; exact .v σ _
          rcases findNow_look hkk (R := fun a v => Rep I w [] a v) es entries.toList 0 (by simpa using hs) hall hr0 with ⟨g1, g2, g3, g8⟩ | ⟨j, e, m, g1, g2, g2', g2'', g4, g5, g6, g7, g8⟩
          · have hf := MapKept.run_findKey (P := P) (w := w) hk g2
            rw [g8] at he
            cases he
            have ht := hI.turn hL hb hno hhas (.map (entries.push { key := vy, val := i.zero, born := clock }) (clock + 1)) (.map kk' c (es ++ [(vy, .v i.zero)])) (fun he => by
              refine ⟨hfx, hhas, _, by rw [show c + (es ++ [(vy, AV.v i.zero)]).length = clock + 1 by simp; omega]; exact (MapKept.heap_set hb).1, ?_, ?_, ?_⟩
              · simp [hs]
              · intro e hm
                rcases List.mem_append.1 hm with hm | hm
                · exact hall e hm
                · simp only [List.mem_singleton] at hm; subst hm; exact hkk
              · intro q e hq
                by_cases hlt : q < es.length
                · rw [List.getElem?_append_left hlt] at hq
                  obtain ⟨m, m1, m2, m3, m4⟩ := hr q e hq
                  exact ⟨m, by rw [Array.getElem?_push_lt (by omega)]; rw [Array.getElem?_eq_getElem (by omega)] at m1; exact m1, m2, m3.mono he (Later.nil _), m4⟩
                · rw [List.getElem?_append_right (by omega)] at hq
                  have hq0 : q - es.length = 0 := by
                    have := (List.getElem?_eq_some_iff.1 hq).1
                    simp at this; omega
                  have hqe : q = entries.size := by omega
                  subst hqe
                  rw [hq0] at hq; cases hq
                  exact ⟨{ key := vy, val := i.zero, born := clock }, by simp, rfl, .v _ _, (by show clock = c + entries.size; omega)⟩)
            refine ⟨.tuple #[i.zero, .int .i64 ((c + es.length : Nat) : Int)], _, I, σ, .inl ?_, ht.1, ht.2, pair (.v _ _)⟩
            simp [Instr.mapEntry, run_underlying hu, hg, hck, hf, hz, MapKept.run_setObj_map _ hb, goInt, hclk]
          · have hf := MapKept.run_findKey (P := P) (w := w) hk g5
            have hje : entries[j]? = some m := by simpa using g2
            have hmk : m.key = vy := g2'.trans g2''
            obtain ⟨mm, n1, _, _, n4⟩ := hr j e g1
            have hmm : mm = m := by rw [hje] at n1; exact (Option.some.inj n1).symm
            subst hmm
            rw [g8] at he
            cases he
            have hmod : entries.modify j (fun e => { e with key := vy }) = entries := by
              apply Array.ext_getElem?
              intro q
              rw [Array.getElem?_modify]
              by_cases hq : j = q
              · subst hq; rw [if_pos rfl, hje]; simp only [Option.map_some]; rw [← hmk]
              · rw [if_neg hq]
            have hw : { w with heap := w.heap.setIfInBounds L.b (.map entries clock) } = w := by
              have : w.heap.setIfInBounds L.b (.map entries clock) = w.heap := by
                apply Array.ext_getElem?
                intro q
                rw [Array.getElem?_setIfInBounds]
                by_cases hq : L.b = q
                · subst hq
                  have := (Array.getElem?_eq_some_iff.1 hb).1
                  rw [if_pos rfl, if_pos this, hb]
                · rw [if_neg hq]
              rw [this]
            have hks : (Instr.keyThatStays vy vy).run P w = .ok vy w := MapKept.run_keyThatStays (KK.isKey hkk)
            refine Gives.same hI (v := .tuple #[mm.val, .int .i64 ((c + j : Nat) : Int)]) ?_ (pair g6)
            have hset := MapKept.run_setObj_map (P := P) (.map entries clock) hb
            rw [hw] at hset
            simp [Instr.mapEntry, run_underlying hu, hg, hck, hf, hje, hmk, hks, hmod, hset, goInt, n4]
      · cases he
    · cases he
  · cases he

theorem gives_estore (hI : Inv B w0 I σ w h) {t : TypeId} {x y z : AV} {vx vy vz : Value} (hx : Rep I w σ x vx) (hy : Rep I w σ y vy) (hz : Rep I w σ z vz) {h' : List AO} (he : evEStore h x y z = some h') :
    Gives P B w0 I σ w (do Instr.entryStore t vx vy vz; pure .skip) (.v undef) h' := by
  unfold evEStore at he
  split at he
  · rename_i id n
    split at he
    · rename_i kk c es ho
      split at he
      · rename_i zs hsn
        split at he
        · rename_i hcn
          split at he
          · rename_i e hel
            cases he
            cases hy
            have hzs := hz.snap1 hI hsn
            cases hx with
            | mp _ _ L hL hf =>
              obtain ⟨hfx, hhas, entries, hb, hs, hall, hr⟩ := hI.obj id _ L ho hL
              obtain ⟨clock, hclk⟩ : ∃ q, q = c + es.length := ⟨_, rfl⟩
              rw [← hclk] at hb
              have hg : (getObj L.b).run P w = .ok (.map entries clock) w := MapKept.run_getObj_map hb
              have hno : ∀ x, w.cell? ⟨L.b, x, none⟩ = none := fun x => by simp [World.cell?, hb]
              obtain ⟨i, hi⟩ : ∃ i : Nat, n = ((c + i : Nat) : Int) := ⟨n.toNat - c, by omega⟩
              have hni : n.toNat - c = i := by omega
              rw [hni] at hel ⊢
              have hil := (List.getElem?_eq_some_iff.1 hel).1
              obtain ⟨m, m1, m2, m3, m4⟩ := hr i e hel
              have hborn : ∀ (q : Nat) (e' : MapEntry), entries[q]? = some e' → e'.born = c + q := by
                intro q e' hq
                have hql : q < es.length := by
                  have := (Array.getElem?_eq_some_iff.1 hq).1
                  omega
                obtain ⟨m', p1, _, _, p4⟩ := hr q _ (List.getElem?_eq_getElem hql)
                rw [hq] at p1; cases p1; exact p4
              have hfi : entries.findIdx? (fun e => (e.born : Int) == n) = some i := by
                rw [Array.findIdx?_eq_some_iff_getElem]
                have hie : i < entries.size := by omega
                refine ⟨hie, ?_, fun j hj => ?_⟩
                · have := hborn i _ (Array.getElem?_eq_getElem hie)
                  simp [this, hi]
                · have hje : j < entries.size := by omega
                  have := hborn j _ (Array.getElem?_eq_getElem hje)
                  simp [this, hi]; omega
              have ht := hI.turn hL hb hno hhas (.map (entries.modify i fun e => { e with val := vz }) clock) (.map kk c (es.set i (e.1, zs))) (fun he => by
                refine ⟨hfx, hhas, _, by rw [List.length_set, ← hclk]; exact (MapKept.heap_set hb).1, ?_, ?_, ?_⟩
                · simp [hs]
                · intro e' hm
                  obtain ⟨q, hq⟩ := List.getElem?_of_mem hm
                  by_cases hqj : i = q
                  · subst hqj
                    rw [List.getElem?_set_self hil] at hq; cases hq
                    exact hall e (List.mem_of_getElem? hel)
                  · rw [List.getElem?_set_ne hqj] at hq
                    exact hall e' (List.mem_of_getElem? hq)
                · intro q e' hq
                  by_cases hqj : i = q
                  · subst hqj
                    rw [List.getElem?_set_self hil] at hq; cases hq
                    exact ⟨{ m with val := vz }, by rw [Array.getElem?_modify, if_pos rfl, m1]; rfl, m2, hzs.mono he (Later.nil _), m4⟩
                  · rw [List.getElem?_set_ne hqj] at hq
                    obtain ⟨m', p1, p2, p3, p4⟩ := hr q e' hq
                    exact ⟨m', by rw [Array.getElem?_modify, if_neg hqj]; exact p1, p2, p3.mono he (Later.nil _), p4⟩)
              refine ⟨undef, _, I, σ, .inr ⟨?_, rfl⟩, ht.1, ht.2, .v _ _⟩
              simp [Instr.entryStore, hg, asInt, asIntOf, hfi, MapKept.run_setObj_map _ hb]
          · cases he
        · cases he
      · cases he
    · cases he
  · cases he

theorem gives_clrmap (hI : Inv B w0 I σ w h) {t ty ke el : TypeId} (hu : P.underlying t = some (.map ke el)) {x : AV} {vx : Value} (hx : Rep I w σ x vx) {h' : List AO} (he : evClrM h x = some h') :
    Gives P B w0 I σ w (do pure (.value (← Builtin.clear_ #[t] ty #[vx]))) (.v (.tuple #[])) h' := by
  unfold evClrM at he
  split at he
  · rename_i id
    split at he
    · rename_i kk c es ho
      cases he
      cases hx with
      | mp _ _ L hL hf =>
        obtain ⟨hfx, hhas, entries, hb, hs, hall, hr⟩ := hI.obj id _ L ho hL
        obtain ⟨clock, hclk⟩ : ∃ q, q = c + es.length := ⟨_, rfl⟩
        rw [← hclk] at hb
        have hg : (getObj L.b).run P w = .ok (.map entries clock) w := MapKept.run_getObj_map hb
        have hno : ∀ x, w.cell? ⟨L.b, x, none⟩ = none := fun x => by simp [World.cell?, hb]
        have ht := hI.turn hL hb hno hhas (.map #[] clock) (.map kk (c + es.length) []) (fun he => ⟨hfx, hhas, #[], by rw [← hclk]; exact (MapKept.heap_set hb).1, rfl, fun e h => by simp at h, fun q e hq => by simp at hq⟩)
        refine ⟨.tuple #[], _, I, σ, .inl ?_, ht.1, ht.2, .v _ _⟩
        simp [Builtin.clear_, run_underlying hu, hg, MapKept.run_setObj_map _ hb]
    · cases he
  · cases he

theorem gives_range (hI : Inv B w0 I σ w h) {t : TypeId} (hu : P.underlying t = some .string) {s : ByteArray} {vx : Value} (hx : Rep I w σ (.v (.string s)) vx) :
    Gives P B w0 I σ w (do pure (.value (← Instr.range t vx))) (.it h.length) (h ++ [.siter s 0]) := by
  cases hx
  have hg := hI.grow (.stringIter s 0) (o' := .siter s 0) (L' := ⟨true, true, w.heap.size, 0, 0, 0⟩) (fun _ => rfl) (fun he => ⟨rfl, rfl, heap_new _⟩)
  refine ⟨.pointer (some ⟨w.heap.size, 0, none⟩), _, I, _, .inl ?_, hg.1, hg.2, ?_⟩
  · simp [Instr.range, run_underlying hu, newObj, Sem.run]
  · have : (σ ++ [(⟨true, true, w.heap.size, 0, 0, 0⟩ : Loc)])[h.length]? = some ⟨true, true, w.heap.size, 0, 0, 0⟩ := by
      rw [← hI.len]; simp
    exact .it _ _ _ this rfl

theorem gives_next (hI : Inv B w0 I σ w h) {ty : TypeId} {x : AV} {vx : Value} (hx : Rep I w σ x vx) {r : AV} {h' : List AO} (he : evNext h x = some (r, h')) :
    Gives P B w0 I σ w (do pure (.value (← Instr.next vx true ty))) r h' := by
  unfold evNext at he
  split at he
  · rename_i id
    split at he
    · rename_i s pos ho
      cases hx with
      | it _ _ L hL hf =>
        obtain ⟨hfx, hhas, hb⟩ := hI.obj id _ L ho hL
        have hg : (getObj L.b).run P w = .ok (.stringIter s pos) w := by simp [getObj, Sem.run, hb]
        have hno : ∀ x, w.cell? ⟨L.b, x, none⟩ = none := fun x => by simp [World.cell?, hb]
        split at he
        · rename_i hlt
          cases he
          have ht := hI.turn hL hb hno hhas (.stringIter s (pos + (Utf8.decode s pos).2)) (.siter s (pos + (Utf8.decode s pos).2)) (fun he => ⟨hfx, hhas, (MapKept.heap_set hb).1⟩)
          refine ⟨.tuple #[.bool true, .int .i64 pos, .int .i32 (Utf8.decode s pos).1], _, I, σ, .inl ?_, ht.1, ht.2, ?_⟩
          · simp [Instr.next, hg, hlt, setObj, Sem.run, hb, goInt]
          · refine .tup σ _ _ rfl (fun q c hq => ?_)
            match q, hq with
            | 0, hq => cases hq; exact .v σ _
            | 1, hq => cases hq; exact .v σ _
            | 2, hq => cases hq; exact .v σ _
        · rename_i hlt
          cases he
          refine Gives.same hI (v := .tuple #[.bool false]) ?_ ?_
          · simp [Instr.next, hg, hlt]
          · refine .tup σ _ _ rfl (fun q c hq => ?_)
            match q, hq with
            | 0, hq => cases hq; exact .v σ _
    · cases he
  · cases he
end
end Go.AE
end

/-! AE, part 14c: clear of a slice. -/
section
set_option linter.unusedVariables false
set_option linter.unusedSimpArgs false
namespace Go.AE
open Go Go.RowKit

section
variable {P : Program} {B : Nat} {w0 w w' : World} {I I' : Cells} {σ σ' : List Loc} {h : List AO}

theorem run_storeCells_ours {b o : Nat} {vs : Array Value} {arr : Array Value} {e : TypeId} (hb : w.heap[b]? = some (.cells arr e (0, 0)))
    (hle : o + vs.size ≤ arr.size) (h1 : ∀ x ∈ vs.toList, x.oneCell' = true) (hB : B ≤ b) :
    ∃ w1, (storeCells ⟨b, o, none⟩ vs.toList).run P w = .ok () w1 ∧
      w1.heap[b]? = some (.cells (vs.zipIdx.foldl (fun (cs : Array Value) (p : Value × Nat) => cs.setIfInBounds (o + p.2) p.1) arr) e (0, 0)) ∧
      (∀ j, j ≠ b → w1.heap[j]? = w.heap[j]?) ∧ w1.heap.size = w.heap.size ∧ Below B w w1 := by
  have cell : ∀ j, j < vs.toList.length → (w.cell? ⟨b, o + j, none⟩).isSome = true := by
    intro j hj
    have : o + j < arr.size := by simp at hj; omega
    simp [World.cell?, hb, this]
  have hst := run_storeCells_cells (P := P) b o vs.toList 0 w (by simpa using cell) (fun j hj => by simp [World.frozen?, hb]) h1
  obtain ⟨g1, g2, g3, g4, g5, g6⟩ := heap_setCells b o vs.toList 0 w arr e hb
  refine ⟨_, hst, ?_, g2, g3, g4, g5, g6, Nat.le_of_eq g3.symm, fun j hj => g2 j (by omega)⟩
  rw [← Array.foldl_toList, Array.toList_zipIdx]; exact g1

theorem mid_get {α : Type} (l : List α) (off n : Nat) (z : α) (hle : off + n ≤ l.length) (a : Nat) (b : α) (hb : (l.take off ++ List.replicate n z ++ l.drop (off + n))[a]? = some b) :
    (off ≤ a ∧ a < off + n ∧ b = z) ∨ (¬ (off ≤ a ∧ a < off + n) ∧ l[a]? = some b) := by
  rw [List.append_assoc] at hb
  by_cases h1 : a < off
  · rw [List.getElem?_append_left (by simp; omega), List.getElem?_take_of_lt h1] at hb
    exact .inr ⟨by omega, hb⟩
  · rw [List.getElem?_append_right (by simp; omega)] at hb
    simp only [List.length_take, Nat.min_eq_left (show off ≤ l.length by omega)] at hb
    by_cases h2 : a < off + n
    · rw [List.getElem?_append_left (by simp; omega), List.getElem?_replicate, if_pos (by omega)] at hb
      exact .inl ⟨by omega, h2, (Option.some.inj hb).symm⟩
    · rw [List.getElem?_append_right (by simp; omega), List.getElem?_drop] at hb
      simp only [List.length_replicate] at hb
      rw [show off + n + (a - off - n) = a by omega] at hb
      exact .inr ⟨by omega, hb⟩

theorem gives_clrrow (hI : Inv B w0 I σ w h) {t ty e : TypeId} {i : TI} (hu : P.underlying t = some (.slice e)) (ht : TIok P e i)
    (h1z : ∀ x ∈ i.zero.cells.toList, x.oneCell' = true) (hzs : i.zero.cells.size = i.size) {x : AV} {vx : Value} (hx : Rep I w σ x vx) {h' : List AO} (he : evClr h i.size i.zero.cells.toList x = some h') :
    Gives P B w0 I σ w (do pure (.value (← Builtin.clear_ #[t] ty #[vx]))) (.v (.tuple #[])) h' := by
  unfold evClr at he
  split at he
  · cases he; cases hx
    exact Gives.same hI (v := .tuple #[]) (by simp [Builtin.clear_, run_underlying hu]) (.v σ _)
  · rename_i sz' id ver off n
    split at he
    · rename_i hsz; subst hsz
      split at he
      · rename_i l k hra
        obtain ⟨ho, hm⟩ := rowAt_eq hra
        cases hx with
        | own _ _ _ _ _ _ x h1x L hL hv hxo =>
          obtain ⟨hf, hver, hR⟩ := hI.obj _ _ L ho hL
          by_cases hn : n = 0
          · rw [if_pos hn] at he
            cases he
            rcases hxo hver.symm with ⟨hhas, hcap, rfl⟩ | ⟨_, a, rfl⟩
            · subst hn
              exact Gives.same hI (v := .tuple #[]) (by simp [Builtin.clear_, run_underlying hu]) (.v σ _)
            · cases a
              · exact Gives.same hI (v := .tuple #[]) (by simp [Builtin.clear_, run_underlying hu]) (.v σ _)
              · exact Gives.same hI (v := .tuple #[]) (by simp [Builtin.clear_, run_underlying hu]) (.v σ _)
          · rw [if_neg hn] at he
            split at he
            · rename_i hk
              cases he
              rcases hxo hver.symm with ⟨hhas, hcap, rfl⟩ | ⟨h0, _⟩
              · rcases hR.lies with ⟨h0, _⟩ | ⟨hh, arr, hb, hasz, hcapl, h1, hr, himm, hno⟩
                · subst h0; simp at hm; omega
                have hBb := hI.mine id L hL hhas
                have mul : ∀ a b, a < b → a * i.size + i.size ≤ b * i.size := fun a b hab => by
                  have := Nat.mul_le_mul_right i.size (show a + 1 ≤ b from hab)
                  rwa [Nat.add_mul, Nat.one_mul] at this
                have ez := ElemsRep.zeros (I := I) (w := w) n i.size i.zero.cells i.zero.cells (.inr rfl) hzs h1z
                have ezz : ((Array.range (n * i.size)).map (fun j => i.zero.cells[j % i.zero.cells.size]!)) = Builtin.zeroCells i.zero.cells n := by simp [Builtin.zeroCells, hzs]
                rw [ezz] at ez
                generalize hvs : Builtin.zeroCells i.zero.cells n = vs at ez
                have hvsz : vs.size = n * i.size := by have := ez.size; simpa using this
                have m1 : (off + n) * i.size ≤ L.cap * i.size := Nat.mul_le_mul_right _ (by omega)
                rw [Nat.add_mul] at m1
                have one : ∀ x ∈ vs.toList, x.oneCell' = true := by
                  intro u hu'
                  obtain ⟨q, hq⟩ := List.getElem?_of_mem hu'
                  have hq' := (List.getElem?_eq_some_iff.1 hq).1
                  simp only [Array.length_toList] at hq'
                  have hpos : 0 < i.size := by
                    rcases Nat.eq_zero_or_pos i.size with h0 | h0
                    · rw [h0, Nat.mul_zero] at hvsz; omega
                    · exact h0
                  have hqn : q / i.size < n := (Nat.div_lt_iff_lt_mul hpos).2 (by omega)
                  have hqm : q % i.size < i.size := Nat.mod_lt _ hpos
                  have hcl : (zeroEl i.zero.cells.toList).cells[q % i.size]? = some ((zeroEl i.zero.cells.toList).cells[q % i.size]'(by rw [zeroEl_cells]; simp [toL, hzs]; exact hqm)) := List.getElem?_eq_getElem _
                  have := ez.one (q / i.size) (zeroEl i.zero.cells.toList) (q % i.size) _ (by simp [List.getElem?_replicate, hqn]) hcl
                  rw [show q / i.size * i.size + q % i.size = q by rw [Nat.mul_comm]; exact Nat.div_add_mod q i.size] at this
                  rwa [getD_get (by simpa using hq)] at this
                obtain ⟨w1, g1, g2, g3, g4, g5⟩ := run_storeCells_ours (P := P) (w := w) (B := B) (vs := vs) (o := L.o + off * i.size) hb (by omega) one hBb.1
                have hko : k * i.size ≤ off * i.size := Nat.mul_le_mul_right _ hk
                obtain ⟨f1, f2⟩ := foldl_put vs (L.o + off * i.size) arr (by omega)
                have hEx : Ext I w I w1 := by
                  refine ⟨fun _ _ hx => hx, fun b' x hx => ?_⟩
                  by_cases hne : b' = L.b
                  · subst hne
                    have hlt : x < L.o + k * i.size := by
                      rcases Nat.lt_or_ge x (L.o + k * i.size) with h2 | h2
                      · exact h2
                      · exact absurd hx (hno x h2)
                    have f3 := f2 x
                    rw [if_neg (by omega)] at f3
                    unfold World.cell?
                    simp only [g2, hb]
                    rw [Array.getD_eq_getD_getElem?, Array.getD_eq_getD_getElem?] at f3
                    have : x < arr.size := by omega
                    simp only [Option.isSome_none, Bool.false_eq_true, if_false]
                    rw [Array.getElem?_eq_getElem (by rw [f1]; exact this), Array.getElem?_eq_getElem this] at f3 ⊢
                    simpa using f3
                  · exact World.cell?_of_block (a := ⟨b', x, none⟩) (g3 b' hne)
                have hset : σ.set id L = σ := by
                  apply List.ext_getElem?
                  intro j
                  by_cases e : id = j
                  · subst e; rw [List.getElem?_set_self (List.getElem?_eq_some_iff.1 hL).1, hL]
                  · rw [List.getElem?_set_ne e]
                have val : ∀ (a : Nat) (b : AV) (q : Nat) (c : AV), (l.take off ++ List.replicate n (zeroEl i.zero.cells.toList) ++ l.drop (off + n))[a]? = some b → b.cells[q]? = some c →
                    (∃ a', (List.replicate n (zeroEl i.zero.cells.toList))[a']? = some b ∧ (vs.zipIdx.foldl (fun (cs : Array Value) (p : Value × Nat) => cs.setIfInBounds (L.o + off * i.size + p.2) p.1) arr).getD (L.o + (a * i.size + q)) undef = vs.getD (a' * i.size + q) undef) ∨
                    (l[a]? = some b ∧ (vs.zipIdx.foldl (fun (cs : Array Value) (p : Value × Nat) => cs.setIfInBounds (L.o + off * i.size + p.2) p.1) arr).getD (L.o + (a * i.size + q)) undef = arr.getD (L.o + (a * i.size + q)) undef) := by
                  intro a b q c hb' hc
                  rcases mid_get l off n _ hm a b hb' with ⟨p1, p2, rfl⟩ | ⟨p1, p2⟩
                  · have hq : q < i.size := by
                      have := (List.getElem?_eq_some_iff.1 hc).1
                      rw [zeroEl_cells] at this; simpa [toL, hzs] using this
                    have e1 : a * i.size = off * i.size + (a - off) * i.size := by rw [← Nat.add_mul]; congr 1; omega
                    have e2 := mul (a - off) n (by omega)
                    refine .inl ⟨a - off, by rw [List.getElem?_replicate, if_pos (by omega)], ?_⟩
                    rw [f2, if_pos (by omega)]
                    congr 1; omega
                  · have hq := (List.getElem?_eq_some_iff.1 hc).1
                    rw [hR.hsz a b p2] at hq
                    refine .inr ⟨p2, ?_⟩
                    rw [f2, if_neg]
                    rintro ⟨u1, u2⟩
                    rcases Nat.lt_or_ge a off with hlt | hlt
                    · have := mul a off hlt; omega
                    · have hge : (off + n) * i.size ≤ a * i.size := Nat.mul_le_mul_right _ (by omega)
                      rw [Nat.add_mul] at hge; omega
                have hlen : (l.take off ++ List.replicate n (zeroEl i.zero.cells.toList) ++ l.drop (off + n)).length = l.length := by simp; omega
                have hinv := hI.upd hL g5 hEx (fun b x hx => by obtain ⟨v, hv⟩ := hI.imm b x hx; exact ⟨v, by rw [hEx.cell b x hx]; exact hv⟩)
                  (fun j Lj hj hLj hhj => ⟨g3 _ (hI.dist j id Lj L hLj hL hj hhj hh), fun x hx => hx⟩) (.inl rfl) (o' := .row (rowT h id) i.size ver (l.take off ++ List.replicate n (zeroEl i.zero.cells.toList) ++ l.drop (off + n)) k)
                  (by
                    rw [hset]
                    refine ⟨hf, hver, by rw [hlen]; exact hR.hk, ?_, .inr ⟨hh, _, g2, by rw [f1]; exact hasz, by rw [hlen]; exact hcapl, ?_, ?_, himm, hno⟩⟩
                    · intro a b hb'
                      rcases mid_get l off n _ hm a b hb' with ⟨_, _, rfl⟩ | ⟨_, p2⟩
                      · rw [zeroEl_cells]; simp [toL, hzs]
                      · exact hR.hsz a b p2
                    · intro a b q c hb' hc
                      rcases val a b q c hb' hc with ⟨a', v1, v2⟩ | ⟨v1, v2⟩
                      · rw [v2]; exact ez.one a' b q c v1 hc
                      · rw [v2]; exact h1 a b q c v1 hc
                    · intro a b q c hb' hc
                      rcases val a b q c hb' hc with ⟨a', v1, v2⟩ | ⟨v1, v2⟩
                      · rw [v2]; exact (ez.rep a' b q c v1 hc).mono hEx (Later.nil _)
                      · rw [v2]; exact (hr a b q c v1 hc).mono hEx (Later.nil _))
                  (fun _ => ⟨hBb.1, by rw [g4]; exact hBb.2, fun j Lj hj hLj hhj => hI.dist j id Lj L hLj hL hj hhj hh⟩)
                rw [hset] at hinv
                refine ⟨.tuple #[], w1, I, σ, .inl ?_, hinv, ⟨hEx, Later.refl _, fun b x hx => .inl hx, Nat.le_of_eq g4.symm⟩, .v _ _⟩
                obtain ⟨n, rfl⟩ : ∃ n', n = n' + 1 := ⟨n - 1, by omega⟩
                subst hvs
                simp [Builtin.clear_, run_underlying hu, ht.zeroValue, g1]
              · exact absurd h0 hn
            · cases he
      · cases he
    · cases he
  · cases he
end
end Go.AE
end

/-! AE, part 14d: rows of which more can't change. -/
section
set_option linter.unusedVariables false
set_option linter.unusedSimpArgs false
namespace Go.AE
open Go Go.RowKit

section
variable {P : Program} {B : Nat} {w0 w w' : World} {I I' : Cells} {σ σ' : List Loc} {h : List AO}

theorem set_same {α : Type} {l : List α} {i : Nat} {x : α} (hx : l[i]? = some x) : l.set i x = l := by
  apply List.ext_getElem?
  intro j
  by_cases e : i = j
  · subst e; rw [List.getElem?_set_self (List.getElem?_eq_some_iff.1 hx).1, hx]
  · rw [List.getElem?_set_ne e]

theorem raise_ok (hI : Inv B w0 I σ w h) (sz id ver m : Nat) : ∃ I', Inv B w0 I' σ w (raise h sz id ver m) ∧ Step B I σ w I' σ w := by
  unfold raise
  split
  · rename_i l k hra
    obtain ⟨hh, hm⟩ := rowAt_eq hra
    obtain ⟨L, hL, hf, hver, hR⟩ := hI.loc hh
    rcases hR.lies with ⟨rfl, h2, h3⟩ | ⟨hhas, arr, hb, hasz, hcap, h1, hr, himm, hno⟩
    · simp at hm
      subst hm
      have : max k 0 = k := by simp
      rw [this, set_same hh]
      exact ⟨I, hI, Step.refl _ _ _ _⟩
    · have hBb := hI.mine id L hL hhas
      have he : Ext I w (fun b x => I b x ∨ (b = L.b ∧ L.o ≤ x ∧ x < L.o + m * sz)) w := ⟨fun b x hb => .inl hb, fun _ _ _ => rfl⟩
      have hmc : m * sz ≤ L.cap * sz := Nat.mul_le_mul_right _ (by omega)
      have hinv := hI.upd (id := id) (L' := L) (o' := .row (rowT h id) sz ver l (max k m)) (w' := w) hL (Below.refl _ _) he
        (by
          rintro b x (hb' | ⟨rfl, h5, h6⟩)
          · exact hI.imm b x hb'
          · have : x < arr.size := by omega
            exact ⟨arr[x], by simp [World.cell?, hb, this]⟩)
        (fun j Lj hj hLj hhj => ⟨rfl, fun x hx => by
          rcases hx with hx | ⟨e, _⟩
          · exact hx
          · exact absurd e (hI.dist j id Lj L hLj hL hj hhj hhas)⟩) (.inl rfl)
        (by
          rw [set_same hL]
          refine ⟨hf, hver, by have := hR.hk; omega, hR.hsz, .inr ⟨hhas, arr, hb, hasz, hcap, h1, fun j el i c p q => (hr j el i c p q).mono he (Later.nil _), fun j i hj hi => ?_, fun x hx hi => ?_⟩⟩
          · by_cases hjk : j < k
            · exact .inl (himm j i hjk hi)
            · refine .inr ⟨rfl, by omega, ?_⟩
              have := mul_succ_le (sz := sz) (show j < m by omega)
              omega
          · have m1 : k * sz ≤ max k m * sz := Nat.mul_le_mul_right _ (Nat.le_max_left _ _)
            have m2 : m * sz ≤ max k m * sz := Nat.mul_le_mul_right _ (Nat.le_max_right _ _)
            rcases hi with hi | ⟨_, _, hi⟩
            · exact hno x (by omega) hi
            · omega)
        (fun _ => ⟨hBb.1, hBb.2, fun j Lj hj hLj hhj => hI.dist j id Lj L hLj hL hj hhj hhas⟩)
      rw [set_same hL] at hinv
      refine ⟨_, hinv, he, Later.refl _, ?_, Nat.le_refl _⟩
      rintro b x (hb' | ⟨rfl, _⟩)
      · exact .inl hb'
      · exact .inr hBb.1
  · exact ⟨I, hI, Step.refl _ _ _ _⟩

theorem raise0_ok (hI : Inv B w0 I σ w h) (x : AV) : ∃ I', Inv B w0 I' σ w (raise0 h x) ∧ Step B I σ w I' σ w := by
  cases x with
  | own sz id ver off n => exact raise_ok hI sz id ver (off + n)
  | _ => exact ⟨I, hI, Step.refl _ _ _ _⟩
theorem raiseL_ok : ∀ (cs : List AV) {I : Cells} {h : List AO}, Inv B w0 I σ w h → ∃ I', Inv B w0 I' σ w (cs.foldl raise0 h) ∧ Step B I σ w I' σ w := by
  intro cs
  induction cs with
  | nil => intro I h hI; exact ⟨I, hI, Step.refl _ _ _ _⟩
  | cons c cs ih =>
    intro I h hI
    obtain ⟨I1, h1, s1⟩ := raise0_ok hI c
    obtain ⟨I2, h2, s2⟩ := ih h1
    exact ⟨I2, h2, s1.trans s2⟩

theorem raise1_ok (hI : Inv B w0 I σ w h) (x : AV) : ∃ I', Inv B w0 I' σ w (raise1 h x) ∧ Step B I σ w I' σ w := by
  unfold raise1
  split
  · exact raiseL_ok _ hI
  · exact raise0_ok hI _
theorem raises_ok : ∀ (xs : List AV) {I : Cells} {h : List AO}, Inv B w0 I σ w h → ∃ I', Inv B w0 I' σ w (xs.foldl raise1 h) ∧ Step B I σ w I' σ w := by
  intro xs
  induction xs with
  | nil => intro I h hI; exact ⟨I, hI, Step.refl _ _ _ _⟩
  | cons c cs ih =>
    intro I h hI
    obtain ⟨I1, h1, s1⟩ := raise1_ok hI c
    obtain ⟨I2, h2, s2⟩ := ih h1
    exact ⟨I2, h2, s1.trans s2⟩
end
end Go.AE
end

/-! Slices of arrays in memory, strings of runes and of bytes. -/
section
set_option linter.unusedVariables false
set_option linter.unusedSimpArgs false
namespace Go.AE
open Go Go.RowKit

section
variable {P : Program} {B : Nat} {w0 w w' : World} {I I' : Cells} {σ σ' : List Loc} {h : List AO}

theorem gives_aslice (hI : Inv B w0 I σ w h) {t e : TypeId} {i : TI} {n : Nat} (hu : P.underlying t = some (.array n e)) (ht : TIok P e i) {vars env : List AV} {x : AV} {vx : Value} (hx : Rep I w σ x vx)
    {lo hi : Option Opd} {lov hiv : Option Value} (hlo : OptOk I w σ vars env lo lov) (hhi : OptOk I w σ vars env hi hiv) {r : AV} (he : evASlice vars env n i.size x lo hi = some r) :
    Gives P B w0 I σ w (do pure (.value (← Instr.sliceAt t vx lov hiv none))) r h := by
  unfold evASlice at he
  split at he
  · rename_i id off
    split at he
    · rename_i h1
      obtain ⟨⟨l, hh, m⟩, hb, rfl⟩ := Option.map_eq_some_iff.1 he
      obtain ⟨g1, g2, g3, g4⟩ := run_bounds (P := P) (mx := none) (mxv := none) hlo hhi trivial hb (Nat.le_refl _) false
      have hm : m = none := by
        unfold bounds at hb
        split at hb
        · split at hb
          · split at hb
            · cases hb; rfl
            · cases hb
          · cases hb
        · rename_i x hx; cases hx
      subst hm
      simp only [Option.getD_none] at g1 g3
      cases hx with
      | ptr _ _ _ L hL hf =>
        refine Gives.same hI (v := .slice (some ⟨L.b, if n = l then L.o + off else L.o + off + l * i.size, none⟩) (hh - l) (n - l)) ?_ ?_
        · simp only [Instr.sliceAt, Sem.run_bind, run_underlying hu, Result.andThen_ok, Instr.sureAddr, g1, ht.sizeOf, Sem.run_pure]
          by_cases e : n = l
          · simp [e]
          · simp [e, Addr.add_lit]
        · refine .bs σ id (off + l) (hh - l) L hL hf _ _ (fun hne => ?_) (by omega)
          rw [if_neg (by omega), h1]; omega
    · cases he
  · cases he

theorem gives_runestr (hI : Inv B w0 I σ w h) {src dst : TypeId} {k kk : IntKind} (hs : P.underlying src = some (.int k)) (hd : P.underlying dst = some .string) {n : Int} {vx : Value} (hx : Rep I w σ (.v (.int kk n)) vx) :
    Gives P B w0 I σ w (do pure (.value (← convert src dst vx))) (.v (.string (Utf8.encode n))) h := by
  cases hx
  refine Gives.same hI ?_ (.v σ _)
  simp only [convert, Sem.run_bind, run_underlying hs, run_underlying hd, Result.andThen_ok, Conv.intToString, Sem.run_pure]

theorem byteOf_eq {x : AV} {b : UInt8} (h : byteOf x = some b) : ∃ n : Int, x = .v (.int .u8 n) ∧ b = UInt8.ofNat n.toNat := by
  unfold byteOf at h
  split at h
  · cases h; exact ⟨_, rfl, rfl⟩
  · cases h
theorem strL_ns : ∀ (l : List AV) (bs : List UInt8), l.mapM byteOf = some bs → ∃ ns : List Int, l = ns.map (fun n => AV.v (.int .u8 n)) ∧ bs = ns.map (fun n => UInt8.ofNat n.toNat) := by
  intro l
  induction l with
  | nil => intro bs h; simp at h; subst h; exact ⟨[], rfl, rfl⟩
  | cons x l ih =>
    intro bs h
    simp only [List.mapM_cons, Option.bind_eq_bind, Option.bind_eq_some_iff, Option.pure_def, Option.some.injEq] at h
    obtain ⟨b, h1, bs', h2, rfl⟩ := h
    obtain ⟨n, rfl, rfl⟩ := byteOf_eq h1
    obtain ⟨ns, rfl, rfl⟩ := ih bs' h2
    exact ⟨n :: ns, rfl, rfl⟩
theorem foldl_bytes : ∀ (ns : List Int) (s : ByteArray), ns.foldl (fun r n => r.push (UInt8.ofNat n.toNat)) s = ⟨s.data ++ (ns.map (fun n => UInt8.ofNat n.toNat)).toArray⟩ := by
  intro ns
  induction ns with
  | nil => intro s; simp
  | cons n ns ih => intro s; simp only [List.foldl_cons, ih, List.map_cons]; simp [ByteArray.push]

theorem run_bytes_at {src dst e : TypeId} (hs : P.underlying src = some (.slice e)) (he : P.underlying e = some (.int .u8)) (hd : P.underlying dst = some .string) (ns : List Int) (a : Option Addr) (cap : Nat)
    (hn : a = none → ns = []) (hc : ∀ ad, a = some ad → ∀ (j : Nat) (n : Int), ns[j]? = some n → w.cell? (ad.add j) = some (.int .u8 n)) :
    (convert src dst (.slice a ns.length cap)).run P w = .ok (.string ⟨(ns.map (fun n => UInt8.ofNat n.toNat)).toArray⟩) w := by
  rw [run_convert_bytes_string w src dst e a _ cap hs he hd]
  cases a with
  | none =>
    have := hn rfl
    subst this
    simp [Conv.bytesToString]
    rfl
  | some ad =>
    have hl : (loadCells ad ns.length).run P w = .ok (ns.map (Value.int .u8)).toArray w := by
      have := run_loadCells (P := P) w ad ns.length (fun j => Value.int .u8 (ns.getD j 0)) (fun j hj => by
        rw [hc ad rfl j ns[j] (List.getElem?_eq_getElem hj)]
        simp [List.getD_eq_getElem?_getD, hj])
      rw [this]
      congr 2
      apply List.ext_getElem?
      intro j
      by_cases hj : j < ns.length
      · simp [hj, List.getD_eq_getElem?_getD]
      · simp [hj]
    rw [run_bytesToString w ad _ cap ns hl, foldl_bytes]
    rw [show ByteArray.empty.data = #[] from rfl, Array.empty_append]

theorem gives_bstr (hI : Inv B w0 I σ w h) {src dst e : TypeId} (hs : P.underlying src = some (.slice e)) (heu : P.underlying e = some (.int .u8)) (hd : P.underlying dst = some .string) {x : AV} {vx : Value} (hx : Rep I w σ x vx) {s : ByteArray} (he : evBStr h x = some s) :
    Gives P B w0 I σ w (do pure (.value (← convert src dst vx))) (.v (.string s)) h := by
  have fin : ∀ (ns : List Int) (a : Option Addr) (cap : Nat), (a = none → ns = []) → (∀ ad, a = some ad → ∀ (j : Nat) (n : Int), ns[j]? = some n → w.cell? (ad.add j) = some (.int .u8 n)) →
      vx = .slice a ns.length cap → s = ⟨(ns.map (fun n => UInt8.ofNat n.toNat)).toArray⟩ → Gives P B w0 I σ w (do pure (.value (← convert src dst vx))) (.v (.string s)) h := by
    intro ns a cap hn hc e1 e2
    subst e1; subst e2
    refine Gives.same hI ?_ (.v σ _)
    simp only [Sem.run_bind, run_bytes_at hs heu hd ns a cap hn hc, Result.andThen_ok, Sem.run_pure]
  have strl : ∀ {l : List AV} {s : ByteArray}, strL l = some s → ∃ ns : List Int, l = ns.map (fun n => AV.v (.int .u8 n)) ∧ s = ⟨(ns.map (fun n => UInt8.ofNat n.toNat)).toArray⟩ := by
    intro l s h
    obtain ⟨bs, h1, rfl⟩ := Option.map_eq_some_iff.1 h
    obtain ⟨ns, e1, e2⟩ := strL_ns l bs h1
    exact ⟨ns, e1, by rw [e2]⟩
  unfold evBStr at he
  split at he
  · rename_i id off n
    split at he
    · rename_i bt cs ho
      split at he
      · rename_i hle
        obtain ⟨ns, e1, e2⟩ := strl he
        have hnl : ns.length = n := by
          have := congrArg List.length e1
          simp at this; omega
        cases hx with
        | bs _ _ _ _ L hL hf o cap hoo hc =>
          obtain ⟨_, _, hR⟩ := hI.obj id _ L ho hL
          obtain ⟨arr, hb, hsz, h1, hr⟩ := hR.lies
          refine fin ns (some ⟨L.b, o, none⟩) cap (fun e => by cases e) (fun ad e j k hj => ?_) (by rw [hnl]) e2
          cases e
          have hjl := (List.getElem?_eq_some_iff.1 hj).1
          have hne : n ≠ 0 := by omega
          have hcell : cs[off + j]? = some (.v (.int .u8 k)) := by
            have : ((cs.drop off).take n)[j]? = some (.v (.int .u8 k)) := by rw [e1]; simp [hj]
            exact (drop_take_get cs off n j _ this).1
          have := hr _ _ hcell
          have hlt : off + j < arr.size := by rw [hsz]; exact (List.getElem?_eq_some_iff.1 hcell).1
          generalize hz : arr.getD (off + j) undef = z at this
          cases this
          rw [Addr.add_lit]
          simp only [World.cell?, hb, hoo hne, hR.o, Nat.zero_add, Option.isSome_none, Bool.false_eq_true, if_false]
          rw [Array.getElem?_eq_getElem hlt]
          simpa [Array.getD, hlt] using hz
      · cases he
    · cases he
  · obtain ⟨l, hl, hs'⟩ := Option.bind_eq_some_iff.1 he
    obtain ⟨ns, e1, e2⟩ := strl hs'
    obtain ⟨a, cap, e3, _, hn, news, hnr, hnc⟩ := hx.elems hI hl
    have hll : ns.length = l.length := by rw [e1]; simp
    refine fin ns a cap (fun e => by have := hn e; rw [this] at hll; exact List.length_eq_zero_iff.1 (by simpa using hll)) (fun ad e j k hj => ?_) (by rw [e3, hll]) e2
    have hel : l[j]? = some (.v (.int .u8 k)) := by rw [e1]; simp [hj]
    have h1 := hnr.rep j _ 0 _ hel rfl
    have hsz := hnr.size
    have hjl := (List.getElem?_eq_some_iff.1 hel).1
    simp only [List.size_toArray, Nat.mul_one] at hsz
    generalize hz : news.toArray.getD (j * 1 + 0) undef = z at h1
    cases h1
    refine hnc ad e j _ ?_
    rw [List.getElem?_eq_getElem (by omega)]
    have hjn : j < news.length := by omega
    simp [Array.getD, hjn] at hz
    rw [hz]
end
end Go.AE
end

/-! AE, part 15: operations compiled, and that they do what they are told to. -/
section
set_option linter.unusedVariables false
set_option linter.unusedSimpArgs false
namespace Go.AE
open Go Go.RowKit

structure Tb where
  ty : TypeId → Option TI
  pureF : FuncId → Bool
  lit : TypeId → Bool
  frz : FuncId → Bool
  push : FuncId → Bool

def PushOk (T : Tb) (call : CallF) : Prop := ∀ f, T.push f = true → ∀ args h r h', call f args h = some (r, h') → ∃ X, h' = h ++ X
def TbOk (P : Program) (T : Tb) : Prop := ∀ t i, T.ty t = some i → TIok P t i

def zok (i : TI) : Bool := i.zero.cells.toList.all (·.oneCell') && i.zero.cells.size == i.size
theorem zok_iff {i : TI} (h : zok i = true) : (∀ x ∈ i.zero.cells.toList, x.oneCell' = true) ∧ i.zero.cells.size = i.size := by
  simp only [zok, Bool.and_eq_true, List.all_eq_true, beq_iff_eq] at h
  exact h

def cOs (m : Tmp → Option Opd) (l : List Operand) : Option (List Opd) := l.mapM (cO m)
def cOo (m : Tmp → Option Opd) : Option Operand → Option (Option Opd)
  | none => some none
  | some x => (cO m x).map some

def placeOf (T : Tb) (f : Field) : Option (Nat × Nat) := (T.ty f.type).map fun i => (f.offset, i.size)

def flatT (T : Tb) : List Field → Nat → Option (List FK)
  | [], _ => some []
  | f :: fs, o => if f.name = "_" ∨ f.offset ≠ o then none else
    match T.ty f.type with
    | some j => match j.desc, flatT T fs (o + 1) with
      | .int _, some ks => some (.i :: ks)
      | .string, some ks => some (.s :: ks)
      | .bool, some ks => some (.b :: ks)
      | _, _ => none
    | none => none
def compBin (T : Tb) (op : BinOp) (xt : TypeId) (x y : Opd) : Option COp :=
  match T.ty xt with
  | some i => match i.desc with
    | .int _ | .string => some (.bin op x y)
    | .bool => match op with
      | .eql => some (.eqv .bool false x y)
      | .neq => some (.eqv .bool true x y)
      | _ => none
    | .slice _ => match op with
      | .eql => some (.eqv .slice false x y)
      | .neq => some (.eqv .slice true x y)
      | _ => none
    | .pointer _ => match op with
      | .eql => some (.eqv .pointer false x y)
      | .neq => some (.eqv .pointer true x y)
      | _ => none
    | .struct fs => match flatT T fs.toList 0 with
      | some ks => match op with
        | .eql => some (.eqv (.flat ks) false x y)
        | .neq => some (.eqv (.flat ks) true x y)
        | _ => none
      | none => none
    | _ => none
  | none => none

def kkOf : TypeDesc → Option KK
  | .int k => some (.int k)
  | .string => some .string
  | .bool => some .bool
  | _ => none
def mapT (T : Tb) (t : TypeId) : Option (KK × TI) := match T.ty t with
  | some i => match i.desc with
    | .map ke el => match T.ty ke, T.ty el with
      | some a, some b => (kkOf a.desc).map fun kk => (kk, b)
      | _, _ => none
    | _ => none
  | none => none
theorem mapT_ok {P : Program} {T : Tb} (hT : TbOk P T) {t : TypeId} {q : KK × TI} (h : mapT T t = some q) : ∃ ke el, P.underlying t = some (.map ke el) ∧ P.underlying ke = some q.1.desc ∧ TIok P el q.2 := by
  unfold mapT at h
  split at h
  · rename_i i hi
    split at h
    · rename_i ke el hd
      split at h
      · rename_i a b ha hb
        obtain ⟨kk, hk, rfl⟩ := Option.map_eq_some_iff.1 h
        refine ⟨ke, el, by rw [← hd]; exact (hT _ _ hi).und, ?_, hT _ _ hb⟩
        have hu := (hT _ _ ha).und
        rw [hu]
        unfold kkOf at hk
        split at hk <;> first | (cases hk; rename_i e; simp [e, KK.desc]; done) | cases hk
      · cases h
    · cases h
  · cases h

def compOp (T : Tb) (m : Tmp → Option Opd) (o : Oper) : Option COp :=
  match o.op with
  | .move x | .assign x => (cO m x).map .mov
  | .pick c a b => match cO m c, cO m a, cO m b with
    | some c, some a, some b => some (.pick c a b)
    | _, _, _ => none
  | .alloc e => match T.ty e with
    | some i => some (.box e (.k i.zero))
    | none => none
  | .box e x => (cO m x).map (.box e)
  | .build t parts => match T.ty t with
    | some i => match i.desc with
      | .struct fs => match fs.toList.mapM (placeOf T) with
        | some places => match parts.toList.mapM fun p => (places[p.1]?).bind fun q => (cO m p.2).map fun x => (q.1, q.2, x) with
          | some ps => if zok i then some (.build i.zero.cells.toList ps) else none
          | none => none
        | none => none
      | .array _ e => match T.ty e with
        | some j => match parts.toList.mapM fun p => (cO m p.2).map fun x => (p.1 * j.size, j.size, x) with
          | some ps => if zok i then some (.build i.zero.cells.toList ps) else none
          | none => none
        | none => none
      | _ => none
    | none => none
  | .buildSlice t n parts => match T.ty t with
    | some i => match i.desc with
      | .slice e => match T.ty e with
        | some j => match parts.toList.mapM fun p => (cO m p.2).map fun x => (p.1, x) with
          | some ps => if zok j && decide (n * j.size ≤ 2 ^ 24) then some (if T.lit t then .brow e j.size j.zero.cells.toList n ps else .bslice j.size j.zero.cells.toList n ps) else none
          | none => none
        | none => none
      | _ => none
    | none => none
  | .load t a => match T.ty t, cO m a with
    | some i, some x => some (.load i.agg i.size x)
    | _, _ => none
  | .store t a x => match T.ty t, cO m a, cO m x with
    | some i, some a, some x => some (.store i.size a x)
    | _, _, _ => none
  | .nilCheck x => (cO m x).map .nilchk
  | .binOp op xt x y _ => match cO m x, cO m y with
    | some x, some y => match op with
      | .shl => some (.shf true x y)
      | .shr => some (.shf false x y)
      | op => compBin T op xt x y
    | _, _ => none
  | .makeMap t none => (mapT T t).map fun q => .mkmap q.1
  | .lookup t x k ok => match mapT T t, cO m x, cO m k with
    | some q, some x, some k => some (.lookup q.1 q.2.zero ok x k)
    | _, _, _ => none
  | .mapUpdate t x k y | .insert t x k y => match mapT T t, cO m x, cO m k, cO m y with
    | some q, some x, some k, some y => some (.mapupd q.1 x k y)
    | _, _, _, _ => none
  | .mapEntry t x k => match mapT T t, cO m x, cO m k with
    | some q, some x, some k => some (.mentry q.1 q.2.zero x k)
    | _, _, _ => none
  | .entryStore _ x n y => match cO m x, cO m n, cO m y with
    | some x, some n, some y => some (.estore x n y)
    | _, _, _ => none
  | .range t x => match T.ty t, cO m x with
    | some i, some x => match i.desc with
      | .string => some (.range x)
      | _ => none
    | _, _ => none
  | .next x true => (cO m x).map .next
  | .panic _ | .makeInterface _ _ => some .bad
  | .unOp op _ x => (cO m x).map (.un op)
  | .convert src dst x => match T.ty src, T.ty dst, cO m x with
    | some i, some j, some x => match j.desc with
      | .int k => some (.conv k x)
      | .string => match i.desc with
        | .string => some (.same x)
        | .int _ => some (.runestr x)
        | .slice e => match T.ty e with
          | some k => match k.desc with
            | .int .u8 => if k.size == 1 then some (.bstr x) else none
            | _ => none
          | none => none
        | _ => none
      | _ => none
    | _, _, _ => none
  | .makeFunc fn first cap => match cOs m first.toList, cOs m cap.toList with
    | some p, some q => some (.mkfn fn p q)
    | _, _ => none
  | .makeSlice t l c => match T.ty t, cO m l, cO m c with
    | some i, some l, some c => match i.desc with
      | .slice e => match T.ty e with
        | some j => if zok j then some (.mkslice e j.size j.bytes j.zero.cells.toList l c) else none
        | none => none
      | _ => none
    | _, _, _ => none
  | .slice t x lo hi mx => match T.ty t, cO m x, cOo m lo, cOo m hi, cOo m mx with
    | some i, some x, some lo, some hi, some mx => match i.desc with
      | .slice e => match T.ty e with
        | some j => some (.slice j.size x lo hi mx)
        | none => none
      | .string => match mx with
        | none => some (.sslice x lo hi)
        | some _ => none
      | .array n e => match mx, T.ty e with
        | none, some j => some (.aslice n j.size x lo hi)
        | _, _ => none
      | _ => none
    | _, _, _, _, _ => none
  | .fieldAddr t x f => match T.ty t, cO m x with
    | some i, some x => match i.desc with
      | .struct fs => match fs[f]? with
        | some fd => match T.ty fd.type with
          | some j => if j.size = 0 then none else some (.fa fd.offset x)
          | none => none
        | none => none
      | _ => none
    | _, _ => none
  | .field t x f => match T.ty t, cO m x with
    | some i, some x => match i.desc with
      | .struct fs => match fs[f]? with
        | some fd => match T.ty fd.type with
          | some j => some (.fld j.agg fd.offset j.size x)
          | none => none
        | none => none
      | _ => none
    | _, _ => none
  | .indexAddr t x i => match T.ty t, cO m x, cO m i with
    | some ti, some x, some i => match ti.desc with
      | .slice e => match T.ty e with
        | some j => some (.ia j.size x i)
        | none => none
      | .array n e => match T.ty e with
        | some j => some (.iaa n j.size x i)
        | none => none
      | _ => none
    | _, _, _ => none
  | .index t x i => match T.ty t, cO m x, cO m i with
    | some ti, some x, some i => match ti.desc with
      | .string => some (.ixs x i)
      | .array n e => match T.ty e with
        | some j => some (.ixa n j.agg j.size x i)
        | none => none
      | _ => none
    | _, _, _ => none
  | .extract x i => (cO m x).map fun x => .extract x i
  | .call c => match c.callee with
    | .value (.func f) => (cOs m c.args.toList).map fun l => bif T.frz f then .callf f l else .call (T.pureF f) f l
    | .value (.tmp t) => match m t, cOs m c.args.toList with
      | some x, some args => some (.callv x args)
      | _, _ => none
    | .builtin .append => match c.args.toList, c.argTypes.toList with
      | [s, x], [t, t'] => match T.ty t, cO m s, cO m x with
        | some i, some s, some x => if t = t' then match i.desc with
          | .slice e => match T.ty e with
            | some j => if zok j then some (.append e j.size j.bytes s x) else none
            | none => none
          | _ => none
          else match i.desc, T.ty t' with
          | .slice e, some k => match k.desc, T.ty e with
            | .string, some j => if zok j && j.size == 1 then some (.apps e j.bytes s x) else none
            | _, _ => none
          | _, _ => none
        | _, _, _ => none
      | _, _ => none
    | .builtin .clear => match c.args.toList, c.argTypes.toList with
      | [x], [t] => match T.ty t, cO m x with
        | some i, some x => match i.desc with
          | .map _ _ => some (.clrmap x)
          | .slice e => match T.ty e with
            | some j => if zok j then some (.clrrow j.size j.zero.cells.toList x) else none
            | none => none
          | _ => none
        | _, _ => none
      | _, _ => none
    | .builtin .max => match c.args.toList with
      | [x, y] => match cO m x, cO m y with
        | some x, some y => some (.mm true x y)
        | _, _ => none
      | _ => none
    | .builtin .min => match c.args.toList with
      | [x, y] => match cO m x, cO m y with
        | some x, some y => some (.mm false x y)
        | _, _ => none
      | _ => none
    | .builtin .len => match c.args.toList, c.argTypes.toList with
      | [x], [t] => match T.ty t, cO m x with
        | some i, some x => match i.desc with
          | .slice _ => some (.len .slice x)
          | .string => some (.len .string x)
          | .map _ _ => some (.len .map x)
          | _ => none
        | _, _ => none
      | _, _ => none
    | _ => none
  | _ => none

structure ArgsRep (I : Cells) (w : World) (σ : List Loc) (as : List AV) (vals : Array Value) : Prop where
  size : vals.size = as.length
  rep : ∀ (i : Nat) (a : AV), as[i]? = some a → Rep I w σ a (vals.getD i undef)

def Ends (B : Nat) (w0 : World) (I : Cells) (σ : List Loc) (w : World) (r : AV) (h' : List AO) (e : Ending) (w' : World) : Prop :=
  ∃ v I' σ', e = .returned v ∧ Inv B w0 I' σ' w' h' ∧ Step B I σ w I' σ' w' ∧ Rep I' w' σ' r v

structure CallOk (P : Program) (B : Nat) (w0 : World) (call : CallF) : Prop where
  enter : ∀ f args h r h', call f args h = some (r, h') → ∀ (vals : Array Value) (w : World), (callFunc f vals).run P w = .ok (.enter f vals) w
  calls : ∀ f args h r h', call f args h = some (r, h') → ∀ I σ w (vals : Array Value), Inv B w0 I σ w h → ArgsRep I w σ args vals → Calls P f vals w (Ends B w0 I σ w r h')
  pure : ∀ f args r, call f args [] = some (r, []) → ∀ I σ w h (vals : Array Value), Inv B w0 I σ w h → Inv w.heap.size w I [] w [] → ArgsRep I w [] args vals → Calls P f vals w (Ends w.heap.size w I [] w r [])
end Go.AE
end

/-! AE, part 16: an operation does what its compiled form is told to do. -/
section
set_option linter.unusedVariables false
set_option linter.unusedSimpArgs false
namespace Go.AE
open Go Go.RowKit

section
variable {P : Program} {B : Nat} {w0 w w' : World} {I I' : Cells} {σ σ' : List Loc} {h : List AO}

def Goes (B : Nat) (w0 : World) (I : Cells) (σ : List Loc) (w : World) (o : Oper) (a : Act) (r : AV) (h' : List AO) (next : Act → World → Prop) : Prop :=
  ∀ v w' I' σ', Inv B w0 I' σ' w' h' → Step B I σ w I' σ' w' → Rep I' w' σ' r v → next (a.put o.dst v) w'

theorem Gives.wp {o : Oper} {a : Act} {r : AV} {h' : List AO} (hg : Gives P B w0 I σ w (execOp a.eval o) r h') {next : Act → World → Prop} {Q : Exit → Act → World → Prop}
    (hn : Goes B w0 I σ w o a r h' next) : Oper.wp P o a w next Q := by
  obtain ⟨v, w', I', σ', hr, h1, h2, h3⟩ := hg
  rcases hr with hr | ⟨hr, rfl⟩
  · simp only [Oper.wp, hr, Oper.upon_value]
    exact hn v w' I' σ' h1 h2 h3
  · simp only [Oper.wp, hr, Oper.upon_skip]
    exact hn _ w' I' σ' h1 h2 h3

theorem ends_wp {o : Oper} {a : Act} {r : AV} {h' : List AO} {f : FuncId} {vals : Array Value} (hrun : (execOp a.eval o).run P w = .ok (.enter f vals) w) (hc : Calls P f vals w (Ends B w0 I σ w r h'))
    {next : Act → World → Prop} {Q : Exit → Act → World → Prop} (hn : Goes B w0 I σ w o a r h' next) : Oper.wp P o a w next Q := by
  simp only [Oper.wp, hrun, Oper.upon_enter]
  refine hc.mono ?_
  rintro e w' ⟨v, I', σ', rfl, h1, h2, h3⟩
  exact hn v w' I' σ' h1 h2 h3

theorem cOs_args {vars env : List AV} {a : Act} {m : Tmp → Option Opd} (ho : OpsOk I w σ vars env a.eval m) {xs : Array Operand} {l : List Opd} (hl : cOs m xs.toList = some l) :
    ArgsRep I w σ (l.map (getO vars env)) (xs.map a.eval) := by
  obtain ⟨h1, h2⟩ := mapM_get hl
  refine ⟨by simp [h1], fun i v hi => ?_⟩
  simp only [List.getElem?_map, Option.map_eq_some_iff] at hi
  obtain ⟨y, hy, rfl⟩ := hi
  obtain ⟨x, hx, hf⟩ := mapM_get' hl hy
  have hx' : xs[i]? = some x := by simpa using hx
  have : (xs.map a.eval)[i]? = some (a.eval x) := by simp [hx']
  rw [getD_get this]
  exact ho.get hf

theorem inv_none (hI : Inv B w0 I σ w h) : Inv w.heap.size w I [] w [] :=
  ⟨Below.refl _ _, Nat.le_refl _, rfl, fun id o L ho => by simp at ho, fun id L hL => by simp at hL, fun i j Li Lj hi => by simp at hi, hI.imm⟩
theorem args_snap (hI : Inv B w0 I σ w h) {as as' : List AV} {vals : Array Value} (ha : ArgsRep I w σ as vals) (hs : as.mapM (AV.snap1 h) = some as') : ArgsRep I w [] as' vals := by
  obtain ⟨h1, h2⟩ := mapM_get hs
  refine ⟨by rw [ha.size, h1], fun i y hy => ?_⟩
  obtain ⟨x, hx, hf⟩ := mapM_get' hs hy
  exact (ha.rep i x hx).snap1 hI hf
theorem ends_conv (hI : Inv B w0 I σ w h) {r : AV} {e : Ending} {w' : World} (he : Ends w.heap.size w I [] w r [] e w') : Ends B w0 I σ w r h e w' := by
  obtain ⟨v, I', σ', rfl, h1, h2, h3⟩ := he
  have hσ : σ' = [] := List.length_eq_zero_iff.1 (by rw [h1.len]; rfl)
  subst hσ
  refine ⟨v, I', σ, rfl, ?_, ⟨h2.ext, Later.refl _, fun b x hb => ?_, h2.size⟩, h3.mono (Ext.refl _ _) (Later.nil _)⟩
  · refine hI.same (h1.below.mono hI.base) h2.ext h1.imm (fun j Lj hL hh => ?_)
    have hlt := (hI.mine j Lj hL hh).2
    refine ⟨h1.below.block _ hlt, fun x hx => ?_⟩
    rcases h2.new _ x hx with hx | hx
    · exact hx
    · omega
  · rcases h2.new b x hb with hb | hb
    · exact .inl hb
    · exact .inr (Nat.le_trans hI.base hb)
theorem pure_call (hI : Inv B w0 I σ w h) {call : CallF} (hc : CallOk P B w0 call) {f : FuncId} {as as' : List AV} {vals : Array Value} (ha : ArgsRep I w σ as vals) (hs : as.mapM (AV.snap1 h) = some as') {r : AV} (he : call f as' [] = some (r, [])) :
    Calls P f vals w (Ends B w0 I σ w r h) :=
  (hc.pure f as' r he I σ w h vals hI (inv_none hI) (args_snap hI ha hs)).mono (fun e w' he => ends_conv hI he)

theorem places_ok {T : Tb} (hT : TbOk P T) {fs : Array Field} {places : List (Nat × Nat)} (hp : fs.toList.mapM (placeOf T) = some places) :
    places.length = fs.size ∧ ∀ (j : Nat) (f : Field) (q : Nat × Nat), fs[j]? = some f → places[j]? = some q → f.offset = q.1 ∧ ∃ tf, TIok P f.type tf ∧ tf.size = q.2 := by
  obtain ⟨h1, h2⟩ := mapM_get hp
  refine ⟨by simpa using h1, fun j f q hf hq => ?_⟩
  have := h2 j f q (by simpa using hf) hq
  simp only [placeOf, Option.map_eq_some_iff] at this
  obtain ⟨i, hi, rfl⟩ := this
  exact ⟨rfl, i, hT _ _ hi, rfl⟩
end
end Go.AE
end

/-! AE, part 17: the same, operation by operation. -/
section
set_option linter.unusedVariables false
set_option linter.unusedSimpArgs false
namespace Go.AE
open Go Go.RowKit

section
variable {P : Program} {B : Nat} {w0 w w' : World} {I I' : Cells} {σ σ' : List Loc} {h : List AO}

theorem Gives.congr {s s' : Sem Next} {r : AV} {h' : List AO} (hg : Gives P B w0 I σ w s r h') (hs : s.run P w = s'.run P w) : Gives P B w0 I σ w s' r h' := by
  unfold Gives at *
  rw [← hs]
  exact hg

theorem optOk_of {vars env : List AV} {a : Act} {m : Tmp → Option Opd} (ho : OpsOk I w σ vars env a.eval m) {x : Option Operand} {y : Option Opd} (hx : cOo m x = some y) : OptOk I w σ vars env y (x.map a.eval) := by
  cases x with
  | none => simp only [cOo, Option.some.injEq] at hx; subst hx; trivial
  | some x =>
    simp only [cOo, Option.map_eq_some_iff] at hx
    obtain ⟨z, hz, rfl⟩ := hx
    exact ho.get hz

theorem zip_parts {α β : Type} {f : α → Option β} {l : List α} {r : List β} (hm : l.mapM f = some r) : ∃ z : List (α × β), z.map (·.1) = l ∧ z.map (·.2) = r ∧ ∀ p ∈ z, f p.1 = some p.2 := by
  induction l generalizing r with
  | nil => simp at hm; subst hm; exact ⟨[], rfl, rfl, by simp⟩
  | cons a l ih =>
    simp only [List.mapM_cons, Option.bind_eq_bind, Option.bind_eq_some_iff, Option.pure_def, Option.some.injEq] at hm
    obtain ⟨b, hb, r', hr', rfl⟩ := hm
    obtain ⟨z, h1, h2, h3⟩ := ih hr'
    refine ⟨(a, b) :: z, by simp [h1], by simp [h2], fun p hp => ?_⟩
    rcases List.mem_cons.1 hp with rfl | hp
    · exact hb
    · exact h3 p hp

set_option maxHeartbeats 1000000 in
theorem flatT_ok {T : Tb} (hT : TbOk P T) : ∀ (fs : List Field) (o : Nat) (ks : List FK), flatT T fs o = some ks → FlatP P ks fs o ∧ (fs.all fun f => f.name != "_" && (match P.underlying f.type with
    | some (.int _) | some .string | some .bool => true
    | _ => false)) = true := by
  intro fs
  induction fs with
  | nil => intro o ks h; simp only [flatT] at h; cases h; exact ⟨trivial, rfl⟩
  | cons f fs ih =>
    intro o ks h
    simp only [flatT] at h
    split at h
    · cases h
    · rename_i hc
      have h1 : f.name ≠ "_" := fun e => hc (.inl e)
      have h2 : f.offset = o := Classical.byContradiction fun e => hc (.inr e)
      split at h
      · rename_i j hj
        have hu := (hT _ _ hj).und
        split at h
        · rename_i q ks' hd hk
          cases h
          obtain ⟨g1, g2⟩ := ih _ _ hk
          rw [hd] at hu
          exact ⟨⟨h1, h2, ⟨q, hu⟩, g1⟩, by simp only [List.all_cons, g2, hu, Bool.and_true, bne_iff_ne, ne_eq]; exact h1⟩
        · rename_i ks' hd hk
          cases h
          obtain ⟨g1, g2⟩ := ih _ _ hk
          rw [hd] at hu
          exact ⟨⟨h1, h2, hu, g1⟩, by simp only [List.all_cons, g2, hu, Bool.and_true, bne_iff_ne, ne_eq]; exact h1⟩
        · rename_i ks' hd hk
          cases h
          obtain ⟨g1, g2⟩ := ih _ _ hk
          rw [hd] at hu
          exact ⟨⟨h1, h2, hu, g1⟩, by simp only [List.all_cons, g2, hu, Bool.and_true, bne_iff_ne, ne_eq]; exact h1⟩
        · cases h
      · cases h

theorem op_sound (hI : Inv B w0 I σ w h) {T : Tb} (hT : TbOk P T) {m : Tmp → Option Opd} {o : Oper} {c : COp} (hc : compOp T m o = some c) {vars env : List AV} {a : Act} (ho : OpsOk I w σ vars env a.eval m)
    {call : CallF} (hcall : CallOk P B w0 call) {r : AV} {h' : List AO} (he : evOp call vars env h c = some (r, h')) {next : Act → World → Prop} {Q : Exit → Act → World → Prop} (hn : Goes B w0 I σ w o a r h' next) :
    Oper.wp P o a w next Q := by
  obtain ⟨dst, op, type, pos, after, guard⟩ := o
  cases op with
  | move x =>
    simp only [compOp, Option.map_eq_some_iff] at hc
    obtain ⟨y, hy, rfl⟩ := hc
    cases he
    exact (Gives.same hI (v := a.eval x) (by simp [execOp]) (ho.get hy)).wp hn
  | assign x =>
    simp only [compOp, Option.map_eq_some_iff] at hc
    obtain ⟨y, hy, rfl⟩ := hc
    cases he
    exact (Gives.same hI (v := a.eval x) (by simp [execOp]) (ho.get hy)).wp hn
  | pick c x y =>
    simp only [compOp] at hc
    split at hc
    · rename_i c' x' y' h1 h2 h3
      cases hc
      simp only [evOp] at he
      split at he
      · rename_i t ht
        cases he
        have hb := ho.get h1
        rw [ht] at hb
        have hbv : a.eval c = .bool t := by generalize a.eval c = z at hb; cases hb; rfl
        refine (Gives.same hI (v := if t then a.eval x else a.eval y) ?_ ?_).wp hn
        · simp [execOp, hbv, asBool]
        · cases t
          · exact ho.get h3
          · exact ho.get h2
      · cases he
    · cases hc
  | alloc e =>
    simp only [compOp] at hc
    split at hc
    · rename_i i hi
      cases hc
      simp only [evOp, Option.map_eq_some_iff] at he
      obtain ⟨cs, hcl, he⟩ := he
      cases he
      have hz : Rep I w σ (getO vars env (.k i.zero)) i.zero := Rep.ofVal _
      have := gives_box (P := P) hI hz hcl e
      refine Gives.wp (o := ⟨dst, .alloc e, type, pos, after, guard⟩) ?_ hn
      simpa [execOp, Instr.alloc, (hT _ _ hi).zeroValue, Instr.box, Gives] using this
    · cases hc
  | box e x =>
    simp only [compOp, Option.map_eq_some_iff] at hc
    obtain ⟨y, hy, rfl⟩ := hc
    simp only [evOp, Option.map_eq_some_iff] at he
    obtain ⟨cs, hcl, he⟩ := he
    cases he
    exact Gives.wp (o := ⟨dst, .box e x, type, pos, after, guard⟩) (gives_box hI (ho.get hy) hcl e) hn
  | build t parts =>
    simp only [compOp] at hc
    split at hc
    · rename_i i hi
      split at hc
      · rename_i fs hd
        split at hc
        · rename_i places hp
          split at hc
          · rename_i ps hps
            split at hc
            · rename_i hz
              cases hc
              simp only [evOp, Option.map_eq_some_iff] at he
              obtain ⟨cs, hb, he⟩ := he
              cases he
              obtain ⟨z1, z2⟩ := zok_iff hz
              obtain ⟨p1, p2⟩ := places_ok hT hp
              obtain ⟨z, q1, q2, q3⟩ := zip_parts hps
              have hl : ∀ x ∈ z.map (fun p => ((p.1.1, a.eval p.1.2), p.2)), places[x.1.1]? = some (x.2.1, x.2.2.1) ∧ Rep I w σ (getO vars env x.2.2.2) x.1.2 := by
                intro x hx
                obtain ⟨p, hp, rfl⟩ := List.mem_map.1 hx
                have := q3 p hp
                simp only [Option.bind_eq_some_iff, Option.map_eq_some_iff] at this
                obtain ⟨q, hq, y, hy, e⟩ := this
                rw [← e]
                exact ⟨hq, ho.get hy⟩
              have := gives_build (P := P) hI (vars := vars) (env := env) (hT _ _ hi) hd z1 places p1 p2 _ hl (cs := cs) (by rw [List.map_map]; rw [show (fun x : (Nat × Value) × (Nat × Nat × Opd) => x.2) ∘ (fun p : (Nat × Operand) × (Nat × Nat × Opd) => ((p.1.1, a.eval p.1.2), p.2)) = (fun p => p.2) from rfl, q2]; exact hb)
              refine Gives.wp (o := ⟨dst, .build t parts, type, pos, after, guard⟩) ?_ hn
              have e1 : (List.map (fun x : (Nat × Value) × (Nat × Nat × Opd) => x.1) (List.map (fun p : (Nat × Operand) × (Nat × Nat × Opd) => ((p.1.1, a.eval p.1.2), p.2)) z)).toArray = parts.map (fun (i, x) => (i, a.eval x)) := by
                apply Array.ext'
                rw [Array.toList_map, ← q1]
                simp [List.map_map, Function.comp_def]
              rw [e1] at this
              exact this
            · cases hc
          · cases hc
        · cases hc
      · rename_i n e hd
        split at hc
        · rename_i j hj
          split at hc
          · rename_i ps hps
            split at hc
            · rename_i hz
              cases hc
              simp only [evOp, Option.map_eq_some_iff] at he
              obtain ⟨cs, hb, he⟩ := he
              cases he
              obtain ⟨z1, z2⟩ := zok_iff hz
              obtain ⟨z, q1, q2, q3⟩ := zip_parts hps
              have hl : ∀ x ∈ z.map (fun p => ((p.1.1, a.eval p.1.2), p.2)), x.2.1 = x.1.1 * j.size ∧ x.2.2.1 = j.size ∧ Rep I w σ (getO vars env x.2.2.2) x.1.2 := by
                intro x hx
                obtain ⟨p, hp, rfl⟩ := List.mem_map.1 hx
                have := q3 p hp
                simp only [Option.map_eq_some_iff] at this
                obtain ⟨y, hy, e⟩ := this
                rw [← e]
                exact ⟨rfl, rfl, ho.get hy⟩
              have := gives_buildA (P := P) hI (vars := vars) (env := env) (hT _ _ hi) hd (hT _ _ hj) z1 _ hl (cs := cs) (by rw [List.map_map]; rw [show (fun x : (Nat × Value) × (Nat × Nat × Opd) => x.2) ∘ (fun p : (Nat × Operand) × (Nat × Nat × Opd) => ((p.1.1, a.eval p.1.2), p.2)) = (fun p => p.2) from rfl, q2]; exact hb)
              refine Gives.wp (o := ⟨dst, .build t parts, type, pos, after, guard⟩) ?_ hn
              have e1 : (List.map (fun x : (Nat × Value) × (Nat × Nat × Opd) => x.1) (List.map (fun p : (Nat × Operand) × (Nat × Nat × Opd) => ((p.1.1, a.eval p.1.2), p.2)) z)).toArray = parts.map (fun (i, x) => (i, a.eval x)) := by
                apply Array.ext'
                rw [Array.toList_map, ← q1]
                simp [List.map_map, Function.comp_def]
              rw [e1] at this
              exact this
            · cases hc
          · cases hc
        · cases hc
      · cases hc
    · cases hc
  | buildSlice t n parts =>
    simp only [compOp] at hc
    split at hc
    · rename_i i hi
      split at hc
      · rename_i e hd
        split at hc
        · rename_i j hj
          split at hc
          · rename_i ps hps
            split at hc
            · rename_i hz
              simp only [Bool.and_eq_true, decide_eq_true_eq] at hz
              obtain ⟨z1, z2⟩ := zok_iff hz.1
              obtain ⟨z, q1, q2, q3⟩ := zip_parts hps
              have hl : ∀ x ∈ z.map (fun p => ((p.1.1, a.eval p.1.2), p.2)), x.1.1 = x.2.1 ∧ Rep I w σ (getO vars env x.2.2) x.1.2 := by
                intro x hx
                obtain ⟨p, hp, rfl⟩ := List.mem_map.1 hx
                have := q3 p hp
                simp only [Option.map_eq_some_iff] at this
                obtain ⟨y, hy, e⟩ := this
                rw [← e]
                exact ⟨rfl, ho.get hy⟩
              have hu : P.underlying t = some (.slice e) := by rw [← hd]; exact (hT _ _ hi).und
              by_cases hlit : T.lit t = true
              · rw [if_pos hlit] at hc
                cases hc
                simp only [evOp, Option.map_eq_some_iff] at he
                obtain ⟨els, hb, he⟩ := he
                cases he
                have := gives_brow (P := P) hI (vars := vars) (env := env) hu (hT _ _ hj) z1 z2 n hz.2 _ hl (els := els) (by rw [List.map_map]; rw [show (fun x : (Nat × Value) × (Nat × Opd) => x.2) ∘ (fun p : (Nat × Operand) × (Nat × Opd) => ((p.1.1, a.eval p.1.2), p.2)) = (fun p => p.2) from rfl, q2]; exact hb)
                refine Gives.wp (o := ⟨dst, .buildSlice t n parts, type, pos, after, guard⟩) ?_ hn
                have e1 : (List.map (fun x : (Nat × Value) × (Nat × Opd) => x.1) (List.map (fun p : (Nat × Operand) × (Nat × Opd) => ((p.1.1, a.eval p.1.2), p.2)) z)).toArray = parts.map (fun (i, x) => (i, a.eval x)) := by
                  apply Array.ext'
                  rw [Array.toList_map, ← q1]
                  simp [List.map_map, Function.comp_def]
                rw [e1] at this
                exact this
              rw [if_neg hlit] at hc
              cases hc
              simp only [evOp, Option.map_eq_some_iff] at he
              obtain ⟨els, hb, he⟩ := he
              cases he
              have := gives_bslice (P := P) hI (vars := vars) (env := env) hu (hT _ _ hj) z1 z2 n hz.2 _ hl (els := els) (by rw [List.map_map]; rw [show (fun x : (Nat × Value) × (Nat × Opd) => x.2) ∘ (fun p : (Nat × Operand) × (Nat × Opd) => ((p.1.1, a.eval p.1.2), p.2)) = (fun p => p.2) from rfl, q2]; exact hb)
              refine Gives.wp (o := ⟨dst, .buildSlice t n parts, type, pos, after, guard⟩) ?_ hn
              have e1 : (List.map (fun x : (Nat × Value) × (Nat × Opd) => x.1) (List.map (fun p : (Nat × Operand) × (Nat × Opd) => ((p.1.1, a.eval p.1.2), p.2)) z)).toArray = parts.map (fun (i, x) => (i, a.eval x)) := by
                apply Array.ext'
                rw [Array.toList_map, ← q1]
                simp [List.map_map, Function.comp_def]
              rw [e1] at this
              exact this
            · cases hc
          · cases hc
        · cases hc
      · cases hc
    · cases hc
  | load t x =>
    simp only [compOp] at hc
    split at hc
    · rename_i i y hi hy
      cases hc
      simp only [evOp, Option.map_eq_some_iff] at he
      obtain ⟨v, hv, he⟩ := he
      cases he
      obtain ⟨u, h1, h2⟩ := run_load_rep (P := P) hI (hT _ _ hi) (ho.get hy) hv
      exact (Gives.same hI (v := u) (by simp [execOp, h1]) h2).wp hn
    · cases hc
  | store t x y =>
    simp only [compOp] at hc
    split at hc
    · rename_i i x' y' hi hx hy
      cases hc
      simp only [evOp, Option.map_eq_some_iff] at he
      obtain ⟨h2, hs, he⟩ := he
      cases he
      have rx := ho.get hx
      have ry := ho.get hy
      refine Gives.wp (o := ⟨dst, .store t x y, type, pos, after, guard⟩) ?_ hn
      simp only [execOp]
      unfold Q113 at hs
      split at hs
      · rename_i id off hx1
        split at hs
        · rename_i cs hh
          split at hs
          · rename_i xs hcl
            split at hs
            · rename_i hle
              cases hs
              rw [hx1] at rx
              generalize a.eval x = vx at rx ⊢
              cases rx with
              | ptr _ _ _ L hL hf => exact gives_store_box hI (hT _ _ hi) hL hh ry hcl hle.1 hle.2
            · cases hs
          · cases hs
        · cases hs
      · rename_i sz' id ver idx off hx1
        split at hs
        · rename_i l k hra
          obtain ⟨hh, hm⟩ := rowAt_eq hra
          split at hs
          · rename_i el ys hel hys
            split at hs
            · rename_i hle
              cases hs
              obtain ⟨y2, hsn, hcl⟩ := Option.bind_eq_some_iff.1 hys
              rw [hx1] at rx
              generalize a.eval x = vx at rx ⊢
              cases rx with
              | ep _ _ _ _ _ _ _ h1x L hL hv hxo =>
                obtain ⟨hf, hver, hR⟩ := hI.obj _ _ L hh hL
                obtain ⟨hhas, rfl⟩ := hxo hver.symm
                exact gives_store_row hI (hT _ _ hi) hL hh ry hsn hcl hel hle.1 hle.2.1 hle.2.2.1 hle.2.2.2
            · cases hs
          · cases hs
        · cases hs
      · cases hs
    · cases hc
  | nilCheck x =>
    simp only [compOp, Option.map_eq_some_iff] at hc
    obtain ⟨y, hy, rfl⟩ := hc
    simp only [evOp, Option.map_eq_some_iff] at he
    obtain ⟨v, hv, he⟩ := he
    cases he
    exact Gives.wp (o := ⟨dst, .nilCheck x, type, pos, after, guard⟩) (gives_nilchk hI (ho.get hy) hv _ a.eval x rfl rfl) hn
  | binOp op xt x y yt =>
    simp only [compOp] at hc
    split at hc
    · rename_i x' y' hx hy
      have shf : ∀ left : Bool, op = (if left then .shl else .shr) → c = .shf left x' y' → Oper.wp P ⟨dst, .binOp op xt x y yt, type, pos, after, guard⟩ a w next Q := by
        rintro left rfl rfl
        simp only [evOp, Option.map_eq_some_iff] at he
        obtain ⟨v, hv, he⟩ := he
        cases he
        refine Gives.wp (o := ⟨dst, .binOp (if left then .shl else .shr) xt x y yt, type, pos, after, guard⟩) ?_ hn
        refine (gives_shf hI (ho.get hx) (ho.get hy) hv xt x y).congr ?_
        simp only [execOp, Sem.run_bind]
        cases (eqGuard (if left = true then BinOp.shl else BinOp.shr) xt x y (a.eval x) (a.eval y)).run P w <;> rfl
      split at hc
      · cases hc; exact shf true rfl rfl
      · cases hc; exact shf false rfl rfl
      refine Gives.wp (o := ⟨dst, .binOp op xt x y yt, type, pos, after, guard⟩) ?_ hn
      have rx := ho.get hx
      have ry := ho.get hy
      simp only [compBin] at hc
      have eqv : ∀ (k : EqK) (neg : Bool) (d : TypeDesc), P.underlying xt = some d → k.ok d = true → c = .eqv k neg x' y' → op = (if neg then .neq else .eql) → Gives P B w0 I σ w (execOp a.eval ⟨dst, .binOp op xt x y yt, type, pos, after, guard⟩) r h' := by
        rintro k neg d hd hk rfl rfl
        simp only [evOp, Option.map_eq_some_iff] at he
        obtain ⟨b, hb, he⟩ := he
        cases he
        refine (gives_eqv hI rx ry hb hd hk x y).congr ?_
        simp only [execOp, Sem.run_bind]
        cases (eqGuard (if neg then BinOp.neq else BinOp.eql) xt x y (a.eval x) (a.eval y)).run P w <;> rfl
      have bin : c = .bin op x' y' → Gives P B w0 I σ w (execOp a.eval ⟨dst, .binOp op xt x y yt, type, pos, after, guard⟩) r h' := by
        rintro rfl
        simp only [evOp, Option.map_eq_some_iff] at he
        obtain ⟨v, hv, he⟩ := he
        cases he
        refine (gives_bin hI rx ry hv xt x y).congr ?_
        simp only [execOp, Sem.run_bind]
        cases (eqGuard op xt x y (a.eval x) (a.eval y)).run P w <;> rfl
      split at hc
      · rename_i i hi
        have hu := (hT _ _ hi).und
        split at hc
        · cases hc; exact bin rfl
        · cases hc; exact bin rfl
        · rename_i hd
          rw [hd] at hu
          split at hc <;> first | (cases hc; done) | skip
          · cases hc; exact eqv .bool false _ hu rfl rfl rfl
          · cases hc; exact eqv .bool true _ hu rfl rfl rfl
        · rename_i e hd
          rw [hd] at hu
          split at hc <;> first | (cases hc; done) | skip
          · cases hc; exact eqv .slice false _ hu rfl rfl rfl
          · cases hc; exact eqv .slice true _ hu rfl rfl rfl
        · rename_i e hd
          rw [hd] at hu
          split at hc <;> first | (cases hc; done) | skip
          · cases hc; exact eqv .pointer false _ hu rfl rfl rfl
          · cases hc; exact eqv .pointer true _ hu rfl rfl rfl
        · rename_i fs hd
          split at hc
          · rename_i ks hks
            obtain ⟨hf1, hf2⟩ := flatT_ok hT _ _ _ hks
            obtain ⟨hp, hg⟩ := (hT _ _ hi).eqs fs hd hf2
            rw [hd] at hu
            have flat : ∀ neg : Bool, c = .eqv (.flat ks) neg x' y' → op = (if neg then .neq else .eql) → Gives P B w0 I σ w (execOp a.eval ⟨dst, .binOp op xt x y yt, type, pos, after, guard⟩) r h' := by
              rintro neg rfl rfl
              simp only [evOp, Option.map_eq_some_iff] at he
              obtain ⟨b, hb, he⟩ := he
              cases he
              generalize getO vars env x' = ax at hb rx
              generalize getO vars env y' = ay at hb ry
              unfold eqNil at hb
              split at hb <;> first | (cases hb; done) | skip
              all_goals first
                | (rename_i e0; cases e0; done)
                | skip
              rename_i ks0 cs ds e0
              cases e0
              refine (gives_flat hI rx ry hb hu hf1 hp hg x y).congr ?_
              simp only [execOp, Sem.run_bind]
              cases (eqGuard (if neg then BinOp.neq else BinOp.eql) xt x y (a.eval x) (a.eval y)).run P w <;> rfl
            split at hc <;> first | (cases hc; done) | skip
            · cases hc; exact flat false rfl rfl
            · cases hc; exact flat true rfl rfl
          · cases hc
        · cases hc
      · cases hc
    · cases hc
  | makeMap t rs =>
    cases rs with
    | some z => simp [compOp] at hc
    | none =>
      simp only [compOp, Option.map_eq_some_iff] at hc
      obtain ⟨q, hq, rfl⟩ := hc
      cases he
      exact Gives.wp (o := ⟨dst, .makeMap t none, type, pos, after, guard⟩) (gives_mkmap hI t q.1) hn
  | lookup t x k ok =>
    simp only [compOp] at hc
    split at hc
    · rename_i q x' k' hq hx hk
      cases hc
      obtain ⟨ke, el, u1, u2, u3⟩ := mapT_ok hT hq
      simp only [evOp, Option.map_eq_some_iff] at he
      obtain ⟨v, hv, he⟩ := he
      cases he
      exact Gives.wp (o := ⟨dst, .lookup t x k ok, type, pos, after, guard⟩) (gives_lookup hI u1 u2 u3 (ho.get hx) (ho.get hk) hv) hn
    · cases hc
  | mapUpdate t x k y =>
    simp only [compOp] at hc
    split at hc
    · rename_i q x' k' y' hq hx hk hy
      cases hc
      obtain ⟨ke, el, u1, u2, u3⟩ := mapT_ok hT hq
      simp only [evOp, Option.map_eq_some_iff] at he
      obtain ⟨v, hv, he⟩ := he
      cases he
      exact Gives.wp (o := ⟨dst, .mapUpdate t x k y, type, pos, after, guard⟩) (gives_mapupd hI u1 u2 (ho.get hx) (ho.get hk) (ho.get hy) hv) hn
    · cases hc
  | insert t x k y =>
    simp only [compOp] at hc
    split at hc
    · rename_i q x' k' y' hq hx hk hy
      cases hc
      obtain ⟨ke, el, u1, u2, u3⟩ := mapT_ok hT hq
      simp only [evOp, Option.map_eq_some_iff] at he
      obtain ⟨v, hv, he⟩ := he
      cases he
      exact Gives.wp (o := ⟨dst, .insert t x k y, type, pos, after, guard⟩) (gives_mapupd hI u1 u2 (ho.get hx) (ho.get hk) (ho.get hy) hv) hn
    · cases hc
  | range t x =>
    simp only [compOp] at hc
    split at hc
    · rename_i i x' hi hx
      split at hc
      · rename_i hd
        cases hc
        have rx := ho.get hx
        simp only [evOp] at he
        split at he
        · rename_i s hs
          cases he
          rw [hs] at rx
          exact Gives.wp (o := ⟨dst, .range t x, type, pos, after, guard⟩) (gives_range hI (by rw [← hd]; exact (hT _ _ hi).und) rx) hn
        · cases he
      · cases hc
    · cases hc
  | mapEntry t x k =>
    simp only [compOp] at hc
    split at hc
    · rename_i q x' k' hq hx hk
      cases hc
      obtain ⟨ke, el, m1, m2, m3⟩ := mapT_ok hT hq
      simp only [evOp] at he
      exact Gives.wp (o := ⟨dst, .mapEntry t x k, type, pos, after, guard⟩) (gives_mentry hI m1 m2 m3 (ho.get hx) (ho.get hk) he) hn
    · cases hc
  | entryStore t x n y =>
    simp only [compOp] at hc
    split at hc
    · rename_i x' n' y' hx hn' hy
      cases hc
      simp only [evOp, Option.map_eq_some_iff] at he
      obtain ⟨h1, hh1, he⟩ := he
      cases he
      exact Gives.wp (o := ⟨dst, .entryStore t x n y, type, pos, after, guard⟩) (gives_estore hI (ho.get hx) (ho.get hn') (ho.get hy) hh1) hn
    · cases hc
  | next x st =>
    cases st with
    | false => simp [compOp] at hc
    | true =>
      simp only [compOp, Option.map_eq_some_iff] at hc
      obtain ⟨y, hy, rfl⟩ := hc
      simp only [evOp] at he
      exact Gives.wp (o := ⟨dst, .next x true, type, pos, after, guard⟩) (gives_next hI (ho.get hy) he) hn
  | unOp op xt x =>
    simp only [compOp, Option.map_eq_some_iff] at hc
    obtain ⟨y, hy, rfl⟩ := hc
    simp only [evOp, Option.map_eq_some_iff] at he
    obtain ⟨v, hv, he⟩ := he
    cases he
    exact Gives.wp (o := ⟨dst, .unOp op xt x, type, pos, after, guard⟩) (gives_un hI (ho.get hy) hv) hn
  | convert src dt x =>
    simp only [compOp] at hc
    split at hc
    · rename_i i j y hi hj hy
      have ry := ho.get hy
      refine Gives.wp (o := ⟨dst, .convert src dt x, type, pos, after, guard⟩) ?_ hn
      split at hc
      · rename_i k hd
        cases hc
        simp only [evOp] at he
        split at he
        · rename_i kk n hx1
          cases he
          rw [hx1] at ry
          exact gives_conv hI (hT _ _ hi).und (by rw [← hd]; exact (hT _ _ hj).und) ry
        · cases he
      · rename_i hd
        split at hc
        · cases hc
          simp only [evOp] at he
          split at he
          · rename_i s hx1
            cases he
            rw [hx1] at ry
            exact gives_same hI (hT _ _ hi).und (by rw [← hd]; exact (hT _ _ hj).und) ry
          · cases he
        · rename_i k0 hdi
          cases hc
          simp only [evOp] at he
          split at he
          · rename_i kk n hx1
            cases he
            rw [hx1] at ry
            exact gives_runestr hI (by rw [← hdi]; exact (hT _ _ hi).und) (by rw [← hd]; exact (hT _ _ hj).und) ry
          · cases he
        · rename_i e hdi
          split at hc
          · rename_i k hk
            split at hc
            · rename_i hdk
              split at hc
              · cases hc
                simp only [evOp, Option.map_eq_some_iff] at he
                obtain ⟨s, hs, he⟩ := he
                cases he
                exact gives_bstr hI (by rw [← hdi]; exact (hT _ _ hi).und) (by rw [← hdk]; exact (hT _ _ hk).und) (by rw [← hd]; exact (hT _ _ hj).und) ry hs
              · cases hc
            · cases hc
          · cases hc
        · cases hc
      · cases hc
    · cases hc
  | makeFunc fn first cap =>
    simp only [compOp] at hc
    split at hc
    · rename_i p q hp hq
      cases hc
      cases he
      have rp := cOs_args ho hp
      have rq := cOs_args ho hq
      exact (Gives.same hI (v := .func fn (first.map a.eval) (cap.map a.eval)) (by simp [execOp, Instr.makeFunc]) (.fn σ fn _ _ _ _ rp.size rq.size rp.rep rq.rep)).wp hn
    · cases hc
  | makeSlice t l cp =>
    simp only [compOp] at hc
    split at hc
    · rename_i i l' c' hi hl hcp
      split at hc
      · rename_i e hd
        split at hc
        · rename_i j hj
          split at hc
          · rename_i hz
            cases hc
            obtain ⟨z1, z2⟩ := zok_iff hz
            have rl := ho.get hl
            have rc := ho.get hcp
            simp only [evOp] at he
            split at he
            · rename_i n mm e1 e2
              split at he
              · rename_i hb
                cases he
                rw [e1] at rl; rw [e2] at rc
                refine Gives.wp (o := ⟨dst, .makeSlice t l cp, type, pos, after, guard⟩) ?_ hn
                simp only [execOp]
                generalize a.eval l = vl at rl ⊢
                generalize a.eval cp = vc at rc ⊢
                cases rl; cases rc
                exact gives_mkslice hI (by rw [← hd]; exact (hT _ _ hi).und) (hT _ _ hj) z1 z2 hb.1 hb.2.1 hb.2.2.1 hb.2.2.2
              · cases he
            · cases he
          · cases hc
        · cases hc
      · cases hc
    · cases hc
  | slice t x lo hi mx =>
    simp only [compOp] at hc
    split at hc
    · rename_i i x' lo' hi' mx' hti hx hlo hhi hmx
      have rx := ho.get hx
      have r1 := optOk_of ho hlo
      have r2 := optOk_of ho hhi
      have r3 := optOk_of ho hmx
      refine Gives.wp (o := ⟨dst, .slice t x lo hi mx, type, pos, after, guard⟩) ?_ hn
      split at hc
      · rename_i e hd
        split at hc
        · rename_i j hj
          cases hc
          simp only [evOp, Option.map_eq_some_iff] at he
          obtain ⟨v, hv, he⟩ := he
          cases he
          exact gives_slice hI (by rw [← hd]; exact (hT _ _ hti).und) (hT _ _ hj) rx r1 r2 r3 hv
        · cases hc
      · rename_i hd
        split at hc
        · cases hc
          have hmn : mx = none := by
            cases mx with
            | none => rfl
            | some z => simp [cOo] at hmx
          subst hmn
          simp only [evOp] at he
          split at he
          · rename_i s hx1
            simp only [Option.map_eq_some_iff] at he
            obtain ⟨⟨l, hh, mm⟩, hb, he⟩ := he
            cases he
            rw [hx1] at rx
            exact gives_sslice hI (by rw [← hd]; exact (hT _ _ hti).und) rx r1 r2 hb
          · cases he
        · cases hc
      · rename_i n e hd
        split at hc
        · rename_i j hmx0 hj
          cases hc
          have hmn : mx = none := by
            cases mx with
            | none => rfl
            | some z => simp [cOo] at hmx
          subst hmn
          simp only [evOp, Option.map_eq_some_iff] at he
          obtain ⟨v, hv, he⟩ := he
          cases he
          exact gives_aslice hI (by rw [← hd]; exact (hT _ _ hti).und) (hT _ _ hj) rx r1 r2 hv
        · cases hc
      · cases hc
    · cases hc
  | fieldAddr t x f =>
    simp only [compOp] at hc
    split at hc
    · rename_i i x' hti hx
      split at hc
      · rename_i fs hd
        split at hc
        · rename_i fd hfd
          split at hc
          · rename_i j hj
            split at hc
            · cases hc
            · rename_i hsz
              cases hc
              simp only [evOp, Option.map_eq_some_iff] at he
              obtain ⟨v, hv, he⟩ := he
              cases he
              exact Gives.wp (o := ⟨dst, .fieldAddr t x f, type, pos, after, guard⟩) (gives_fa hI (by rw [← hd]; exact (hT _ _ hti).und) hfd (hT _ _ hj) hsz (ho.get hx) hv) hn
          · cases hc
        · cases hc
      · cases hc
    · cases hc
  | field t x f =>
    simp only [compOp] at hc
    split at hc
    · rename_i i x' hti hx
      split at hc
      · rename_i fs hd
        split at hc
        · rename_i fd hfd
          split at hc
          · rename_i j hj
            cases hc
            have rx := ho.get hx
            simp only [evOp] at he
            split at he
            · rename_i cs hx1
              split at he
              · rename_i hle
                simp only [Option.map_eq_some_iff] at he
                obtain ⟨v, hv, he⟩ := he
                cases he
                rw [hx1] at rx
                exact Gives.wp (o := ⟨dst, .field t x f, type, pos, after, guard⟩) (gives_fld hI (by rw [← hd]; exact (hT _ _ hti).und) hfd (hT _ _ hj) rx hle hv) hn
              · cases he
            · cases he
          · cases hc
        · cases hc
      · cases hc
    · cases hc
  | indexAddr t x i =>
    simp only [compOp] at hc
    split at hc
    · rename_i ti x' i' hti hx hi
      split at hc
      · rename_i e hd
        split at hc
        · rename_i j hj
          cases hc
          simp only [evOp, Option.map_eq_some_iff] at he
          obtain ⟨v, hv, he⟩ := he
          cases he
          exact Gives.wp (o := ⟨dst, .indexAddr t x i, type, pos, after, guard⟩) (gives_ia hI (by rw [← hd]; exact (hT _ _ hti).und) (hT _ _ hj) (ho.get hx) (ho.get hi) hv) hn
        · cases hc
      · rename_i n e hd
        split at hc
        · rename_i j hj
          cases hc
          exact Gives.wp (o := ⟨dst, .indexAddr t x i, type, pos, after, guard⟩) (gives_iaa hI (by rw [← hd]; exact (hT _ _ hti).und) (hT _ _ hj) (ho.get hx) (ho.get hi) he) hn
        · cases hc
      · cases hc
    · cases hc
  | index t x i =>
    simp only [compOp] at hc
    split at hc
    · rename_i ti x' i' hti hx hi
      split at hc
      · rename_i hd
        cases hc
        have rx := ho.get hx
        simp only [evOp] at he
        split at he
        · rename_i s n hx1 hn1
          split at he
          · rename_i b hb
            cases he
            rw [hx1] at rx
            exact Gives.wp (o := ⟨dst, .index t x i, type, pos, after, guard⟩) (gives_ixs hI (by rw [← hd]; exact (hT _ _ hti).und) rx (ho.get hi) hn1 hb) hn
          · cases he
        · cases he
      · rename_i n e hd
        split at hc
        · rename_i j hj
          cases hc
          exact Gives.wp (o := ⟨dst, .index t x i, type, pos, after, guard⟩) (gives_ixa hI (by rw [← hd]; exact (hT _ _ hti).und) (hT _ _ hj) (ho.get hx) (ho.get hi) he) hn
        · cases hc
      · cases hc
    · cases hc
  | extract x i =>
    simp only [compOp, Option.map_eq_some_iff] at hc
    obtain ⟨y, hy, rfl⟩ := hc
    have ry := ho.get hy
    simp only [evOp] at he
    split at he
    · rename_i vs hx1
      split at he
      · rename_i v hv
        cases he
        rw [hx1] at ry
        exact Gives.wp (o := ⟨dst, .extract x i, type, pos, after, guard⟩) (gives_extract hI ry hv) hn
      · cases he
    · cases he
  | call cl =>
    obtain ⟨callee, args, argTypes⟩ := cl
    simp only [compOp] at hc
    split at hc
    · -- a function
      rename_i f
      simp only [Option.map_eq_some_iff] at hc
      obtain ⟨l, hl, rfl⟩ := hc
      have ra := cOs_args ho hl
      have hrun : ∀ (vals : Array Value), vals = args.map a.eval → (callFunc f vals).run P w = .ok (.enter f vals) w → (execOp a.eval ⟨dst, .call { callee := .value (.func f), args := args, argTypes := argTypes }, type, pos, after, guard⟩).run P w = .ok (.enter f vals) w := by
        rintro vals rfl hr
        simp only [execOp, resolve, Act.eval, Deferred.ofValue, Sem.run_bind, Sem.run_pure, Result.andThen_ok, invoke]
        simpa using hr
      cases hz : T.frz f with
      | true =>
        rw [hz] at he
        simp only [cond_true, evOp] at he
        split at he
        · rename_i as' hs
          split at he
          · rename_i r' hcr
            cases he
            obtain ⟨I1, hI1, s1⟩ := raises_ok (l.map (getO vars env)) hI
            have ra1 : ArgsRep I1 w σ (l.map (getO vars env)) (args.map a.eval) := ⟨ra.size, fun i v hi => (ra.rep i v hi).step s1⟩
            refine ends_wp (I := I) (hrun _ rfl (hcall.enter _ _ _ _ _ hcr _ _)) ((pure_call hI1 hcall ra1 hs hcr).mono ?_) hn
            rintro e w' ⟨v, I', σ', rfl, h1, h2, h3⟩
            exact ⟨v, I', σ', rfl, h1, s1.trans h2, h3⟩
          · cases he
        · cases he
      | false =>
      rw [hz] at he
      simp only [cond_false] at he
      cases hp : T.pureF f with
      | true =>
        rw [hp] at he
        simp only [evOp] at he
        split at he
        · rename_i as' hs
          split at he
          · rename_i r' hcr
            cases he
            exact ends_wp (hrun _ rfl (hcall.enter _ _ _ _ _ hcr _ _)) (pure_call hI hcall ra hs hcr) hn
          · cases he
        · cases he
      | false =>
        rw [hp] at he
        simp only [evOp] at he
        exact ends_wp (hrun _ rfl (hcall.enter _ _ _ _ _ he _ _)) (hcall.calls _ _ _ _ _ he I σ w _ hI ra) hn
    · rename_i t
      split at hc
      · rename_i x' l hx hl
        cases hc
        have ra := cOs_args ho hl
        have rx := ho t x' hx
        simp only [evOp] at he
        split at he
        · rename_i f first cap hx1
          rw [hx1] at rx
          generalize hv : a.eval (.tmp t) = vx at rx
          cases rx with
          | fn _ _ _ _ ap aq hp hq hpr hqr =>
            have hargs : ArgsRep I w σ (first ++ l.map (getO vars env) ++ cap) (ap ++ args.map a.eval ++ aq) := by
              refine ⟨by simp [hp, hq, ← ra.size], fun i v hi => ?_⟩
              have s1 := ra.size
              by_cases h1 : i < first.length
              · rw [List.append_assoc, List.getElem?_append_left h1] at hi
                rw [Array.append_assoc, getD_left (by omega)]
                exact hpr i v hi
              · rw [List.append_assoc, List.getElem?_append_right (by omega)] at hi
                rw [Array.append_assoc, getD_right (by omega)]
                by_cases h2 : i - first.length < (l.map (getO vars env)).length
                · rw [List.getElem?_append_left h2] at hi
                  rw [getD_left (by omega), hp]
                  exact ra.rep _ v hi
                · rw [List.getElem?_append_right (by omega)] at hi
                  rw [getD_right (by omega), hp, s1]
                  exact hqr _ v hi
            have hr := hcall.enter _ _ _ _ _ he (ap ++ args.map a.eval ++ aq) w
            refine ends_wp (f := f) (vals := ap ++ args.map a.eval ++ aq) ?_ (hcall.calls _ _ _ _ _ he I σ w _ hI hargs) hn
            simp only [execOp, resolve, hv, Deferred.ofValue, Sem.run_bind, Sem.run_pure, Result.andThen_ok, invoke]
            simpa using hr
        · cases he
      · cases hc
    · -- append
      split at hc
      · rename_i s x t t' hargs htys
        split at hc
        · rename_i i s' x' hti hs hx
          split at hc
          · rename_i htt
            subst htt
            split at hc
            · rename_i e hd
              split at hc
              · rename_i j hj
                split at hc
                · rename_i hz
                  cases hc
                  obtain ⟨z1, z2⟩ := zok_iff hz
                  simp only [evOp] at he
                  have := gives_append (P := P) (ty := type) hI (by rw [← hd]; exact (hT _ _ hti).und) (hT _ _ hj) z2 (ho.get hs) (ho.get hx) he
                  refine Gives.wp (o := ⟨dst, .call { callee := .builtin .append, args := args, argTypes := argTypes }, type, pos, after, guard⟩) ?_ hn
                  have e1 : args = #[s, x] := Array.ext' hargs
                  have e2 : argTypes = #[t, t] := Array.ext' htys
                  subst e1; subst e2
                  simpa [execOp, resolve, invoke, builtin] using this
                · cases hc
              · cases hc
            · cases hc
          · split at hc
            · rename_i e k hd hk
              split at hc
              · rename_i j hdk hj
                split at hc
                · rename_i hz
                  simp only [Bool.and_eq_true, beq_iff_eq] at hz
                  cases hc
                  obtain ⟨z1, z2⟩ := zok_iff hz.1
                  simp only [evOp] at he
                  have := gives_apps (P := P) (ty := type) hI (by rw [← hd]; exact (hT _ _ hti).und) (by rw [← hdk]; exact (hT _ _ hk).und) (hT _ _ hj) z2 hz.2 (ho.get hs) (ho.get hx) he
                  refine Gives.wp (o := ⟨dst, .call { callee := .builtin .append, args := args, argTypes := argTypes }, type, pos, after, guard⟩) ?_ hn
                  have e1 : args = #[s, x] := Array.ext' hargs
                  have e2 : argTypes = #[t, t'] := Array.ext' htys
                  subst e1; subst e2
                  simpa [execOp, resolve, invoke, builtin] using this
                · cases hc
              · cases hc
            · cases hc
        · cases hc
      · cases hc
    · -- clear
      split at hc
      · rename_i x t hargs htys
        have e1 : args = #[x] := Array.ext' hargs
        have e2 : argTypes = #[t] := Array.ext' htys
        subst e1; subst e2
        split at hc
        · rename_i i x' hti hx
          split at hc
          · rename_i k e hd
            cases hc
            simp only [evOp, Option.map_eq_some_iff] at he
            obtain ⟨h1, hh1, he⟩ := he
            cases he
            have := gives_clrmap (P := P) (ty := type) hI (by rw [← hd]; exact (hT _ _ hti).und) (ho.get hx) hh1
            refine Gives.wp (o := ⟨dst, .call { callee := .builtin .clear, args := #[x], argTypes := #[t] }, type, pos, after, guard⟩) ?_ hn
            simpa [execOp, resolve, invoke, builtin] using this
          · rename_i e hd
            split at hc
            · rename_i j hj
              split at hc
              · rename_i hz
                cases hc
                obtain ⟨z1, z2⟩ := zok_iff hz
                simp only [evOp, Option.map_eq_some_iff] at he
                obtain ⟨h1, hh1, he⟩ := he
                cases he
                have := gives_clrrow (P := P) (ty := type) hI (by rw [← hd]; exact (hT _ _ hti).und) (hT _ _ hj) z1 z2 (ho.get hx) hh1
                refine Gives.wp (o := ⟨dst, .call { callee := .builtin .clear, args := #[x], argTypes := #[t] }, type, pos, after, guard⟩) ?_ hn
                simpa [execOp, resolve, invoke, builtin] using this
              · cases hc
            · cases hc
          · cases hc
        · cases hc
      · cases hc
    · -- max
      split at hc
      · rename_i x y hargs
        split at hc
        · rename_i x' y' hx hy
          cases hc
          simp only [evOp] at he
          split at he
          · rename_i k u k2 v hx1 hy1
            cases he
            have hrx := ho.get hx
            have hry := ho.get hy
            rw [hx1] at hrx
            rw [hy1] at hry
            have := gives_mm (P := P) (ats := argTypes) (ty := type) (mx := true) hI hrx hry
            refine Gives.wp (o := ⟨dst, .call { callee := .builtin .max, args := args, argTypes := argTypes }, type, pos, after, guard⟩) ?_ hn
            have e1 : args = #[x, y] := Array.ext' hargs
            subst e1
            simpa [execOp, resolve, invoke, builtin] using this
          · cases he
        · cases hc
      · cases hc
    · -- min
      split at hc
      · rename_i x y hargs
        split at hc
        · rename_i x' y' hx hy
          cases hc
          simp only [evOp] at he
          split at he
          · rename_i k u k2 v hx1 hy1
            cases he
            have hrx := ho.get hx
            have hry := ho.get hy
            rw [hx1] at hrx
            rw [hy1] at hry
            have := gives_mm (P := P) (ats := argTypes) (ty := type) (mx := false) hI hrx hry
            refine Gives.wp (o := ⟨dst, .call { callee := .builtin .min, args := args, argTypes := argTypes }, type, pos, after, guard⟩) ?_ hn
            have e1 : args = #[x, y] := Array.ext' hargs
            subst e1
            simpa [execOp, resolve, invoke, builtin] using this
          · cases he
        · cases hc
      · cases hc
    · -- len
      split at hc
      · rename_i x t hargs htys
        have e1 : args = #[x] := Array.ext' hargs
        have e2 : argTypes = #[t] := Array.ext' htys
        subst e1; subst e2
        split at hc
        · rename_i i x' hti hx
          have len : ∀ k : LenK, k.ok i.desc = true → c = .len k x' → Oper.wp P ⟨dst, .call { callee := .builtin .len, args := #[x], argTypes := #[t] }, type, pos, after, guard⟩ a w next Q := by
            rintro k hk rfl
            simp only [evOp, Option.map_eq_some_iff] at he
            obtain ⟨n, hn1, he⟩ := he
            cases he
            have := gives_len (P := P) (ty := type) hI (hT _ _ hti).und hk (ho.get hx) hn1
            refine Gives.wp (o := ⟨dst, .call { callee := .builtin .len, args := #[x], argTypes := #[t] }, type, pos, after, guard⟩) ?_ hn
            simpa [execOp, resolve, invoke, builtin] using this
          split at hc <;> first | (cases hc; done) | skip
          · rename_i e hd; cases hc; exact len .slice (by rw [hd]; rfl) rfl
          · rename_i hd; cases hc; exact len .string (by rw [hd]; rfl) rfl
          · rename_i k e hd; cases hc; exact len .map (by rw [hd]; rfl) rfl
        · cases hc
      · cases hc
    · cases hc
  | panic x => simp only [compOp, Option.some.injEq] at hc; subst hc; cases he
  | makeInterface t x => simp only [compOp, Option.some.injEq] at hc; subst hc; cases he
  | _ => simp [compOp] at hc
end
end Go.AE
end

/-! AE, part 18: regions in the order of the text. -/
section
set_option linter.unusedVariables false
set_option linter.unusedSimpArgs false
namespace Go.AE
open Go Go.RowKit

def varOf (vt : List Tmp) (t : Tmp) : Option Nat := vt.findIdx? (· == t)
def mOf (vt : List Tmp) (lm : List (Option Tmp)) (t : Tmp) : Option Opd :=
  match varOf vt t with
  | some i => some (.var i)
  | none => (lm.findIdx? (· == some t)).map .loc

def compGuard (vt : List Tmp) (all : Array Oper) (lm : List (Option Tmp)) : Option (Nat × Bool) → Option (Option (Opd × Bool))
  | none => some none
  | some (g, want) => match (all[g]?).bind (·.dst) with
    | some t => (mOf vt lm t).map fun x => some (x, want)
    | none => none

def lmOf (vt : List Tmp) (d : Option Tmp) (lm : List (Option Tmp)) : List (Option Tmp) :=
  (match d.bind (varOf vt) with
    | some _ => none
    | none => d) :: lm

def compOps (T : Tb) (nt : Nat) (vt : List Tmp) (all : Array Oper) : List (Option Tmp) → List Oper → Option (List CO)
  | _, [] => some []
  | lm, o :: r =>
    match compOp T (mOf vt lm) o, compGuard vt all lm o.guard, compOps T nt vt all (lmOf vt o.dst lm) r with
    | some c, some g, some cs => if o.dst.all (fun d => decide (d < nt)) then some (⟨c, o.dst.bind (varOf vt), g⟩ :: cs) else none
    | _, _, _ => none

structure VOk (I : Cells) (w : World) (σ : List Loc) (vt : List Tmp) (nt : Nat) (vars : List AV) (a : Act) : Prop where
  len : vars.length = vt.length
  size : a.tmps.size = nt
  defers : a.defers = []
  nodup : vt.Nodup
  lt : ∀ t ∈ vt, t < nt
  rep : ∀ (i : Nat) (t : Tmp) (v : AV), vt[i]? = some t → vars[i]? = some v → Rep I w σ v (a.tmps.getD t undef)

structure EOk (I : Cells) (w : World) (σ : List Loc) (vt : List Tmp) (lm : List (Option Tmp)) (env : List AV) (a : Act) : Prop where
  len : lm.length = env.length
  rep : ∀ (t : Tmp) (j : Nat), varOf vt t = none → lm.findIdx? (· == some t) = some j → Rep I w σ (env.getD j .junk) (a.tmps.getD t undef)

section
variable {P : Program} {B : Nat} {w0 w w' : World} {I I' : Cells} {σ σ' : List Loc} {h : List AO} {vt : List Tmp} {nt : Nat} {vars env : List AV} {lm : List (Option Tmp)} {a : Act}

theorem VOk.step (hv : VOk I w σ vt nt vars a) (s : Step B I σ w I' σ' w') : VOk I' w' σ' vt nt vars a :=
  ⟨hv.len, hv.size, hv.defers, hv.nodup, hv.lt, fun i t v h1 h2 => (hv.rep i t v h1 h2).step s⟩
theorem EOk.step (he : EOk I w σ vt lm env a) (s : Step B I σ w I' σ' w') : EOk I' w' σ' vt lm env a :=
  ⟨he.len, fun t j h1 h2 => (he.rep t j h1 h2).step s⟩

theorem varOf_eq {t : Tmp} {i : Nat} (h : varOf vt t = some i) : vt[i]? = some t := by
  obtain ⟨hlt, hp, _⟩ := List.findIdx?_eq_some_iff_getElem.1 h
  rw [List.getElem?_eq_getElem hlt]
  simpa using hp
theorem varOf_none {t : Tmp} (h : varOf vt t = none) : t ∉ vt := by
  intro hm
  have := List.findIdx?_eq_none_iff.1 h t hm
  simp at this

theorem ok_ops (hv : VOk I w σ vt nt vars a) (he : EOk I w σ vt lm env a) : OpsOk I w σ vars env a.eval (mOf vt lm) := by
  intro t y hy
  unfold mOf at hy
  split at hy
  · rename_i i hi
    cases hy
    have h1 := varOf_eq hi
    have hlt := (List.getElem?_eq_some_iff.1 h1).1
    have h2 : vars[i]? = some (vars.getD i .junk) := by
      rw [List.getD_eq_getElem?_getD, List.getElem?_eq_getElem (by rw [hv.len]; exact hlt)]; rfl
    exact hv.rep i t _ h1 h2
  · rename_i hn
    obtain ⟨j, hj, rfl⟩ := Option.map_eq_some_iff.1 hy
    exact he.rep t j hn hj

theorem put_getD {d t : Tmp} {v : Value} (hd : d < a.tmps.size) : (a.put (some d) v).tmps.getD t undef = if t = d then v else a.tmps.getD t undef := by
  simp only [Act.put]
  rw [Array.getD_eq_getD_getElem?, Array.getD_eq_getD_getElem?]
  by_cases e : t = d
  · subst e
    rw [Array.getElem?_setIfInBounds_self_of_lt hd, if_pos rfl]; rfl
  · rw [Array.getElem?_setIfInBounds_ne (fun h => e h.symm), if_neg e]

theorem put_ok (hv : VOk I w σ vt nt vars a) (he : EOk I w σ vt lm env a) {d : Option Tmp} (hd : d.all (fun d => decide (d < nt)) = true) {x : AV} {v : Value} (hx : Rep I w σ x v) :
    VOk I w σ vt nt (setO vars (d.bind (varOf vt)) x) (a.put d v) ∧ EOk I w σ vt (lmOf vt d lm) (x :: env) (a.put d v) := by
  cases d with
  | none =>
    refine ⟨hv, by simp [lmOf, he.len], fun t j h1 h2 => ?_⟩
    simp only [lmOf, Option.bind_none, List.findIdx?_cons] at h2
    simp at h2
    obtain ⟨j', hj', rfl⟩ := h2
    exact he.rep t j' h1 (by simpa using hj')
  | some d =>
    simp only [Option.all_some, decide_eq_true_eq] at hd
    have hd' : d < a.tmps.size := by rw [hv.size]; exact hd
    have hsz : (a.put (some d) v).tmps.size = nt := by simp [Act.put, hv.size]
    cases hvar : varOf vt d with
    | some i =>
      have hi := varOf_eq hvar
      simp only [Option.bind_some, hvar, setO, lmOf]
      refine ⟨⟨by simp [hv.len], hsz, hv.defers, hv.nodup, hv.lt, fun k t y h1 h2 => ?_⟩, by simp [he.len], fun t j h1 h2 => ?_⟩
      · rw [put_getD hd']
        by_cases e : i = k
        · subst e
          rw [hi] at h1; cases h1
          rw [List.getElem?_set_self (by rw [hv.len]; exact (List.getElem?_eq_some_iff.1 hi).1)] at h2
          cases h2
          rw [if_pos rfl]; exact hx
        · rw [List.getElem?_set_ne e] at h2
          have hne : t ≠ d := by
            rintro rfl
            obtain ⟨l1, g1⟩ := List.getElem?_eq_some_iff.1 h1
            obtain ⟨l2, g2⟩ := List.getElem?_eq_some_iff.1 hi
            exact e ((List.getElem_inj hv.nodup).1 (g2.trans g1.symm))
          rw [if_neg hne]; exact hv.rep k t y h1 h2
      · have hne : t ≠ d := by rintro rfl; rw [hvar] at h1; cases h1
        rw [put_getD hd', if_neg hne]
        simp only [List.findIdx?_cons] at h2
        simp at h2
        obtain ⟨j', hj', rfl⟩ := h2
        exact he.rep t j' h1 (by simpa using hj')
    | none =>
      simp only [Option.bind_some, hvar, setO, lmOf]
      have hnm := varOf_none hvar
      refine ⟨⟨hv.len, hsz, hv.defers, hv.nodup, hv.lt, fun k t y h1 h2 => ?_⟩, by simp [he.len], fun t j h1 h2 => ?_⟩
      · have hne : t ≠ d := by rintro rfl; exact hnm (List.mem_of_getElem? h1)
        rw [put_getD hd', if_neg hne]; exact hv.rep k t y h1 h2
      · rw [put_getD hd']
        simp only [List.findIdx?_cons] at h2
        by_cases e : t = d
        · subst e
          simp at h2; subst h2
          rw [if_pos rfl]; exact hx
        · rw [if_neg e]
          have : ((some d : Option Tmp) == some t) = false := by simp; exact fun h => e h.symm
          simp only [this] at h2
          simp at h2
          obtain ⟨j', hj', rfl⟩ := h2
          exact he.rep t j' h1 (by simpa using hj')

theorem ops_sound {T : Tb} (hT : TbOk P T) {call : CallF} (hcall : CallOk P B w0 call) {ops : Array Oper} {Q : Exit → Act → World → Prop} :
    ∀ (r : List Oper) (p : Nat) (lm : List (Option Tmp)) (env vars vars' : List AV) (h h' : List AO) (cs : List CO) (I : Cells) (σ : List Loc) (w : World) (a : Act),
      ops.toList.drop p = r → compOps T nt vt ops lm r = some cs → evOps call cs vars env h = some (vars', h') → VOk I w σ vt nt vars a → EOk I w σ vt lm env a → Inv B w0 I σ w h →
      (∀ a' w' I' σ', VOk I' w' σ' vt nt vars' a' → Inv B w0 I' σ' w' h' → Step B I σ w I' σ' w' → Q .normal a' w') → wpOps P ops Q (List.range' p r.length) a w := by
  intro r
  induction r with
  | nil =>
    intro p lm env vars vars' h h' cs I σ w a hr hc he hv hen hI hQ
    simp only [compOps, Option.some.injEq] at hc
    subst hc
    simp only [evOps, Option.some.injEq, Prod.mk.injEq] at he
    obtain ⟨rfl, rfl⟩ := he
    exact hQ a w I σ hv hI (Step.refl _ _ _ _)
  | cons o r ih =>
    intro p lm env vars vars' h h' cs I σ w a hr hc he hv hen hI hQ
    have hop : ops[p]? = some o := by
      have : (ops.toList.drop p)[0]? = some o := by rw [hr]; rfl
      simpa using this
    have hr' : ops.toList.drop (p + 1) = r := by
      rw [← List.tail_drop, hr]; rfl
    simp only [compOps] at hc
    split at hc
    · rename_i c g cs' h1 h2 h3
      split at hc
      · rename_i hd
        cases hc
        simp only [List.length_cons, List.range'_succ, wpOps, hop]
        have hok := ok_ops hv hen
        -- carried out
        have run : ∀ (v : AV) (h2 : List AO), evOp call vars env h c = some (v, h2) → evOps call cs' (setO vars (o.dst.bind (varOf vt)) v) (v :: env) h2 = some (vars', h') →
            Oper.wp P o a w (wpOps P ops Q (List.range' (p + 1) r.length)) Q := by
          intro v h2 hev he2
          refine op_sound hI hT h1 hok hcall hev ?_
          intro u w1 I1 σ1 hI1 st1 hr1
          obtain ⟨g1, g2⟩ := put_ok (hv.step st1) (hen.step st1) hd hr1
          exact ih (p + 1) _ _ _ _ _ _ _ I1 σ1 w1 _ hr' h3 he2 g1 g2 hI1 (fun a' w' I' σ' q1 q2 q3 => hQ a' w' I' σ' q1 q2 (st1.trans q3))
        -- passed over
        have skip : evOps call cs' (setO vars (o.dst.bind (varOf vt)) (.v undef)) (.v undef :: env) h = some (vars', h') → wpOps P ops Q (List.range' (p + 1) r.length) (a.put o.dst undef) w := by
          intro he2
          obtain ⟨g1, g2⟩ := put_ok hv hen hd (Rep.v (I := I) (w := w) σ undef)
          exact ih (p + 1) _ _ _ _ _ _ _ I σ w _ hr' h3 he2 g1 g2 hI hQ
        simp only [evOps] at he
        cases hg : o.guard with
        | none =>
          rw [hg] at h2
          simp only [compGuard, Option.some.injEq] at h2
          subst h2
          simp only at he
          split at he
          · rename_i v h2 hev
            rw [if_pos (by simp [Region.wanted, hg])]
            exact .inl (run v h2 hev he)
          · cases he
        | some gw =>
          obtain ⟨gi, want⟩ := gw
          rw [hg] at h2
          simp only [compGuard] at h2
          split at h2
          · rename_i t ht
            obtain ⟨x, hx, rfl⟩ := Option.map_eq_some_iff.1 h2
            simp only at he
            have hrep := hok t x hx
            have hy : yielded ops a.tmps gi = (match a.tmps.getD t undef with | .bool b => some b | _ => none) := by
              unfold yielded
              rw [ht]
              simp only [Option.bind_some]
              rw [Array.getD_eq_getD_getElem?]
              cases a.tmps[t]? with
              | none => rfl
              | some z => cases z <;> rfl
            split at he
            · rename_i b hb
              rw [hb] at hrep
              have hbv : a.tmps.getD t undef = .bool b := by
                have : a.eval (.tmp t) = a.tmps.getD t undef := rfl
                rw [← this]; generalize a.eval (.tmp t) = z at hrep; cases hrep; rfl
              rw [hbv] at hy
              split at he
              · rename_i hbw
                split at he
                · rename_i v h2 hev
                  rw [if_pos (by simp [Region.wanted, hg, hy, hbw])]
                  exact .inl (run v h2 hev he)
                · cases he
              · rename_i hbw
                rw [if_neg (by simp [Region.wanted, hg, hy, hbw])]
                exact skip he
            · rename_i z hb
              rw [hb] at hrep
              have hbv : a.tmps.getD t undef = .tuple z := by
                have : a.eval (.tmp t) = a.tmps.getD t undef := rfl
                rw [← this]; generalize a.eval (.tmp t) = z at hrep; cases hrep; rfl
              rw [hbv] at hy
              rw [if_neg (by simp [Region.wanted, hg, hy])]
              exact skip he
            · cases he
          · cases h2
      · cases hc
    · cases hc
end
end Go.AE
end

/-! AE, part 19: what is agreed ahead of a region; what is left behind a call. -/
section
set_option linter.unusedVariables false
set_option linter.unusedSimpArgs false
namespace Go.AE
open Go Go.RowKit

section
variable {P : Program} {B : Nat} {w0 w w' : World} {I I' : Cells} {σ σ' : List Loc} {h : List AO} {vt : List Tmp} {nt : Nat} {vars env : List AV} {lm : List (Option Tmp)} {a : Act}

theorem adopt_ok (hI : Inv B w0 I σ w h) (rt : TypeId) (sz : Nat) : Inv B w0 I (σ ++ [⟨false, false, 0, 0, 0, 0⟩]) w (h ++ [.row rt sz 0 [] 0]) ∧ Step B I σ w I (σ ++ [⟨false, false, 0, 0, 0, 0⟩]) w ∧
    Rep I w (σ ++ [⟨false, false, 0, 0, 0, 0⟩]) (.own sz h.length 0 0 0) (.slice none 0 0) := by
  refine ⟨hI.push (Below.refl _ _) (Ext.refl _ _) hI.imm (fun j Lj _ _ => ⟨rfl, fun x hx => hx⟩) ⟨rfl, rfl, Nat.le_refl _, fun j el e => by simp at e, .inl ⟨rfl, rfl, rfl⟩⟩ (fun e => by cases e),
    ⟨Ext.refl _ _, Later.append _ _, fun b x hx => .inl hx, Nat.le_refl _⟩, ?_⟩
  exact .own _ sz _ 0 0 0 _ ⟨_, _, rfl, Nat.le_refl _⟩ ⟨false, false, 0, 0, 0, 0⟩ (by rw [← hI.len]; simp) (Nat.le_refl _) (fun _ => .inr ⟨rfl, none, rfl⟩)

theorem mark_ok (hI : Inv B w0 I σ w h) (hv : VOk I w σ vt nt vars a) (m : Mark) :
    ∃ I' σ', Inv B w0 I' σ' w (doMark (vars, h) m).2 ∧ Step B I σ w I' σ' w ∧ VOk I' w σ' vt nt (doMark (vars, h) m).1 a := by
  cases m with
  | v i =>
    simp only [doMark]
    obtain ⟨I', h1, h2⟩ := raise1_ok hI (vars.getD i .junk)
    exact ⟨I', σ, h1, h2, hv.step h2⟩
  | p i off n =>
    simp only [doMark]
    split
    · split
      · obtain ⟨I', h1, h2⟩ := raiseL_ok ((List.drop (_ + off) _).take n) hI
        exact ⟨I', σ, h1, h2, hv.step h2⟩
      · exact ⟨I, σ, hI, Step.refl _ _ _ _, hv⟩
    · exact ⟨I, σ, hI, Step.refl _ _ _ _, hv⟩
  | av i rt sz =>
    simp only [doMark]
    split
    · rename_i hx
      obtain ⟨h1, h2, h3⟩ := adopt_ok hI rt sz
      refine ⟨I, _, h1, h2, ?_⟩
      have hv' := hv.step h2
      refine ⟨by simp [hv.len], hv.size, hv.defers, hv.nodup, hv.lt, fun j t y g1 g2 => ?_⟩
      by_cases e : i = j
      · subst e
        have hlt : i < vars.length := by rw [hv.len]; exact (List.getElem?_eq_some_iff.1 g1).1
        rw [List.getElem?_set_self hlt] at g2
        cases g2
        have hrep := hv.rep i t _ g1 (List.getElem?_eq_getElem hlt)
        have hxx : vars[i] = .v (.slice none 0 0) := by rw [List.getD_eq_getElem?_getD, List.getElem?_eq_getElem hlt] at hx; exact hx
        rw [hxx] at hrep
        generalize a.tmps.getD t undef = z at hrep ⊢
        cases hrep
        exact h3
      · rw [List.getElem?_set_ne e] at g2
        exact hv'.rep j t y g1 g2
    · exact ⟨I, σ, hI, Step.refl _ _ _ _, hv⟩
  | ap i off rt sz =>
    simp only [doMark]
    split
    · rename_i id o hx
      split
      · rename_i bt cs ho
        split
        · rename_i hc
          obtain ⟨h1, h2, h3⟩ := adopt_ok hI rt sz
          have hid := (List.getElem?_eq_some_iff.1 ho).1
          have ho1 : (h ++ [AO.row rt sz 0 [] 0])[id]? = some (.box bt cs) := by rw [List.getElem?_append_left hid]; exact ho
          obtain ⟨L, hL, hf, hhas, hR⟩ := h1.loc ho1
          obtain ⟨arr, hb, hs, hone, hrep⟩ := hR.lies
          have hBb := h1.mine id L hL hhas
          have hval : Rep I w (σ ++ [⟨false, false, 0, 0, 0, 0⟩]) (.own sz h.length 0 0 0) (arr.getD (o + off) undef) := by
            have := hrep _ _ hc
            generalize arr.getD (o + off) undef = z at this ⊢
            cases this
            exact h3
          have hinv := h1.upd (id := id) (L' := L) (o' := .box bt (cs.set (o + off) (.own sz h.length 0 0 0))) (w' := w) hL (Below.refl _ _) (Ext.refl _ _) h1.imm (fun j Lj _ _ _ => ⟨rfl, fun x hx => hx⟩) (.inl rfl)
            (by
              rw [set_same hL]
              refine ⟨hf, hhas, hR.o, ⟨arr, hb, by simp [hs], fun j c hj => ?_, fun j c hj => ?_⟩, hR.apart⟩
              · by_cases e : o + off = j
                · subst e
                  exact hone _ _ hc
                · rw [List.getElem?_set_ne e] at hj; exact hone j c hj
              · by_cases e : o + off = j
                · subst e
                  rw [List.getElem?_set_self (List.getElem?_eq_some_iff.1 hc).1] at hj
                  cases hj; exact hval
                · rw [List.getElem?_set_ne e] at hj; exact hrep j c hj)
            (fun _ => ⟨hBb.1, hBb.2, fun j Lj hj hLj hhj => h1.dist j id Lj L hLj hL hj hhj hhas⟩)
          rw [set_same hL, List.set_append_left _ _ hid] at hinv
          exact ⟨I, _, hinv, h2, hv.step h2⟩
        · exact ⟨I, σ, hI, Step.refl _ _ _ _, hv⟩
      · exact ⟨I, σ, hI, Step.refl _ _ _ _, hv⟩
    · exact ⟨I, σ, hI, Step.refl _ _ _ _, hv⟩

theorem marks_ok : ∀ (ms : List Mark) {I : Cells} {σ : List Loc} {h : List AO} {vars : List AV}, Inv B w0 I σ w h → VOk I w σ vt nt vars a →
    ∃ I' σ', Inv B w0 I' σ' w (ms.foldl doMark (vars, h)).2 ∧ Step B I σ w I' σ' w ∧ VOk I' w σ' vt nt (ms.foldl doMark (vars, h)).1 a := by
  intro ms
  induction ms with
  | nil => intro I σ h vars hI hv; exact ⟨I, σ, hI, Step.refl _ _ _ _, hv⟩
  | cons m ms ih =>
    intro I σ h vars hI hv
    obtain ⟨I1, σ1, h1, s1, v1⟩ := mark_ok hI hv m
    obtain ⟨I2, σ2, h2, s2, v2⟩ := ih h1 v1
    exact ⟨I2, σ2, h2, s1.trans s2, v2⟩
end
end Go.AE
end

/-! AE, part 20: what is left behind a call. -/
section
set_option linter.unusedVariables false
set_option linter.unusedSimpArgs false
namespace Go.AE
open Go Go.RowKit

section
variable {P : Program} {B : Nat} {w0 w w' : World} {I I' : Cells} {σ σ' : List Loc} {h : List AO}

theorem take_loc {n id : Nat} {L : Loc} (hL : σ[id]? = some L) (hlt : id < n) : (σ.take n)[id]? = some L := by
  rw [List.getElem?_take_of_lt hlt]; exact hL

theorem Rep.below0 {n : Nat} {x : AV} {v : Value} (hr : Rep I w σ x v) (hb : x.below0 n = true) : Rep I w (σ.take n) x v := by
  cases hr with
  | v => exact .v _ _
  | junk => exact .junk _ _
  | slc _ sz ex nn l a cap b o g ha hn hnil hcap hex hsz hc hi h1 hr => exact .slc _ sz ex nn l a cap b o g ha hn hnil hcap hex hsz hc hi h1 hr
  | ip _ cs b o g hc hi h1 hr => exact .ip _ cs b o g hc hi h1 hr
  | agg _ cs arr hs h1 hr => simp [AV.below0] at hb
  | tup _ vs arr hs hr => simp [AV.below0] at hb
  | own _ sz id ver off n' x h1x L hL hv hx => exact .own _ sz id ver off n' _ h1x L (take_loc hL (by simpa [AV.below0] using hb)) hv hx
  | ptr _ id off L hL hf' => exact .ptr _ id off L (take_loc hL (by simpa [AV.below0] using hb)) hf'
  | ep _ sz id ver idx off x h1x L hL hv hx => exact .ep _ sz id ver idx off _ h1x L (take_loc hL (by simpa [AV.below0] using hb)) hv hx
  | mp _ id L hL hf' => exact .mp _ id L (take_loc hL (by simpa [AV.below0] using hb)) hf'
  | it _ id L hL hf' => exact .it _ id L (take_loc hL (by simpa [AV.below0] using hb)) hf'
  | bs _ id off n L hL hf' o cap h1 h2 => exact .bs _ id off n L (take_loc hL (by simpa [AV.below0] using hb)) hf' o cap h1 h2
  | fn _ f p q ap aq hp hq hpr hqr =>
    cases p with
    | cons _ _ => simp [AV.below0] at hb
    | nil => cases q with
      | cons _ _ => simp [AV.below0] at hb
      | nil => exact .fn _ f [] [] ap aq hp hq (fun i c h => by simp at h) (fun i c h => by simp at h)

theorem Rep.below1 {n : Nat} {x : AV} {v : Value} (hr : Rep I w σ x v) (hb : x.below1 n = true) : Rep I w (σ.take n) x v := by
  cases x with
  | fn f p q =>
    cases hr with
    | fn _ _ _ _ ap aq hp hq hpr hqr =>
      simp only [AV.below1, Bool.and_eq_true, List.all_eq_true] at hb
      exact .fn _ f p q ap aq hp hq (fun i c hc => (hpr i c hc).below0 (hb.1 c (List.mem_of_getElem? hc))) (fun i c hc => (hqr i c hc).below0 (hb.2 c (List.mem_of_getElem? hc)))
  | _ => exact hr.below0 (by simpa [AV.below1] using hb)

def Gone (I : Cells) (w : World) (σ : List Loc) (n : Nat) : Cells := fun b x => I b x ∨ (∃ (id : Nat) (L : Loc), n ≤ id ∧ σ[id]? = some L ∧ L.has = true ∧ L.b = b ∧ ∃ v, w.cell? ⟨b, x, none⟩ = some v)

theorem gone_ext (n : Nat) : Ext I w (Gone I w σ n) w := ⟨fun b x h => .inl h, fun _ _ _ => rfl⟩

theorem Inv.leave (hI : Inv B w0 I σ w h) {n : Nat} (hn : n ≤ h.length) (hb : (h.take n).all (AO.below n) = true) : Inv B w0 (Gone I w σ n) (σ.take n) w (h.take n) where
  below := hI.below
  base := hI.base
  len := by simp [hI.len]
  obj := by
    intro id o L ho hL
    have hlt : id < n := by
      have := (List.getElem?_eq_some_iff.1 ho).1
      simp at this; omega
    rw [List.getElem?_take_of_lt hlt] at ho hL
    have hbo : o.below n = true := by
      have := List.all_eq_true.1 hb o (List.mem_of_getElem? (i := id) (by rw [List.getElem?_take_of_lt hlt]; exact ho))
      exact this
    have hr := hI.obj id o L ho hL
    have hno : L.has = true → ∀ x, Gone I w σ n L.b x → I L.b x := by
      rintro hh x (hx | ⟨id', L', h1, h2, h3, h4, _⟩)
      · exact hx
      · exact absurd h4.symm (hI.dist id id' L L' hL h2 (by omega) hh h3)
    cases o with
    | box bt cs =>
      obtain ⟨h1, h2, h3, ⟨arr, h4, h5, h6, h7⟩, h8⟩ := hr
      simp only [AO.below, List.all_eq_true] at hbo
      exact ⟨h1, h2, h3, ⟨arr, h4, h5, h6, fun i c hc => ((h7 i c hc).below1 (hbo c (List.mem_of_getElem? hc))).mono (gone_ext n) (Later.refl _)⟩, fun x hx => h8 x (hno h2 x hx)⟩
    | row rt sz ver l k => exact ⟨hr.1, hr.2.1, hr.2.2.mono (gone_ext n) (fun _ => rfl) hno⟩
    | map kk c es =>
      obtain ⟨h1, h2, entries, h3, h4, h4', h5⟩ := hr
      refine ⟨h1, h2, entries, h3, h4, h4', fun i e hi => ?_⟩
      obtain ⟨m, m1, m2, m3, m4⟩ := h5 i e hi
      exact ⟨m, m1, m2, m3.mono (gone_ext n) (Later.refl _), m4⟩
    | siter s pos => exact hr
  mine := fun id L hL hh => hI.mine id L (by
    have hlt : id < n := by
      have := (List.getElem?_eq_some_iff.1 hL).1
      simp at this; omega
    rwa [List.getElem?_take_of_lt hlt] at hL) hh
  dist := fun i j Li Lj hi hj hne h1 h2 => hI.dist i j Li Lj (take_get hi) (take_get hj) hne h1 h2
  imm := by
    rintro b x (hx | ⟨_, _, _, _, _, _, hv⟩)
    · exact hI.imm b x hx
    · exact hv

theorem gone_step {n : Nat} (hI : Inv B w0 I σ w h) {σ0 : List Loc} {I0 : Cells} {wa : World} (hs : Step B I0 σ0 wa I σ w) (hn : σ0.length = n) : Step B I0 σ0 wa (Gone I w σ n) (σ.take n) w := by
  refine ⟨hs.ext.trans (gone_ext n), fun id L hL => ?_, ?_, hs.size⟩
  · obtain ⟨L', h1, h2⟩ := hs.later id L hL
    have := (List.getElem?_eq_some_iff.1 hL).1
    exact ⟨L', take_loc h1 (by omega), h2⟩
  · rintro b x (hx | ⟨id, L, _, h2, h3, rfl, _⟩)
    · exact hs.new b x hx
    · exact .inr (hI.mine id L h2 h3).1

theorem Rep.frz0 (hI : Inv B w0 I σ w h) {n : Nat} {x y : AV} {v : Value} (hr : Rep I w σ x v) (hf : x.frz0 n h = some y) : Rep (Gone I w σ n) w (σ.take n) y v := by
  cases x with
  | own sz id ver off m =>
    simp only [AV.frz0] at hf
    split at hf
    · rename_i hlt
      cases hf
      exact (hr.below0 (by simpa [AV.below0] using hlt)).mono (gone_ext n) (Later.refl _)
    · rename_i hge
      split at hf
      · rename_i l k hra
        cases hf
        obtain ⟨hh, hm⟩ := rowAt_eq hra
        cases hr with
        | own _ _ _ _ _ _ x h1x L hL hv hx =>
          obtain ⟨hfx, hver, hR⟩ := hI.obj id _ L hh hL
          have hlen := take_drop_len (l := l) (off := off) (n := m) hm
          rcases hx hver.symm with ⟨hhas, hcap, rfl⟩ | ⟨rfl, a, rfl⟩
          · by_cases hne : l = []
            · subst hne
              simp at hm
              have hn0 : m = 0 := by omega
              subst hn0
              exact .slc _ sz false false [] (some ⟨L.b, L.o + off * sz, none⟩) (L.cap - off) 0 0 (fun _ _ => undef) (fun e => absurd rfl e) (fun e => by cases e) (fun e => by cases e) (by simp) (fun e => by cases e)
                (fun j el e => by simp at e) (fun j el i c e => by simp at e) (fun j el i c e => by simp at e) (fun j el i c e => by simp at e) (fun j el i c e => by simp at e)
            · obtain ⟨_, _, _, _, hsz, g, hc, h1, hr⟩ := hI.row_cells hh hL hne
              have cell : ∀ (j : Nat) (el : AV) (i : Nat) (c : AV), ((l.drop off).take m)[j]? = some el → el.cells[i]? = some c → w.cell? ⟨L.b, L.o + off * sz + (j * sz + i), none⟩ = some (g (off + j) i) := by
                intro j el i c e f
                have := hc _ el i c (drop_take_get l off m j el e).1 f
                rwa [show L.o + off * sz + (j * sz + i) = L.o + ((off + j) * sz + i) by rw [Nat.add_mul]; omega]
              have key := Rep.slc (I := Gone I w σ n) (w := w) (σ.take n) sz false false ((l.drop off).take m) (some ⟨L.b, L.o + off * sz, none⟩) (L.cap - off) L.b (L.o + off * sz) (fun j i => g (off + j) i) (fun _ => rfl) (fun e => by cases e)
                (fun e => by cases e) (by rw [hlen]; omega) (fun e => by cases e) (fun j el e => hsz _ el (drop_take_get l off m j el e).1) cell
                (fun j el i c e f => .inr ⟨id, L, by omega, hL, hhas, rfl, _, cell j el i c e f⟩)
                (fun j el i c e f => h1 _ el i c (drop_take_get l off m j el e).1 f) (fun j el i c e f => (hr _ el i c (drop_take_get l off m j el e).1 f).mono (gone_ext n) (Later.refl _))
              rw [hlen] at key
              exact key
          · have : (l.drop off).take 0 = [] := by simp
            rw [this]
            exact .slc _ sz false false [] a 0 0 0 (fun _ _ => undef) (fun e => absurd rfl e) (fun e => by cases e) (fun _ => rfl) (by simp) (fun e => by cases e)
                (fun j el e => by simp at e) (fun j el i c e => by simp at e) (fun j el i c e => by simp at e) (fun j el i c e => by simp at e) (fun j el i c e => by simp at e)
      · cases hf
  | ptr id off =>
    simp only [AV.frz0] at hf
    split at hf
    · rename_i hlt; cases hf; exact (hr.below0 (by simpa [AV.below0] using hlt)).mono (gone_ext n) (Later.refl _)
    · cases hf
  | bs id off m =>
    simp only [AV.frz0] at hf
    split at hf
    · rename_i hlt; cases hf; exact (hr.below0 (by simpa [AV.below0] using hlt)).mono (gone_ext n) (Later.refl _)
    · cases hf
  | ep sz id ver i off =>
    simp only [AV.frz0] at hf
    split at hf
    · rename_i hlt; cases hf; exact (hr.below0 (by simpa [AV.below0] using hlt)).mono (gone_ext n) (Later.refl _)
    · cases hf
  | mp id =>
    simp only [AV.frz0] at hf
    split at hf
    · rename_i hlt; cases hf; exact (hr.below0 (by simpa [AV.below0] using hlt)).mono (gone_ext n) (Later.refl _)
    · cases hf
  | it id =>
    simp only [AV.frz0] at hf
    split at hf
    · rename_i hlt; cases hf; exact (hr.below0 (by simpa [AV.below0] using hlt)).mono (gone_ext n) (Later.refl _)
    · cases hf
  | fn f p q =>
    cases p with
    | cons _ _ => simp [AV.frz0] at hf
    | nil => cases q with
      | cons _ _ => simp [AV.frz0] at hf
      | nil =>
        simp only [AV.frz0, Option.some.injEq] at hf
        subst hf
        exact (hr.below0 (n := n) (by simp [AV.below0])).mono (gone_ext n) (Later.refl _)
  | agg cs => simp [AV.frz0] at hf
  | tup vs => simp [AV.frz0] at hf
  | v x => simp only [AV.frz0, Option.some.injEq] at hf; subst hf; exact (hr.below0 (n := n) rfl).mono (gone_ext n) (Later.refl _)
  | junk => simp only [AV.frz0, Option.some.injEq] at hf; subst hf; exact .junk _ _
  | slc sz ex nn l => simp only [AV.frz0, Option.some.injEq] at hf; subst hf; exact (hr.below0 (n := n) rfl).mono (gone_ext n) (Later.refl _)
  | ip cs => simp only [AV.frz0, Option.some.injEq] at hf; subst hf; exact (hr.below0 (n := n) rfl).mono (gone_ext n) (Later.refl _)

theorem Rep.frz1 (hI : Inv B w0 I σ w h) {n : Nat} {x y : AV} {v : Value} (hr : Rep I w σ x v) (hf : x.frz1 n h = some y) : Rep (Gone I w σ n) w (σ.take n) y v := by
  cases x with
  | agg cs =>
    simp only [AV.frz1, Option.map_eq_some_iff] at hf
    obtain ⟨cs', hm, rfl⟩ := hf
    cases hr with
    | agg _ _ arr hs h1 hr =>
      refine .agg _ cs' arr (by rw [(mapM_get hm).1]; exact hs) (fun i c hi => ?_) (fun i c hi => ?_)
      · obtain ⟨x, hx, _⟩ := mapM_get' hm hi; exact h1 i x hx
      · obtain ⟨x, hx, hf⟩ := mapM_get' hm hi; exact (hr i x hx).frz0 hI hf
  | fn f p q =>
    simp only [AV.frz1, Option.bind_eq_bind, Option.bind_eq_some_iff, Option.pure_def, Option.some.injEq] at hf
    obtain ⟨p', hp', q', hq', rfl⟩ := hf
    cases hr with
    | fn _ _ _ _ ap aq hp hq hpr hqr =>
      refine .fn _ f p' q' ap aq (by rw [(mapM_get hp').1]; exact hp) (by rw [(mapM_get hq').1]; exact hq) (fun i c hi => ?_) (fun i c hi => ?_)
      · obtain ⟨x, hx, hf⟩ := mapM_get' hp' hi; exact (hpr i x hx).frz0 hI hf
      · obtain ⟨x, hx, hf⟩ := mapM_get' hq' hi; exact (hqr i x hx).frz0 hI hf
  | _ => exact hr.frz0 hI (by simpa [AV.frz1] using hf)

theorem Rep.frz2 (hI : Inv B w0 I σ w h) {n : Nat} {x y : AV} {v : Value} (hr : Rep I w σ x v) (hf : x.frz2 n h = some y) : Rep (Gone I w σ n) w (σ.take n) y v := by
  cases x with
  | tup vs =>
    simp only [AV.frz2, Option.map_eq_some_iff] at hf
    obtain ⟨vs', hm, rfl⟩ := hf
    cases hr with
    | tup _ _ arr hs hr =>
      refine .tup _ vs' arr (by rw [(mapM_get hm).1]; exact hs) (fun i c hi => ?_)
      obtain ⟨x, hx, hf⟩ := mapM_get' hm hi; exact (hr i x hx).frz1 hI hf
  | _ => exact hr.frz1 hI (by simpa [AV.frz2] using hf)
end
end Go.AE
end

/-! AE, part 21: code. -/
section
set_option linter.unusedVariables false
set_option linter.unusedSimpArgs false
namespace Go.AE
open Go Go.RowKit

structure Hints where
  rm : Nat → List Mark
  ap : Nat → List (Option Nat × Nat)
  lk : Nat → List Bool × List Mark

def AXit.toExit : AXit → Exit
  | .normal => .normal
  | .exit id => .exit id
  | .ret => .ret

section
variable (T : Tb) (nt : Nat) (vt : List Tmp) (H : Hints) (drawOk : List (Option Nat × Nat) → Array Oper → List CO → Bool)
def compCode : Nat → Code → Option CC
  | _, .skip => some .skip
  | _, .label _ => some .skip
  | _, .region id ops draw => match compOps T nt vt ops [] ops.toList with
    | some cs => if !draw || drawOk (H.ap id) ops cs then some (.region (H.rm id) (H.ap id) cs) else none
    | none => none
  | n, .seq a b => match compCode n a, compCode n b with
    | some x, some y => some (.seq x y)
    | _, _ => none
  | n, .cond c a b => match cO (mOf vt []) c, compCode n a, compCode n b with
    | some c, some x, some y => some (.cond c x y)
    | _, _, _ => none
  | _, .block id b => (compCode id b).map (.block id)
  | n, .loop b => (compCode n b).map (.loop (H.lk n).1 (H.lk n).2)
  | _, .exit id => some (.exit id)
  | _, .ret => some .ret
  | _, _ => none
end

section
variable {P : Program} {B : Nat} {w0 w w' : World} {I I' : Cells} {σ σ' : List Loc} {h : List AO} {vt : List Tmp} {nt : Nat} {vars env : List AV} {lm : List (Option Tmp)} {a : Act}

theorem clr_ok (hv : VOk I w σ vt nt vars a) (keep : List Bool) : VOk I w σ vt nt (clr keep vars) a := by
  have len : ∀ (ks : List Bool) (xs : List AV), (clr ks xs).length = xs.length := by
    intro ks
    induction ks with
    | nil => intro xs; cases xs <;> rfl
    | cons k ks ih => intro xs; cases xs with
      | nil => rfl
      | cons x xs => simp [clr, ih]
  have get : ∀ (ks : List Bool) (xs : List AV) (i : Nat) (v : AV), (clr ks xs)[i]? = some v → v = .junk ∨ xs[i]? = some v := by
    intro ks
    induction ks with
    | nil => intro xs i v h; cases xs <;> exact .inr h
    | cons k ks ih =>
      intro xs i v h
      cases xs with
      | nil => exact .inr h
      | cons x xs =>
        cases i with
        | zero =>
          simp only [clr, List.getElem?_cons_zero, Option.some.injEq] at h
          cases k
          · exact .inl h.symm
          · exact .inr (by simpa using h)
        | succ i => simpa using ih xs i v (by simpa [clr] using h)
  refine ⟨by rw [len]; exact hv.len, hv.size, hv.defers, hv.nodup, hv.lt, fun i t v h1 h2 => ?_⟩
  rcases get keep vars i v h2 with rfl | h3
  · exact .junk _ _
  · exact hv.rep i t v h1 h3

def DrawOk (P : Program) (T : Tb) (nt : Nat) (vt : List Tmp) (drawOk : List (Option Nat × Nat) → Array Oper → List CO → Bool) : Prop :=
  ∀ (B : Nat) (w0 : World) (call : CallF), CallOk P B w0 call → PushOk T call → ∀ (id : Nat) (ap : List (Option Nat × Nat)) (ops : Array Oper) (cs : List CO), compOps T nt vt ops [] ops.toList = some cs → drawOk ap ops cs = true →
    ∀ (w : World) (I : Cells) (σ : List Loc) (h h' : List AO) (vars vars' : List AV) (a : Act) (Q : Exit → Act → World → Prop), Inv B w0 I σ w h → VOk I w σ vt nt vars a → ap.all (apB vars) = true →
      evOps call cs vars [] h = some (vars', h') → (∀ a' w' I' σ', VOk I' w' σ' vt nt vars' a' → Inv B w0 I' σ' w' h' → Step B I σ w I' σ' w' → Q .normal a' w') → (Code.region id ops true).wp P Q a w

theorem exec_sound {T : Tb} (hT : TbOk P T) {H : Hints} {drawOk : List (Option Nat × Nat) → Array Oper → List CO → Bool} (hD : DrawOk P T nt vt drawOk) {call : CallF} (hcall : CallOk P B w0 call) (hpu : PushOk T call) (fuel : Nat) :
    ∀ (c : Code) (n : Nat) (cc : CC), compCode T nt vt H drawOk n c = some cc → ∀ (vars vars' : List AV) (h h' : List AO) (x : AXit) (I : Cells) (σ : List Loc) (w : World) (a : Act) (Q : Exit → Act → World → Prop),
      exec call fuel cc vars h = some (x, vars', h') → VOk I w σ vt nt vars a → Inv B w0 I σ w h →
      (∀ a' w' I' σ', VOk I' w' σ' vt nt vars' a' → Inv B w0 I' σ' w' h' → Step B I σ w I' σ' w' → Q x.toExit a' w') → c.wp P Q a w := by
  intro c
  induction c with
  | skip =>
    intro n cc hc vars vars' h h' x I σ w a Q he hv hI hQ
    simp only [compCode, Option.some.injEq] at hc
    subst hc
    simp only [exec, Option.some.injEq, Prod.mk.injEq] at he
    obtain ⟨rfl, rfl, rfl⟩ := he
    exact wp_skip (hQ a w I σ hv hI (Step.refl _ _ _ _))
  | label l =>
    intro n cc hc vars vars' h h' x I σ w a Q he hv hI hQ
    simp only [compCode, Option.some.injEq] at hc
    subst hc
    simp only [exec, Option.some.injEq, Prod.mk.injEq] at he
    obtain ⟨rfl, rfl, rfl⟩ := he
    exact wp_label (hQ a w I σ hv hI (Step.refl _ _ _ _))
  | exit id =>
    intro n cc hc vars vars' h h' x I σ w a Q he hv hI hQ
    simp only [compCode, Option.some.injEq] at hc
    subst hc
    simp only [exec, Option.some.injEq, Prod.mk.injEq] at he
    obtain ⟨rfl, rfl, rfl⟩ := he
    exact wp_exit (hQ a w I σ hv hI (Step.refl _ _ _ _))
  | ret =>
    intro n cc hc vars vars' h h' x I σ w a Q he hv hI hQ
    simp only [compCode, Option.some.injEq] at hc
    subst hc
    simp only [exec, Option.some.injEq, Prod.mk.injEq] at he
    obtain ⟨rfl, rfl, rfl⟩ := he
    exact wp_ret (hQ a w I σ hv hI (Step.refl _ _ _ _))
  | region id ops draw =>
    intro n cc hc vars vars' h h' x I σ w a Q he hv hI hQ
    simp only [compCode] at hc
    split at hc
    · rename_i cs hcs
      split at hc
      · rename_i hdr
        cases hc
        simp only [exec] at he
        split at he
        case isFalse => cases he
        rename_i hap
        simp only [Option.map_eq_some_iff] at he
        obtain ⟨⟨v2, h2⟩, hev, he⟩ := he
        cases he
        obtain ⟨I1, σ1, g1, g2, g3⟩ := marks_ok (H.rm id) hI hv
        have fin : ∀ a' w' I' σ', VOk I' w' σ' vt nt v2 a' → Inv B w0 I' σ' w' h2 → Step B I1 σ1 w I' σ' w' → Q .normal a' w' := fun a' w' I' σ' q1 q2 q3 => hQ a' w' I' σ' q1 q2 (g2.trans q3)
        cases draw with
        | false =>
          refine wp_region ?_
          have := ops_sound hT hcall (Q := Q) ops.toList 0 [] [] _ _ _ _ cs I1 σ1 w a (by simp) hcs hev g3 ⟨rfl, fun t j _ hj => by simp at hj⟩ g1 fin
          rw [List.range_eq_range']
          simpa using this
        | true =>
          simp only [Bool.not_true, Bool.false_or] at hdr
          exact hD B w0 call hcall hpu id _ ops cs hcs hdr w I1 σ1 _ _ _ _ a Q g1 g3 hap hev fin
      · cases hc
    · cases hc
  | seq p q ihp ihq =>
    intro n cc hc vars vars' h h' x I σ w a Q he hv hI hQ
    simp only [compCode] at hc
    split at hc
    · rename_i cp cq h1 h2
      cases hc
      refine wp_seq ?_
      simp only [exec] at he
      split at he
      · rename_i v2 h2' hep
        exact ihp n cp h1 _ _ _ _ _ I σ w a _ hep hv hI (fun a1 w1 I1 σ1 q1 q2 q3 => ihq n cq h2 _ _ _ _ _ I1 σ1 w1 a1 Q he q1 q2 (fun a' w' I' σ' r1 r2 r3 => hQ a' w' I' σ' r1 r2 (q3.trans r3)))
      · rename_i hne
        refine ihp n cp h1 _ _ _ _ _ I σ w a _ he hv hI (fun a1 w1 I1 σ1 q1 q2 q3 => ?_)
        cases x with
        | normal => exact absurd he (hne _ _)
        | exit id => exact hQ a1 w1 I1 σ1 q1 q2 q3
        | ret => exact hQ a1 w1 I1 σ1 q1 q2 q3
    · cases hc
  | cond c p q ihp ihq =>
    intro n cc hc vars vars' h h' x I σ w a Q he hv hI hQ
    simp only [compCode] at hc
    split at hc
    · rename_i c' cp cq h0 h1 h2
      cases hc
      simp only [exec] at he
      split at he
      · rename_i b hb
        have hrep := (ok_ops hv (EOk.mk (lm := []) (env := []) rfl (fun t j _ hj => by simp at hj))).get h0
        rw [hb] at hrep
        have hbv : a.eval c = .bool b := by generalize a.eval c = z at hrep; cases hrep; rfl
        refine wp_cond hbv ?_
        cases b
        · exact ihq n cq h2 _ _ _ _ _ I σ w a Q he hv hI hQ
        · exact ihp n cp h1 _ _ _ _ _ I σ w a Q he hv hI hQ
      · cases he
    · cases hc
  | block id p ihp =>
    intro n cc hc vars vars' h h' x I σ w a Q he hv hI hQ
    simp only [compCode, Option.map_eq_some_iff] at hc
    obtain ⟨cp, h1, rfl⟩ := hc
    refine wp_block ?_
    simp only [exec] at he
    split at he
    · rename_i id' v2 h2 hep
      cases he
      refine ihp id cp h1 _ _ _ _ _ I σ w a _ hep hv hI (fun a1 w1 I1 σ1 q1 q2 q3 => ?_)
      simp only [AXit.toExit, Exit.inBlock]
      split
      · rename_i e
        have := hQ a1 w1 I1 σ1 q1 q2 q3
        rwa [if_pos e] at this
      · rename_i e
        have := hQ a1 w1 I1 σ1 q1 q2 q3
        rwa [if_neg e] at this
    · rename_i hne
      refine ihp id cp h1 _ _ _ _ _ I σ w a _ he hv hI (fun a1 w1 I1 σ1 q1 q2 q3 => ?_)
      cases x with
      | normal => exact hQ a1 w1 I1 σ1 q1 q2 q3
      | exit id' => exact absurd he (hne _ _ _)
      | ret => exact hQ a1 w1 I1 σ1 q1 q2 q3
  | loop p ihp =>
    intro n cc hc vars vars' h h' x I σ w a Q he hv hI hQ
    simp only [compCode, Option.map_eq_some_iff] at hc
    obtain ⟨cp, h1, rfl⟩ := hc
    simp only [exec] at he
    obtain ⟨I1, σ1, g1, g2, g3⟩ := marks_ok (H.lk n).2 hI hv
    intro b k cs
    have key : ∀ (m : Nat) (vars : List AV) (h : List AO) (I1 : Cells) (σ1 : List Loc) (w1 : World) (a : Act), loopN (exec call fuel cp) (H.lk n).1 m vars h = some (x, vars', h') → VOk I1 w1 σ1 vt nt vars a → Inv B w0 I1 σ1 w1 h → Step B I σ w I1 σ1 w1 →
        ∃ e a' w', Q e a' w' ∧ Arrives P (lone (b.at a (.code p :: .inLoop p :: k)) cs w1) b k cs e a' w' := by
      intro m
      induction m with
      | zero => intro vars h I1 σ1 w1 a he; simp [loopN] at he
      | succ m ih =>
        intro vars h I1 σ1 w1 a he hv hI hst
        simp only [loopN] at he
        split at he
        · rename_i v2 h2 hep
          have := ihp n cp h1 _ _ _ _ _ I1 σ1 w1 a (Exit.then (fun a' w' => ∃ e a'' w'', Q e a'' w'' ∧ Arrives P (lone (b.at a' (.code p :: .inLoop p :: k)) cs w') b k cs e a'' w'') Q) hep (clr_ok hv _) hI
            (fun a2 w2 I2 σ2 q1 q2 q3 => ih _ _ I2 σ2 w2 a2 he q1 q2 (hst.trans q3))
          obtain ⟨e, a₁, w₁, hq, harr⟩ := this b (.inLoop p :: k) cs
          cases e with
          | normal =>
            obtain ⟨e₂, a₂, w₂, hq₂, harr₂⟩ := hq
            exact ⟨e₂, a₂, w₂, hq₂, .of_steps (Steps.trans harr (.one step_inLoop)) harr₂⟩
          | exit id => exact ⟨_, a₁, w₁, hq, .pass (x := .inLoop p) rfl (fun _ _ => .inl (by simp)) harr⟩
          | goto l => exact ⟨_, a₁, w₁, hq, .pass (x := .inLoop p) rfl (fun _ _ => .inl (by simp)) harr⟩
          | ret => exact ⟨_, a₁, w₁, hq, .pass (x := .inLoop p) rfl (fun _ _ => .inl (by simp)) harr⟩
          | panic ch => exact ⟨_, a₁, w₁, hq, .pass (x := .inLoop p) rfl (fun _ _ => .inl (by simp)) harr⟩
          | outgrown => exact ⟨_, a₁, w₁, hq, .pass (x := .inLoop p) rfl (fun _ _ => .inl (by simp)) harr⟩
        · rename_i hne
          have hxn : x ≠ .normal := by rintro rfl; exact absurd he (hne _ _)
          have := ihp n cp h1 _ _ _ _ _ I1 σ1 w1 a (fun e a' w' => e = x.toExit ∧ Q e a' w') he (clr_ok hv _) hI (fun a2 w2 I2 σ2 q1 q2 q3 => ⟨rfl, hQ a2 w2 I2 σ2 q1 q2 (hst.trans q3)⟩)
          obtain ⟨e, a₁, w₁, ⟨rfl, hq⟩, harr⟩ := this b (.inLoop p :: k) cs
          cases x with
          | normal => exact absurd rfl hxn
          | exit id => exact ⟨_, a₁, w₁, hq, .pass (x := .inLoop p) (e := .exit id) rfl (fun _ _ => .inl (by simp)) harr⟩
          | ret => exact ⟨_, a₁, w₁, hq, .pass (x := .inLoop p) (e := .ret) rfl (fun _ _ => .inl (by simp)) harr⟩
    obtain ⟨e, a', w', hq, harr⟩ := key fuel _ _ I1 σ1 w a he g3 g1 g2
    exact ⟨e, a', w', hq, .of_steps (.one step_loop) harr⟩
  | scope b ih => intro n cc hc; simp [compCode] at hc
  | goto l => intro n cc hc; simp [compCode] at hc
  | rangeFunc f ps as b ih1 ih2 => intro n cc hc; simp [compCode] at hc
  | refuse s => intro n cc hc; simp [compCode] at hc
end
end Go.AE
end

/-! AE, part 23: what operations ask of the objects. -/
section
set_option linter.unusedVariables false
set_option linter.unusedSimpArgs false
namespace Go.AE
open Go Go.RowKit

def COp.isE : COp → Bool
  | .box .. | .mkslice .. | .brow .. | .mkmap _ | .range _ | .append .. | .apps .. | .mentry .. | .estore .. | .store .. | .call false _ _ | .callf .. | .callv .. | .mapupd .. | .clrmap _ | .clrrow .. | .next _ => true
  | _ => false
def COp.isPush : COp → Bool
  | .box .. | .mkslice .. | .brow .. | .mkmap _ | .range _ => true
  | .append _ _ _ (.k (.slice none 0 0)) _ => true
  | _ => false
def COp.isR : COp → Bool
  | .load .. | .bstr _ | .nilchk _ | .eqv .. | .slice _ _ _ _ (some _) | .fa .. | .ia .. | .len .. | .call true _ _ | .bslice .. | .lookup .. => true
  | _ => false
def COp.args : COp → List Opd
  | .load _ _ x | .bstr x | .nilchk x | .slice _ x _ _ _ | .fa _ x | .ia _ x _ | .len _ x | .lookup _ _ _ x _ => [x]
  | .eqv _ _ x y => [x, y]
  | .call true _ l => l
  | .bslice _ _ _ ps => ps.map (·.2)
  | _ => []

def AV.lt0 (n : Nat) : AV → Bool
  | .own _ id _ _ _ | .ptr id _ | .ep _ id _ _ _ | .mp id | .it id | .bs id _ _ => decide (id < n)
  | _ => true
def AV.lt (n : Nat) : AV → Bool
  | .agg cs => cs.all (AV.lt0 n)
  | x => x.lt0 n

section
variable {I : Cells} {w : World} {σ : List Loc} {h h2 : List AO} {vars env : List AV} {call : CallF} {n : Nat}

theorem Rep.lt0 {x : AV} {v : Value} (hr : Rep I w σ x v) : x.lt0 σ.length = true := by
  cases hr <;> simp only [AV.lt0, decide_eq_true_eq] <;> rename_i L _ _ <;> first | rfl | skip
  all_goals (first | exact (List.getElem?_eq_some_iff.1 (by assumption)).1)
theorem Rep.lt {x : AV} {v : Value} (hr : Rep I w σ x v) : x.lt σ.length = true := by
  cases x with
  | agg cs =>
    cases hr with
    | agg _ _ arr hs h1 hr =>
      simp only [AV.lt, List.all_eq_true]
      intro c hc
      obtain ⟨i, hi⟩ := List.getElem?_of_mem hc
      exact (hr i c hi).lt0
  | _ => exact hr.lt0

theorem rowAt_cong {sz id ver m : Nat} (hh : h2[id]? = h[id]?) : rowAt h2 sz id ver m = rowAt h sz id ver m := by
  simp only [rowAt, hh]

def Same (n : Nat) (h h2 : List AO) : Prop := ∀ (id : Nat), id < n → h2[id]? = h[id]?
def More (h h2 : List AO) : Prop := ∀ (id : Nat) (o : AO), h[id]? = some o → h2[id]? = some o

theorem rowAt_more (hm : More h h2) {sz id ver m : Nat} {p : List AV × Nat} (hp : rowAt h sz id ver m = some p) : rowAt h2 sz id ver m = some p := by
  unfold rowAt at hp
  split at hp
  · rename_i a b c d hid
    simp only [rowAt, hm _ _ hid]
    exact hp
  · cases hp

theorem load_same (hs : Same n h h2) {a : Bool} {sz : Nat} {x : AV} (hx : x.lt n = true) : Q76 h2 a sz x = Q76 h a sz x := by
  cases x <;> simp only [Q76] <;> simp only [AV.lt, AV.lt0, decide_eq_true_eq] at hx
  · rw [hs _ hx]
  · rw [rowAt_cong (hs _ hx)]
theorem load_more (hm : More h h2) {a : Bool} {sz : Nat} {x r : AV} (he : Q76 h a sz x = some r) : Q76 h2 a sz x = some r := by
  cases x <;> simp only [Q76] at he ⊢ <;> try exact he
  · split at he
    · rename_i hid; rw [hm _ _ hid]; exact he
    · cases he
  · split at he
    · rename_i hid; rw [rowAt_more hm hid]; exact he
    · cases he

theorem snap0_same (hs : Same n h h2) {x : AV} (hx : x.lt0 n = true) : x.snap0 h2 = x.snap0 h := by
  cases x <;> simp only [AV.snap0]
  simp only [AV.lt0, decide_eq_true_eq] at hx
  rw [rowAt_cong (hs _ hx)]
theorem snap0_more (hm : More h h2) {x r : AV} (he : x.snap0 h = some r) : x.snap0 h2 = some r := by
  cases x <;> simp only [AV.snap0] at he ⊢ <;> try exact he
  split at he
  · rename_i hid; rw [rowAt_more hm hid]; exact he
  · cases he
theorem mapM_cong {α β : Type} {f g : α → Option β} {l : List α} (hfg : ∀ x ∈ l, f x = g x) : l.mapM f = l.mapM g := by
  induction l with
  | nil => rfl
  | cons x l ih => simp only [List.mapM_cons, hfg x (by simp), ih (fun y hy => hfg y (by simp [hy]))]
theorem mapM_more {α β : Type} {f g : α → Option β} {l : List α} {r : List β} (hfg : ∀ x y, f x = some y → g x = some y) (he : l.mapM f = some r) : l.mapM g = some r := by
  induction l generalizing r with
  | nil => exact he
  | cons x l ih =>
    simp only [List.mapM_cons, Option.bind_eq_bind, Option.bind_eq_some_iff, Option.pure_def, Option.some.injEq] at he ⊢
    obtain ⟨y, h1, ys, h3, rfl⟩ := he
    exact ⟨y, hfg _ _ h1, ys, ih h3, rfl⟩
theorem snap1_same (hs : Same n h h2) {x : AV} (hx : x.lt n = true) : x.snap1 h2 = x.snap1 h := by
  cases x <;> simp only [AV.snap1] <;> try exact snap0_same hs hx
  rename_i cs
  simp only [AV.lt, List.all_eq_true] at hx
  rw [mapM_cong (fun x hm => snap0_same hs (hx x hm))]
theorem snap1_more (hm : More h h2) {x r : AV} (he : x.snap1 h = some r) : x.snap1 h2 = some r := by
  cases x <;> simp only [AV.snap1] at he ⊢ <;> try exact snap0_more hm he
  rename_i cs
  obtain ⟨a, h1, rfl⟩ := Option.map_eq_some_iff.1 he
  rw [mapM_more (fun x y h => snap0_more hm h) h1]; rfl

theorem elems_same (hs : Same n h h2) {sz : Nat} : ∀ (ps : List (Nat × Opd)) (l : List AV), (∀ p ∈ ps, (getO vars env p.2).lt n = true) → evElems vars env h2 sz l ps = evElems vars env h sz l ps := by
  intro ps
  induction ps with
  | nil => intro l _; rfl
  | cons p ps ih =>
    intro l hl
    obtain ⟨i, x⟩ := p
    have hx : (getO vars env x).snap1 h2 = (getO vars env x).snap1 h := snap1_same hs (hl (i, x) (by simp))
    simp only [evElems, hx]
    split
    · split
      · exact ih _ (fun p hp => hl p (by simp [hp]))
      · rfl
    · rfl
theorem elems_more (hm : More h h2) {sz : Nat} : ∀ (ps : List (Nat × Opd)) (l r : List AV), evElems vars env h sz l ps = some r → evElems vars env h2 sz l ps = some r := by
  intro ps
  induction ps with
  | nil => intro l r he; exact he
  | cons p ps ih =>
    intro l r he
    obtain ⟨i, x⟩ := p
    simp only [evElems] at he ⊢
    cases hx : (getO vars env x).snap1 h with
    | none => simp [hx] at he
    | some y =>
      rw [snap1_more hm hx]
      rw [hx] at he
      simp only [Option.bind_some] at he ⊢
      split at he
      · split at he
        · rename_i hc; rw [if_pos hc]; exact ih _ _ he
        · cases he
      · cases he

theorem len_same (hs : Same n h h2) {k : LenK} {x : AV} (hx : x.lt n = true) : evLen h2 k x = evLen h k x := by
  unfold evLen
  split <;> try rfl
  · simp only [AV.lt, AV.lt0, decide_eq_true_eq] at hx
    rw [hs _ hx]
theorem map_more {α β : Type} {a b : Option α} {f : α → β} {r : β} (hab : ∀ y, a = some y → b = some y) (he : a.map f = some r) : b.map f = some r := by
  obtain ⟨y, h1, rfl⟩ := Option.map_eq_some_iff.1 he
  rw [hab y h1]; rfl
theorem len_more (hm : More h h2) {k : LenK} {x : AV} {r : Nat} (he : evLen h k x = some r) : evLen h2 k x = some r := by
  unfold evLen at he ⊢
  split at he <;> try exact he
  · split at he
    · rename_i hid; rw [hm _ _ hid]; exact he
    · cases he

theorem nil_same (hs : Same n h h2) {x : AV} (hx : x.lt n = true) : Q75 h2 x = Q75 h x := by
  cases x <;> simp only [Q75]
  simp only [AV.lt, AV.lt0, decide_eq_true_eq] at hx
  rw [rowAt_cong (hs _ hx)]
theorem nil_more (hm : More h h2) {x r : AV} (he : Q75 h x = some r) : Q75 h2 x = some r := by
  cases x <;> simp only [Q75] at he ⊢ <;> try exact he
  exact map_more (fun y hy => rowAt_more hm hy) he
theorem fa_same (hs : Same n h h2) {o : Nat} {x : AV} (hx : x.lt n = true) : Q74 h2 o x = Q74 h o x := by
  cases x <;> simp only [Q74]
  simp only [AV.lt, AV.lt0, decide_eq_true_eq] at hx
  rw [rowAt_cong (hs _ hx)]
theorem fa_more (hm : More h h2) {o : Nat} {x r : AV} (he : Q74 h o x = some r) : Q74 h2 o x = some r := by
  cases x <;> simp only [Q74] at he ⊢ <;> try exact he
  exact map_more (fun y hy => rowAt_more hm hy) he

theorem eq_same (hs : Same n h h2) {k : EqK} {x y : AV} (hx : x.lt n = true) (hy : y.lt n = true) : eqNil h2 k x y = eqNil h k x y := by
  unfold eqNil
  split <;> try rfl
  simp only [AV.lt, AV.lt0, decide_eq_true_eq] at hx
  rw [rowAt_cong (hs _ hx)]
theorem eq_more (hm : More h h2) {k : EqK} {x y : AV} {b : Bool} (he : eqNil h k x y = some b) : eqNil h2 k x y = some b := by
  unfold eqNil at he ⊢
  split at he <;> try exact he
  split at he
  · rename_i hid
    simp only [rowAt_more hm hid]; exact he
  · cases he

theorem ia_same (hs : Same n h h2) {sz : Nat} {x i : Opd} (hx : (getO vars env x).lt n = true) : evIa vars env h2 sz x i = evIa vars env h sz x i := by
  unfold evIa
  split <;> try rfl
  rename_i hxx _
  rw [hxx] at hx
  simp only [AV.lt, AV.lt0, decide_eq_true_eq] at hx
  rw [rowAt_cong (hs _ hx)]
theorem ia_more (hm : More h h2) {sz : Nat} {x i : Opd} {r : AV} (he : evIa vars env h sz x i = some r) : evIa vars env h2 sz x i = some r := by
  unfold evIa at he ⊢
  split at he <;> try exact he
  split at he
  · rename_i hc
    rw [if_pos hc]
    exact map_more (fun y hy => rowAt_more hm hy) he
  · cases he

theorem slice_free (g : List AO) {sz : Nat} {x : AV} {lo hi : Option Opd} : evSlice vars env g sz x lo hi none = evSlice vars env h sz x lo hi none := by
  unfold evSlice
  split <;> rfl
theorem slice_same (hs : Same n h h2) {sz : Nat} {x : AV} {lo hi mx : Option Opd} (hx : x.lt n = true) : evSlice vars env h2 sz x lo hi mx = evSlice vars env h sz x lo hi mx := by
  cases mx with
  | none => exact slice_free h2
  | some y =>
    unfold evSlice
    split <;> try rfl
    simp only [AV.lt, AV.lt0, decide_eq_true_eq] at hx
    simp only [rowAt_cong (hs _ hx)]
theorem slice_more (hm : More h h2) {sz : Nat} {x r : AV} {lo hi mx : Option Opd} (he : evSlice vars env h sz x lo hi mx = some r) : evSlice vars env h2 sz x lo hi mx = some r := by
  cases mx with
  | none => rw [← he]; exact slice_free h2
  | some y =>
    unfold evSlice at he ⊢
    split at he <;> try exact he
    split at he
    · rename_i hc
      rw [if_pos hc]
      simp only [Option.bind_eq_bind, Option.bind_eq_some_iff] at he ⊢
      obtain ⟨p, h1, h2⟩ := he
      exact ⟨p, rowAt_more hm h1, h2⟩
    · cases he

theorem look_same (hs : Same n h h2) {kk : KK} {z : Value} {ok : Bool} {x y : AV} (hx : x.lt n = true) : evLook h2 kk z ok x y = evLook h kk z ok x y := by
  cases x <;> simp only [evLook]
  simp only [AV.lt, AV.lt0, decide_eq_true_eq] at hx
  cases y <;> simp only [evLook]
  rw [hs _ hx]
theorem look_more (hm : More h h2) {kk : KK} {z : Value} {ok : Bool} {x y r : AV} (he : evLook h kk z ok x y = some r) : evLook h2 kk z ok x y = some r := by
  unfold evLook at he ⊢
  split at he
  · split at he
    · rename_i hid
      rw [hm _ _ hid]; exact he
    · cases he
  · cases he

theorem elemsOf_same (hs : Same n h h2) {sz : Nat} {x : AV} (hx : x.lt n = true) : elemsOf h2 sz x = elemsOf h sz x := by
  unfold elemsOf
  split <;> try rfl
  simp only [AV.lt, AV.lt0, decide_eq_true_eq] at hx
  rw [rowAt_cong (hs _ hx)]
theorem elemsOf_more (hm : More h h2) {sz : Nat} {x : AV} {r : List AV} (he : elemsOf h sz x = some r) : elemsOf h2 sz x = some r := by
  unfold elemsOf at he ⊢
  split at he <;> try exact he
  split at he
  · rename_i hc
    rw [if_pos hc]
    exact map_more (fun y hy => rowAt_more hm hy) he
  · cases he
theorem bstr_same (hs : Same n h h2) {x : AV} (hx : x.lt n = true) : evBStr h2 x = evBStr h x := by
  unfold evBStr
  split
  · simp only [AV.lt, AV.lt0, decide_eq_true_eq] at hx
    rw [hs _ hx]
  · rw [elemsOf_same hs hx]
theorem bstr_more (hm : More h h2) {x : AV} {r : ByteArray} (he : evBStr h x = some r) : evBStr h2 x = some r := by
  unfold evBStr at he ⊢
  split at he
  · split at he
    · rename_i hid
      rw [hm _ _ hid]; exact he
    · cases he
  · obtain ⟨l, h1, h3⟩ := Option.bind_eq_some_iff.1 he
    rw [elemsOf_more hm h1]; exact h3

theorem ev_plain {c : COp} {r : AV} {h' : List AO} (hE : c.isE = false) (hR : c.isR = false) (he : evOp call vars env h c = some (r, h')) : h' = h ∧ ∀ g, evOp call vars env g c = some (r, g) := by
  by_cases hsl : ∃ sz x lo hi mx, c = .slice sz x lo hi mx
  · obtain ⟨sz, x, lo, hi, mx, rfl⟩ := hsl
    cases mx with
    | some y => cases hR
    | none =>
      simp only [evOp] at he ⊢
      obtain ⟨y, h1, h3⟩ := Option.map_eq_some_iff.1 he
      cases h3
      exact ⟨rfl, fun g => by rw [slice_free g (h := h), h1]; rfl⟩
  cases c <;> (try (exact absurd ⟨_, _, _, _, _, rfl⟩ hsl)) <;> simp only [COp.isE, COp.isR, Bool.true_eq_false] at hE hR <;> simp only [evOp] at he ⊢
  case call p f args => cases p <;> simp at hE hR
  case bad => cases he
  all_goals first
    | (cases he; exact ⟨rfl, fun g => rfl⟩)
    | (obtain ⟨y, h1, h3⟩ := Option.map_eq_some_iff.1 he; cases h3; exact ⟨rfl, fun g => by rw [h1]; rfl⟩)
    | (split at he <;> first | (cases he; exact ⟨rfl, fun g => rfl⟩) | cases he | skip)
  all_goals first
    | (obtain ⟨y, h1, h3⟩ := Option.map_eq_some_iff.1 he; cases h3; exact ⟨rfl, fun g => by rw [h1]; rfl⟩)
    | (split at he <;> first | (cases he; rename_i hc; exact ⟨rfl, fun g => by simp [hc]⟩) | cases he | skip)
  all_goals first
    | (obtain ⟨y, h1, h3⟩ := Option.map_eq_some_iff.1 he; cases h3; rename_i hc; exact ⟨rfl, fun g => by rw [if_pos hc, h1]; rfl⟩)

theorem ev_reads {c : COp} {r : AV} {h' : List AO} (hR : c.isR = true) (he : evOp call vars env h c = some (r, h')) : h' = h := by
  by_cases hsl : ∃ sz x lo hi mx, c = .slice sz x lo hi mx
  · obtain ⟨sz, x, lo, hi, mx, rfl⟩ := hsl
    simp only [evOp] at he
    obtain ⟨y, h1, h3⟩ := Option.map_eq_some_iff.1 he
    cases h3; rfl
  cases c <;> (try (exact absurd ⟨_, _, _, _, _, rfl⟩ hsl)) <;> simp only [COp.isR, Bool.false_eq_true] at hR <;> simp only [evOp] at he
  case call p f args =>
    cases p <;> simp at hR
    simp only [evOp] at he
    split at he
    · split at he
      · cases he; rfl
      · cases he
    · cases he
  all_goals (obtain ⟨y, h1, h3⟩ := Option.map_eq_some_iff.1 he; cases h3; rfl)

theorem ev_more (hm : More h h2) {c : COp} {r : AV} (hR : c.isR = true) (he : evOp call vars env h c = some (r, h)) : evOp call vars env h2 c = some (r, h2) := by
  by_cases hsl : ∃ sz x lo hi mx, c = .slice sz x lo hi mx
  · obtain ⟨sz, x, lo, hi, mx, rfl⟩ := hsl
    simp only [evOp] at he ⊢
    obtain ⟨y, h1, h3⟩ := Option.map_eq_some_iff.1 he
    cases h3
    rw [slice_more hm h1]; rfl
  cases c <;> (try (exact absurd ⟨_, _, _, _, _, rfl⟩ hsl)) <;> simp only [COp.isR, Bool.false_eq_true] at hR <;> simp only [evOp] at he ⊢
  case call p f args =>
    cases p <;> simp at hR
    simp only [evOp] at he ⊢
    split at he
    · rename_i as has
      rw [mapM_more (fun x y h => snap1_more hm h) has]
      simp only
      split at he
      · rename_i hc; cases he; simp only [hc]
      · cases he
    · cases he
  all_goals (obtain ⟨y, h1, h3⟩ := Option.map_eq_some_iff.1 he; cases h3; refine Option.map_eq_some_iff.2 ⟨_, ?_, rfl⟩)
  · exact elems_more hm _ _ _ h1
  · exact load_more hm h1
  · exact nil_more hm h1
  · exact eq_more hm h1
  · exact bstr_more hm h1
  · exact fa_more hm h1
  · exact ia_more hm h1
  · exact len_more hm h1
  · exact look_more hm h1

theorem ev_same (hs : Same n h h2) {c : COp} {r : AV} (hR : c.isR = true) (hx : ∀ x ∈ c.args, (getO vars env x).lt n = true) (he : evOp call vars env h2 c = some (r, h2)) : evOp call vars env h c = some (r, h) := by
  by_cases hsl : ∃ sz x lo hi mx, c = .slice sz x lo hi mx
  · obtain ⟨sz, x, lo, hi, mx, rfl⟩ := hsl
    simp only [evOp] at he ⊢
    obtain ⟨y, h1, h3⟩ := Option.map_eq_some_iff.1 he
    cases h3
    rw [← slice_same hs (hx x (by simp [COp.args])), h1]; rfl
  cases c <;> (try (exact absurd ⟨_, _, _, _, _, rfl⟩ hsl)) <;> simp only [COp.isR, Bool.false_eq_true] at hR <;> simp only [COp.args, List.mem_singleton, forall_eq, List.mem_cons, List.not_mem_nil, or_false, forall_eq_or_imp] at hx <;> simp only [evOp] at he ⊢
  case call p f args =>
    cases p <;> simp at hR
    simp only [evOp, COp.args] at he hx ⊢
    rw [mapM_cong (f := AV.snap1 h2) (g := AV.snap1 h) (fun x hm => by
      obtain ⟨y, hy, rfl⟩ := List.mem_map.1 hm
      exact snap1_same hs (hx y hy))] at he
    split at he
    · split at he
      · rename_i hc; cases he; simp only [hc]
      · cases he
    · cases he
  all_goals (obtain ⟨y, h1, h3⟩ := Option.map_eq_some_iff.1 he; cases h3; refine Option.map_eq_some_iff.2 ⟨_, ?_, rfl⟩)
  · rw [← elems_same hs _ _ (fun p hp => hx _ (List.mem_map.2 ⟨p, hp, rfl⟩))]; exact h1
  · rw [← load_same hs hx]; exact h1
  · rw [← nil_same hs hx]; exact h1
  · rw [← eq_same hs hx.1 hx.2]; exact h1
  · rw [← bstr_same hs hx]; exact h1
  · rw [← fa_same hs hx]; exact h1
  · rw [← ia_same hs hx]; exact h1
  · rw [← len_same hs hx]; exact h1
  · rw [← look_same hs hx]; exact h1

theorem ev_push {c : COp} {r : AV} {h' : List AO} (hp : c.isPush = true) (he : evOp call vars env h c = some (r, h')) : ∃ X, h' = h ++ X := by
  unfold COp.isPush at hp
  split at hp
  · simp only [evOp] at he
    obtain ⟨y, h1, h3⟩ := Option.map_eq_some_iff.1 he
    cases h3; exact ⟨_, rfl⟩
  · simp only [evOp] at he
    split at he
    · split at he
      · cases he; exact ⟨_, rfl⟩
      · cases he
    · cases he
  · simp only [evOp] at he
    obtain ⟨y, h1, h3⟩ := Option.map_eq_some_iff.1 he
    cases h3; exact ⟨_, rfl⟩
  · cases he; exact ⟨_, rfl⟩
  · simp only [evOp] at he
    split at he
    · cases he; exact ⟨_, rfl⟩
    · cases he
  · simp only [evOp, getO, ofVal, evAppend, evAppendL] at he
    split at he
    · cases he
    · split at he
      · cases he; exact ⟨[], by simp⟩
      · split at he
        · cases he; exact ⟨_, rfl⟩
        · cases he
  · cases hp

theorem ev_appL {rt : TypeId} {sz bytes : Nat} {s : AV} {ys : List AV} {r : AV} {h' : List AO} (he : evAppendL h rt sz bytes s ys = some (r, h')) :
    (∃ X, h' = h ++ X) ∨ ∃ id t sz ver l k t' sz' ver' l' k', h[id]? = some (.row t sz ver l k) ∧ h' = h.set id (.row t' sz' ver' l' k') := by
  unfold evAppendL at he
  split at he
  · split at he
    · cases he; exact .inl ⟨[], by simp⟩
    · split at he
      · cases he; exact .inl ⟨_, rfl⟩
      · cases he
  · split at he
    · split at he
      · cases he; exact .inl ⟨[], by simp⟩
      · split at he
        · split at he
          · cases he; exact .inl ⟨_, rfl⟩
          · cases he
        · cases he
    · cases he
  · split at he
    · split at he
      · rename_i l k hrow
        split at he
        · split at he
          · cases he; exact .inl ⟨[], by simp⟩
          · split at he
            · cases he
              right
              unfold rowAt at hrow
              split at hrow
              · rename_i hid
                exact ⟨_, _, _, _, _, _, _, _, _, _, _, hid, rfl⟩
              · cases hrow
            · cases he
        · cases he
      · cases he
    · cases he
  · cases he
theorem ev_append {rt : TypeId} {sz bytes : Nat} {s x : Opd} {r : AV} {h' : List AO} (he : evOp call vars env h (.append rt sz bytes s x) = some (r, h')) :
    (∃ X, h' = h ++ X) ∨ ∃ id t sz ver l k t' sz' ver' l' k', h[id]? = some (.row t sz ver l k) ∧ h' = h.set id (.row t' sz' ver' l' k') := by
  simp only [evOp, evAppend] at he
  split at he
  · cases he
  · exact ev_appL he

theorem ev_store {sz : Nat} {a x : Opd} {r : AV} {h' : List AO} {id off : Nat} (ha : getO vars env a = .ptr id off) (he : evOp call vars env h (.store sz a x) = some (r, h')) : ∃ o, h' = h.set id o := by
  simp only [evOp] at he
  obtain ⟨y, h1, h3⟩ := Option.map_eq_some_iff.1 he
  cases h3
  rw [ha] at h1
  simp only [Q113] at h1
  split at h1
  · split at h1
    · split at h1
      · cases h1; exact ⟨_, rfl⟩
      · cases h1
    · cases h1
  · cases h1
end
end Go.AE
end

/-! AE, part 24: which order operations may be carried out in, and a region's run told by numbers. -/
section
set_option linter.unusedVariables false
set_option linter.unusedSimpArgs false
namespace Go.AE
open Go Go.RowKit

/-! ### Compiled by what is looked at alone -/
theorem cO_cong {m m' : Tmp → Option Opd} {x : Operand} (h : ∀ t, x = .tmp t → m' t = m t) : cO m' x = cO m x := by
  cases x with
  | tmp t => exact h t rfl
  | _ => rfl
theorem cOs_cong {m m' : Tmp → Option Opd} {l : List Operand} (h : ∀ x ∈ l, cO m' x = cO m x) : cOs m' l = cOs m l := mapM_cong h
theorem cOo_cong {m m' : Tmp → Option Opd} {x : Option Operand} (h : ∀ y, x = some y → cO m' y = cO m y) : cOo m' x = cOo m x := by
  cases x with
  | none => rfl
  | some y => simp only [cOo, h y rfl]

theorem compOp_cong {T : Tb} {m m' : Tmp → Option Opd} {o : Oper} (h : ∀ x ∈ o.op.operands, cO m' x = cO m x) : compOp T m' o = compOp T m o := by
  obtain ⟨dst, op, type, pos, after, guard⟩ := o
  cases op <;> simp only [Op.operands] at h <;> simp only [compOp]
  case build t ps =>
    have : ∀ (f : Nat × Operand → Option (Nat × Nat)), (ps.toList.mapM fun p => (f p).bind fun q => (cO m' p.2).map fun x => (q.1, q.2, x)) = (ps.toList.mapM fun p => (f p).bind fun q => (cO m p.2).map fun x => (q.1, q.2, x)) := by
      intro f
      exact mapM_cong (fun p hp => by rw [h p.2 (by simp; exact ⟨p.1, by simpa using hp⟩)])
    have that : ∀ (f : Nat × Operand → Opd → Nat × Nat × Opd), (ps.toList.mapM fun p => (cO m' p.2).map fun x => f p x) = (ps.toList.mapM fun p => (cO m p.2).map fun x => f p x) := by
      intro f
      exact mapM_cong (fun p hp => by rw [h p.2 (by simp; exact ⟨p.1, by simpa using hp⟩)])
    simp only [this]
    split
    · split
      · rfl
      · split
        · rename_i j hj
          rw [that (fun p x => (p.1 * j.size, j.size, x))]
        · rfl
      · rfl
    · rfl
  case buildSlice t n ps =>
    have : (ps.toList.mapM fun p => (cO m' p.2).map fun x => (p.1, x)) = (ps.toList.mapM fun p => (cO m p.2).map fun x => (p.1, x)) :=
      mapM_cong (fun p hp => by rw [h p.2 (by simp; exact ⟨p.1, by simpa using hp⟩)])
    simp only [this]
  case makeFunc fn first cap =>
    rw [cOs_cong (l := first.toList) (fun x hx => h x (by simp at hx; simp [hx])), cOs_cong (l := cap.toList) (fun x hx => h x (by simp at hx; simp [hx]))]
  case slice t x lo hi mx =>
    rw [h x (by simp), cOo_cong (x := lo) (fun y hy => h y (by simp [hy])), cOo_cong (x := hi) (fun y hy => h y (by simp [hy])), cOo_cong (x := mx) (fun y hy => h y (by simp [hy]))]
  case call c =>
    have ha : ∀ x ∈ c.args, cO m' x = cO m x := fun x hx => h x (by simp [Call.operands, hx])
    have hl := cOs_cong (m := m) (m' := m') (l := c.args.toList) (fun x hx => ha x (by simpa using hx))
    have hg : ∀ x ∈ c.args.toList, cO m' x = cO m x := fun x hx => ha x (by simpa using hx)
    cases hc : c.callee with
    | value f =>
      have hf := h f (by simp [Call.operands, hc])
      cases f with
      | func f => simp only [hl]
      | tmp t => simp only [cO] at hf; simp only [hl, hf]
      | _ => rfl
    | invoke r n => rfl
    | builtin b =>
      cases b <;> try rfl
      · simp only
        split
        · rename_i s x t t' e1 e2
          rw [e1] at hg
          rw [hg s (by simp), hg x (by simp)]
        · rfl
      · simp only
        split
        · rename_i x t e1 e2
          rw [e1] at hg
          rw [hg x (by simp)]
        · rfl
      · simp only
        split
        · rename_i x t e1 e2
          rw [e1] at hg
          rw [hg x (by simp)]
        · rfl
      · simp only
        split
        · rename_i x y e1
          rw [e1] at hg
          rw [hg x (by simp), hg y (by simp)]
        · rfl
      · simp only
        split
        · rename_i x y e1
          rw [e1] at hg
          rw [hg x (by simp), hg y (by simp)]
        · rfl
  case makeMap t rs => cases rs <;> rfl
  case next x st => cases st <;> first | rfl | (simp at h; simp only [h])
  all_goals (first | rfl | (simp at h; simp only [h]; done) | (simp at h; simp only [h.1, h.2]; done) | (simp at h; simp only [h.1, h.2.1, h.2.2]; done))

def Opd.from (m : Tmp → Option Opd) (x : Opd) : Prop := (∃ v, x = .k v) ∨ (∃ f, x = .fn f) ∨ ∃ t, m t = some x
theorem cO_from {m : Tmp → Option Opd} {x : Operand} {y : Opd} (h : cO m x = some y) : y.from m := by
  cases x with
  | tmp t => exact .inr (.inr ⟨t, h⟩)
  | const v => simp only [cO, Option.some.injEq] at h; exact .inl ⟨v, h.symm⟩
  | func f => simp only [cO, Option.some.injEq] at h; exact .inr (.inl ⟨f, h.symm⟩)
  | global g => cases h
theorem mapM_mem {α β : Type} {f : α → Option β} {l : List α} {r : List β} (h : l.mapM f = some r) : ∀ y ∈ r, ∃ x ∈ l, f x = some y := by
  induction l generalizing r with
  | nil => simp at h; subst h; intro y hy; simp at hy
  | cons x l ih =>
    simp only [List.mapM_cons, Option.bind_eq_bind, Option.bind_eq_some_iff, Option.pure_def, Option.some.injEq] at h
    obtain ⟨y, h1, ys, h3, rfl⟩ := h
    intro z hz
    rcases List.mem_cons.1 hz with rfl | hz
    · exact ⟨x, by simp, h1⟩
    · obtain ⟨u, hu, e⟩ := ih h3 z hz
      exact ⟨u, by simp [hu], e⟩

theorem compOp_args {T : Tb} {m : Tmp → Option Opd} {o : Oper} {c : COp} (hc : compOp T m o = some c) (hR : c.isR = true) : ∀ x ∈ c.args, x.from m := by
  obtain ⟨dst, op, type, pos, after, guard⟩ := o
  cases op <;> simp only [compOp] at hc <;> try (cases hc; done)
  case buildSlice t n ps =>
    split at hc
    · split at hc
      · split at hc
        · split at hc
          · rename_i ps' hps
            split at hc
            · by_cases hlit : T.lit t = true
              · rw [if_pos hlit] at hc; cases hc; cases hR
              rw [if_neg hlit] at hc
              cases hc
              intro x hx
              simp only [COp.args, List.mem_map] at hx
              obtain ⟨p, hp, rfl⟩ := hx
              obtain ⟨q, hq, e⟩ := mapM_mem hps p hp
              obtain ⟨y, hy, rfl⟩ := Option.map_eq_some_iff.1 e
              exact cO_from hy
            · cases hc
          · cases hc
        · cases hc
      · cases hc
    · cases hc
  case call cl =>
    split at hc
    · obtain ⟨l, hl, rfl⟩ := Option.map_eq_some_iff.1 hc
      intro x hx
      cases hz : T.frz _ with
      | true => rw [hz] at hR; cases hR
      | false =>
      rw [hz] at hx hR
      simp only [cond_false] at hx hR
      cases hp : T.pureF _ <;> rw [hp] at hx hR <;> simp only [COp.isR, COp.args, Bool.false_eq_true] at hR hx
      obtain ⟨q, hq, e⟩ := mapM_mem hl x hx
      exact cO_from e
    · split at hc
      · cases hc; cases hR
      · cases hc
    · split at hc
      · split at hc
        · split at hc
          · split at hc
            · split at hc
              · split at hc
                · cases hc; cases hR
                · cases hc
              · cases hc
            · cases hc
          · split at hc
            · split at hc
              · split at hc
                · cases hc; cases hR
                · cases hc
              · cases hc
            · cases hc
        · cases hc
      · cases hc
    · split at hc
      · split at hc
        · split at hc
          · cases hc; cases hR
          · split at hc
            · split at hc
              · cases hc; cases hR
              · cases hc
            · cases hc
          · cases hc
        · cases hc
      · cases hc
    · split at hc
      · split at hc
        · cases hc; cases hR
        · cases hc
      · cases hc
    · split at hc
      · split at hc
        · cases hc; cases hR
        · cases hc
      · cases hc
    · split at hc
      · split at hc
        · rename_i hx
          split at hc <;> first | (cases hc; intro x hx'; simp only [COp.args, List.mem_singleton] at hx'; subst hx'; exact cO_from hx) | cases hc
        · cases hc
      · cases hc
    · cases hc
  case binOp op xt x y yt =>
    split at hc
    · rename_i h1 h2
      split at hc
      · cases hc; cases hR
      · cases hc; cases hR
      unfold compBin at hc
      intro z hz
      split at hc
      · split at hc
        all_goals first
          | (cases hc; cases hR; done)
          | (split at hc <;> first
              | (cases hc; simp only [COp.args, List.mem_cons, List.not_mem_nil, or_false] at hz; rcases hz with rfl | rfl <;> first | exact cO_from h1 | exact cO_from h2)
              | cases hc)
          | (split at hc
             · split at hc <;> first
                | (cases hc; simp only [COp.args, List.mem_cons, List.not_mem_nil, or_false] at hz; rcases hz with rfl | rfl <;> first | exact cO_from h1 | exact cO_from h2)
                | cases hc
             · cases hc)
          | cases hc
      · cases hc
    · cases hc
  case panic x => cases hc; cases hR
  case makeInterface t x => cases hc; cases hR
  case makeMap t rs =>
    cases rs with
    | none => obtain ⟨y, hy, rfl⟩ := Option.map_eq_some_iff.1 hc; cases hR
    | some z => cases hc
  case next x st =>
    cases st with
    | true => obtain ⟨y, hy, rfl⟩ := Option.map_eq_some_iff.1 hc; cases hR
    | false => cases hc
  all_goals first
    | (obtain ⟨y, hy, rfl⟩ := Option.map_eq_some_iff.1 hc; first | (cases hR; done) | (intro x hx; simp only [COp.args, List.mem_singleton] at hx; subst hx; exact cO_from hy))
    | (split at hc <;> first | cases hc | skip)
  all_goals try (cases hR; done)
  all_goals first
    | (intro x hx; simp only [COp.args, List.mem_singleton] at hx; subst hx; apply cO_from; assumption)
    | (split at hc <;> first | cases hc | skip)
  all_goals try (cases hR; done)
  all_goals first
    | (intro x hx; simp only [COp.args, List.mem_singleton] at hx; subst hx; apply cO_from; assumption)
    | (split at hc <;> first | cases hc | skip)
  all_goals try (cases hR; done)
  all_goals first
    | (intro x hx; simp only [COp.args, List.mem_singleton] at hx; subst hx; apply cO_from; assumption)
    | (split at hc <;> first | cases hc | skip)
  all_goals try (cases hR; done)
  all_goals first
    | (intro x hx; simp only [COp.args, List.mem_singleton] at hx; subst hx; apply cO_from; assumption)
    | (split at hc <;> first | cases hc | skip)
  all_goals try (cases hR; done)
  all_goals first
    | (intro x hx; simp only [COp.args, List.mem_singleton] at hx; subst hx; apply cO_from; assumption)
    | (split at hc <;> first | cases hc | skip)
  all_goals try (cases hR; done)
  all_goals first
    | (intro x hx; simp only [COp.args, List.mem_singleton] at hx; subst hx; apply cO_from; assumption)
    | (split at hc <;> first | cases hc | skip)
  all_goals try (cases hR; done)
  all_goals first
    | (intro x hx; simp only [COp.args, List.mem_singleton] at hx; subst hx; apply cO_from; assumption)
    | (split at hc <;> first | cases hc | skip)
  all_goals try (cases hR; done)
  all_goals (intro x hx; simp only [COp.args, List.mem_singleton] at hx; subst hx; apply cO_from; assumption)

/-! ### What must have come before -/
def bindsOf (o : Oper) : List Nat := (o.after.toList.filter (Region.binds .any)).map (·.on)
def ancOne (tab : List Nat) (es : List Nat) : Nat := es.foldl (fun m k => m ||| (1 <<< k) ||| tab.getD k 0) 0
def ancGo : List Nat → List Oper → List Nat
  | tab, [] => tab
  | tab, o :: r => ancGo (tab ++ [ancOne tab (bindsOf o)]) r

theorem ancOne_bit {tab : List Nat} {i : Nat} : ∀ (es : List Nat) (m : Nat), (es.foldl (fun m k => m ||| (1 <<< k) ||| tab.getD k 0) m).testBit i = true → m.testBit i = true ∨ ∃ k ∈ es, i = k ∨ (tab.getD k 0).testBit i = true := by
  intro es
  induction es with
  | nil => intro m h; exact .inl h
  | cons k es ih =>
    intro m h
    rcases ih _ h with h | ⟨k', hk, h⟩
    · simp only [Nat.testBit_or, Bool.or_eq_true] at h
      rcases h with (h | h) | h
      · exact .inl h
      · refine .inr ⟨k, by simp, .inl ?_⟩
        rw [Nat.one_shiftLeft, Nat.testBit_two_pow] at h
        simpa [eq_comm] using h
      · exact .inr ⟨k, by simp, .inr h⟩
    · exact .inr ⟨k', by simp [hk], h⟩

theorem ancGo_pre : ∀ (l : List Oper) (tab : List Nat), ∃ r, ancGo tab l = tab ++ r := by
  intro l
  induction l with
  | nil => intro tab; exact ⟨[], by simp [ancGo]⟩
  | cons o l ih =>
    intro tab
    obtain ⟨r, hr⟩ := ih (tab ++ [ancOne tab (bindsOf o)])
    exact ⟨_ :: r, by rw [ancGo, hr, List.append_assoc]; rfl⟩

theorem ancGo_bit : ∀ (l : List Oper) (tab : List Nat) (j : Nat) (o : Oper) (i : Nat), l[j]? = some o → (∀ k ∈ bindsOf o, k < tab.length + j) → ((ancGo tab l).getD (tab.length + j) 0).testBit i = true →
    ∃ k ∈ bindsOf o, i = k ∨ ((ancGo tab l).getD k 0).testBit i = true := by
  intro l
  induction l with
  | nil => intro tab j o i h; simp at h
  | cons x l ih =>
    intro tab j o i h hk hb
    cases j with
    | zero =>
      simp at h; subst h
      obtain ⟨r, hr⟩ := ancGo_pre l (tab ++ [ancOne tab (bindsOf x)])
      simp only [ancGo] at hb ⊢
      rw [hr] at hb ⊢
      have e1 : (tab ++ [ancOne tab (bindsOf x)] ++ r).getD (tab.length + 0) 0 = ancOne tab (bindsOf x) := by
        simp [List.getD_eq_getElem?_getD]
      rw [e1] at hb
      rcases ancOne_bit _ _ hb with h | ⟨k, hkm, h⟩
      · simp at h
      · refine ⟨k, hkm, h.imp id (fun h => ?_)⟩
        have hlt := hk k hkm
        rw [List.append_assoc, List.getD_eq_getElem?_getD, List.getElem?_append_left (by omega), ← List.getD_eq_getElem?_getD]
        exact h
    | succ j =>
      simp only [ancGo] at hb ⊢
      have := ih (tab ++ [ancOne tab (bindsOf x)]) j o i (by simpa using h) (by intro k hkm; have := hk k hkm; simp; omega)
      simp only [List.length_append, List.length_singleton] at this
      rw [show tab.length + 1 + j = tab.length + (j + 1) by omega] at this
      exact this hb
end Go.AE
end

/-! AE, part 25: a region that draws its order ends as one in the order of the text. -/
section
set_option linter.unusedVariables false
set_option linter.unusedSimpArgs false
namespace Go.AE
open Go Go.RowKit

/-! ### A run in the order of the text, by numbers -/
def StepOk (call : CallF) (o : CO) (vars env : List AV) (h : List AO) (r : AV) (h' : List AO) : Prop :=
  match o.guard with
  | none => evOp call vars env h o.op = some (r, h')
  | some (g, want) => (getO vars env g = .v (.bool want) ∧ evOp call vars env h o.op = some (r, h')) ∨
    (((∃ b, getO vars env g = .v (.bool b) ∧ b ≠ want) ∨ ∃ z, getO vars env g = .v (.tuple z)) ∧ r = .v undef ∧ h' = h)

structure Trace (call : CallF) (cs : List CO) (vars env : List AV) (h : List AO) (vars' : List AV) (h' : List AO) (V E : Nat → List AV) (H : Nat → List AO) (R : Nat → AV) : Prop where
  v0 : V 0 = vars
  e0 : E 0 = env
  h0 : H 0 = h
  v1 : V cs.length = vars'
  h1 : H cs.length = h'
  step : ∀ i o, cs[i]? = some o → V (i + 1) = setO (V i) o.wr (R i) ∧ E (i + 1) = R i :: E i ∧ StepOk call o (V i) (E i) (H i) (R i) (H (i + 1))

theorem trace_of {call : CallF} : ∀ (cs : List CO) (vars env : List AV) (h : List AO) (vars' : List AV) (h' : List AO), evOps call cs vars env h = some (vars', h') →
    ∃ V E H R, Trace call cs vars env h vars' h' V E H R := by
  intro cs
  induction cs with
  | nil =>
    intro vars env h vars' h' he
    simp only [evOps, Option.some.injEq, Prod.mk.injEq] at he
    obtain ⟨rfl, rfl⟩ := he
    exact ⟨fun _ => vars, fun _ => env, fun _ => h, fun _ => .junk, rfl, rfl, rfl, rfl, rfl, fun i o hi => by simp at hi⟩
  | cons c cs ih =>
    intro vars env h vars' h' he
    have build : ∀ (r : AV) (h2 : List AO), StepOk call c vars env h r h2 → evOps call cs (setO vars c.wr r) (r :: env) h2 = some (vars', h') → ∃ V E H R, Trace call (c :: cs) vars env h vars' h' V E H R := by
      intro r h2 hs he2
      obtain ⟨V, E, H, R, t⟩ := ih _ _ _ _ _ he2
      refine ⟨fun i => match i with | 0 => vars | i + 1 => V i, fun i => match i with | 0 => env | i + 1 => E i, fun i => match i with | 0 => h | i + 1 => H i, fun i => match i with | 0 => r | i + 1 => R i, rfl, rfl, rfl, t.v1, t.h1, fun i o hi => ?_⟩
      cases i with
      | zero =>
        simp at hi; subst hi
        simp only [t.v0, t.e0, t.h0]
        exact ⟨trivial, trivial, hs⟩
      | succ i => exact t.step i o (by simpa using hi)
    simp only [evOps] at he
    cases hg : c.guard with
    | none =>
      rw [hg] at he
      simp only at he
      split at he
      · rename_i v h2 hev
        exact build v h2 (by simp only [StepOk, hg]; exact hev) he
      · cases he
    | some gw =>
      obtain ⟨g, want⟩ := gw
      rw [hg] at he
      simp only at he
      split at he
      · rename_i b hb
        split at he
        · rename_i hbw
          split at he
          · rename_i v h2 hev
            exact build v h2 (by simp only [StepOk, hg]; exact .inl ⟨by rw [hb, hbw], hev⟩) he
          · cases he
        · rename_i hbw
          exact build _ h (by simp only [StepOk, hg]; exact .inr ⟨.inl ⟨b, hb, hbw⟩, trivial, trivial⟩) he
      · rename_i z hz
        exact build _ h (by simp only [StepOk, hg]; exact .inr ⟨.inr ⟨z, hz⟩, trivial, trivial⟩) he
      · cases he

def lmAt (vt : List Tmp) (ops : Array Oper) : Nat → List (Option Tmp)
  | 0 => []
  | i + 1 => lmOf vt ((ops[i]?).bind (·.dst)) (lmAt vt ops i)

theorem compOps_at {T : Tb} {nt : Nat} {vt : List Tmp} {ops : Array Oper} : ∀ (l : List Oper) (p : Nat) (cs : List CO), ops.toList.drop p = l → compOps T nt vt ops (lmAt vt ops p) l = some cs →
    cs.length = l.length ∧ ∀ i o, l[i]? = some o → ∃ c g, cs[i]? = some ⟨c, o.dst.bind (varOf vt), g⟩ ∧ compOp T (mOf vt (lmAt vt ops (p + i))) o = some c ∧ compGuard vt ops (lmAt vt ops (p + i)) o.guard = some g ∧ o.dst.all (fun d => decide (d < nt)) = true := by
  intro l
  induction l with
  | nil =>
    intro p cs hl hc
    simp only [compOps, Option.some.injEq] at hc
    subst hc
    exact ⟨rfl, fun i o h => by simp at h⟩
  | cons o l ih =>
    intro p cs hl hc
    have hop : ops[p]? = some o := by
      have : (ops.toList.drop p)[0]? = some o := by rw [hl]; rfl
      simpa using this
    have hl' : ops.toList.drop (p + 1) = l := by rw [← List.tail_drop, hl]; rfl
    simp only [compOps] at hc
    split at hc
    · rename_i c g cs' h1 h2 h3
      split at hc
      · rename_i hd
        cases hc
        have h3' : compOps T nt vt ops (lmAt vt ops (p + 1)) l = some cs' := by
          simp only [lmAt, hop, Option.bind_some]; exact h3
        obtain ⟨g1, g2⟩ := ih (p + 1) cs' hl' h3'
        refine ⟨by simp [g1], fun i x hi => ?_⟩
        cases i with
        | zero =>
          simp at hi; subst hi
          exact ⟨c, g, by simp, by simpa using h1, by simpa using h2, hd⟩
        | succ i =>
          obtain ⟨c', g', k1, k2, k3, k4⟩ := g2 i x (by simpa using hi)
          exact ⟨c', g', by simpa using k1, by rw [show p + (i + 1) = p + 1 + i by omega]; exact k2, by rw [show p + (i + 1) = p + 1 + i by omega]; exact k3, k4⟩
      · cases hc
    · cases hc

theorem lmAt_get {vt : List Tmp} {ops : Array Oper} {t : Tmp} : ∀ (i a : Nat), (lmAt vt ops i)[a]? = some (some t) → ∃ d y, d < i ∧ a = i - 1 - d ∧ ops[d]? = some y ∧ y.dst = some t := by
  intro i
  induction i with
  | zero => intro a h; simp [lmAt] at h
  | succ i ih =>
    intro a h
    simp only [lmAt, lmOf] at h
    cases a with
    | zero =>
      simp only [List.getElem?_cons_zero, Option.some.injEq] at h
      cases ho : ops[i]? with
      | none => simp [ho] at h
      | some y =>
        rw [ho] at h
        simp only [Option.bind_some] at h
        split at h
        · cases h
        · exact ⟨i, y, by omega, by omega, ho, h⟩
    | succ a =>
      obtain ⟨d, y, h1, h2, h3, h4⟩ := ih a (by simpa using h)
      exact ⟨d, y, by omega, by omega, h3, h4⟩

/-! ### Which orders do no harm -/
def baseOf (cs : List CO) : Nat → Nat → Opd → Option Nat
  | 0, _, x => match x with
    | .var b => if cs.all (fun c => c.wr != some b) then some b else none
    | _ => none
  | f + 1, i, x => match x with
    | .var b => if cs.all (fun c => c.wr != some b) then some b else none
    | .loc k => if k < i then match cs[i - 1 - k]? with
        | some ⟨.mov y, _, none⟩ => baseOf cs f (i - 1 - k) y
        | some ⟨.nilchk y, _, none⟩ => baseOf cs f (i - 1 - k) y
        | some ⟨.fa _ y, _, none⟩ => baseOf cs f (i - 1 - k) y
        | _ => none
      else none
    | _ => none
def lateOk (aps : List (Option Nat × Nat)) (cs : List CO) (e i : Nat) (c d : CO) : Bool := match c.op with
  | .store _ y _ => match baseOf cs cs.length e y with
    | some a => match d.op with
      | .load _ _ x | .fa _ x | .nilchk x => match baseOf cs cs.length i x with
        | some b => aps.contains (some a, b)
        | none => false
      | _ => false
    | none => false
  | _ => false
def COp.isMapW : COp → Bool
  | .mapupd .. | .mentry .. | .estore .. => true
  | _ => false
def COp.noMap : COp → Bool
  | .load .. | .fa .. | .nilchk _ | .ia .. => true
  | _ => false
section
variable {call : CallF} {vars env : List AV} {h : List AO}
theorem ev_mapw {c : COp} {r : AV} {h' : List AO} (hc : c.isMapW = true) (he : evOp call vars env h c = some (r, h')) : h' = h ∨ ∃ id kk n es kk' n' es', h[id]? = some (.map kk n es) ∧ h' = h.set id (.map kk' n' es') := by
  cases c <;> simp only [COp.isMapW, Bool.false_eq_true] at hc
  · simp only [evOp, Option.map_eq_some_iff, Prod.mk.injEq] at he
    obtain ⟨h1, g1, rfl, rfl⟩ := he
    unfold evUpd at g1
    split at g1
    · split at g1
      · rename_i hid
        split at g1
        · split at g1
          · cases g1; exact .inr ⟨_, _, _, _, _, _, _, hid, rfl⟩
          · cases g1
        · cases g1
      · cases g1
    · cases g1
  · simp only [evOp] at he
    unfold evEntry at he
    split at he
    · split at he
      · rename_i hid
        split at he
        · split at he
          · cases he; exact .inl rfl
          · cases he; exact .inr ⟨_, _, _, _, _, _, _, hid, rfl⟩
        · cases he
      · cases he
    · cases he
  · simp only [evOp, Option.map_eq_some_iff, Prod.mk.injEq] at he
    obtain ⟨h1, g1, rfl, rfl⟩ := he
    unfold evEStore at g1
    split at g1
    · split at g1
      · rename_i hid
        split at g1
        · split at g1
          · split at g1
            · cases g1; exact .inr ⟨_, _, _, _, _, _, _, hid, rfl⟩
            · cases g1
          · cases g1
        · cases g1
      · cases g1
    · cases g1
theorem ev_nomap {d : COp} (hd : d.noMap = true) {id n n' : Nat} {kk kk' : KK} {es es' : List (Value × AV)} (hid : h[id]? = some (.map kk n es)) (r : AV) :
    evOp call vars env (h.set id (.map kk' n' es')) d = some (r, h.set id (.map kk' n' es')) ↔ evOp call vars env h d = some (r, h) := by
  have hlt := (List.getElem?_eq_some_iff.1 hid).1
  have hrow : ∀ sz id' ver m, rowAt (h.set id (.map kk' n' es')) sz id' ver m = rowAt h sz id' ver m := by
    intro sz id' ver m
    by_cases e : id = id'
    · subst e; simp only [rowAt, List.getElem?_set_self hlt, hid]
    · simp only [rowAt, List.getElem?_set_ne e]
  have hld : ∀ a sz x, Q76 (h.set id (.map kk' n' es')) a sz x = Q76 h a sz x := by
    intro a sz x
    cases x <;> simp only [Q76, hrow]
    rename_i id' off
    by_cases e : id = id'
    · subst e; simp only [List.getElem?_set_self hlt, hid]
    · simp only [List.getElem?_set_ne e]
  have hfa : ∀ o x, Q74 (h.set id (.map kk' n' es')) o x = Q74 h o x := by
    intro o x; cases x <;> simp only [Q74, hrow]
  have hnl : ∀ x, Q75 (h.set id (.map kk' n' es')) x = Q75 h x := by
    intro x; cases x <;> simp only [Q75, hrow]
  have hia : ∀ sz x i, evIa vars env (h.set id (.map kk' n' es')) sz x i = evIa vars env h sz x i := by
    intro sz x i; unfold evIa; simp only [hrow]
  cases d <;> simp only [COp.noMap, Bool.false_eq_true] at hd <;> simp only [evOp, hld, hfa, hnl, hia, Option.map_eq_some_iff, Prod.mk.injEq, and_true]
end
def callPush (pu : FuncId → Bool) : COp → Bool
  | .call false f _ => pu f
  | _ => false
def exOk (pu : FuncId → Bool) (aps : List (Option Nat × Nat)) (cs : List CO) (ie ii : Nat) (e i : CO) : Bool :=
  (e.op.isPush || callPush pu e.op) || (e.op.isMapW && i.op.noMap) || lateOk aps cs ie ii e i || match i.op with
    | .load _ _ (.var b) => cs.all (fun c => c.wr != some b) && (match e.op with
      | .store _ (.var a) _ => cs.all (fun c => c.wr != some a) && aps.contains (some a, b)
      | .append .. => aps.contains (none, b)
      | _ => false)
    | _ => false
def pairOk (pu : FuncId → Bool) (aps : List (Option Nat × Nat)) (ops : Array Oper) (cs : List CO) (i j : Nat) (x y : Oper) (c d : CO) : Bool :=
  x.apart ops y && !(c.op.isE && d.op.isE) && (!(c.op.isE && d.op.isR) || exOk pu aps cs i j c d) && (!(c.op.isR && d.op.isE) || exOk pu aps cs j i d c)
def drawPair (pu : FuncId → Bool) (aps : List (Option Nat × Nat)) (ops : Array Oper) (cs : List CO) (j : Nat) (tj : Nat) (y : Oper) (d : CO) (i : Nat) : Bool :=
  match ops[i]?, cs[i]? with
  | some x, some c => (x.dst == none || x.dst != y.dst) && (tj.testBit i || pairOk pu aps ops cs i j x y c d)
  | _, _ => false
def drawOk (pu : FuncId → Bool) (aps : List (Option Nat × Nat)) (ops : Array Oper) (cs : List CO) : Bool :=
  let t := ancGo [] ops.toList
  (List.range ops.size).all fun j => match ops[j]?, cs[j]? with
    | some y, some d => (bindsOf y).all (fun k => decide (k < j)) && (List.range j).all (drawPair pu aps ops cs j (t.getD j 0) y d)
    | _, _ => false

structure SF (pu : FuncId → Bool) (aps : List (Option Nat × Nat)) (ops : Array Oper) (cs : List CO) (t : List Nat) : Prop where
  back : ∀ (j : Nat) (y : Oper), ops[j]? = some y → ∀ k ∈ bindsOf y, k < j
  pair : ∀ (i j : Nat) (x y : Oper) (c d : CO), i < j → ops[i]? = some x → ops[j]? = some y → cs[i]? = some c → cs[j]? = some d →
    (x.dst = none ∨ x.dst ≠ y.dst) ∧ ((t.getD j 0).testBit i = true ∨ pairOk pu aps ops cs i j x y c d = true)

theorem sf_of {pu : FuncId → Bool} {aps : List (Option Nat × Nat)} {ops : Array Oper} {cs : List CO} (h : drawOk pu aps ops cs = true) : SF pu aps ops cs (ancGo [] ops.toList) := by
  have key : ∀ (j : Nat) (y : Oper), ops[j]? = some y → ∃ d, cs[j]? = some d ∧ ((bindsOf y).all (fun k => decide (k < j)) = true ∧ (List.range j).all (drawPair pu aps ops cs j ((ancGo [] ops.toList).getD j 0) y d) = true) := by
    intro j y hy
    have hlt : j < ops.size := (Array.getElem?_eq_some_iff.1 hy).1
    have := List.all_eq_true.1 h j (by simpa using hlt)
    rw [hy] at this
    split at this
    · rename_i y' d e1 hd
      cases e1
      exact ⟨d, hd, by simpa only [Bool.and_eq_true] using this⟩
    · cases this
  refine ⟨fun j y hy k hk => ?_, fun i j x y c d hij hx hy hc hd => ?_⟩
  · obtain ⟨d, _, h1, _⟩ := key j y hy
    simpa using List.all_eq_true.1 h1 k hk
  · obtain ⟨d', hd', _, h2⟩ := key j y hy
    rw [hd] at hd'; cases hd'
    have := List.all_eq_true.1 h2 i (by simpa using hij)
    simp only [drawPair, hx, hc, Bool.and_eq_true, Bool.or_eq_true, beq_iff_eq, bne_iff_ne, ne_eq] at this
    exact this

section
variable {P : Program} {B : Nat} {w0 w w' : World} {I I' : Cells} {σ σ' : List Loc} {vt : List Tmp} {nt : Nat} {a : Act} {T : Tb} {call : CallF}
  {aps : List (Option Nat × Nat)} {ops : Array Oper} {cs : List CO} {vars0 vars1 : List AV} {h0 h1 : List AO} {V E : Nat → List AV} {H : Nat → List AO} {R : Nat → AV}

theorem Trace.old (t : Trace call cs vars0 [] h0 vars1 h1 V E H R) {k : Nat} : ∀ i, i ≤ cs.length → (∀ j c, j < i → cs[j]? = some c → c.wr ≠ some k) → (V i).getD k .junk = vars0.getD k .junk := by
  intro i
  induction i with
  | zero => intro _ _; rw [t.v0]
  | succ i ih =>
    intro hi hw
    have hc : cs[i]? = some cs[i] := List.getElem?_eq_getElem (by omega)
    rw [(t.step i _ hc).1, ← ih (by omega) (fun j c hj => hw j c (by omega))]
    have := hw i _ (by omega) hc
    unfold setO
    split
    · rename_i k' hk
      rw [List.getD_eq_getElem?_getD, List.getD_eq_getElem?_getD, List.getElem?_set_ne (by rintro rfl; exact this hk)]
    · rfl

theorem Trace.len (t : Trace call cs vars0 [] h0 vars1 h1 V E H R) : ∀ i, i ≤ cs.length → (V i).length = vars0.length := by
  intro i
  induction i with
  | zero => intro _; rw [t.v0]
  | succ i ih =>
    intro hi
    have hc : cs[i]? = some cs[i] := List.getElem?_eq_getElem (by omega)
    rw [(t.step i _ hc).1, ← ih (by omega)]
    unfold setO
    split <;> simp

theorem Trace.new (t : Trace call cs vars0 [] h0 vars1 h1 V E H R) {k j : Nat} {c : CO} (hj : cs[j]? = some c) (hw : c.wr = some k) (hk : k < vars0.length) :
    ∀ i, i ≤ cs.length → j < i → (∀ j' c', j < j' → j' < i → cs[j']? = some c' → c'.wr ≠ some k) → (V i).getD k .junk = R j := by
  intro i
  induction i with
  | zero => intro _ h; omega
  | succ i ih =>
    intro hi hji ho
    have hc : cs[i]? = some cs[i] := List.getElem?_eq_getElem (by omega)
    rw [(t.step i _ hc).1]
    by_cases e : j = i
    · subst e
      rw [hc] at hj; cases hj
      simp only [setO, hw]
      rw [List.getD_eq_getElem?_getD, List.getElem?_set_self (by rw [t.len j (by omega)]; exact hk)]; rfl
    · rw [← ih (by omega) (by omega) (fun j' c' h1 h2 => ho j' c' h1 (by omega))]
      have := ho i _ (by omega) (by omega) hc
      unfold setO
      split
      · rename_i k' hk'
        rw [List.getD_eq_getElem?_getD, List.getD_eq_getElem?_getD, List.getElem?_set_ne (by rintro rfl; exact this hk')]
      · rfl

theorem Trace.env (t : Trace call cs vars0 [] h0 vars1 h1 V E H R) : ∀ i, i ≤ cs.length → ∀ d, d < i → (E i).getD (i - 1 - d) .junk = R d := by
  intro i
  induction i with
  | zero => intro _ d h; omega
  | succ i ih =>
    intro hi d hd
    have hc : cs[i]? = some cs[i] := List.getElem?_eq_getElem (by omega)
    rw [(t.step i _ hc).2.1]
    by_cases e : d = i
    · subst e
      rw [show d + 1 - 1 - d = 0 by omega]; rfl
    · have := ih (by omega) d (by omega)
      rw [show i + 1 - 1 - d = (i - 1 - d) + 1 by omega]
      simpa using this

theorem Trace.keep (t : Trace call cs vars0 [] h0 vars1 h1 V E H R) {i : Nat} {c : CO} (hc : cs[i]? = some c) (hE : c.op.isE = false) : H (i + 1) = H i := by
  have hs := (t.step i c hc).2.2
  have ev : ∀ r h', evOp call (V i) (E i) (H i) c.op = some (r, h') → h' = H i := by
    intro r h' he
    cases hR : c.op.isR with
    | true => exact ev_reads hR he
    | false => exact (ev_plain hE hR he).1
  unfold StepOk at hs
  split at hs
  · exact ev _ _ hs
  · rcases hs with ⟨_, hs⟩ | ⟨_, _, hs⟩
    · exact ev _ _ hs
    · exact hs
theorem Trace.const (t : Trace call cs vars0 [] h0 vars1 h1 V E H R) {p : Nat} : ∀ q, p ≤ q → q ≤ cs.length → (∀ i c, p ≤ i → i < q → cs[i]? = some c → c.op.isE = false) → H q = H p := by
  intro q
  induction q with
  | zero => intro h _ _; rw [show p = 0 by omega]
  | succ q ih =>
    intro hpq hq hn
    by_cases e : p = q + 1
    · rw [e]
    · have hc : cs[q]? = some cs[q] := List.getElem?_eq_getElem (by omega)
      rw [t.keep hc (hn q _ (by omega) (by omega) hc)]
      exact ih (by omega) (by omega) (fun i c h1 h2 => hn i c h1 (by omega))

theorem Trace.notw (t : Trace call cs vars0 [] h0 vars1 h1 V E H R) {k : Nat} (hk : cs.all (fun c => c.wr != some k) = true) {p : Nat} (hp : p ≤ cs.length) : (V p).getD k .junk = vars0.getD k .junk := by
  refine t.old p hp (fun j c hj hc => ?_)
  simpa using List.all_eq_true.1 hk c (List.mem_of_getElem? hc)
theorem Trace.base (t : Trace call cs vars0 [] h0 vars1 h1 V E H R) : ∀ (f i : Nat) (x : Opd) (b : Nat), i ≤ cs.length → baseOf cs f i x = some b →
    (∀ id off, vars0.getD b .junk = .ptr id off → ∃ off', getO (V i) (E i) x = .ptr id off') ∧ (∀ z, vars0.getD b .junk = .ip z → ∃ z', getO (V i) (E i) x = .ip z') := by
  have var : ∀ (i b b' : Nat), i ≤ cs.length → (if cs.all (fun c => c.wr != some b) = true then some b else none) = some b' → getO (V i) (E i) (.var b) = vars0.getD b' .junk := by
    intro i b b' hi h
    split at h
    · rename_i hk
      cases h
      exact t.notw hk hi
    · cases h
  intro f
  induction f with
  | zero =>
    intro i x b hi hb
    unfold baseOf at hb
    split at hb
    · rw [var _ _ _ hi hb]; exact ⟨fun id off h => ⟨off, h⟩, fun z h => ⟨z, h⟩⟩
    · cases hb
  | succ f ih =>
    intro i x b hi hb
    unfold baseOf at hb
    split at hb
    · rw [var _ _ _ hi hb]; exact ⟨fun id off h => ⟨off, h⟩, fun z h => ⟨z, h⟩⟩
    · rename_i k
      split at hb
      · rename_i hk
        have hd : i - 1 - k < i := by omega
        have he : getO (V i) (E i) (.loc k) = R (i - 1 - k) := by
          have := t.env i hi (i - 1 - k) hd
          rw [show i - 1 - (i - 1 - k) = k by omega] at this
          exact this
        rw [he]
        split at hb
        · rename_i y wr hc
          have hs := (t.step _ _ hc).2.2
          simp only [StepOk, evOp, Option.some.injEq, Prod.mk.injEq] at hs
          rw [← hs.1]
          exact ih _ _ _ (by omega) hb
        · rename_i y wr hc
          have hs := (t.step _ _ hc).2.2
          simp only [StepOk, evOp] at hs
          obtain ⟨v, g1, g2⟩ := Option.map_eq_some_iff.1 hs
          obtain ⟨i1, i2⟩ := ih _ _ _ (by omega) hb
          refine ⟨fun id off h => ?_, fun z h => ?_⟩
          · obtain ⟨off', h'⟩ := i1 id off h
            rw [h'] at g1
            simp only [Q75, Option.some.injEq] at g1
            exact ⟨off', by rw [← (Prod.mk.inj g2).1, ← g1]⟩
          · obtain ⟨z', h'⟩ := i2 z h
            rw [h'] at g1
            simp only [Q75, Option.some.injEq] at g1
            exact ⟨z', by rw [← (Prod.mk.inj g2).1, ← g1]⟩
        · rename_i o y wr hc
          have hs := (t.step _ _ hc).2.2
          simp only [StepOk, evOp] at hs
          obtain ⟨v, g1, g2⟩ := Option.map_eq_some_iff.1 hs
          obtain ⟨i1, i2⟩ := ih _ _ _ (by omega) hb
          refine ⟨fun id off h => ?_, fun z h => ?_⟩
          · obtain ⟨off', h'⟩ := i1 id off h
            rw [h'] at g1
            simp only [Q74, Option.some.injEq] at g1
            exact ⟨_, by rw [← (Prod.mk.inj g2).1, ← g1]⟩
          · obtain ⟨z', h'⟩ := i2 z h
            rw [h'] at g1
            simp only [Q74, Option.some.injEq] at g1
            exact ⟨_, by rw [← (Prod.mk.inj g2).1, ← g1]⟩
        · cases hb
      · cases hb
    · cases hb
theorem Trace.late (t : Trace call cs vars0 [] h0 vars1 h1 V E H R) (hap : aps.all (apB vars0) = true) {e i : Nat} {c d : CO} (he : cs[e]? = some c) (hi : cs[i]? = some d) (hs : evOp call (V e) (E e) (H e) c.op = some (R e, H (e + 1))) (hx : lateOk aps cs e i c d = true) :
    (H e).length ≤ (H (e + 1)).length ∧ ∀ r, evOp call (V i) (E i) (H (e + 1)) d.op = some (r, H (e + 1)) ↔ evOp call (V i) (E i) (H e) d.op = some (r, H e) := by
  have hlen : e < cs.length := (List.getElem?_eq_some_iff.1 he).1
  have hlen' : i < cs.length := (List.getElem?_eq_some_iff.1 hi).1
  unfold lateOk at hx
  split at hx
  · rename_i ssz y sx hsop
    split at hx
    · rename_i a hba
      have two : ∀ {x : Opd} {b : Nat}, baseOf cs cs.length i x = some b → aps.contains (some a, b) = true →
          ∃ id off, getO (V e) (E e) y = .ptr id off ∧ ((∃ id' off', getO (V i) (E i) x = .ptr id' off' ∧ id ≠ id') ∨ ∃ z, getO (V i) (E i) x = .ip z) := by
        intro x b hbb hc
        have hapb := List.all_eq_true.1 hap _ (List.contains_iff_mem.1 hc)
        simp only [apB] at hapb
        split at hapb
        · rename_i i1 o1 j1 o2 e1 e2
          obtain ⟨q1, g1⟩ := (t.base _ _ _ _ (by omega) hba).1 _ _ e1
          obtain ⟨q2, g2⟩ := (t.base _ _ _ _ (by omega) hbb).1 _ _ e2
          exact ⟨i1, q1, g1, .inl ⟨j1, q2, g2, by simpa using hapb⟩⟩
        · rename_i i1 o1 z e1 e2
          obtain ⟨q1, g1⟩ := (t.base _ _ _ _ (by omega) hba).1 _ _ e1
          obtain ⟨q2, g2⟩ := (t.base _ _ _ _ (by omega) hbb).2 _ e2
          exact ⟨i1, q1, g1, .inr ⟨q2, g2⟩⟩
        · cases hapb
      rw [hsop] at hs
      split at hx
      · rename_i ag sz x hop
        split at hx
        · rename_i b hbb
          obtain ⟨id, off, g1, g2⟩ := two hbb hx
          obtain ⟨o, ho⟩ := ev_store g1 hs
          have hld : Q76 (H (e + 1)) ag sz (getO (V i) (E i) x) = Q76 (H e) ag sz (getO (V i) (E i) x) := by
            rcases g2 with ⟨id', off', g2, hne⟩ | ⟨z, g2⟩
            · rw [g2]
              simp only [Q76, ho]
              rw [List.getElem?_set_ne hne]
            · rw [g2]; rfl
          refine ⟨by rw [ho]; simp, fun r => ?_⟩
          rw [hop]
          simp only [evOp, hld, Option.map_eq_some_iff, Prod.mk.injEq, and_true]
        · cases hx
      · rename_i off0 x hop
        split at hx
        · rename_i b hbb
          obtain ⟨id, off, g1, g2⟩ := two hbb hx
          obtain ⟨o, ho⟩ := ev_store g1 hs
          have hld : Q74 (H (e + 1)) off0 (getO (V i) (E i) x) = Q74 (H e) off0 (getO (V i) (E i) x) := by
            rcases g2 with ⟨id', off', g2, hne⟩ | ⟨z, g2⟩ <;> rw [g2] <;> rfl
          refine ⟨by rw [ho]; simp, fun r => ?_⟩
          rw [hop]
          simp only [evOp, hld, Option.map_eq_some_iff, Prod.mk.injEq, and_true]
        · cases hx
      · rename_i x hop
        split at hx
        · rename_i b hbb
          obtain ⟨id, off, g1, g2⟩ := two hbb hx
          obtain ⟨o, ho⟩ := ev_store g1 hs
          have hld : Q75 (H (e + 1)) (getO (V i) (E i) x) = Q75 (H e) (getO (V i) (E i) x) := by
            rcases g2 with ⟨id', off', g2, hne⟩ | ⟨z, g2⟩ <;> rw [g2] <;> rfl
          refine ⟨by rw [ho]; simp, fun r => ?_⟩
          rw [hop]
          simp only [evOp, hld, Option.map_eq_some_iff, Prod.mk.injEq, and_true]
        · cases hx
      · cases hx
    · cases hx
  · cases hx
theorem Trace.change {pu : FuncId → Bool} (hpu : ∀ f, pu f = true → ∀ args h r h', call f args h = some (r, h') → ∃ X, h' = h ++ X) (t : Trace call cs vars0 [] h0 vars1 h1 V E H R) (hap : aps.all (apB vars0) = true) {e i : Nat} {c d : CO} (he : cs[e]? = some c) (hi : cs[i]? = some d) (hR : d.op.isR = true) (hx : exOk pu aps cs e i c d = true) :
    (H e).length ≤ (H (e + 1)).length ∧
    (∀ n r, n ≤ (H e).length → (∀ x ∈ d.op.args, (getO (V i) (E i) x).lt n = true) → evOp call (V i) (E i) (H (e + 1)) d.op = some (r, H (e + 1)) → evOp call (V i) (E i) (H e) d.op = some (r, H e)) ∧
    (∀ r, evOp call (V i) (E i) (H e) d.op = some (r, H e) → evOp call (V i) (E i) (H (e + 1)) d.op = some (r, H (e + 1))) := by
  have push : (∃ X, H (e + 1) = H e ++ X) → _ := fun ⟨X, hX⟩ =>
    show (H e).length ≤ (H (e + 1)).length ∧
    (∀ n r, n ≤ (H e).length → (∀ x ∈ d.op.args, (getO (V i) (E i) x).lt n = true) → evOp call (V i) (E i) (H (e + 1)) d.op = some (r, H (e + 1)) → evOp call (V i) (E i) (H e) d.op = some (r, H e)) ∧
    (∀ r, evOp call (V i) (E i) (H e) d.op = some (r, H e) → evOp call (V i) (E i) (H (e + 1)) d.op = some (r, H (e + 1))) from
    ⟨by rw [hX]; simp, fun n r hn hlt hev => ev_same (n := n) (fun id hid => by rw [hX, List.getElem?_append_left (by omega)]) hR hlt hev,
      fun r hev => ev_more (fun id o ho => by
        rw [hX, List.getElem?_append_left (List.getElem?_eq_some_iff.1 ho).1]; exact ho) hR hev⟩
  have hs := (t.step e c he).2.2
  have hlen : e < cs.length := (List.getElem?_eq_some_iff.1 he).1
  have hlen' : i < cs.length := (List.getElem?_eq_some_iff.1 hi).1
  have cases2 : H (e + 1) = H e ∨ evOp call (V e) (E e) (H e) c.op = some (R e, H (e + 1)) := by
    unfold StepOk at hs
    split at hs
    · exact .inr hs
    · rcases hs with ⟨_, hs⟩ | ⟨_, _, hs⟩
      · exact .inr hs
      · exact .inl hs
  rcases cases2 with hs | hs
  · exact push ⟨[], by simp [hs]⟩
  unfold exOk at hx
  simp only [Bool.or_eq_true] at hx
  rcases hx with ((hx | hx) | hx) | hx
  · rcases hx with hx | hx
    · exact push (ev_push hx hs)
    · unfold callPush at hx
      split at hx
      · rename_i f args hop
        rw [hop] at hs
        exact push (hpu f hx _ _ _ _ hs)
      · cases hx
  · simp only [Bool.and_eq_true] at hx
    rcases ev_mapw hx.1 hs with h2 | ⟨id, kk, n, es, kk', n', es', hid, h2⟩
    · exact push ⟨[], by simp [h2]⟩
    · rw [h2]
      exact ⟨by simp, fun m r _ _ => (ev_nomap hx.2 hid r).1, fun r => (ev_nomap hx.2 hid r).2⟩
  · obtain ⟨g1, g2⟩ := t.late hap he hi hs hx
    exact ⟨g1, fun n r _ _ => (g2 r).1, fun r => (g2 r).2⟩
  split at hx
  · rename_i ag sz b hop
    simp only [Bool.and_eq_true] at hx
    obtain ⟨hb, hx⟩ := hx
    have notw : ∀ {k : Nat}, cs.all (fun c => c.wr != some k) = true → ∀ p, p ≤ cs.length → (V p).getD k .junk = vars0.getD k .junk := by
      intro k hk p hp
      refine t.old p hp (fun j c hj hc => ?_)
      simpa using List.all_eq_true.1 hk c (List.mem_of_getElem? hc)
    have hvb : getO (V i) (E i) (.var b) = vars0.getD b .junk := notw hb i (by omega)
    split at hx
    · -- a store
      rename_i ssz sa sx hsop
      simp only [Bool.and_eq_true] at hx
      obtain ⟨ha, hx⟩ := hx
      have hva : getO (V e) (E e) (.var sa) = vars0.getD sa .junk := notw ha e (by omega)
      have hapb := List.all_eq_true.1 hap _ (List.contains_iff_mem.1 hx)
      rw [hsop] at hs
      simp only [apB] at hapb
      have hpt : ∃ id off, vars0.getD sa .junk = .ptr id off ∧ (∀ id' off', vars0.getD b .junk = .ptr id' off' → id ≠ id') ∧ ((∃ id' off', vars0.getD b .junk = .ptr id' off') ∨ ∃ z, vars0.getD b .junk = .ip z) := by
        split at hapb
        · rename_i i1 o1 j1 o2 e1 e2
          refine ⟨i1, o1, e1, fun id' off' e3 => ?_, .inl ⟨j1, o2, e2⟩⟩
          rw [e2] at e3; cases e3
          simpa using hapb
        · rename_i i1 o1 z e1 e2
          refine ⟨i1, o1, e1, fun id' off' e3 => ?_, .inr ⟨z, e2⟩⟩
          rw [e2] at e3; cases e3
        · cases hapb
      obtain ⟨id, off, e1, e2, e3⟩ := hpt
      obtain ⟨o, ho⟩ := ev_store (hva.trans e1) hs
      have hld : Q76 (H (e + 1)) ag sz (vars0.getD b .junk) = Q76 (H e) ag sz (vars0.getD b .junk) := by
        rcases e3 with ⟨id', off', e3⟩ | ⟨z, e3⟩
        · rw [e3]
          simp only [Q76, ho]
          rw [List.getElem?_set_ne (e2 _ _ e3)]
        · rw [e3]; rfl
      refine ⟨by rw [ho]; simp, fun n r _ _ hev => ?_, fun r hev => ?_⟩
      · rw [hop] at hev ⊢
        simp only [evOp, hvb] at hev ⊢
        rw [hld] at hev
        obtain ⟨y, q1, q2⟩ := Option.map_eq_some_iff.1 hev
        cases q2; rw [q1]; rfl
      · rw [hop] at hev ⊢
        simp only [evOp, hvb] at hev ⊢
        rw [hld]
        obtain ⟨y, q1, q2⟩ := Option.map_eq_some_iff.1 hev
        cases q2; rw [q1]; rfl
    · -- an append
      rename_i asz ab as ax hsop
      have hapb := List.all_eq_true.1 hap _ (List.contains_iff_mem.1 hx)
      rw [hsop] at hs
      simp only [apB] at hapb
      rcases ev_append hs with hp | ⟨id, q0, q1, q2, q3, q4, q9, q5, q6, q7, q8, hid, ho⟩
      · exact push hp
      have hlt := (List.getElem?_eq_some_iff.1 hid).1
      split at hapb
      · rename_i id' off' e3
        refine ⟨by rw [ho]; simp, fun n r _ _ hev => ?_, fun r hev => ?_⟩
        · rw [hop] at hev ⊢
          simp only [evOp, hvb] at hev ⊢
          obtain ⟨y, g1, g2⟩ := Option.map_eq_some_iff.1 hev
          cases g2
          rw [e3] at g1 ⊢
          have hne : id ≠ id' := by
            rintro rfl
            simp only [Q76, ho, List.getElem?_set_self hlt] at g1
            cases g1
          have : Q76 (H e) ag sz (.ptr id' off') = some r := by
            rw [← g1]; simp only [Q76, ho, List.getElem?_set_ne hne]
          rw [this]; rfl
        · rw [hop] at hev ⊢
          simp only [evOp, hvb] at hev ⊢
          obtain ⟨y, g1, g2⟩ := Option.map_eq_some_iff.1 hev
          cases g2
          rw [e3] at g1 ⊢
          have hne : id ≠ id' := by
            rintro rfl
            simp only [Q76, hid] at g1
            cases g1
          have : Q76 (H (e + 1)) ag sz (.ptr id' off') = some r := by
            rw [← g1]; simp only [Q76, ho, List.getElem?_set_ne hne]
          rw [this]; rfl
      · rename_i z e3
        have hld : Q76 (H (e + 1)) ag sz (vars0.getD b .junk) = Q76 (H e) ag sz (vars0.getD b .junk) := by rw [e3]; rfl
        refine ⟨by rw [ho]; simp, fun n r _ _ hev => ?_, fun r hev => ?_⟩
        · rw [hop] at hev ⊢
          simp only [evOp, hvb] at hev ⊢
          rw [hld] at hev
          obtain ⟨y, q1, q2⟩ := Option.map_eq_some_iff.1 hev
          cases q2; rw [q1]; rfl
        · rw [hop] at hev ⊢
          simp only [evOp, hvb] at hev ⊢
          rw [hld]
          obtain ⟨y, q1, q2⟩ := Option.map_eq_some_iff.1 hev
          cases q2; rw [q1]; rfl
      · cases hapb
    · cases hx
  · cases hx
end
end Go.AE
end

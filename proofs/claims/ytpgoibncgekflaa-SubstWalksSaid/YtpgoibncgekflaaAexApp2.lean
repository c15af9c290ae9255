/- AE, part 12: append, all its ways. -/
import Derived.Test.YtpgoibncgekflaaAexApp
set_option linter.unusedVariables false
set_option linter.unusedSimpArgs false
namespace Go.AE
open Go Go.RowKit

section
variable {P : Program} {B : Nat} {w0 w w' : World} {I I' : Cells} {σ σ' : List Loc} {h : List AO}

/-- A row of our own that moves into a new block. -/
theorem gives_two_moved (hI : Inv B w0 I σ w h) {sz id ver k0 : Nat} {l0 : List AV} {L : Loc} (hh : h[id]? = some (.row sz ver l0 k0)) (hL : σ[id]? = some L)
    {l1 l2 : List AV} {olds news : List Value} (h1 : ElemsRep I w sz l1 olds.toArray) (h2 : ElemsRep I w sz l2 news.toArray) {z : Value} (hz : z.cells.size = sz)
    {cap : Nat} (hcap : l1.length + l2.length ≤ cap) {k : Nat} (hk : k ≤ l1.length) (e : TypeId) {s : Sem Next}
    (hs : s.run P w = .ok (.value (.slice (some ⟨w.heap.size, 0, none⟩) (l1.length + l2.length) cap)) (w.drew.alloc (.cells (olds.toArray ++ news.toArray ++ Builtin.zeroCells z.cells (cap - (l1.length + l2.length))) e))) :
    Gives P B w0 I σ w s (.own sz id (ver + 1) 0 (l1.length + l2.length)) (h.set id (.row sz (ver + 1) (l1 ++ l2) k)) := by
  obtain ⟨hf, hver, hR⟩ := hI.obj id _ L hh hL
  obtain ⟨hI1, st1⟩ := hI.drew
  have s1 := h1.size
  have s2 := h2.size
  simp only [List.size_toArray] at s1 s2
  generalize harr : olds.toArray ++ news.toArray ++ Builtin.zeroCells z.cells (cap - (l1.length + l2.length)) = arr at hs
  have hasz : cap * sz = arr.size := by
    rw [← harr]
    simp only [Array.size_append, List.size_toArray, size_zeroCells, hz, s1, s2, ← Nat.add_mul]
    congr 1; omega
  have hkc : k * sz ≤ cap * sz := Nat.mul_le_mul_right _ (by omega)
  have lt := fun {b x : Nat} (hb : I b x) => hI1.imm_lt hb
  have he : Ext I w.drew (fun b x => I b x ∨ (b = w.heap.size ∧ x < k * sz)) (w.drew.alloc (.cells arr e)) := ⟨fun b x hb => .inl hb, fun b x hb => cell_old _ (lt hb)⟩
  obtain ⟨t1, t2, t3⟩ := ((h1.mono st1.ext).mono he).two ((h2.mono st1.ext).mono he) (Builtin.zeroCells z.cells (cap - (l1.length + l2.length)))
  rw [harr] at t2 t3
  have hinv := hI1.upd (id := id) (L' := ⟨false, true, w.heap.size, 0, cap, ver + 1⟩) (o' := .row sz (ver + 1) (l1 ++ l2) k) hL (below_new hI1.base _) he
    (by
      rintro b x (hb | ⟨rfl, hx⟩)
      · obtain ⟨v, hv⟩ := hI1.imm b x hb
        exact ⟨v, by rw [cell_old _ (lt hb)]; exact hv⟩
      · have : x < arr.size := by omega
        exact ⟨arr[x], by unfold World.cell?; rw [show w.heap.size = w.drew.heap.size from rfl, heap_new]; simp [this]⟩)
    (fun j Lj hj hLj hhj => ⟨Below.heap_alloc w.drew _ _ (hI1.mine j Lj hLj hhj).2, fun x hx => by
      rcases hx with hx | ⟨e, _⟩
      · exact hx
      · have := (hI1.mine j Lj hLj hhj).2
        have e2 : w.drew.heap.size = w.heap.size := rfl
        omega⟩)
    (.inr ⟨hf, rfl, by rw [hver]; exact Nat.lt_succ_self _⟩)
    ⟨rfl, rfl, by simp; omega, t1, .inr ⟨rfl, arr, e, by
        have := heap_new (w := w.drew) (.cells arr e)
        exact this, by simp [hasz], by simpa using hcap, (by simpa using t2), (by simpa using t3), (fun j i hj hi => .inr ⟨rfl, by
          have := mul_succ_le (sz := sz) hj
          simp only [Nat.zero_add]; omega⟩), (fun x hx hi => by
          rcases hi with hi | ⟨_, hi⟩
          · have := lt hi
            have e2 : w.drew.heap.size = w.heap.size := rfl
            simp only at this; omega
          · simp only [Nat.zero_add] at hx; omega)⟩⟩
    (fun _ => ⟨hI1.base, by
      have := size_new (w := w.drew) (.cells arr e)
      rw [this]; exact Nat.lt_succ_self _, fun j Lj hj hLj hhj => by
      have := (hI1.mine j Lj hLj hhj).2
      have e2 : w.drew.heap.size = w.heap.size := rfl
      simp only; omega⟩)
  have hlt := (List.getElem?_eq_some_iff.1 hL).1
  refine ⟨_, _, _, _, .inl hs, hinv, ⟨st1.ext.trans he, Later.set hL hf rfl (by rw [hver]; exact Nat.lt_succ_self _), ?_, by
      have := size_new (w := w.drew) (.cells arr e)
      rw [this]; exact Nat.le_succ _⟩, ?_⟩
  · rintro b x (hb | ⟨rfl, _⟩)
    · exact .inl hb
    · exact .inr hI.base
  · exact .own _ sz id (ver + 1) 0 _ _ rfl ⟨false, true, w.heap.size, 0, cap, ver + 1⟩ (by rw [List.getElem?_set_self hlt]) (Nat.le_refl _) (fun _ => .inl ⟨rfl, by simpa using hcap, by simp⟩)

/-- A row of our own that has room. -/
theorem gives_append_room (hI : Inv B w0 I σ w h) {t ty e : TypeId} {i : TI} (hu : P.underlying t = some (.slice e)) (ht : TIok P e i)
    {id ver off n k : Nat} {l : List AV} {L : Loc} (hh : h[id]? = some (.row i.size ver l k)) (hL : σ[id]? = some L) (hm : off + n ≤ l.length) (hk : k ≤ off + n) (hhas : L.has = true) (hLc : off + n ≤ L.cap)
    {ys : List AV} {news : List Value} (hys : ElemsRep I w i.size ys news.toArray) {a : Addr} {c : Nat} (hnews : ∀ (j : Nat) (u : Value), news[j]? = some u → w.cell? (a.add j) = some u)
    (hroom : n + ys.length ≤ L.cap - off) :
    Gives P B w0 I σ w (do pure (.value (← Builtin.append_ #[t, t] ty #[.slice (some ⟨L.b, L.o + off * i.size, none⟩) n (L.cap - off), .slice (some a) ys.length c])))
      (.own i.size id (ver + 1) 0 (n + ys.length)) (h.set id (.row i.size (ver + 1) ((l.drop off).take n ++ ys) (k - off))) := by
  obtain ⟨hf, hver, hR⟩ := hI.obj id _ L hh hL
  rcases hR.lies with ⟨_, h0, _⟩ | ⟨_, arr, et, hb, hasz, hcap, h1, hr, himm, hno⟩
  · rw [hhas] at h0; cases h0
  obtain ⟨inf, q1, q2, q3, q4⟩ := ht.info
  have hns := hys.size
  simp only [List.size_toArray] at hns
  have hBb := hI.mine id L hL hhas
  obtain ⟨o2, ho2⟩ : ∃ o2, o2 = L.o + (off + n) * i.size := ⟨_, rfl⟩
  have e1 : L.o + off * i.size + n * i.size = o2 := by rw [ho2, Nat.add_mul]; omega
  have e2 : (off + n) * i.size + ys.length * i.size ≤ L.cap * i.size := by rw [← Nat.add_mul]; exact Nat.mul_le_mul_right _ (by omega)
  have hfit : o2 + news.length ≤ arr.size := by omega
  have hrun := run_append_room_cells (P := P) w t ty e inf hu q1 L.b (L.o + off * i.size) n (L.cap - off) a ys.length c news (by rw [q2]; exact hns) hnews hys.ones hroom
    (fun j hj => by
      rw [q2, e1]
      have : o2 + j < arr.size := by omega
      simp [World.cell?, hb, this])
    (fun j hj => by simp [World.frozen?, hb])
  rw [q2, e1] at hrun
  obtain ⟨g1, g2, g3, g4, g5, g6⟩ := heap_setCells L.b o2 news 0 w arr et hb
  simp only [Nat.add_zero] at g1 g2 g3 g4 g5 g6
  have f := foldl_put news.toArray o2 arr (by simpa using hfit)
  rw [← Array.foldl_toList, Array.toList_zipIdx] at f
  simp only [List.toList_toArray, List.size_toArray] at f
  generalize hA : (news.zipIdx.foldl (fun (cs : Array Value) (p : Value × Nat) => cs.setIfInBounds (o2 + p.2) p.1) arr) = A at f g1
  obtain ⟨f1, f2⟩ := f
  have hkk : k * i.size ≤ (off + n) * i.size := Nat.mul_le_mul_right _ hk
  have he : Ext I w I (w.setCells L.b o2 news) := by
    refine ⟨fun _ _ hx => hx, fun b' x hx => ?_⟩
    by_cases hne : b' = L.b
    · subst hne
      have hlt : x < L.o + k * i.size := by
        rcases Nat.lt_or_ge x (L.o + k * i.size) with h2 | h2
        · exact h2
        · exact absurd hx (hno x h2)
      have f3 := f2 x
      rw [if_neg (by omega)] at f3
      unfold World.cell?
      simp only [g1, hb]
      rw [Array.getD_eq_getD_getElem?, Array.getD_eq_getD_getElem?] at f3
      have : x < arr.size := by omega
      simp only [Option.isSome_none, Bool.false_eq_true, if_false]
      rw [Array.getElem?_eq_getElem (by rw [f1]; exact this), Array.getElem?_eq_getElem this] at f3 ⊢
      simpa using f3
    · exact World.cell?_of_block (a := ⟨b', x, none⟩) (g2 b' hne)
  have hlen := take_drop_len (l := l) (off := off) (n := n) hm
  have get : ∀ (j : Nat) (el : AV), ((l.drop off).take n ++ ys)[j]? = some el → (j < n ∧ l[off + j]? = some el) ∨ (n ≤ j ∧ ys[j - n]? = some el) := by
    intro j el hj
    by_cases hlt : j < n
    · rw [List.getElem?_append_left (by omega)] at hj; exact .inl ⟨hlt, (drop_take_get l off n j el hj).1⟩
    · rw [List.getElem?_append_right (by omega), hlen] at hj; exact .inr ⟨by omega, hj⟩
  have cells : ∀ (j : Nat) (el : AV), ((l.drop off).take n ++ ys)[j]? = some el → el.cells.length = i.size := by
    intro j el hj
    rcases get j el hj with ⟨_, hj⟩ | ⟨_, hj⟩
    · exact hR.hsz _ el hj
    · exact hys.cells _ el hj
  have val : ∀ (j : Nat) (el : AV) (q : Nat) (c : AV), ((l.drop off).take n ++ ys)[j]? = some el → el.cells[q]? = some c →
      (l[off + j]? = some el ∧ A.getD (L.o + off * i.size + (j * i.size + q)) undef = arr.getD (L.o + ((off + j) * i.size + q)) undef) ∨
      (ys[j - n]? = some el ∧ A.getD (L.o + off * i.size + (j * i.size + q)) undef = news.toArray.getD ((j - n) * i.size + q) undef) := by
    intro j el q c hj hc
    have hq := (List.getElem?_eq_some_iff.1 hc).1
    rw [cells j el hj] at hq
    rcases get j el hj with ⟨hlt, hj⟩ | ⟨hge, hj⟩
    · refine .inl ⟨hj, ?_⟩
      have := mul_succ_le (sz := i.size) (show off + j < off + n by omega)
      rw [f2, if_neg (by rw [Nat.add_mul] at this; omega)]
      congr 1; rw [Nat.add_mul]; omega
    · refine .inr ⟨hj, ?_⟩
      have hj' := (List.getElem?_eq_some_iff.1 hj).1
      have m1 := mul_succ_le (sz := i.size) hj'
      have m2 : (off + n) * i.size + (j - n) * i.size = off * i.size + j * i.size := by rw [← Nat.add_mul, ← Nat.add_mul]; congr 1; omega
      rw [f2, if_pos (by omega)]
      rw [Array.getD_eq_getD_getElem?, List.getElem?_toArray, Array.getD_eq_getD_getElem?, List.getElem?_toArray]
      congr 2; omega
  have hinv := hI.upd (id := id) (L' := ⟨false, true, L.b, L.o + off * i.size, L.cap - off, ver + 1⟩) (o' := .row i.size (ver + 1) ((l.drop off).take n ++ ys) (k - off)) hL
    ⟨g4, g5, g6, Nat.le_of_eq g3.symm, fun j hj => g2 j (by omega)⟩ he (fun b x hx => by obtain ⟨v, hv⟩ := hI.imm b x hx; exact ⟨v, by rw [he.cell b x hx]; exact hv⟩)
    (fun j Lj hj hLj hhj => ⟨g2 _ (hI.dist j id Lj L hLj hL hj hhj hhas), fun x hx => hx⟩) (.inr ⟨hf, rfl, by rw [hver]; exact Nat.lt_succ_self _⟩)
    ⟨rfl, rfl, by simp only [List.length_append, hlen]; omega, cells, .inr ⟨rfl, A, et, g1, by
        simp only
        rw [f1]
        have : off * i.size + (L.cap - off) * i.size = L.cap * i.size := by rw [← Nat.add_mul]; congr 1; omega
        omega, by simp only [List.length_append, hlen]; exact hroom,
      (fun j el q c hj hc => by
        simp only
        rcases val j el q c hj hc with ⟨v1, v2⟩ | ⟨v1, v2⟩
        · rw [v2]; exact h1 _ el q c v1 hc
        · rw [v2]; exact hys.one _ el q c v1 hc),
      (fun j el q c hj hc => by
        simp only
        rcases val j el q c hj hc with ⟨v1, v2⟩ | ⟨v1, v2⟩
        · rw [v2]; exact (hr _ el q c v1 hc).mono he (Later.nil _)
        · rw [v2]; exact (hys.rep _ el q c v1 hc).mono he (Later.nil _)),
      (fun j q hj hq => by
        have := himm (off + j) q (by omega) hq
        simp only
        rwa [show L.o + off * i.size + (j * i.size + q) = L.o + ((off + j) * i.size + q) by rw [Nat.add_mul]; omega]),
      (fun x hx => hno x (by
        simp only at hx
        rcases Nat.le_total off k with h3 | h3
        · have : off * i.size + (k - off) * i.size = k * i.size := by rw [← Nat.add_mul]; congr 1; omega
          omega
        · have : k * i.size ≤ off * i.size := Nat.mul_le_mul_right _ h3
          omega))⟩⟩
    (fun _ => ⟨hBb.1, by rw [g3]; exact hBb.2, fun j Lj hj hLj hhj => hI.dist j id Lj L hLj hL hj hhj hhas⟩)
  have hlt := (List.getElem?_eq_some_iff.1 hL).1
  refine ⟨.slice (some ⟨L.b, L.o + off * i.size, none⟩) (n + ys.length) (L.cap - off), _, _, _, .inl ?_, hinv, ⟨he, Later.set hL hf rfl (by rw [hver]; exact Nat.lt_succ_self _), fun b x hx => .inl hx, Nat.le_of_eq g3.symm⟩, ?_⟩
  · simp only [Sem.run_bind, hrun, Result.andThen_ok, Sem.run_pure]
  · exact .own _ _ id (ver + 1) 0 _ _ rfl ⟨false, true, L.b, L.o + off * i.size, L.cap - off, ver + 1⟩ (by rw [List.getElem?_set_self hlt]) (Nat.le_refl _) (fun _ => .inl ⟨rfl, by simpa using hroom, by simp⟩)

theorem fits_iff {n bytes : Nat} (h : fits n bytes = true) : n ≤ 140737488355328 ∧ n * bytes ≤ 140737488355328 := by
  unfold fits room at h
  exact of_decide_eq_true h

theorem gives_append (hI : Inv B w0 I σ w h) {t ty e : TypeId} {i : TI} (hu : P.underlying t = some (.slice e)) (ht : TIok P e i) (hzs : i.zero.cells.size = i.size)
    {s x : AV} {vs vx : Value} (hs : Rep I w σ s vs) (hx : Rep I w σ x vx) {r : AV} {h' : List AO} (he : evAppend h i.size i.bytes s x = some (r, h')) :
    Gives P B w0 I σ w (do pure (.value (← Builtin.append_ #[t, t] ty #[vs, vx]))) r h' := by
  obtain ⟨inf, q1, q2, q3, q4⟩ := ht.info
  unfold evAppend at he
  split at he
  · cases he
  rename_i ys hys
  obtain ⟨ax, cx, rfl, hcx, haxn, news, hn1, hn2⟩ := hx.elems hI hys
  have hns := hn1.size
  simp only [List.size_toArray] at hns
  -- a slice in a new block
  have fresh : ∀ (l1 : List AV) (olds : List Value) (base : Option Addr) (cap : Nat), ElemsRep I w i.size l1 olds.toArray → (base = none → l1 = [] ∧ cap = 0) →
      (∀ ad, base = some ad → ∀ (j : Nat) (u : Value), olds[j]? = some u → w.cell? (ad.add j) = some u) → cap < l1.length + ys.length → fits (l1.length + ys.length) i.bytes = true → ys ≠ [] →
      ∃ cap', l1.length + ys.length ≤ cap' ∧ (do pure (.value (← Builtin.append_ #[t, t] ty #[.slice base l1.length cap, .slice ax ys.length cx])) : Sem Next).run P w =
        .ok (.value (.slice (some ⟨w.heap.size, 0, none⟩) (l1.length + ys.length) cap')) (w.drew.alloc (.cells (olds.toArray ++ news.toArray ++ Builtin.zeroCells i.zero.cells (cap' - (l1.length + ys.length))) e)) := by
    intro l1 olds base cap h1 hb hcells hgrow hfit hne
    obtain ⟨f1, f2⟩ := fits_iff hfit
    obtain ⟨ad, rfl⟩ : ∃ ad, ax = some ad := by
      cases ax with
      | none => exact absurd (haxn rfl) hne
      | some ad => exact ⟨ad, rfl⟩
    refine ⟨grownCap w (l1.length + ys.length) cap e, grownCap_ge _ _ _ _, ?_⟩
    cases base with
    | none =>
      obtain ⟨rfl, rfl⟩ := hb rfl
      have ho : olds = [] := by have := h1.size; simpa using this
      subst ho
      have hpos : 0 < ys.length := List.length_pos_iff.2 hne
      simp only [List.length_nil, Nat.zero_add] at f1 f2 ⊢
      have := run_append_nil (P := P) w t ty e inf i.zero hu q1 q4 ad ys.length cx news (by rw [q2]; exact hns) (hn2 ad rfl) hpos (by omega) (by rw [q3]; omega)
      simp only [Sem.run_bind, this, Result.andThen_ok, Sem.run_pure]
      simp
    | some bd =>
      have ho := h1.size
      simp only [List.size_toArray] at ho
      have := run_append_grow (P := P) w t ty e inf i.zero hu q1 q4 bd l1.length cap olds (by rw [q2]; exact ho) (hcells bd rfl) ad ys.length cx news (by rw [q2]; exact hns) (hn2 ad rfl) hgrow (by omega)
        (growslice_fits hgrow (by rw [q3]; exact f2))
      simp only [Sem.run_bind, this, Result.andThen_ok, Sem.run_pure]
  cases hs with
  | v x =>
    split at he <;> first | (cases he; done) | skip
    · rename_i heq
      cases heq
      split at he
      · rename_i h0
        cases he; subst h0
        refine Gives.same hI (v := .slice none 0 0) ?_ (.v _ _)
        have := run_append_zero (P := P) (w := w) (ty := ty) hu ht none 0 0 (Nat.le_refl _) ax cx
        simp only [Sem.run_bind, List.length_nil, this, Result.andThen_ok, Sem.run_pure]
      · rename_i hne
        split at he
        · rename_i hfit
          cases he
          obtain ⟨cap', g1, g2⟩ := fresh [] [] none 0 (ElemsRep.nil _) (fun _ => ⟨rfl, rfl⟩) (fun ad e => by cases e) (by have := List.length_pos_iff.2 hne; simpa using this) (by simpa using hfit) hne
          have := gives_two_new hI (ElemsRep.nil i.size) hn1 hzs g1 e g2
          simpa using this
        · cases he
    all_goals (rename_i heq; simp at heq)
  | slc _ sz' ex nn l a cap b o g ha hn hnil hcap hex hsz hc hi h1 hr =>
    simp only at he
    split at he
    · rename_i hsze; subst hsze
      split at he
      · rename_i h0
        cases he; subst h0
        refine Gives.same hI (v := .slice a l.length cap) ?_ (.slc σ i.size ex nn l a cap b o g ha hn hnil hcap hex hsz hc hi h1 hr)
        have := run_append_zero (P := P) (w := w) (ty := ty) hu ht a l.length cap hcap ax cx
        simp only [Sem.run_bind, List.length_nil, this, Result.andThen_ok, Sem.run_pure]
      · rename_i hne
        split at he
        · rename_i hexx
          split at he
          · rename_i hfit
            cases he
            obtain ⟨olds, o1, o2⟩ := elems_list (I := I) (w := w) b o g hsz hc h1 hr
            have hpos := List.length_pos_iff.2 hne
            obtain ⟨cap', g1, g2⟩ := fresh l olds a cap o1 (fun e => by
                have h0 := hnil e
                refine ⟨?_, h0⟩
                by_cases hl : l = []
                · exact hl
                · rw [ha hl] at e; cases e)
              (fun ad e j u hu => by
                have hl : l ≠ [] := by
                  rintro rfl
                  have := o1.size; simp at this
                  subst this; simp at hu
                rw [ha hl] at e; cases e
                rw [Addr.add_lit]; exact o2 j u hu)
              (by have := hex hexx; omega) hfit hne
            exact gives_two_new hI o1 hn1 hzs g1 e g2
          · cases he
        · cases he
    · cases he
  | own _ sz' id ver off n x h1x L hL hv hxo =>
    simp only at he
    split at he
    · rename_i hsze; subst hsze
      split at he
      · rename_i l k hra
        obtain ⟨hh, hm⟩ := rowAt_eq hra
        obtain ⟨hf, hver, hR⟩ := hI.obj id _ L hh hL
        have hlen := take_drop_len (l := l) (off := off) (n := n) hm
        split at he
        · rename_i hk
          split at he
          · rename_i h0
            cases he; subst h0
            rcases hxo hver.symm with ⟨hhas, hcap, rfl⟩ | ⟨rfl, a, rfl⟩
            · refine Gives.same hI (v := .slice (some ⟨L.b, L.o + off * i.size, none⟩) n (L.cap - off)) ?_ (.own σ i.size id ver off n _ rfl L hL hv hxo)
              have := run_append_zero (P := P) (w := w) (ty := ty) hu ht (some ⟨L.b, L.o + off * i.size, none⟩) n (L.cap - off) (by omega) ax cx
              simp only [Sem.run_bind, List.length_nil, this, Result.andThen_ok, Sem.run_pure]
            · refine Gives.same hI (v := .slice a 0 0) ?_ (.own σ i.size id ver off 0 _ rfl L hL hv hxo)
              have := run_append_zero (P := P) (w := w) (ty := ty) hu ht a 0 0 (by omega) ax cx
              simp only [Sem.run_bind, List.length_nil, this, Result.andThen_ok, Sem.run_pure]
          · rename_i hne
            split at he
            · rename_i hfit
              cases he
              have hpos := List.length_pos_iff.2 hne
              have hs0 : Rep I w σ (.own i.size id ver off n) vs := .own σ i.size id ver off n vs h1x L hL hv hxo
              obtain ⟨a0, c0, e0, hc0, hn0, olds, o1, o2⟩ := hs0.elems hI (sz := i.size) (ys := (l.drop off).take n) (by simp [elemsOf, hra])
              rcases hxo hver.symm with ⟨hhas, hcap, rfl⟩ | ⟨rfl, a, rfl⟩
              · by_cases hroom : n + ys.length ≤ L.cap - off
                · obtain ⟨ad, rfl⟩ : ∃ ad, ax = some ad := by
                    cases ax with
                    | none => exact absurd (haxn rfl) hne
                    | some ad => exact ⟨ad, rfl⟩
                  exact gives_append_room hI hu ht hh hL hm hk hhas hcap hn1 (hn2 ad rfl) hroom
                · simp only [Value.slice.injEq] at e0
                  obtain ⟨rfl, e1, rfl⟩ := e0
                  obtain ⟨cap', g1, g2⟩ := fresh _ olds (some ⟨L.b, L.o + off * i.size, none⟩) (L.cap - off) o1 (fun e => by cases e) o2 (by rw [hlen]; omega) (by rw [hlen]; exact hfit) hne
                  have := gives_two_moved hI hh hL o1 hn1 hzs g1 (k := k - off) (by rw [hlen]; omega) e g2
                  rw [hlen] at this
                  exact this
              · simp only [Value.slice.injEq] at e0
                obtain ⟨rfl, e1, rfl⟩ := e0
                have hnil : List.take 0 (List.drop off l) = [] := by simp
                rw [hnil] at o1
                obtain ⟨cap', g1, g2⟩ := fresh [] olds a 0 o1 (fun _ => ⟨rfl, rfl⟩) o2 (by simpa using hpos) (by simpa using hfit) hne
                have := gives_two_moved hI hh hL o1 hn1 hzs g1 (k := k - off) (by simp; omega) e g2
                simpa using this
            · cases he
        · cases he
      · cases he
    · cases he
  | _ => simp at he
end
end Go.AE

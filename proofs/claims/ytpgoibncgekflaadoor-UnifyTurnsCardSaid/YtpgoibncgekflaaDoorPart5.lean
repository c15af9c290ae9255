/- Texts of this claim, put together. -/
import Derived.Test.YtpgoibncgekflaaDoorPart2
import Derived.Test.YtpgoibncgekflaaDoorPart4
import Derived.Test.YtpgoibncgekflaaDoorTie
import Derived.Test.YtpgoibncgekflaaDoorCards
import Derived.Lib.LaidIn
import Derived.Lib.LaidU8T
import Derived.Handed
import Derived.SevenTiedAt
/-! SubstOrder holds at every input: the law returns true, and what was handed in reads as it did. -/
section
set_option linter.unusedVariables false
set_option linter.unusedSimpArgs false
namespace Go.AE.YtpgoibncgekflaaDoor
open Go Go.AE Go.Proofs.YtpgoibncgekflaaDoor

theorem t25 : T.ty 25 = some ti25 := rfl
theorem t23 : T.ty 23 = some ti23 := rfl
theorem t2 : T.ty 2 = some ti2 := rfl
theorem t3 : T.ty 3 = some ti3 := rfl
theorem t9 : T.ty 9 = some ti9 := rfl
theorem t22 : T.ty 22 = some ti22 := rfl
theorem t32 : T.ty 32 = some ti32 := rfl

theorem all2_of : ∀ {l : List AV}, (∀ el ∈ l, ∃ t, IsT el t) → ∃ ts, All2 l ts
  | [], _ => ⟨[], .nil⟩
  | a :: l, h => by
    obtain ⟨t, ht⟩ := h a (by simp)
    obtain ⟨ts, hts⟩ := all2_of (l := l) (fun el hm => h el (by simp [hm]))
    exact ⟨t :: ts, .cons a t l ts ht hts⟩
theorem allB_of : ∀ {l : List AV}, (∀ el ∈ l, ∃ v t, IsBd el v t) → ∃ ts, AllB l ts
  | [], _ => ⟨[], .nil⟩
  | a :: l, h => by
    obtain ⟨v, t, ht⟩ := h a (by simp)
    obtain ⟨ts, hts⟩ := allB_of (l := l) (fun el hm => h el (by simp [hm]))
    exact ⟨(v, t) :: ts, .cons a v t l ts ht hts⟩

def Good (t : TypeId) (cs : List AV) : Prop :=
  (t = 25 → ∃ x, IsT (.agg cs) x) ∧ (t = 23 → ∃ c l, cs = [c] ∧ IsL c l) ∧ (t = 2 → ∃ n, cs = [.v (.int .i64 n)]) ∧ (t = 3 → ∃ n, cs = [.v (.int .i64 n)]) ∧ (t = 9 → ∃ s, cs = [.v (.string s)]) ∧
  (t = 32 → ∃ v x, IsBd (.agg cs) v x) ∧ (t = 22 → ∃ c l, cs = [c] ∧ IsB c l)

theorem wt_good : ∀ {t : TypeId} {cs : List AV}, WT T t cs → Good t cs := by
  intro t cs h
  induction h with
  | bool t i b ht hd =>
    refine ⟨?_, ?_, ?_, ?_, ?_, ?_, ?_⟩ <;> (rintro rfl; first | (rw [t25] at ht; cases ht; cases hd) | (rw [t23] at ht; cases ht; cases hd) | (rw [t2] at ht; cases ht; cases hd) | (rw [t3] at ht; cases ht; cases hd) | (rw [t9] at ht; cases ht; cases hd) | (rw [t32] at ht; cases ht; cases hd) | (rw [t22] at ht; cases ht; cases hd))
  | int t i k n ht hd hw =>
    refine ⟨?_, ?_, ?_, ?_, ?_, ?_, ?_⟩ <;> (rintro rfl; first | (rw [t25] at ht; cases ht; cases hd; done) | (rw [t23] at ht; cases ht; cases hd; done) | (rw [t9] at ht; cases ht; cases hd; done) | (rw [t32] at ht; cases ht; cases hd; done) | (rw [t22] at ht; cases ht; cases hd; done) | (rw [t2] at ht; cases ht; cases hd; exact ⟨n, rfl⟩) | (rw [t3] at ht; cases ht; cases hd; exact ⟨n, rfl⟩))
  | str t i s ht hd hs =>
    refine ⟨?_, ?_, ?_, ?_, ?_, ?_, ?_⟩ <;> (rintro rfl; first | (rw [t25] at ht; cases ht; cases hd; done) | (rw [t23] at ht; cases ht; cases hd; done) | (rw [t2] at ht; cases ht; cases hd; done) | (rw [t3] at ht; cases ht; cases hd; done) | (rw [t32] at ht; cases ht; cases hd; done) | (rw [t22] at ht; cases ht; cases hd; done) | (rw [t9] at ht; cases ht; cases hd; exact ⟨s, rfl⟩))
  | nil t i e ht hd =>
    refine ⟨?_, ?_, ?_, ?_, ?_, ?_, ?_⟩ <;> (rintro rfl; first | (rw [t25] at ht; cases ht; cases hd; done) | (rw [t9] at ht; cases ht; cases hd; done) | (rw [t2] at ht; cases ht; cases hd; done) | (rw [t3] at ht; cases ht; cases hd; done) | (rw [t32] at ht; cases ht; cases hd; done) | exact ⟨_, [], rfl, .nil⟩)
  | slc t i e j l ht hd he hl hel has ih =>
    refine ⟨?_, ?_, ?_, ?_, ?_, ?_, ?_⟩
    · rintro rfl; rw [t25] at ht; cases ht; cases hd
    · rintro rfl
      rw [t23] at ht; cases ht; cases hd
      rw [t25] at he; cases he
      obtain ⟨ts, hts⟩ := all2_of (l := l) (fun el hm => by
        obtain ⟨x, hx⟩ := (ih el hm).1 rfl
        have : asEl true el.cells = some el := has el hm
        simp only [asEl, if_true, Option.some.injEq] at this
        rw [this] at hx
        exact ⟨x, hx⟩)
      exact ⟨_, ts, rfl, .slc _ _ _ _ hts hl⟩
    · rintro rfl; rw [t2] at ht; cases ht; cases hd
    · rintro rfl; rw [t3] at ht; cases ht; cases hd
    · rintro rfl; rw [t9] at ht; cases ht; cases hd
    · rintro rfl; rw [t32] at ht; cases ht; cases hd
    · rintro rfl
      rw [t22] at ht; cases ht; cases hd
      rw [t32] at he; cases he
      obtain ⟨ts, hts⟩ := allB_of (l := l) (fun el hm => by
        obtain ⟨v, x, hx⟩ := (ih el hm).2.2.2.2.2.1 rfl
        have : asEl true el.cells = some el := has el hm
        simp only [asEl, if_true, Option.some.injEq] at this
        rw [this] at hx
        exact ⟨v, x, hx⟩)
      exact ⟨_, ts, rfl, .slc _ _ _ _ hts hl⟩
  | struct t i fs pts ht hd hlen hf ih =>
    refine ⟨?_, ?_, ?_, ?_, ?_, ?_, ?_⟩
    · rintro rfl
      rw [t25] at ht; cases ht; cases hd
      match pts, hlen, ih with
      | [a, b, c, d], _, ih =>
        obtain ⟨k, rfl⟩ := (ih 0 _ a rfl rfl).2.2.2.1 rfl
        obtain ⟨s, rfl⟩ := (ih 1 _ b rfl rfl).2.2.2.2.1 rfl
        obtain ⟨n, rfl⟩ := (ih 2 _ c rfl rfl).2.2.1 rfl
        obtain ⟨x, l, rfl, hx⟩ := (ih 3 _ d rfl rfl).2.1 rfl
        exact ⟨_, .mk k s n x l hx⟩
    · rintro rfl; rw [t23] at ht; cases ht; cases hd
    · rintro rfl; rw [t2] at ht; cases ht; cases hd
    · rintro rfl; rw [t3] at ht; cases ht; cases hd
    · rintro rfl; rw [t9] at ht; cases ht; cases hd
    · rintro rfl
      rw [t32] at ht; cases ht; cases hd
      match pts, hlen, ih with
      | [a, b], _, ih =>
        obtain ⟨v, rfl⟩ := (ih 0 _ a rfl rfl).2.2.1 rfl
        obtain ⟨x, hx⟩ := (ih 1 _ b rfl rfl).1 rfl
        refine ⟨v, x, ?_⟩
        have : ([[AV.v (.int .i64 v)], b] : List (List AV)).flatten = .v (.int .i64 v) :: b := by simp
        rw [this]
        exact .mk v b x hx
    · rintro rfl; rw [t22] at ht; cases ht; cases hd

theorem one_cell {a c : AV} (h : asEl false a.cells = some a) (hc : a.cells = [c]) : a = c := by
  rw [hc] at h
  simpa [asEl] using h.symm
end Go.AE.YtpgoibncgekflaaDoor
end

/-! What the laws of Unify share; a term with itself. -/
section
set_option linter.unusedVariables false
set_option linter.unusedSimpArgs false
namespace Go.AE.YtpgoibncgekflaaDoor
open Go Go.AE Go.Proofs.YtpgoibncgekflaaDoor

theorem wt_nn {cs : List AV} (h : WT T 22 cs) : ∃ c l, cs = [c] ∧ IsN c l := by
  obtain ⟨c, l, h0, hb⟩ := (wt_good h).2.2.2.2.2.2 rfl
  refine ⟨c, l, h0, hb, ?_⟩
  have t22' := t22
  generalize (22 : TypeId) = t at h t22'
  cases h with
  | bool i b ht hd => cases h0; trivial
  | int i k n ht hd hw => cases h0; trivial
  | str i s ht hd hs => cases h0; trivial
  | nil i e ht hd => cases h0; trivial
  | slc i e j l ht hd he hl hel has => cases h0; exact .inl rfl
  | struct _ i fs pts ht hd hlen hf =>
    rw [t22'] at ht
    cases ht
    cases hd
theorem walkT_det {rs : List (Int × Tm)} : ∀ (m m' : Nat) (t : Tm), (walkT rs m t).2.1 = 0 → (walkT rs m' t).2.1 = 0 → (walkT rs m t).1 = (walkT rs m' t).1 := by
  intro m
  induction m with
  | zero =>
    intro m' t
    cases hb : bound rs t with
    | some u => simp [walkT, hb]
    | none => cases m' <;> simp [walkT, hb]
  | succ m ih =>
    intro m' t
    cases hb : bound rs t with
    | some u =>
      cases m' with
      | zero => simp [walkT, hb]
      | succ m' => simp only [walkT, hb]; exact ih m' u
    | none => cases m' <;> simp [walkT, hb]
theorem meetT_det {rs : List (Int × Tm)} {m m' : Nat} {t : Tm} (h : (meetT rs m t).2.1 = 0) (h' : (meetT rs m' t).2.1 = 0) : (meetT rs m t).1 = (meetT rs m' t).1 := by
  cases m with
  | zero => simp [meetT] at h
  | succ m =>
    cases m' with
    | zero => simp [meetT] at h'
    | succ m' => exact walkT_det m m' t h h'
theorem nextT_err (rs : List (Int × Tm)) (m : Nat) (x y : Tm) : (nextT rs m x y).2.2.1 = 0 ∨ (nextT rs m x y).2.2.1 = 140 := by
  by_cases h0 : (meetT rs m x).2.1 = 0
  · simp only [nextT, if_pos h0]
    rcases meetT_err rs (meetT rs m x).2.2 y with h | h
    · exact .inl h
    · exact .inr h.1
  · simp only [nextT, if_neg h0]
    rcases meetT_err rs m x with h | h
    · exact .inl h
    · exact .inr h.1
theorem nextT_self {rs : List (Int × Tm)} {m : Nat} {x : Tm} (h : (nextT rs m x x).2.2.1 = 0) : (nextT rs m x x).1 = (nextT rs m x x).2.1 := by
  by_cases h0 : (meetT rs m x).2.1 = 0
  · simp only [nextT, if_pos h0] at h ⊢
    exact meetT_det h0 h
  · simp only [nextT, if_neg h0] at h
    exact absurd h h0
theorem headC_self (x : Tm) : headC x x = 0 := by
  cases x with
  | mk k s n l => simp [headC, cmp3_self, cb_self, firstNZ]
theorem self_run {bs : List (Int × Tm)} (hbm : ∀ p ∈ bs, mayT p.2 = true) : ∀ (f m : Nat) (todo : List (Tm × Tm)), (∀ p ∈ todo, p.1 = p.2 ∧ mayT p.1 = true) →
    (uRun f bs m todo = (bs, true, 0) ∧ cRun bs.reverse f m todo = (0, 0)) ∨ (uRun f bs m todo = ([], false, 140) ∧ cRun bs.reverse f m todo = (0, 140)) := by
  have hbm' : ∀ p ∈ bs.reverse, mayT p.2 = true := fun p hp => hbm p (by simpa using hp)
  intro f
  induction f with
  | zero =>
    intro m todo _
    cases todo with
    | nil => exact .inl ⟨rfl, rfl⟩
    | cons p r => exact .inr ⟨rfl, rfl⟩
  | succ f ih =>
    intro m todo htd
    cases todo with
    | nil => exact .inl ⟨rfl, rfl⟩
    | cons p r =>
      obtain ⟨x, y⟩ := p
      obtain ⟨e1, e2⟩ := htd (x, y) (by simp)
      dsimp only at e1 e2
      subst e1
      have hr := fun p hp => htd p (List.mem_cons_of_mem _ hp)
      simp only [uRun, cRun]
      have hs := nextT_self (rs := bs.reverse) (m := m) (x := x)
      have hm := nextT_may (m := m) hbm' e2 e2
      have hE := nextT_err bs.reverse m x x
      generalize nextT bs.reverse m x x = w at hs hm hE ⊢
      obtain ⟨u, u', e, m'⟩ := w
      dsimp only at hs hm hE ⊢
      rcases hE with he | he
      · subst he
        have hs := hs rfl
        obtain ⟨hm1, _⟩ := hm rfl
        subst hs
        have h0 := headC_self u
        cases u with
        | mk k s n l =>
        obtain ⟨a1, a2⟩ := may_args hm1
        simp only [if_true, uStep, cStep, h0]
        have hz : ∀ p ∈ l.zip l, p.1 = p.2 ∧ mayT p.1 = true := by
          intro p hp
          have hmem := List.of_mem_zip (a := p.1) (b := p.2) hp
          refine ⟨?_, mayL_mem (may_sub hm1) hmem.1⟩
          obtain ⟨i, hi, he⟩ := List.mem_iff_getElem.1 hp
          have : (l.zip l)[i] = (l[i]'(by simp at hi; exact hi), l[i]'(by simp at hi; exact hi)) := by simp
          rw [this] at he
          rw [← he]
        have hzr : ∀ p ∈ l.zip l ++ r, p.1 = p.2 ∧ mayT p.1 = true := by
          intro p hp
          rcases List.mem_append.1 hp with h | h
          · exact hz p h
          · exact hr p h
        by_cases k1 : k = 1
        · have k4 : ¬ k = 4 := by omega
          rw [if_pos ⟨k1, k1, trivial⟩, if_neg (fun h => k4 h.1)]
          exact ih m' r hr
        · rw [if_neg (fun h => k1 h.1), if_neg (fun h => k1 h.1), if_neg k1, if_pos ⟨trivial, trivial, trivial, trivial⟩]
          by_cases k4 : k = 4
          · rw [if_pos ⟨k4, k4, trivial, trivial⟩]
            exact ih m' _ hzr
          · rw [if_neg (fun h => k4 h.1)]
            have hl : l = [] := a2.resolve_right k4
            subst hl
            exact ih m' r hr
      · subst he
        exact .inr ⟨rfl, rfl⟩
theorem check_may {t : Tm} (h : checkT t = 0) : mayT t = true := by
  unfold checkT at h
  split at h
  · assumption
  · omega
theorem goodB_may {bs : List (Int × Tm)} (h : goodB bs = true) : ∀ p ∈ bs, mayT p.2 = true := by
  intro p hp
  simp only [goodB, List.all_eq_true, beq_iff_eq] at h
  exact check_may (h p hp)
theorem goodT_may {l : List Tm} (h : goodT l = true) : ∀ p ∈ l, mayT p = true := by
  intro p hp
  simp only [goodT, List.all_eq_true, beq_iff_eq] at h
  exact check_may (h p hp)
theorem sameBL_refl : ∀ l : List (Int × Tm), sameBL l l = true
  | [] => rfl
  | (v, t) :: l => by simp [sameBL, same_refl, sameBL_refl l]
theorem sameB_refl (l : List (Int × Tm)) : sameB l l = true := by simp [sameB, sameBL_refl]

theorem IsB.snap' {c : AV} {bs : List (Int × Tm)} (h : IsB c bs) (H : List AO) : c.snap1 H = some c := by cases h <;> rfl
end Go.AE.YtpgoibncgekflaaDoor
end

/-! Two terms turned. -/
section
set_option linter.unusedVariables false
set_option linter.unusedSimpArgs false
namespace Go.AE.YtpgoibncgekflaaDoor
open Go Go.AE Go.Proofs.YtpgoibncgekflaaDoor

def swapP (p : Tm × Tm) : Tm × Tm := (p.2, p.1)
theorem walkT_move {rs : List (Int × Tm)} : ∀ (m : Nat) (t u : Tm) (m' : Nat), walkT rs m t = (u, 0, m') → m' ≤ m ∧ ∀ k, walkT rs (m - m' + k) t = (u, 0, k) := by
  have h0 : ∀ (t : Tm) (k : Nat), bound rs t = none → walkT rs k t = (t, 0, k) := by
    intro t k hb
    cases k <;> simp [walkT, hb]
  intro m
  induction m with
  | zero =>
    intro t u m' h
    cases hb : bound rs t with
    | some v => simp [walkT, hb] at h
    | none =>
      rw [h0 t 0 hb] at h
      cases h
      exact ⟨Nat.le_refl _, fun k => by rw [Nat.sub_self, Nat.zero_add]; exact h0 t k hb⟩
  | succ m ih =>
    intro t u m' h
    cases hb : bound rs t with
    | some v =>
      simp only [walkT, hb] at h
      obtain ⟨h1, h2⟩ := ih v u m' h
      refine ⟨by omega, fun k => ?_⟩
      rw [show m + 1 - m' + k = (m - m' + k) + 1 by omega]
      simp only [walkT, hb]
      exact h2 k
    | none =>
      rw [h0 t _ hb] at h
      cases h
      exact ⟨Nat.le_refl _, fun k => by rw [Nat.sub_self, Nat.zero_add]; exact h0 t k hb⟩
theorem meetT_move {rs : List (Int × Tm)} {m : Nat} {t u : Tm} {m' : Nat} (h : meetT rs m t = (u, 0, m')) : m' < m ∧ ∀ k, meetT rs (m - m' + k) t = (u, 0, k) := by
  cases m with
  | zero => simp [meetT] at h
  | succ m =>
    simp only [meetT] at h
    obtain ⟨h1, h2⟩ := walkT_move m t u m' h
    refine ⟨by omega, fun k => ?_⟩
    rw [show m + 1 - m' + k = (m - m' + k) + 1 by omega]
    simp only [meetT]
    exact h2 k
theorem nextT_swap {rs : List (Int × Tm)} {m : Nat} {x y x' y' : Tm} {m2 : Nat} (h : nextT rs m x y = (x', y', 0, m2)) : nextT rs m y x = (y', x', 0, m2) := by
  by_cases h0 : (meetT rs m x).2.1 = 0
  · simp only [nextT, if_pos h0, Prod.mk.injEq] at h
    obtain ⟨e1, e2, e3, e4⟩ := h
    have h1 : meetT rs m x = (x', 0, (meetT rs m x).2.2) := by rw [← e1, ← h0]
    have h2 : meetT rs (meetT rs m x).2.2 y = (y', 0, m2) := by rw [← e2, ← e3, ← e4]
    generalize (meetT rs m x).2.2 = m1 at h1 h2
    obtain ⟨a1, a2⟩ := meetT_move h1
    obtain ⟨b1, b2⟩ := meetT_move h2
    have g1 := b2 (m - m1 + m2)
    rw [show m1 - m2 + (m - m1 + m2) = m by omega] at g1
    have g2 := a2 m2
    simp only [nextT, g1, if_true, g2]
  · simp only [nextT, if_neg h0, Prod.mk.injEq] at h
    exact absurd h.2.2.1 h0
theorem nextT_swap_err {rs : List (Int × Tm)} {m : Nat} {x y : Tm} (h : (nextT rs m x y).2.2.1 ≠ 0) : (nextT rs m y x).2.2.1 = 140 := by
  rcases nextT_err rs m y x with h1 | h1
  · exfalso
    apply h
    have : nextT rs m y x = ((nextT rs m y x).1, (nextT rs m y x).2.1, 0, (nextT rs m y x).2.2.2) := by rw [← h1]
    rw [nextT_swap this]
  · exact h1
theorem zip_swap (l l' : List Tm) : l'.zip l = (l.zip l').map swapP := by
  induction l generalizing l' with
  | nil => cases l' <;> rfl
  | cons a l ih =>
    cases l' with
    | nil => rfl
    | cons b l' => simp only [List.zip_cons_cons, List.map_cons, swapP, ih l']
def US.swap : US → US
  | .into l => .into (l.map swapP)
  | s => s
def CS.swap : CS → CS
  | .into l => .into (l.map swapP)
  | .head c => .head (-c)
section
variable {k k' n n' : Int} {s s' : ByteArray} {l l' : List Tm}
theorem us1 (h1 : k = 1) (h2 : k' = 1) (h3 : n = n') : uStep (.mk k s n l) (.mk k' s' n' l') = .skip := by
  simp only [uStep, if_pos (show k = 1 ∧ k' = 1 ∧ n = n' from ⟨h1, h2, h3⟩)]
theorem us2 (h1 : k = 1) (h2 : k' ≠ 1 ∨ n > n') : uStep (.mk k s n l) (.mk k' s' n' l') = .bind n (.mk k' s' n' l') := by
  have : ¬ (k = 1 ∧ k' = 1 ∧ n = n') := fun h => h2.elim (fun g => g h.2.1) (fun g => by omega)
  simp only [uStep, if_neg this, if_pos (show k = 1 ∧ (k' ≠ 1 ∨ n > n') from ⟨h1, h2⟩)]
theorem us3 (h1 : k' = 1) (h2 : k ≠ 1 ∨ n < n') : uStep (.mk k s n l) (.mk k' s' n' l') = .bind n' (.mk k s n l) := by
  have a : ¬ (k = 1 ∧ k' = 1 ∧ n = n') := fun h => h2.elim (fun g => g h.1) (fun g => by omega)
  have b : ¬ (k = 1 ∧ (k' ≠ 1 ∨ n > n')) := fun h => h2.elim (fun g => g h.1) (fun g => h.2.elim (fun e => e h1) (fun e => by omega))
  simp only [uStep, if_neg a, if_neg b, if_pos h1]
theorem us4 (h1 : k ≠ 1) (h2 : k' ≠ 1) (h3 : k = k' ∧ s.toList = s'.toList ∧ n = n' ∧ l.length = l'.length) : uStep (.mk k s n l) (.mk k' s' n' l') = .into (l.zip l') := by
  have a : ¬ (k = 1 ∧ k' = 1 ∧ n = n') := fun h => h1 h.1
  have b : ¬ (k = 1 ∧ (k' ≠ 1 ∨ n > n')) := fun h => h1 h.1
  simp only [uStep, if_neg a, if_neg b, if_neg h2, if_pos h3]
theorem us5 (h1 : k ≠ 1) (h2 : k' ≠ 1) (h3 : ¬ (k = k' ∧ s.toList = s'.toList ∧ n = n' ∧ l.length = l'.length)) : uStep (.mk k s n l) (.mk k' s' n' l') = .fail := by
  have a : ¬ (k = 1 ∧ k' = 1 ∧ n = n') := fun h => h1 h.1
  have b : ¬ (k = 1 ∧ (k' ≠ 1 ∨ n > n')) := fun h => h1 h.1
  simp only [uStep, if_neg a, if_neg b, if_neg h2, if_neg h3]
end
theorem uStep_swap (x y : Tm) : uStep y x = (uStep x y).swap := by
  cases x with
  | mk k s n l =>
  cases y with
  | mk k' s' n' l' =>
  by_cases c1 : k = 1
  · by_cases c2 : k' = 1
    · by_cases c3 : n = n'
      · rw [us1 c2 c1 c3.symm, us1 c1 c2 c3]; rfl
      · by_cases c4 : n > n'
        · rw [us3 c1 (.inr c4), us2 c1 (.inr c4)]; rfl
        · rw [us2 c2 (.inr (by omega)), us3 c2 (.inr (by omega))]; rfl
    · rw [us3 c1 (.inl c2), us2 c1 (.inl c2)]; rfl
  · by_cases c2 : k' = 1
    · rw [us2 c2 (.inl c1), us3 c2 (.inl c1)]; rfl
    · by_cases c3 : k = k' ∧ s.toList = s'.toList ∧ n = n' ∧ l.length = l'.length
      · rw [us4 c2 c1 ⟨c3.1.symm, c3.2.1.symm, c3.2.2.1.symm, c3.2.2.2.symm⟩, us4 c1 c2 c3, zip_swap]; rfl
      · rw [us5 c2 c1 (fun h => c3 ⟨h.1.symm, h.2.1.symm, h.2.2.1.symm, h.2.2.2.symm⟩), us5 c1 c2 c3]; rfl
theorem firstNZ_neg : ∀ l : List Int, firstNZ (l.map (- ·)) = - firstNZ l
  | [] => rfl
  | a :: l => by
    simp only [List.map_cons, firstNZ]
    by_cases h : a = 0
    · rw [if_pos h, if_pos (by omega)]; exact firstNZ_neg l
    · rw [if_neg h, if_neg (by omega)]
theorem headC_swap (x y : Tm) : headC y x = - headC x y := by
  cases x with
  | mk k s n l =>
  cases y with
  | mk k' s' n' l' =>
  have := firstNZ_neg [cmp3 (ordK k) (ordK k'), cmp3 l.length l'.length, Lib.compareBytes s.data.toList s'.data.toList, cmp3 n n']
  simp only [List.map_cons, List.map_nil, ← cmp3_neg, ← cb_neg] at this
  exact this
theorem cStep_swap (x y : Tm) : cStep y x = (cStep x y).swap := by
  cases x with
  | mk k s n l =>
  cases y with
  | mk k' s' n' l' =>
  simp only [cStep]
  by_cases c : k = 4 ∧ k' = 4 ∧ l.length = l'.length ∧ s.toList = s'.toList
  · rw [if_pos ⟨c.2.1, c.1, c.2.2.1.symm, c.2.2.2.symm⟩, if_pos c, zip_swap]; rfl
  · rw [if_neg (fun h => c ⟨h.2.1, h.1, h.2.2.1.symm, h.2.2.2.symm⟩), if_neg c, headC_swap]; rfl
theorem swap_nil : ([] : List (Tm × Tm)).map swapP = [] := rfl
theorem uRun_swap : ∀ (f : Nat) (bs : List (Int × Tm)) (m : Nat) (todo : List (Tm × Tm)), uRun f bs m (todo.map swapP) = uRun f bs m todo := by
  intro f
  induction f with
  | zero => intro bs m todo; cases todo <;> rfl
  | succ f ih =>
    intro bs m todo
    cases todo with
    | nil => rfl
    | cons p r =>
      obtain ⟨x, y⟩ := p
      simp only [List.map_cons, swapP, uRun]
      by_cases he : (nextT bs.reverse m x y).2.2.1 = 0
      · have h1 : nextT bs.reverse m x y = ((nextT bs.reverse m x y).1, (nextT bs.reverse m x y).2.1, 0, (nextT bs.reverse m x y).2.2.2) := by rw [← he]
        rw [nextT_swap h1, if_pos rfl, if_pos he]
        simp only [uStep_swap (nextT bs.reverse m x y).1]
        cases hu : uStep (nextT bs.reverse m x y).1 (nextT bs.reverse m x y).2.1 with
        | skip => exact ih _ _ r
        | bind v t => exact ih _ _ r
        | fail => rfl
        | into l =>
          simp only [US.swap]
          have := ih bs (nextT bs.reverse m x y).2.2.2 (l ++ r)
          rw [List.map_append] at this
          exact this
      · have h1 := nextT_swap_err he
        have h2 : (nextT bs.reverse m x y).2.2.1 = 140 := (nextT_err _ _ _ _).resolve_left he
        rw [if_neg (by rw [h1]; decide), if_neg he, h1, h2]
theorem cRun_swap (rs : List (Int × Tm)) : ∀ (f : Nat) (m : Nat) (todo : List (Tm × Tm)), cRun rs f m (todo.map swapP) = (- (cRun rs f m todo).1, (cRun rs f m todo).2) := by
  intro f
  induction f with
  | zero => intro m todo; cases todo <;> rfl
  | succ f ih =>
    intro m todo
    cases todo with
    | nil => rfl
    | cons p r =>
      obtain ⟨x, y⟩ := p
      simp only [List.map_cons, swapP, cRun]
      by_cases he : (nextT rs m x y).2.2.1 = 0
      · have h1 : nextT rs m x y = ((nextT rs m x y).1, (nextT rs m x y).2.1, 0, (nextT rs m x y).2.2.2) := by rw [← he]
        rw [nextT_swap h1, if_pos rfl, if_pos he]
        simp only [cStep_swap (nextT rs m x y).1]
        cases hu : cStep (nextT rs m x y).1 (nextT rs m x y).2.1 with
        | into l =>
          simp only [CS.swap]
          have := ih (nextT rs m x y).2.2.2 (l ++ r)
          rw [List.map_append] at this
          exact this
        | head c =>
          simp only [CS.swap]
          by_cases hc : c = 0
          · rw [if_pos (by omega), if_pos hc]; exact ih _ r
          · rw [if_neg (by omega), if_neg hc]
      · have h1 := nextT_swap_err he
        have h2 : (nextT rs m x y).2.2.1 = 140 := (nextT_err _ _ _ _).resolve_left he
        rw [if_neg (by rw [h1]; decide), if_neg he, h1, h2]
        rfl
theorem uni_turn (bs : List (Int × Tm)) (x y : Tm) : uniT bs y x = uniT bs x y := uRun_swap 2001 bs 2000 [(x, y)]
theorem com_turn (bs : List (Int × Tm)) (x y : Tm) : comT bs y x = (- (comT bs x y).1, (comT bs x y).2) := cRun_swap bs.reverse 2001 2000 [(x, y)]

theorem may_zero {s : ByteArray} {n : Int} {l : List Tm} (h : mayT (.mk 4 s n l) = true) : n = 0 := by
  simp only [mayT] at h
  simp at h
  exact h.1.1.1.1
theorem ordK_inj {k k' : Int} (h : k = 1 ∨ k = 2 ∨ k = 3 ∨ k = 4) (h' : k' = 1 ∨ k' = 2 ∨ k' = 3 ∨ k' = 4) (he : ordK k = ordK k') : k = k' := by
  rcases h with rfl | rfl | rfl | rfl <;> rcases h' with rfl | rfl | rfl | rfl <;> first | rfl | (exfalso; revert he; decide)
/-- what compares as the same is unified by no bindings -/
theorem com_uni {bs : List (Int × Tm)} (hbm : ∀ p ∈ bs, mayT p.2 = true) : ∀ (f m : Nat) (todo : List (Tm × Tm)), (∀ p ∈ todo, mayT p.1 = true ∧ mayT p.2 = true) → cRun bs.reverse f m todo = (0, 0) → uRun f bs m todo = (bs, true, 0) := by
  have hbm' : ∀ p ∈ bs.reverse, mayT p.2 = true := fun p hp => hbm p (by simpa using hp)
  intro f
  induction f with
  | zero =>
    intro m todo _ h
    cases todo with
    | nil => rfl
    | cons p r => simp [cRun] at h
  | succ f ih =>
    intro m todo htd h
    cases todo with
    | nil => rfl
    | cons p r =>
      obtain ⟨x, y⟩ := p
      obtain ⟨e1, e2⟩ := htd (x, y) (by simp)
      have hr := fun p hp => htd p (List.mem_cons_of_mem _ hp)
      simp only [cRun] at h
      simp only [uRun]
      have hm := nextT_may (m := m) hbm' e1 e2
      have hE := nextT_err bs.reverse m x y
      generalize nextT bs.reverse m x y = w at h hm hE ⊢
      obtain ⟨⟨k, s, n, l⟩, ⟨k', s', n', l'⟩, e, m'⟩ := w
      dsimp only at h hm hE ⊢
      rcases hE with he | he
      · subst he
        obtain ⟨m1, m2⟩ := hm rfl
        simp only [if_true, cStep] at h
        simp only [if_true, uStep]
        have a1 := may_args m1
        have a2 := may_args m2
        by_cases c : k = 4 ∧ k' = 4 ∧ l.length = l'.length ∧ s.toList = s'.toList
        · rw [if_pos c] at h
          obtain ⟨rfl, rfl, c3, c4⟩ := c
          have z1 := may_zero m1
          have z2 := may_zero m2
          rw [if_neg (by omega), if_neg (by omega), if_neg (by omega), if_pos ⟨rfl, c4, by omega, c3⟩]
          refine ih m' _ (fun p hp => ?_) h
          rcases List.mem_append.1 hp with hp | hp
          · have := List.of_mem_zip (a := p.1) (b := p.2) hp
            exact ⟨mayL_mem (may_sub m1) this.1, mayL_mem (may_sub m2) this.2⟩
          · exact hr p hp
        · rw [if_neg c] at h
          dsimp only at h
          by_cases hz : headC (.mk k s n l) (.mk k' s' n' l') = 0
          · rw [if_pos hz] at h
            have hl : l = [] := (head_may m1 m2 c).resolve_left (fun h => h hz)
            simp only [headC] at hz
            have g := firstNZ_zero hz
            have g1 := ordK_inj a1.1 a2.1 (cmp3_zero (g (cmp3 (ordK k) (ordK k')) (by simp)))
            have g2 := cmp3_zero (g (cmp3 (l.length : Int) (l'.length : Int)) (by simp))
            have g3 := bytes_inj (cb_zero (g (Lib.compareBytes s.data.toList s'.data.toList) (by simp)))
            have g4 := cmp3_zero (g (cmp3 n n') (by simp))
            subst hl g1 g3 g4
            have hl' : l' = [] := List.length_eq_zero_iff.1 (by simp at g2; omega)
            subst hl'
            by_cases k1 : k = 1
            · rw [if_pos ⟨k1, k1, rfl⟩]
              exact ih m' r hr h
            · rw [if_neg (fun h => k1 h.1), if_neg (fun h => k1 h.1), if_neg k1, if_pos ⟨rfl, rfl, rfl, rfl⟩]
              exact ih m' r hr h
          · rw [if_neg hz] at h
            simp only [Prod.mk.injEq] at h
            exact absurd h.1 hz
      · subst he
        simp at h
theorem cmp3_small (a b : Int) : -1 ≤ cmp3 a b ∧ cmp3 a b ≤ 1 := by
  unfold cmp3; split
  · omega
  · split <;> omega
theorem cb_small : ∀ a b : List UInt8, -1 ≤ Lib.compareBytes a b ∧ Lib.compareBytes a b ≤ 1
  | [], [] => by simp [Lib.compareBytes]
  | [], b :: l => by simp [Lib.compareBytes]
  | a :: l, [] => by simp [Lib.compareBytes]
  | a :: l, b :: l' => by
    simp only [Lib.compareBytes]
    split
    · omega
    · split
      · omega
      · exact cb_small l l'
theorem firstNZ_small : ∀ l : List Int, (∀ a ∈ l, -1 ≤ a ∧ a ≤ 1) → -1 ≤ firstNZ l ∧ firstNZ l ≤ 1
  | [], _ => by simp [firstNZ]
  | a :: l, h => by
    simp only [firstNZ]
    split
    · exact firstNZ_small l (fun b hb => h b (by simp [hb]))
    · exact h a (by simp)
theorem headC_small (x y : Tm) : -1 ≤ headC x y ∧ headC x y ≤ 1 := by
  cases x with
  | mk k s n l =>
  cases y with
  | mk k' s' n' l' =>
  refine firstNZ_small _ (fun a ha => ?_)
  simp only [List.mem_cons, List.not_mem_nil, or_false] at ha
  rcases ha with rfl | rfl | rfl | rfl
  · exact cmp3_small _ _
  · exact cmp3_small _ _
  · exact cb_small _ _
  · exact cmp3_small _ _
theorem cRun_small (rs : List (Int × Tm)) : ∀ (f m : Nat) (todo : List (Tm × Tm)), -1 ≤ (cRun rs f m todo).1 ∧ (cRun rs f m todo).1 ≤ 1 := by
  intro f
  induction f with
  | zero => intro m todo; cases todo <;> simp [cRun]
  | succ f ih =>
    intro m todo
    cases todo with
    | nil => simp [cRun]
    | cons p r =>
      obtain ⟨x, y⟩ := p
      simp only [cRun]
      split
      · cases hu : cStep (nextT rs m x y).1 (nextT rs m x y).2.1 with
        | into l => exact ih _ _
        | head c =>
          dsimp only
          split
          · exact ih _ _
          · have : c = headC (nextT rs m x y).1 (nextT rs m x y).2.1 := by
              generalize (nextT rs m x y).1 = u at hu
              generalize (nextT rs m x y).2.1 = v at hu
              cases u; cases v
              simp only [cStep] at hu
              split at hu
              · cases hu
              · cases hu; rfl
            rw [this]
            exact headC_small _ _
      · simp
theorem comT_small (bs : List (Int × Tm)) (x y : Tm) : -1 ≤ (comT bs x y).1 ∧ (comT bs x y).1 ≤ 1 := cRun_small _ _ _ _

end Go.AE.YtpgoibncgekflaaDoor
end

/-! What all rows of this seat need: the world in which the library's two tables lie. -/
section
set_option linter.unusedVariables false
namespace Go.Proofs.YtpgoibncgekflaaDoor
open Go Go.AE Go.Proofs Go.RowKit Go.Lib Go.Shelf

/-- a world in which the two variables hold what their initialisers lay -/
noncomputable def laidWorld (os : Os) : World :=
  let w0 := World.holding Tryd.prog os ⟨#[], #[], []⟩
  let put (h : Array Obj) (g : Nat) (cs : Array Value) : Array Obj := h.modify g fun
    | .cells _ t frozen => .cells cs t frozen
    | o => o
  let h1 := put w0.heap (Tryd.laysValid_ren.g 3) (Lib.firstTab.map fun z => Value.int .u8 z).toArray
  let h2 := put h1 (Tryd.laysValid_ren.g 4) ((List.range 16).flatMap fun i => [Value.int .u8 (Lib.accLo i), Value.int .u8 (Lib.accHi i)]).toArray
  { w0 with heap := h2 }
set_option maxRecDepth 1000000 in
theorem laid_met (os : Os) (args : Array Value) : laidMetH Tryd.prog Rows.substApartRow.laid ((laidWorld os).forCall (fun _ _ => 0) ⟨#[], args, []⟩).memory :=
  (LaidIn.of_run (l := [("unicode/utf8.acceptRanges", Lib.acceptData), ("unicode/utf8.first", Lib.firstData)]) [0, 1] 8 (by kernel_rfl) (by kernel_rfl) (by kernel_rfl) (by kernel_rfl)).met
set_option maxRecDepth 1000000 in
theorem tabs_of {W : World} (hL : laidMetH Tryd.prog Rows.substApartRow.laid W) : Lib.Utf8Tabs (Tryd.laysValid_ren.g 3) (Tryd.laysValid_ren.g 4) W :=
  utf8Tabs_of_readsT (U8Types.of196 Tryd.laysValid) ⟨by kernel_rfl, by kernel_rfl, by kernel_rfl, by kernel_rfl, by kernel_rfl, by kernel_rfl, by kernel_rfl⟩ (Lib.laidMet.reads (l := Rows.substApartRow.laid) hL (.tail _ (.head _))) (Lib.laidMet.reads (l := Rows.substApartRow.laid) hL (.head _))
end Go.Proofs.YtpgoibncgekflaaDoor
end

/-! The row and the card of UnifyTurns, out of its plain law. -/
section
set_option linter.unusedVariables false
namespace Go.Proofs.YtpgoibncgekflaaDoor
open Go Go.AE Go.Proofs Go.ChangeShapes Go.WideShapes Go.ChangeAt Go.RowKit
open Go.ChangeMaps (open_string shut_string)
namespace unifyTurns
theorem args {I : Cells} {W : World} {a0 a1 a2 : AV} {v0 v1 v2 : Value} (r0 : Rep I W [] a0 v0) (r1 : Rep I W [] a1 v1) (r2 : Rep I W [] a2 v2) : ArgsRep I W [] [a0, a1, a2] #[v0, v1, v2] := by
  refine ⟨rfl, fun i a h => ?_⟩
  match i, h with
  | 0, h => cases h; exact r0
  | 1, h => cases h; exact r1
  | 2, h => cases h; exact r2
def Plain : Prop := ∀ a0 a1 a2 : AV, WT T 22 a0.cells → asEl ti22.agg a0.cells = some a0 → WT T 25 a1.cells → asEl ti25.agg a1.cells = some a1 → WT T 25 a2.cells → asEl ti25.agg a2.cells = some a2 →
  ∃ n, callN F n 6 [a0, a1, a2] [] = some (.v (.bool true), [])

set_option maxRecDepth 100000 in
theorem lifted (plain : Plain) (os : Os) (started : os.Started) (H : Type) (enc : TypeId × Value → H) :
    ReturnsInHanded {} Tryd.checked os 6 .any (fun w args => (Rows.unifyTurnsSpec.pre enc Tryd.prog Tryd.f6 [] false w args ∧ laidMetH Tryd.prog Rows.unifyTurnsRow.laid w) ∧ sizedMet enc Tryd.prog Tryd.f6 (OpenSpec.ofChange Rows.unifyTurnsSpec) false w args)
      (Rows.unifyTurnsSpec.post enc Tryd.prog Tryd.f6 false true false false) := by
  refine returnsInHanded_of_change_and (C := Tryd.checked) (X := fun w _ => laidMetH Tryd.prog Rows.unifyTurnsRow.laid w) (fun _ _ _ hh h => h.of_heap hh) own started (by kernel_rfl) Tryd.func6
    (ChangeSpec.witness_at (enc := enc) (C := Tryd.checked) (os := os) (X := fun w _ => laidMetH Tryd.prog Rows.unifyTurnsRow.laid w) false (laidWorld os) #[ti22.zero, ti25.zero, ti25.zero] 8 rfl (by kernel_rfl) (by kernel_rfl) (by kernel_rfl) (by kernel_rfl) (by kernel_rfl) (laid_met os _)) ?_
  intro W base args' ds gs before hval0 hW _ _ hL _
  have hval : ∀ (j : Nat) t v, Tryd.f6.params[j]? = some t → args'[j]? = some v → Value.okWide Tryd.prog W .any base t v := hval0
  have hW' := hW
  obtain ⟨p, q, hA0, hV, rfl, hfz, hnd⟩ := hW
  have hA : DataW.TrodAll enc Tryd.prog W 0 (fun _ => true) true Tryd.f6.params.toList args'.toList ds p := hA0
  rw [Tryd.params6] at hA hval
  obtain ⟨v0, vs0, d0, ds0, p0, q0, hargs, rfl, rfl, h0, r0⟩ := trodAll_cons hA
  obtain ⟨v1, vs1, d1, ds1, p1, q1, rfl, rfl, rfl, h1, r1⟩ := trodAll_cons r0
  obtain ⟨v2, vs2, d2, ds2, p2, q2, rfl, rfl, rfl, h2, r2⟩ := trodAll_cons r1
  obtain ⟨rfl, rfl, rfl⟩ := trodAll_nil r2
  obtain rfl : args' = #[v0, v1, v2] := by cases args'; simp_all
  obtain ⟨rfl, rfl⟩ := trodVars_none hV
  obtain ⟨a0, w0, e0, x0⟩ := trod_arg hT hG (t := 22) (i := ti22) (by decide) rfl (hval 0 22 v0 rfl rfl) h0
  obtain ⟨a1, w1, e1, x1⟩ := trod_arg hT hG (t := 25) (i := ti25) (by decide) rfl (hval 1 25 v1 rfl rfl) h1
  obtain ⟨a2, w2, e2, x2⟩ := trod_arg hT hG (t := 25) (i := ti25) (by decide) rfl (hval 2 25 v2 rfl rfl) h2
  have l0 : ∀ x ∈ p0, x.block < W.heap.size := by obtain ⟨m, hm⟩ := h0; exact DataW.trod_lt m _ _ _ hm
  have l1 : ∀ x ∈ p1, x.block < W.heap.size := by obtain ⟨m, hm⟩ := h1; exact DataW.trod_lt m _ _ _ hm
  have l2 : ∀ x ∈ p2, x.block < W.heap.size := by obtain ⟨m, hm⟩ := h2; exact DataW.trod_lt m _ _ _ hm
  obtain ⟨n, hn⟩ := plain a0 a1 a2 w0 e0 w1 e1 w2 e2
  refine (law_calls ⟨rfl, tabs_of hL⟩ (args x0 x1 x2) hn).mono fun e W' ⟨he, bel⟩ => ?_
  subst he
  exact ⟨_, rfl, _, _, _, [], _, [], hW', trodAll_mk1 (shut_bool Tryd.underlying4 _),
    (trodAll_cons_mk (Below.trod laidOut (by kernel_rfl) (of_decide_eq_true (by kernel_rfl)) h0 bel l0) (trodAll_cons_mk (Below.trod laidOut (by kernel_rfl) (of_decide_eq_true (by kernel_rfl)) h1 bel l1) (trodAll_cons_mk (Below.trod laidOut (by kernel_rfl) (of_decide_eq_true (by kernel_rfl)) h2 bel l2) trodAll_mk0))), rfl, bel.frame _, fun h => by cases h⟩
theorem over (plain : Plain) : Rows.unifyTurnsRow.holds Tryd.pinned (OpenSpec.ofChange Rows.unifyTurnsSpec) :=
  OpenClaim.holds_of_wide 6 Tryd.f6 rfl rfl rfl rfl rfl rfl rfl ⟨rfl, rfl, rfl, rfl, rfl⟩ rfl rfl rfl rfl rfl (by kernel_rfl) Tryd.func6 (by kernel_rfl)
    (of_decide_eq_true (by kernel_rfl)) (by unfold Func.isWrapper; first | (rw [if_pos (by decide +kernel)]; kernel_rfl) | (rw [if_neg (by decide +kernel)]; exact ⟨rfl, rfl⟩))
    (fun os started H enc _ => lifted plain os started H enc)
theorem proved (plain : Plain) : Rows.UnifyTurnsCardSaid :=
  Claim7.holds_tied_plain_at .later [] Rows.unifyTurnsCard.laidKinds true Rows.unifyTurnsCard.stood.harness Rows.unifyTurnsCard.stood.looks
    (over plain) (fun _ h => by cases h) (by kernel_rfl) (fun _ h => by cases h) unifyTurns_row_tie rfl ⟨rfl, rfl⟩ (by kernel_rfl) rfl
    (fun f fn hf hfn => by
      obtain rfl : f = 6 := Option.some.inj ((show Tryd.prog.funcNamed Rows.unifyTurnsRow.func = some 6 by kernel_rfl).symm.trans hf) |>.symm
      obtain rfl : fn = Tryd.f6 := (Option.some.inj (Tryd.func6.symm.trans hfn)).symm
      refine ⟨by kernel_rfl, fun j t ht => ?_⟩
      rw [Tryd.params6] at ht
      match j, ht with
      | 0, ht => cases ht; exact (show Tryd.prog.wantsStandIn 22 = false by kernel_rfl)
      | 1, ht => cases ht; exact (show Tryd.prog.wantsStandIn 25 = false by kernel_rfl)
      | 2, ht => cases ht; exact (show Tryd.prog.wantsStandIn 25 = false by kernel_rfl)
      | _ + 3, ht => simp at ht)
    (by kernel_rfl)
end unifyTurns
end Go.Proofs.YtpgoibncgekflaaDoor
end

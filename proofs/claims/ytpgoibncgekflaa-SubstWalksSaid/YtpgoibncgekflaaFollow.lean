/- Follow, and the document's Walk: both follow bindings as `walkT` tells. -/
import Derived.Test.YtpgoibncgekflaaRef
import Derived.Test.YtpgoibncgekflaaAexObj
set_option linter.unusedVariables false
set_option linter.unusedSimpArgs false
namespace Go.AE.Ytpgoibncgekflaa
open Go Go.AE Go.Proofs.Ytpgoibncgekflaa

def lookT : List (Int × Tm) → Int → Option Tm
  | [], _ => none
  | (v, t) :: r, n => if v = n then some t else lookT r n
/-- what a term is bound to -/
def bound (rs : List (Int × Tm)) : Tm → Option Tm
  | .mk k _ n _ => if k = 1 then lookT rs n else none
/-- a term's bindings followed: where it ends, the error, the steps that are left -/
def walkT (rs : List (Int × Tm)) : Nat → Tm → Tm × Int × Nat
  | 0, t => match bound rs t with
    | some _ => (zeroT, 140, 0)
    | none => (t, 0, 0)
  | left + 1, t => match bound rs t with
    | some t' => walkT rs left t'
    | none => (t, 0, left + 1)

theorem isT_zero : IsT (.agg zeroC) zeroT := .mk 0 _ 0 _ [] .nil
theorem look_rel (n : Int) : ∀ {es : List AV} {bs : List (Int × Tm)}, AllB es bs → (lookT bs n = none ∧ lookA n es = .tup [.agg zeroC, .v (.bool false)]) ∨ ∃ t cs, lookT bs n = some t ∧ lookA n es = .tup [.agg cs, .v (.bool true)] ∧ IsT (.agg cs) t
  | _, _, .nil => .inl ⟨rfl, rfl⟩
  | _, _, .cons a v t es ts h hs => by
    cases h with
    | mk v cs t ht =>
      by_cases hv : v = n
      · exact .inr ⟨t, cs, by simp [lookT, hv], by simp [lookA, hv], ht⟩
      · rcases look_rel n hs with ⟨h1, h2⟩ | ⟨t', cs', h1, h2, h3⟩
        · exact .inl ⟨by simp [lookT, hv, h1], by simp [lookA, hv, h2]⟩
        · exact .inr ⟨t', cs', by simp [lookT, hv, h1], by simp [lookA, hv, h2], h3⟩

theorem IsT.bel {a : AV} {t : Tm} (ht : IsT a t) : AO.below 0 (.box a.cells) = true := by
  cases ht with
  | mk k s n c l hc => cases hc <;> rfl
theorem IsT.frz {a : AV} {t : Tm} (ht : IsT a t) (B : Nat) (h : List AO) : a.frz1 B h = some a := by
  cases ht with
  | mk k s n c l hc => cases hc <;> rfl
theorem lvt {a : AV} {t : Tm} (ht : IsT a t) (h : List AO) (x : Value) : lvf h (.tup [a, .v x]) = some (.tup [a, .v x], []) := by
  cases ht with
  | mk k s n c l hc => cases hc <;> rfl
theorem lv1 {a : AV} {t : Tm} (ht : IsT a t) (h : List AO) : lvf h a = some (a, []) := by
  cases ht with
  | mk k s n c l hc => cases hc <;> rfl

/-- a counter in a variable of the caller's -/
structure Ctr (h : List AO) (id off : Nat) (ms : List AV) : Prop where
  lt : id < h.length
  le : off + 1 ≤ ms.length
  bel : h.all (AO.below h.length) = true
  mb : ms.all (AV.below1 h.length) = true

def ctr (h : List AO) (id off : Nat) (ms : List AV) (m : Int) : List AO := h.set id (.box (ms.set off (.v (.int .i64 m))))
section
variable {h : List AO} {id off : Nat} {ms : List AV} {m : Int} {l : List AO}
theorem ctr_len : (ctr h id off ms m).length = h.length := by simp [ctr]
theorem Ctr.load (c : Ctr h id off ms) (m : Int) (l : List AO) : evLoad (ctr h id off ms m ++ l) false 1 (.ptr id off) = some (.v (.int .i64 m)) := by
  have h1 : (ctr h id off ms m ++ l)[id]? = some (.box (ms.set off (.v (.int .i64 m)))) := his_get (set_get c.lt)
  have hlt : off < ms.length := by have := c.le; omega
  have h2 : ((ms.set off (.v (.int .i64 m))).drop off).take 1 = [.v (.int .i64 m)] := by
    rw [List.drop_eq_getElem_cons (by simpa using hlt)]
    simp
  have h3 : off + 1 ≤ (ms.set off (AV.v (.int .i64 m))).length := by simpa using c.le
  simp only [evLoad, h1, if_pos h3, h2, asEl, Bool.false_eq_true, if_false]
theorem Ctr.store (c : Ctr h id off ms) (m n : Int) (l : List AO) : evStore (ctr h id off ms m ++ l) 1 (.ptr id off) (.v (.int .i64 n)) = some (ctr h id off ms n ++ l) := by
  have h1 : (ctr h id off ms m ++ l)[id]? = some (.box (ms.set off (.v (.int .i64 m)))) := his_get (set_get c.lt)
  have h3 : off + 1 ≤ (ms.set off (AV.v (.int .i64 m))).length := by simpa using c.le
  simp only [evStore, h1, cl_int, List.length_cons, List.length_nil, Nat.zero_add, h3, and_self, if_true, putAt]
  rw [his_set (by rw [ctr_len]; exact c.lt)]
  simp [ctr]
theorem Ctr.all (c : Ctr h id off ms) (m : Int) : (ctr h id off ms m).all (AO.below h.length) = true := by
  simp only [List.all_eq_true]
  intro o ho
  rcases List.mem_or_eq_of_mem_set ho with h1 | h1
  · have := c.bel; simp only [List.all_eq_true] at this; exact this o h1
  · subst h1
    simp only [AO.below, List.all_eq_true]
    intro x hx
    rcases List.mem_or_eq_of_mem_set hx with h2 | h2
    · have := c.mb; simp only [List.all_eq_true] at this; exact this x h2
    · subst h2; rfl
theorem c_ld {a : Bool} {sz k o : Nat} : evLoad (ctr h id off ms m ++ l) a sz (.ptr (h.length + k) o) = ldAt l k a sz o := own_ld ctr_len
theorem c_ld0 {a : Bool} {sz o : Nat} : evLoad (ctr h id off ms m ++ l) a sz (.ptr h.length o) = ldAt l 0 a sz o := own_ld0 ctr_len
theorem c_st {sz k o : Nat} {x : AV} : evStore (ctr h id off ms m ++ l) sz (.ptr (h.length + k) o) x = preH (ctr h id off ms m) (stAt l sz k o x) := own_st ctr_len
theorem c_st0 {sz o : Nat} {x : AV} : evStore (ctr h id off ms m ++ l) sz (.ptr h.length o) x = preH (ctr h id off ms m) (stAt l sz 0 o x) := own_st0 ctr_len
theorem c_bx {cs : List AV} : bx (ctr h id off ms m ++ l) (some cs) = some (.ptr (h.length + l.length) 0, ctr h id off ms m ++ (l ++ [.box cs])) := own_bx ctr_len

def K31f : List Bool := [true, false, true, true, true, false, false, false, false, false, false]
def L31f (b : AV) (B id off : Nat) : List AV := [b, .junk, .ptr id off, .ptr B 0, .ptr (B + 1) 0, .junk, .junk, .junk, .junk, .junk, .junk]

theorem snapv (h : List AO) (x : Int) : (AV.v (.int .i64 x)).snap1 h = some (.v (.int .i64 x)) := rfl
theorem ptrs (a b c d : Nat) (e : c = a + b) : AV.ptr c d = AV.ptr (a + b) d := by rw [e]

theorem follow_loop (c : Ctr h id off ms) {K : Nat} {b : AV} {es : List AV} {rs : List (Int × Tm)} (hes : AllB es rs) (hbs : ∀ h : List AO, b.snap1 h = some b) (hlook : ∀ n, callW F 13 [b, .v (.int .i64 n)] [] = some (lookA n es, [])) :
    ∀ (m : Nat), m ≤ 5000 → ∀ (t : Tm) (cs : List AV), IsT (.agg cs) t → ∀ (tail : List AO) (vars : List AV), clr K31f vars = L31f b h.length id off →
    ∃ rc, IsT (.agg rc) (walkT rs m t).1 ∧
      ((∃ o tl x6 x7 x8 x9 x10, loopN (exec (callW F) K c31_9) K31f (m + 1) vars (ctr h id off ms m ++ (.box cs :: .box zeroC :: tail)) = some (.ret, [b, .junk, .ptr id off, .ptr h.length 0, .ptr (h.length + 1) 0, .v (.int .i64 (walkT rs m t).2.1), x6, x7, x8, x9, x10], ctr h id off ms (walkT rs m t).2.2 ++ (o :: .box rc :: tl))) ∨
       ((walkT rs m t).2.1 = 0 ∧ ∃ tl x6 x7 x8 x9 x10, loopN (exec (callW F) K c31_9) K31f (m + 1) vars (ctr h id off ms m ++ (.box cs :: .box zeroC :: tail)) = some (.exit 0, [b, .junk, .ptr id off, .ptr h.length 0, .ptr (h.length + 1) 0, .junk, x6, x7, x8, x9, x10], ctr h id off ms (walkT rs m t).2.2 ++ (.box rc :: .box zeroC :: tl)))) := by
  have stay : ∀ (m : Nat) (t : Tm), bound rs t = none → walkT rs m t = (t, 0, m) := by
    intro m t hb; cases m <;> simp [walkT, hb]
  have none_case : ∀ (m : Nat) (t : Tm) (cs : List AV), IsT (.agg cs) t → bound rs t = none → ∀ (tail : List AO) (vars : List AV), clr K31f vars = L31f b h.length id off →
      ((∃ o tl x6 x7 x8 x9 x10, loopN (exec (callW F) K c31_9) K31f (m + 1) vars (ctr h id off ms m ++ (.box cs :: .box zeroC :: tail)) = some (.ret, [b, .junk, .ptr id off, .ptr h.length 0, .ptr (h.length + 1) 0, .v (.int .i64 0), x6, x7, x8, x9, x10], ctr h id off ms m ++ (o :: .box cs :: tl))) ∨
       (∃ tl x6 x7 x8 x9 x10, loopN (exec (callW F) K c31_9) K31f (m + 1) vars (ctr h id off ms m ++ (.box cs :: .box zeroC :: tail)) = some (.exit 0, [b, .junk, .ptr id off, .ptr h.length 0, .ptr (h.length + 1) 0, .junk, x6, x7, x8, x9, x10], ctr h id off ms m ++ (.box cs :: .box zeroC :: tl)))) := by
    intro m t cs ht hb tail vars hv
    cases ht with
    | mk k s n c' l' hc =>
    by_cases hk : k = 1
    · left
      have h1 : (k == 1) = true := by simpa using hk
      have hl : lookT rs n = none := by simpa [bound, hk] using hb
      have hla := hlook n
      rcases look_rel n hes with ⟨_, h2⟩ | ⟨t', cs', h2, _⟩
      · rw [h2] at hla
        iterate 7 apply Exists.intro
        apply loop_ret
        rw [hv]
        simp only [L31f, zeroC, c31_9, c31_1, c31_2, c31_3, c31_4, h1, hla, hbs, snapv, q9z, c_ld, c_ld0, c_st, c_st0, c_bx, ldAt, stAt, preH_some, List.append_assoc, e_bslice1, e_bslice2, bs1, bs2, e_build, bdH_some, bd_nil, bd_cons, bd1, cl_agg, cl_int, toL, List.map_cons, List.map_nil, putAt, List.set_cons_zero, List.set_cons_succ, and_self, Nat.le_refl, app_get, app_set, g_agg, run_nil, run_cons, stp_plain, stp_guard, put_some, pass_eq, pick_tt, pick_ff, pick_tf, pick_ft, pick_u, reg_some, thn_normal, thn_exit, thn_ret, cnd_t, cnd_f, blk_normal, blk_ret, blk_exit, x_seq, x_region, x_cond, x_block, x_loop, x_ret, x_exit, x_skip, e_mov, e_pick, pk_t, pk_f, withH_some, e_box, e_load, e_store, stH_some, e_nil, e_bin, e_eqv, eqH_f, eqH_t, e_un, e_fa, e_ia, ia_eq, nat_eq, natV_nat, e_len, lnH_some, e_extract, ex_0, ex_1, e_call0, e_call1, e_call2, e_call3, pc0_eq, pc1_some, pc2_some, pc3_some, fin_some, g_var0, g_vars, g_loc0, g_locs, g_int, g_bool, g_str, g_sl, s_none, s_zero, s_succ, cl_nil, cl_str, cl_bool, cl_slc, cl_own, evFa, evNil, asEl, evBin, intBin, strBin, evUn, len_nil, len_slc, len_str, clr, List.length_nil, List.length_cons, List.getElem?_cons_zero, List.getElem?_cons_succ, Nat.reduceAdd, Nat.zero_add, Nat.add_zero, Nat.reduceLeDiff, Nat.reduceSub, ↓reduceIte, List.drop_succ_cons, List.drop_zero, List.take_succ_cons, List.take_zero, Bool.false_eq_true, List.nil_append, List.cons_append, Bool.not_true, Bool.not_false, cond_true, cond_false, bne, lv_ret, lv_normal, res1, res2, lv2_some, res_var, res_cell, lvf_v, lvf_slc, res1c, lvo1_some]
        rfl
      · rw [hl] at h2; cases h2
    · right
      have h1 : (k == 1) = false := by simpa using hk
      iterate 6 apply Exists.intro
      apply loop_exit
      rw [hv]
      simp only [L31f, zeroC, c31_9, c31_1, h1, c_ld, c_ld0, c_st, c_st0, c_bx, ldAt, stAt, preH_some, List.append_assoc, e_bslice1, e_bslice2, bs1, bs2, e_build, bdH_some, bd_nil, bd_cons, bd1, cl_agg, cl_int, toL, List.map_cons, List.map_nil, putAt, List.set_cons_zero, List.set_cons_succ, and_self, Nat.le_refl, app_get, app_set, g_agg, run_nil, run_cons, stp_plain, stp_guard, put_some, pass_eq, pick_tt, pick_ff, pick_tf, pick_ft, pick_u, reg_some, thn_normal, thn_exit, thn_ret, cnd_t, cnd_f, blk_normal, blk_ret, blk_exit, x_seq, x_region, x_cond, x_block, x_loop, x_ret, x_exit, x_skip, e_mov, e_pick, pk_t, pk_f, withH_some, e_box, e_load, e_store, stH_some, e_nil, e_bin, e_eqv, eqH_f, eqH_t, e_un, e_fa, e_ia, ia_eq, nat_eq, natV_nat, e_len, lnH_some, e_extract, ex_0, ex_1, e_call0, e_call1, e_call2, e_call3, pc0_eq, pc1_some, pc2_some, pc3_some, fin_some, g_var0, g_vars, g_loc0, g_locs, g_int, g_bool, g_str, g_sl, s_none, s_zero, s_succ, cl_nil, cl_str, cl_bool, cl_slc, cl_own, evFa, evNil, asEl, evBin, intBin, strBin, evUn, len_nil, len_slc, len_str, clr, List.length_nil, List.length_cons, List.getElem?_cons_zero, List.getElem?_cons_succ, Nat.reduceAdd, Nat.zero_add, Nat.add_zero, Nat.reduceLeDiff, Nat.reduceSub, ↓reduceIte, List.drop_succ_cons, List.drop_zero, List.take_succ_cons, List.take_zero, Bool.false_eq_true, List.nil_append, List.cons_append, Bool.not_true, Bool.not_false, cond_true, cond_false, bne, lv_ret, lv_normal, res1, res2, lv2_some, res_var, res_cell, lvf_v, lvf_slc, res1c, lvo1_some]
      rfl
  have some_case : ∀ (t : Tm) (cs : List AV), IsT (.agg cs) t → ∀ t', bound rs t = some t' → ∃ s n c cs', cs = [.v (.int .i64 1), .v (.string s), .v (.int .i64 n), c] ∧ IsT (.agg cs') t' ∧ callW F 13 [b, .v (.int .i64 n)] [] = some (.tup [.agg cs', .v (.bool true)], []) := by
    intro t cs ht t' hb
    cases ht with
    | mk k s n c' l' hc =>
    by_cases hk : k = 1
    · subst hk
      rcases look_rel n hes with ⟨h2, _⟩ | ⟨t2, cs', h2, h3, h4⟩
      · simp [bound, h2] at hb
      · simp [bound, h2] at hb
        subst hb
        exact ⟨s, n, c', cs', rfl, h4, by rw [hlook n, h3]⟩
    · simp [bound, hk] at hb
  intro m
  induction m with
  | zero =>
    intro _ t cs ht tail vars hv
    cases hb : bound rs t with
    | none =>
      rw [stay 0 t hb]
      refine ⟨cs, ht, ?_⟩
      rcases none_case 0 t cs ht hb tail vars hv with h1 | h1
      · exact .inl h1
      · exact .inr ⟨rfl, h1⟩
    | some t' =>
      obtain ⟨s, n, c', cs', rfl, ht', hla⟩ := some_case t cs ht t' hb
      cases ht' with
      | mk k2 s2 n2 c2 l2 hc2 =>
      have h0 : (((0 : Nat) : Int) == 0) = true := rfl
      have h1 : ((1 : Int) == 1) = true := rfl
      refine ⟨zeroC, by simpa [walkT, hb] using isT_zero, .inl ?_⟩
      simp only [walkT, hb]
      iterate 7 apply Exists.intro
      apply loop_ret
      rw [hv]
      simp only [L31f, zeroC, c31_9, c31_1, c31_2, c31_3, c31_5, c31_6, h0, h1, hla, hbs, snapv, q9z, c.load, c_ld, c_ld0, c_st, c_st0, c_bx, evNil, ldAt, stAt, preH_some, List.append_assoc, e_bslice1, e_bslice2, bs1, bs2, e_build, bdH_some, bd_nil, bd_cons, bd1, cl_agg, cl_int, toL, List.map_cons, List.map_nil, putAt, List.set_cons_zero, List.set_cons_succ, and_self, Nat.le_refl, app_get, app_set, g_agg, run_nil, run_cons, stp_plain, stp_guard, put_some, pass_eq, pick_tt, pick_ff, pick_tf, pick_ft, pick_u, reg_some, thn_normal, thn_exit, thn_ret, cnd_t, cnd_f, blk_normal, blk_ret, blk_exit, x_seq, x_region, x_cond, x_block, x_loop, x_ret, x_exit, x_skip, e_mov, e_pick, pk_t, pk_f, withH_some, e_box, e_load, e_store, stH_some, e_nil, e_bin, e_eqv, eqH_f, eqH_t, e_un, e_fa, e_ia, ia_eq, nat_eq, natV_nat, e_len, lnH_some, e_extract, ex_0, ex_1, e_call0, e_call1, e_call2, e_call3, pc0_eq, pc1_some, pc2_some, pc3_some, fin_some, g_var0, g_vars, g_loc0, g_locs, g_int, g_bool, g_str, g_sl, s_none, s_zero, s_succ, cl_nil, cl_str, cl_bool, cl_slc, cl_own, evFa, evNil, asEl, evBin, intBin, strBin, evUn, len_nil, len_slc, len_str, clr, List.length_nil, List.length_cons, List.getElem?_cons_zero, List.getElem?_cons_succ, Nat.reduceAdd, Nat.zero_add, Nat.add_zero, Nat.reduceLeDiff, Nat.reduceSub, ↓reduceIte, List.drop_succ_cons, List.drop_zero, List.take_succ_cons, List.take_zero, Bool.false_eq_true, List.nil_append, List.cons_append, Bool.not_true, Bool.not_false, cond_true, cond_false, bne, lv_ret, lv_normal, res1, res2, lv2_some, res_var, res_cell, lvf_v, lvf_slc, res1c, lvo1_some]
      rfl
  | succ m ih =>
    intro hm t cs ht tail vars hv
    cases hb : bound rs t with
    | none =>
      rw [stay (m + 1) t hb]
      refine ⟨cs, ht, ?_⟩
      rcases none_case (m + 1) t cs ht hb tail vars hv with h1 | h1
      · exact .inl h1
      · exact .inr ⟨rfl, h1⟩
    | some t' =>
      obtain ⟨s, n, c', cs', rfl, ht', hla⟩ := some_case t cs ht t' hb
      have ht2 := ht'
      have hwalk : walkT rs (m + 1) t = walkT rs m t' := by simp [walkT, hb]
      rw [hwalk]
      cases ht' with
      | mk k2 s2 n2 c2 l2 hc2 =>
      have h0 : (((m + 1 : Nat) : Int) == 0) = false := by simp; omega
      have h1 : ((1 : Int) == 1) = true := rfl
      have hw : IntKind.i64.wrap (((m + 1 : Nat) : Int) - 1) = (m : Int) := by rw [wrap_ok (by omega) (by omega)]; omega
      have st : exec (callW F) K c31_9 (L31f b h.length id off) (ctr h id off ms ((m + 1 : Nat) : Int) ++ (.box [.v (.int .i64 1), .v (.string s), .v (.int .i64 n), c'] :: .box zeroC :: tail)) = some (.normal, [b, .junk, .ptr id off, .ptr h.length 0, .ptr (h.length + 1) 0, .junk, .ptr (h.length + (tail.length + 1 + 1)) 0, .v (.bool true), .v (.bool true), .v (.bool false), .v (.bool false)], ctr h id off ms m ++ (.box [.v (.int .i64 k2), .v (.string s2), .v (.int .i64 n2), c2] :: .box zeroC :: (tail ++ [.box [.v (.int .i64 k2), .v (.string s2), .v (.int .i64 n2), c2]]))) := by
        simp only [L31f, zeroC, c31_9, c31_1, c31_2, c31_3, c31_5, c31_7, c31_8, h0, h1, hw, hla, hbs, snapv, q9z, c.load, c.store, c_ld, c_ld0, c_st, c_st0, c_bx, evNil, ldAt, stAt, preH_some, List.append_assoc, e_bslice1, e_bslice2, bs1, bs2, e_build, bdH_some, bd_nil, bd_cons, bd1, cl_agg, cl_int, toL, List.map_cons, List.map_nil, putAt, List.set_cons_zero, List.set_cons_succ, and_self, Nat.le_refl, app_get, app_set, g_agg, run_nil, run_cons, stp_plain, stp_guard, put_some, pass_eq, pick_tt, pick_ff, pick_tf, pick_ft, pick_u, reg_some, thn_normal, thn_exit, thn_ret, cnd_t, cnd_f, blk_normal, blk_ret, blk_exit, x_seq, x_region, x_cond, x_block, x_loop, x_ret, x_exit, x_skip, e_mov, e_pick, pk_t, pk_f, withH_some, e_box, e_load, e_store, stH_some, e_nil, e_bin, e_eqv, eqH_f, eqH_t, e_un, e_fa, e_ia, ia_eq, nat_eq, natV_nat, e_len, lnH_some, e_extract, ex_0, ex_1, e_call0, e_call1, e_call2, e_call3, pc0_eq, pc1_some, pc2_some, pc3_some, fin_some, g_var0, g_vars, g_loc0, g_locs, g_int, g_bool, g_str, g_sl, s_none, s_zero, s_succ, cl_nil, cl_str, cl_bool, cl_slc, cl_own, evFa, evNil, asEl, evBin, intBin, strBin, evUn, len_nil, len_slc, len_str, clr, List.length_nil, List.length_cons, List.getElem?_cons_zero, List.getElem?_cons_succ, Nat.reduceAdd, Nat.zero_add, Nat.add_zero, Nat.reduceLeDiff, Nat.reduceSub, ↓reduceIte, List.drop_succ_cons, List.drop_zero, List.take_succ_cons, List.take_zero, Bool.false_eq_true, List.nil_append, List.cons_append, Bool.not_true, Bool.not_false, cond_true, cond_false, bne, lv_ret, lv_normal, res1, res2, lv2_some, res_var, res_cell, lvf_v, lvf_slc, res1c, lvo1_some]
      rw [loop_normal (by rw [hv]; exact st)]
      exact ih (by omega) _ _ ht2 _ _ rfl

/-- Follow, with a counter of the caller's -/
theorem follow_ok (c : Ctr h id off ms) {b a : AV} {es : List AV} {rs : List (Int × Tm)} (hes : AllB es rs) (hbs : ∀ h : List AO, b.snap1 h = some b) (hlook : ∀ n, callW F 13 [b, .v (.int .i64 n)] [] = some (lookA n es, []))
    (m : Nat) (hm : m ≤ 5000) {t : Tm} (ht : IsT a t) : ∃ rc, IsT (.agg rc) (walkT rs m t).1 ∧ callW F 31 [b, a, .ptr id off] (ctr h id off ms m) = some (.tup [.agg rc, .v (.int .i64 (walkT rs m t).2.1)], ctr h id off ms (walkT rs m t).2.2) := by
  obtain ⟨cs, rfl⟩ : ∃ cs, a = .agg cs := by cases ht; exact ⟨_, rfl⟩
  obtain ⟨rc, hrc, hl⟩ := follow_loop (K := 5001) c hes hbs hlook m hm t cs ht [] (L31f b h.length id off) rfl
  refine ⟨rc, hrc, ?_⟩
  have hres : c31.res = [.cell 4 true 4, .var 5] := rfl
  have body : exec (callW F) 5001 c31.body (start c31 [b, .agg cs, .ptr id off]) (ctr h id off ms m ++ []) = thn (callW F) 5001 (.seq (.region [] [] c31_10) .ret) (blk 0 (loopN (exec (callW F) 5001 c31_9) K31f 5001 (L31f b h.length id off) (ctr h id off ms m ++ (.box cs :: .box zeroC :: [])))) := by
    show exec (callW F) 5001 (.seq (.region [] [] c31_0) (.seq (.block 0 (.loop K31f [] c31_9)) (.seq (.region [] [] c31_10) .ret))) _ _ = _
    generalize (CC.seq (.region [] [] c31_10) .ret) = rest
    simp only [c31, start, zeroC, List.replicate, c31_0, q9z, c_bx, preH_some, List.append_assoc, e_bslice1, e_bslice2, bs1, bs2, e_build, bdH_some, bd_nil, bd_cons, bd1, cl_agg, cl_int, toL, List.map_cons, List.map_nil, putAt, List.set_cons_zero, List.set_cons_succ, and_self, Nat.le_refl, app_get, app_set, g_agg, run_nil, run_cons, stp_plain, stp_guard, put_some, pass_eq, pick_tt, pick_ff, pick_tf, pick_ft, pick_u, reg_some, thn_normal, thn_exit, thn_ret, cnd_t, cnd_f, blk_normal, blk_ret, blk_exit, x_seq, x_region, x_cond, x_block, x_loop, x_ret, x_exit, x_skip, e_mov, e_pick, pk_t, pk_f, withH_some, e_box, e_load, e_store, stH_some, e_nil, e_bin, e_eqv, eqH_f, eqH_t, e_un, e_fa, e_ia, ia_eq, nat_eq, natV_nat, e_len, lnH_some, e_extract, ex_0, ex_1, e_call0, e_call1, e_call2, e_call3, pc0_eq, pc1_some, pc2_some, pc3_some, fin_some, g_var0, g_vars, g_loc0, g_locs, g_int, g_bool, g_str, g_sl, s_none, s_zero, s_succ, cl_nil, cl_str, cl_bool, cl_slc, cl_own, evFa, evNil, asEl, evBin, intBin, strBin, evUn, len_nil, len_slc, len_str, clr, List.length_nil, List.length_cons, List.getElem?_cons_zero, List.getElem?_cons_succ, Nat.reduceAdd, Nat.zero_add, Nat.add_zero, Nat.reduceLeDiff, Nat.reduceSub, ↓reduceIte, List.drop_succ_cons, List.drop_zero, List.take_succ_cons, List.take_zero, Bool.false_eq_true, List.nil_append, List.cons_append, Bool.not_true, Bool.not_false, cond_true, cond_false, bne, lv_ret, lv_normal, res1, res2, lv2_some, res_var, res_cell, lvf_v, lvf_slc, res1c, lvo1_some]
    rw [loop_cong (v2 := L31f b h.length id off) (by rfl)]
  refine callW_own (c := c31) rfl rfl 5001 ?_
  rw [body, ctr_len]
  rcases hl with ⟨o, tl, x6, x7, x8, x9, x10, h1⟩ | ⟨h0, tl, x6, x7, x8, x9, x10, h1⟩
  · rw [loop_more h1 (by omega)]
    generalize walkT rs m t = w at hrc ⊢
    obtain ⟨w1, w2, w3⟩ := w
    simp only [blk_ret, thn_ret]
    rw [leave_own ctr_len (c.all _), hres, own_res2 (x := .agg rc) (y := .v (.int .i64 w2)) _ _]
    · exact lvo_two (hrc.frz _ _) rfl
    · cases hrc; simp only [res_cell, c_ld, ldAt, e_bslice1, e_bslice2, bs1, bs2, e_build, bdH_some, bd_nil, bd_cons, bd1, cl_agg, cl_int, toL, List.map_cons, List.map_nil, putAt, List.set_cons_zero, List.set_cons_succ, and_self, Nat.le_refl, app_get, app_set, g_agg, run_nil, run_cons, stp_plain, stp_guard, put_some, pass_eq, pick_tt, pick_ff, pick_tf, pick_ft, pick_u, reg_some, thn_normal, thn_exit, thn_ret, cnd_t, cnd_f, blk_normal, blk_ret, blk_exit, x_seq, x_region, x_cond, x_block, x_loop, x_ret, x_exit, x_skip, e_mov, e_pick, pk_t, pk_f, withH_some, e_box, e_load, e_store, stH_some, e_nil, e_bin, e_eqv, eqH_f, eqH_t, e_un, e_fa, e_ia, ia_eq, nat_eq, natV_nat, e_len, lnH_some, e_extract, ex_0, ex_1, e_call0, e_call1, e_call2, e_call3, pc0_eq, pc1_some, pc2_some, pc3_some, fin_some, g_var0, g_vars, g_loc0, g_locs, g_int, g_bool, g_str, g_sl, s_none, s_zero, s_succ, cl_nil, cl_str, cl_bool, cl_slc, cl_own, evFa, evNil, asEl, evBin, intBin, strBin, evUn, len_nil, len_slc, len_str, clr, List.length_nil, List.length_cons, List.getElem?_cons_zero, List.getElem?_cons_succ, Nat.reduceAdd, Nat.zero_add, Nat.add_zero, Nat.reduceLeDiff, Nat.reduceSub, ↓reduceIte, List.drop_succ_cons, List.drop_zero, List.take_succ_cons, List.take_zero, Bool.false_eq_true, List.nil_append, List.cons_append, Bool.not_true, Bool.not_false, cond_true, cond_false, bne, lv_ret, lv_normal, res1, res2, lv2_some, res_var, res_cell, lvf_v, lvf_slc, res1c, lvo1_some]
    · rfl
  · rw [loop_more h1 (by omega)]
    rw [h0]
    generalize walkT rs m t = w at hrc ⊢
    obtain ⟨w1, w2, w3⟩ := w
    cases hrc
    simp only [blk_exit, thn_normal, zeroC, c31_10, c_ld, c_ld0, c_st, c_st0, ldAt, stAt, preH_some, List.append_assoc, e_bslice1, e_bslice2, bs1, bs2, e_build, bdH_some, bd_nil, bd_cons, bd1, cl_agg, cl_int, toL, List.map_cons, List.map_nil, putAt, List.set_cons_zero, List.set_cons_succ, and_self, Nat.le_refl, app_get, app_set, g_agg, run_nil, run_cons, stp_plain, stp_guard, put_some, pass_eq, pick_tt, pick_ff, pick_tf, pick_ft, pick_u, reg_some, thn_normal, thn_exit, thn_ret, cnd_t, cnd_f, blk_normal, blk_ret, blk_exit, x_seq, x_region, x_cond, x_block, x_loop, x_ret, x_exit, x_skip, e_mov, e_pick, pk_t, pk_f, withH_some, e_box, e_load, e_store, stH_some, e_nil, e_bin, e_eqv, eqH_f, eqH_t, e_un, e_fa, e_ia, ia_eq, nat_eq, natV_nat, e_len, lnH_some, e_extract, ex_0, ex_1, e_call0, e_call1, e_call2, e_call3, pc0_eq, pc1_some, pc2_some, pc3_some, fin_some, g_var0, g_vars, g_loc0, g_locs, g_int, g_bool, g_str, g_sl, s_none, s_zero, s_succ, cl_nil, cl_str, cl_bool, cl_slc, cl_own, evFa, evNil, asEl, evBin, intBin, strBin, evUn, len_nil, len_slc, len_str, clr, List.length_nil, List.length_cons, List.getElem?_cons_zero, List.getElem?_cons_succ, Nat.reduceAdd, Nat.zero_add, Nat.add_zero, Nat.reduceLeDiff, Nat.reduceSub, ↓reduceIte, List.drop_succ_cons, List.drop_zero, List.take_succ_cons, List.take_zero, Bool.false_eq_true, List.nil_append, List.cons_append, Bool.not_true, Bool.not_false, cond_true, cond_false, bne, lv_ret, lv_normal, res1, res2, lv2_some, res_var, res_cell, lvf_v, lvf_slc, res1c, lvo1_some]
    rw [leave_own ctr_len (c.all _), hres, own_res2 (x := .agg _) (y := .v (.int .i64 0)) _ _]
    · exact lvo_two (IsT.frz (.mk _ _ _ _ _ (by assumption)) _ _) rfl
    · simp only [res_cell, c_ld, ldAt, e_bslice1, e_bslice2, bs1, bs2, e_build, bdH_some, bd_nil, bd_cons, bd1, cl_agg, cl_int, toL, List.map_cons, List.map_nil, putAt, List.set_cons_zero, List.set_cons_succ, and_self, Nat.le_refl, app_get, app_set, g_agg, run_nil, run_cons, stp_plain, stp_guard, put_some, pass_eq, pick_tt, pick_ff, pick_tf, pick_ft, pick_u, reg_some, thn_normal, thn_exit, thn_ret, cnd_t, cnd_f, blk_normal, blk_ret, blk_exit, x_seq, x_region, x_cond, x_block, x_loop, x_ret, x_exit, x_skip, e_mov, e_pick, pk_t, pk_f, withH_some, e_box, e_load, e_store, stH_some, e_nil, e_bin, e_eqv, eqH_f, eqH_t, e_un, e_fa, e_ia, ia_eq, nat_eq, natV_nat, e_len, lnH_some, e_extract, ex_0, ex_1, e_call0, e_call1, e_call2, e_call3, pc0_eq, pc1_some, pc2_some, pc3_some, fin_some, g_var0, g_vars, g_loc0, g_locs, g_int, g_bool, g_str, g_sl, s_none, s_zero, s_succ, cl_nil, cl_str, cl_bool, cl_slc, cl_own, evFa, evNil, asEl, evBin, intBin, strBin, evUn, len_nil, len_slc, len_str, clr, List.length_nil, List.length_cons, List.getElem?_cons_zero, List.getElem?_cons_succ, Nat.reduceAdd, Nat.zero_add, Nat.add_zero, Nat.reduceLeDiff, Nat.reduceSub, ↓reduceIte, List.drop_succ_cons, List.drop_zero, List.take_succ_cons, List.take_zero, Bool.false_eq_true, List.nil_append, List.cons_append, Bool.not_true, Bool.not_false, cond_true, cond_false, bne, lv_ret, lv_normal, res1, res2, lv2_some, res_var, res_cell, lvf_v, lvf_slc, res1c, lvo1_some]
    · rfl
end
end Go.AE.Ytpgoibncgekflaa

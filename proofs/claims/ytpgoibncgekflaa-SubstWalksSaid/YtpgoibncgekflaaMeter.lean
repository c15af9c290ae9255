/- Walk, and the document's Walk: both follow bindings as `walkT` tells. -/
import Derived.Test.YtpgoibncgekflaaFollow
set_option linter.unusedVariables false
set_option linter.unusedSimpArgs false
namespace Go.AE.Ytpgoibncgekflaa
open Go Go.AE Go.Proofs.Ytpgoibncgekflaa

section
variable {h : List AO} {id off : Nat} {ms : List AV} {m : Int} {l : List AO}
theorem spend_ok (c : Ctr h id off ms) {l : List AO} (hl : l.all (AO.below (h.length + l.length)) = true) (n : Int) (hn : 0 ≤ n ∧ n ≤ 100000) : callW F 47 [.ptr id off] (ctr h id off ms n ++ l) = some (.v (.bool (decide (n + 1 ≤ 2000))), ctr h id off ms (n + 1) ++ l) := by
  refine callW_own (c := c47) rfl rfl 0 ?_
  have hw : IntKind.i64.wrap (n + 1) = n + 1 := wrap_ok (by omega) (by omega)
  have hln : (ctr h id off ms n ++ l).length = (ctr h id off ms (n + 1) ++ l).length := by simp [ctr_len]
  have hall : (ctr h id off ms (n + 1) ++ l).all (AO.below (ctr h id off ms n ++ l).length) = true := by
    rw [List.all_append, Bool.and_eq_true]
    rw [List.length_append, ctr_len]
    exact ⟨all_below_mono (by omega) (c.all _), hl⟩
  have body : exec (callW F) 0 c47.body (start c47 [.ptr id off]) (ctr h id off ms n ++ l ++ []) = some (.ret, [.ptr id off, .v (.bool (decide (n + 1 ≤ 2000)))], (ctr h id off ms (n + 1) ++ l) ++ []) := by
    simp only [c47, start, List.replicate, c47_0, c47_1, c47_2, hw, c.load, c.store, evNil, List.append_nil, e_bslice1, e_bslice2, bs1, bs2, e_build, bdH_some, bd_nil, bd_cons, bd1, cl_agg, cl_int, toL, List.map_cons, List.map_nil, putAt, List.set_cons_zero, List.set_cons_succ, and_self, Nat.le_refl, app_get, app_set, g_agg, run_nil, run_cons, stp_plain, stp_guard, put_some, pass_eq, pick_tt, pick_ff, pick_tf, pick_ft, pick_u, reg_some, thn_normal, thn_exit, thn_ret, cnd_t, cnd_f, blk_normal, blk_ret, blk_exit, x_seq, x_region, x_cond, x_block, x_loop, x_ret, x_exit, x_skip, e_mov, e_pick, pk_t, pk_f, withH_some, e_box, e_load, e_store, stH_some, e_nil, e_bin, e_eqv, eqH_f, eqH_t, e_un, e_fa, e_ia, ia_eq, nat_eq, natV_nat, e_len, lnH_some, e_extract, ex_0, ex_1, e_call0, e_call1, e_call2, e_call3, pc0_eq, pc1_some, pc2_some, pc3_some, fin_some, g_var0, g_vars, g_loc0, g_locs, g_int, g_bool, g_str, g_sl, s_none, s_zero, s_succ, cl_nil, cl_str, cl_bool, cl_slc, cl_own, evFa, evNil, asEl, evBin, intBin, strBin, evUn, len_nil, len_slc, len_str, clr, List.length_nil, List.length_cons, List.getElem?_cons_zero, List.getElem?_cons_succ, Nat.reduceAdd, Nat.zero_add, Nat.add_zero, Nat.reduceLeDiff, Nat.reduceSub, ↓reduceIte, List.drop_succ_cons, List.drop_zero, List.take_succ_cons, List.take_zero, Bool.false_eq_true, List.nil_append, List.cons_append, Bool.not_true, Bool.not_false, cond_true, cond_false, bne, lv_ret, lv_normal, res1, res2, lv2_some, res_var, res_cell, lvf_v, lvf_slc, res1c, lvo1_some]
  rw [body, leave_own hln.symm hall]
  exact lvo_one rfl

def K32 : List Bool := [true, true, false, true, true, false, false, false, false, false, false]
def L32 (b : AV) (B id off : Nat) : List AV := [.ptr id off, b, .junk, .ptr B 0, .ptr (B + 1) 0, .junk, .junk, .junk, .junk, .junk, .junk]

/-- what the document's counter counts -/
def spent (e : Int) (m : Nat) : Int := if e = 0 then 2000 - (m : Int) else 2001
theorem spent0 (m : Nat) : spent 0 m = 2000 - (m : Int) := rfl

theorem meter_loop (c : Ctr h id off ms) {K : Nat} {b : AV} {es : List AV} {rs : List (Int × Tm)} (hes : AllB es rs) (hbs : ∀ h : List AO, b.snap1 h = some b) (hlook : ∀ n, callW F 14 [b, .v (.int .i64 n)] [] = some (lookA n es, [])) :
    ∀ (m : Nat), m ≤ 2000 → ∀ (t : Tm) (cs : List AV), IsT (.agg cs) t → ∀ (tail : List AO) (vars : List AV), tail.all (AO.below 0) = true → clr K32 vars = L32 b h.length id off →
    ∃ rc, IsT (.agg rc) (walkT rs m t).1 ∧
      ((∃ o tl x6 x7 x8 x9 x10, loopN (exec (callW F) K c32_7) K32 (m + 1) vars (ctr h id off ms (2000 - (m : Int)) ++ (.box cs :: .box zeroC :: tail)) = some (.ret, [.ptr id off, b, .junk, .ptr h.length 0, .ptr (h.length + 1) 0, .v (.int .i64 (walkT rs m t).2.1), x6, x7, x8, x9, x10], ctr h id off ms (spent (walkT rs m t).2.1 (walkT rs m t).2.2) ++ (o :: .box rc :: tl))) ∨
       ((walkT rs m t).2.1 = 0 ∧ ∃ tl x6 x7 x8 x9 x10, loopN (exec (callW F) K c32_7) K32 (m + 1) vars (ctr h id off ms (2000 - (m : Int)) ++ (.box cs :: .box zeroC :: tail)) = some (.exit 0, [.ptr id off, b, .junk, .ptr h.length 0, .ptr (h.length + 1) 0, .junk, x6, x7, x8, x9, x10], ctr h id off ms (spent (walkT rs m t).2.1 (walkT rs m t).2.2) ++ (.box rc :: .box zeroC :: tl)))) := by
  have stay : ∀ (m : Nat) (t : Tm), bound rs t = none → walkT rs m t = (t, 0, m) := by
    intro m t hb; cases m <;> simp [walkT, hb]
  have none_case : ∀ (m : Nat) (t : Tm) (cs : List AV), IsT (.agg cs) t → bound rs t = none → ∀ (tail : List AO) (vars : List AV), clr K32 vars = L32 b h.length id off →
       (∃ tl x6 x7 x8 x9 x10, loopN (exec (callW F) K c32_7) K32 (m + 1) vars (ctr h id off ms (2000 - (m : Int)) ++ (.box cs :: .box zeroC :: tail)) = some (.exit 0, [.ptr id off, b, .junk, .ptr h.length 0, .ptr (h.length + 1) 0, .junk, x6, x7, x8, x9, x10], ctr h id off ms (2000 - (m : Int)) ++ (.box cs :: .box zeroC :: tl))) := by
    intro m t cs ht hb tail vars hv
    cases ht with
    | mk k s n c' l' hc =>
    by_cases hk : k = 1
    · have h1 : (k == 1) = true := by simpa using hk
      have hl : lookT rs n = none := by simpa [bound, hk] using hb
      have hla := hlook n
      rcases look_rel n hes with ⟨_, h2⟩ | ⟨t', cs', h2, _⟩
      · rw [h2] at hla
        iterate 6 apply Exists.intro
        apply loop_exit
        rw [hv]
        simp only [L32, zeroC, c32_7, c32_1, c32_2, c32_3, c32_4, h1, hla, hbs, snapv, q9z, c_ld, c_ld0, c_st, c_st0, c_bx, ldAt, stAt, preH_some, List.append_assoc, blk_other (show (0 : Nat) ≠ 1 by decide), e_bslice1, e_bslice2, bs1, bs2, e_build, bdH_some, bd_nil, bd_cons, bd1, cl_agg, cl_int, toL, List.map_cons, List.map_nil, putAt, List.set_cons_zero, List.set_cons_succ, and_self, Nat.le_refl, app_get, app_set, g_agg, run_nil, run_cons, stp_plain, stp_guard, put_some, pass_eq, pick_tt, pick_ff, pick_tf, pick_ft, pick_u, reg_some, thn_normal, thn_exit, thn_ret, cnd_t, cnd_f, blk_normal, blk_ret, blk_exit, x_seq, x_region, x_cond, x_block, x_loop, x_ret, x_exit, x_skip, e_mov, e_pick, pk_t, pk_f, withH_some, e_box, e_load, e_store, stH_some, e_nil, e_bin, e_eqv, eqH_f, eqH_t, e_un, e_fa, e_ia, ia_eq, nat_eq, natV_nat, e_len, lnH_some, e_extract, ex_0, ex_1, e_call0, e_call1, e_call2, e_call3, pc0_eq, pc1_some, pc2_some, pc3_some, fin_some, g_var0, g_vars, g_loc0, g_locs, g_int, g_bool, g_str, g_sl, s_none, s_zero, s_succ, cl_nil, cl_str, cl_bool, cl_slc, cl_own, evFa, evNil, asEl, evBin, intBin, strBin, evUn, len_nil, len_slc, len_str, clr, List.length_nil, List.length_cons, List.getElem?_cons_zero, List.getElem?_cons_succ, Nat.reduceAdd, Nat.zero_add, Nat.add_zero, Nat.reduceLeDiff, Nat.reduceSub, ↓reduceIte, List.drop_succ_cons, List.drop_zero, List.take_succ_cons, List.take_zero, Bool.false_eq_true, List.nil_append, List.cons_append, Bool.not_true, Bool.not_false, cond_true, cond_false, bne, lv_ret, lv_normal, res1, res2, lv2_some, res_var, res_cell, lvf_v, lvf_slc, res1c, lvo1_some]
        rfl
      · rw [hl] at h2; cases h2
    · have h1 : (k == 1) = false := by simpa using hk
      iterate 6 apply Exists.intro
      apply loop_exit
      rw [hv]
      simp only [L32, zeroC, c32_7, c32_1, h1, c_ld, c_ld0, c_st, c_st0, c_bx, ldAt, stAt, preH_some, List.append_assoc, e_bslice1, e_bslice2, bs1, bs2, e_build, bdH_some, bd_nil, bd_cons, bd1, cl_agg, cl_int, toL, List.map_cons, List.map_nil, putAt, List.set_cons_zero, List.set_cons_succ, and_self, Nat.le_refl, app_get, app_set, g_agg, run_nil, run_cons, stp_plain, stp_guard, put_some, pass_eq, pick_tt, pick_ff, pick_tf, pick_ft, pick_u, reg_some, thn_normal, thn_exit, thn_ret, cnd_t, cnd_f, blk_normal, blk_ret, blk_exit, x_seq, x_region, x_cond, x_block, x_loop, x_ret, x_exit, x_skip, e_mov, e_pick, pk_t, pk_f, withH_some, e_box, e_load, e_store, stH_some, e_nil, e_bin, e_eqv, eqH_f, eqH_t, e_un, e_fa, e_ia, ia_eq, nat_eq, natV_nat, e_len, lnH_some, e_extract, ex_0, ex_1, e_call0, e_call1, e_call2, e_call3, pc0_eq, pc1_some, pc2_some, pc3_some, fin_some, g_var0, g_vars, g_loc0, g_locs, g_int, g_bool, g_str, g_sl, s_none, s_zero, s_succ, cl_nil, cl_str, cl_bool, cl_slc, cl_own, evFa, evNil, asEl, evBin, intBin, strBin, evUn, len_nil, len_slc, len_str, clr, List.length_nil, List.length_cons, List.getElem?_cons_zero, List.getElem?_cons_succ, Nat.reduceAdd, Nat.zero_add, Nat.add_zero, Nat.reduceLeDiff, Nat.reduceSub, ↓reduceIte, List.drop_succ_cons, List.drop_zero, List.take_succ_cons, List.take_zero, Bool.false_eq_true, List.nil_append, List.cons_append, Bool.not_true, Bool.not_false, cond_true, cond_false, bne, lv_ret, lv_normal, res1, res2, lv2_some, res_var, res_cell, lvf_v, lvf_slc, res1c, lvo1_some]
      rfl
  have some_case : ∀ (t : Tm) (cs : List AV), IsT (.agg cs) t → ∀ t', bound rs t = some t' → ∃ s n c cs', cs = [.v (.int .i64 1), .v (.string s), .v (.int .i64 n), c] ∧ IsT (.agg cs') t' ∧ callW F 14 [b, .v (.int .i64 n)] [] = some (.tup [.agg cs', .v (.bool true)], []) := by
    intro t cs ht t' hb
    cases ht with
    | mk k s n c' l' hc =>
    by_cases hk : k = 1
    · subst hk
      rcases look_rel n hes with ⟨h2, _⟩ | ⟨t2, cs', h2, h3, h4⟩
      · simp [bound, h2] at hb
      · simp [bound, h2] at hb
        subst hb
        exact ⟨s, n, c', cs', rfl, h4, by rw [hlook n, h3]⟩
    · simp [bound, hk] at hb
  have hB3 : ∀ {a d e : AV} {t1 t2 t3 : Tm} (tail : List AO), IsT a t1 → IsT d t2 → IsT e t3 → tail.all (AO.below 0) = true → (.box a.cells :: .box d.cells :: (tail ++ [.box e.cells]) : List AO).all (AO.below 0) = true := by
    intro a d e t1 t2 t3 tail h1 h2 h3 h4
    have g1 := h1.bel
    have g2 := h2.bel
    have g3 := h3.bel
    simp only [List.all_cons, List.all_append, List.all_nil, g1, g2, g3, h4, Bool.and_true]
  intro m
  induction m with
  | zero =>
    intro _ t cs ht tail vars htl hv
    cases hb : bound rs t with
    | none =>
      rw [stay 0 t hb]
      exact ⟨cs, ht, .inr ⟨rfl, none_case 0 t cs ht hb tail vars hv⟩⟩
    | some t' =>
      obtain ⟨s, n, c', cs', rfl, ht', hla⟩ := some_case t cs ht t' hb
      have hbl := hB3 tail ht isT_zero ht' htl
      have hsp := fun l (hl : l.all (AO.below 0) = true) => spend_ok (l := l) c (all_below_mono (Nat.zero_le _) hl) 2000 ⟨by omega, by omega⟩
      have hsp1 := hsp _ hbl
      have hd : decide ((2000 : Int) + 1 ≤ 2000) = false := by decide
      rw [hd] at hsp1
      have hi : (2000 : Int) - ((0 : Nat) : Int) = 2000 := by omega
      have hs : spent 140 0 = 2000 + 1 := rfl
      cases ht' with
      | mk k2 s2 n2 c2 l2 hc2 =>
      have h1 : ((1 : Int) == 1) = true := rfl
      refine ⟨zeroC, by simpa [walkT, hb] using isT_zero, .inl ?_⟩
      simp only [walkT, hb, hs, hi]
      iterate 7 apply Exists.intro
      apply loop_ret
      rw [hv]
      simp only [AV.cells, zeroC] at hsp1
      simp only [L32, zeroC, c32_7, c32_1, c32_2, c32_3, c32_4, c32_5, h1, hla, hbs, hsp1, e_callh, snapv, q9z, c_ld, c_ld0, c_st, c_st0, c_bx, evNil, ldAt, stAt, preH_some, List.append_assoc, e_bslice1, e_bslice2, bs1, bs2, e_build, bdH_some, bd_nil, bd_cons, bd1, cl_agg, cl_int, toL, List.map_cons, List.map_nil, putAt, List.set_cons_zero, List.set_cons_succ, and_self, Nat.le_refl, app_get, app_set, g_agg, run_nil, run_cons, stp_plain, stp_guard, put_some, pass_eq, pick_tt, pick_ff, pick_tf, pick_ft, pick_u, reg_some, thn_normal, thn_exit, thn_ret, cnd_t, cnd_f, blk_normal, blk_ret, blk_exit, x_seq, x_region, x_cond, x_block, x_loop, x_ret, x_exit, x_skip, e_mov, e_pick, pk_t, pk_f, withH_some, e_box, e_load, e_store, stH_some, e_nil, e_bin, e_eqv, eqH_f, eqH_t, e_un, e_fa, e_ia, ia_eq, nat_eq, natV_nat, e_len, lnH_some, e_extract, ex_0, ex_1, e_call0, e_call1, e_call2, e_call3, pc0_eq, pc1_some, pc2_some, pc3_some, fin_some, g_var0, g_vars, g_loc0, g_locs, g_int, g_bool, g_str, g_sl, s_none, s_zero, s_succ, cl_nil, cl_str, cl_bool, cl_slc, cl_own, evFa, evNil, asEl, evBin, intBin, strBin, evUn, len_nil, len_slc, len_str, clr, List.length_nil, List.length_cons, List.getElem?_cons_zero, List.getElem?_cons_succ, Nat.reduceAdd, Nat.zero_add, Nat.add_zero, Nat.reduceLeDiff, Nat.reduceSub, ↓reduceIte, List.drop_succ_cons, List.drop_zero, List.take_succ_cons, List.take_zero, Bool.false_eq_true, List.nil_append, List.cons_append, Bool.not_true, Bool.not_false, cond_true, cond_false, bne, lv_ret, lv_normal, res1, res2, lv2_some, res_var, res_cell, lvf_v, lvf_slc, res1c, lvo1_some]
      rfl
  | succ m ih =>
    intro hm t cs ht tail vars htl hv
    cases hb : bound rs t with
    | none =>
      rw [stay (m + 1) t hb]
      exact ⟨cs, ht, .inr ⟨rfl, none_case (m + 1) t cs ht hb tail vars hv⟩⟩
    | some t' =>
      obtain ⟨s, n, c', cs', rfl, ht', hla⟩ := some_case t cs ht t' hb
      have hbl := hB3 tail ht isT_zero ht' htl
      have hsp1 := spend_ok (l := _) c (all_below_mono (Nat.zero_le _) hbl) (2000 - ((m + 1 : Nat) : Int)) ⟨by omega, by omega⟩
      have hd : decide ((2000 : Int) - ((m + 1 : Nat) : Int) + 1 ≤ 2000) = true := by simp; omega
      have hi : (2000 : Int) - ((m + 1 : Nat) : Int) + 1 = 2000 - (m : Int) := by omega
      rw [hd, hi] at hsp1
      have ht2 := ht'
      have hwalk : walkT rs (m + 1) t = walkT rs m t' := by simp [walkT, hb]
      rw [hwalk]
      have htl2 : (tail ++ [AO.box cs']).all (AO.below 0) = true := by
        have := ht'.bel
        simp only [AV.cells] at this
        simp only [List.all_append, List.all_cons, List.all_nil, htl, this, Bool.and_true]
      cases ht' with
      | mk k2 s2 n2 c2 l2 hc2 =>
      have h1 : ((1 : Int) == 1) = true := rfl
      have st : exec (callW F) K c32_7 (L32 b h.length id off) (ctr h id off ms (2000 - ((m + 1 : Nat) : Int)) ++ (.box [.v (.int .i64 1), .v (.string s), .v (.int .i64 n), c'] :: .box zeroC :: tail)) = some (.normal, [.ptr id off, b, .junk, .ptr h.length 0, .ptr (h.length + 1) 0, .junk, .ptr (h.length + (tail.length + 1 + 1)) 0, .v (.bool true), .v (.bool true), .v (.bool false), .v (.bool false)], ctr h id off ms (2000 - (m : Int)) ++ (.box [.v (.int .i64 k2), .v (.string s2), .v (.int .i64 n2), c2] :: .box zeroC :: (tail ++ [.box [.v (.int .i64 k2), .v (.string s2), .v (.int .i64 n2), c2]]))) := by
        simp only [AV.cells, zeroC] at hsp1
        simp only [L32, zeroC, c32_7, c32_1, c32_2, c32_3, c32_4, c32_6, h1, hla, hbs, hsp1, e_callh, snapv, q9z, c_ld, c_ld0, c_st, c_st0, c_bx, evNil, ldAt, stAt, preH_some, List.append_assoc, e_bslice1, e_bslice2, bs1, bs2, e_build, bdH_some, bd_nil, bd_cons, bd1, cl_agg, cl_int, toL, List.map_cons, List.map_nil, putAt, List.set_cons_zero, List.set_cons_succ, and_self, Nat.le_refl, app_get, app_set, g_agg, run_nil, run_cons, stp_plain, stp_guard, put_some, pass_eq, pick_tt, pick_ff, pick_tf, pick_ft, pick_u, reg_some, thn_normal, thn_exit, thn_ret, cnd_t, cnd_f, blk_normal, blk_ret, blk_exit, x_seq, x_region, x_cond, x_block, x_loop, x_ret, x_exit, x_skip, e_mov, e_pick, pk_t, pk_f, withH_some, e_box, e_load, e_store, stH_some, e_nil, e_bin, e_eqv, eqH_f, eqH_t, e_un, e_fa, e_ia, ia_eq, nat_eq, natV_nat, e_len, lnH_some, e_extract, ex_0, ex_1, e_call0, e_call1, e_call2, e_call3, pc0_eq, pc1_some, pc2_some, pc3_some, fin_some, g_var0, g_vars, g_loc0, g_locs, g_int, g_bool, g_str, g_sl, s_none, s_zero, s_succ, cl_nil, cl_str, cl_bool, cl_slc, cl_own, evFa, evNil, asEl, evBin, intBin, strBin, evUn, len_nil, len_slc, len_str, clr, List.length_nil, List.length_cons, List.getElem?_cons_zero, List.getElem?_cons_succ, Nat.reduceAdd, Nat.zero_add, Nat.add_zero, Nat.reduceLeDiff, Nat.reduceSub, ↓reduceIte, List.drop_succ_cons, List.drop_zero, List.take_succ_cons, List.take_zero, Bool.false_eq_true, List.nil_append, List.cons_append, Bool.not_true, Bool.not_false, cond_true, cond_false, bne, lv_ret, lv_normal, res1, res2, lv2_some, res_var, res_cell, lvf_v, lvf_slc, res1c, lvo1_some]
      rw [loop_normal (by rw [hv]; exact st)]
      exact ih (by omega) _ _ ht2 _ _ htl2 rfl

theorem meter_ok (c : Ctr h id off ms) {b a : AV} {es : List AV} {rs : List (Int × Tm)} (hes : AllB es rs) (hbs : ∀ h : List AO, b.snap1 h = some b) (hlook : ∀ n, callW F 14 [b, .v (.int .i64 n)] [] = some (lookA n es, []))
    (m : Nat) (hm : m ≤ 2000) {t : Tm} (ht : IsT a t) : ∃ rc, IsT (.agg rc) (walkT rs m t).1 ∧ callW F 32 [.ptr id off, b, a] (ctr h id off ms (2000 - (m : Int))) = some (.tup [.agg rc, .v (.int .i64 (walkT rs m t).2.1)], ctr h id off ms (spent (walkT rs m t).2.1 (walkT rs m t).2.2)) := by
  obtain ⟨cs, rfl⟩ : ∃ cs, a = .agg cs := by cases ht; exact ⟨_, rfl⟩
  obtain ⟨rc, hrc, hl⟩ := meter_loop (K := 5001) c hes hbs hlook m hm t cs ht [] (L32 b h.length id off) rfl rfl
  refine ⟨rc, hrc, ?_⟩
  have hres : c32.res = [.cell 4 true 4, .var 5] := rfl
  have body : exec (callW F) 5001 c32.body (start c32 [.ptr id off, b, .agg cs]) (ctr h id off ms (2000 - (m : Int)) ++ []) = thn (callW F) 5001 (.seq (.region [] [] c32_8) .ret) (blk 0 (loopN (exec (callW F) 5001 c32_7) K32 5001 (L32 b h.length id off) (ctr h id off ms (2000 - (m : Int)) ++ (.box cs :: .box zeroC :: [])))) := by
    show exec (callW F) 5001 (.seq (.region [] [] c32_0) (.seq (.block 0 (.loop K32 [] c32_7)) (.seq (.region [] [] c32_8) .ret))) _ _ = _
    generalize (CC.seq (.region [] [] c32_8) .ret) = rest
    simp only [c32, start, zeroC, List.replicate, c32_0, q9z, c_bx, preH_some, List.append_assoc, e_bslice1, e_bslice2, bs1, bs2, e_build, bdH_some, bd_nil, bd_cons, bd1, cl_agg, cl_int, toL, List.map_cons, List.map_nil, putAt, List.set_cons_zero, List.set_cons_succ, and_self, Nat.le_refl, app_get, app_set, g_agg, run_nil, run_cons, stp_plain, stp_guard, put_some, pass_eq, pick_tt, pick_ff, pick_tf, pick_ft, pick_u, reg_some, thn_normal, thn_exit, thn_ret, cnd_t, cnd_f, blk_normal, blk_ret, blk_exit, x_seq, x_region, x_cond, x_block, x_loop, x_ret, x_exit, x_skip, e_mov, e_pick, pk_t, pk_f, withH_some, e_box, e_load, e_store, stH_some, e_nil, e_bin, e_eqv, eqH_f, eqH_t, e_un, e_fa, e_ia, ia_eq, nat_eq, natV_nat, e_len, lnH_some, e_extract, ex_0, ex_1, e_call0, e_call1, e_call2, e_call3, pc0_eq, pc1_some, pc2_some, pc3_some, fin_some, g_var0, g_vars, g_loc0, g_locs, g_int, g_bool, g_str, g_sl, s_none, s_zero, s_succ, cl_nil, cl_str, cl_bool, cl_slc, cl_own, evFa, evNil, asEl, evBin, intBin, strBin, evUn, len_nil, len_slc, len_str, clr, List.length_nil, List.length_cons, List.getElem?_cons_zero, List.getElem?_cons_succ, Nat.reduceAdd, Nat.zero_add, Nat.add_zero, Nat.reduceLeDiff, Nat.reduceSub, ↓reduceIte, List.drop_succ_cons, List.drop_zero, List.take_succ_cons, List.take_zero, Bool.false_eq_true, List.nil_append, List.cons_append, Bool.not_true, Bool.not_false, cond_true, cond_false, bne, lv_ret, lv_normal, res1, res2, lv2_some, res_var, res_cell, lvf_v, lvf_slc, res1c, lvo1_some]
    rw [loop_cong (v2 := L32 b h.length id off) (by rfl)]
  refine callW_own (c := c32) rfl rfl 5001 ?_
  rw [body, ctr_len]
  rcases hl with ⟨o, tl, x6, x7, x8, x9, x10, h1⟩ | ⟨h0, tl, x6, x7, x8, x9, x10, h1⟩
  · rw [loop_more h1 (by omega)]
    generalize walkT rs m t = w at hrc ⊢
    obtain ⟨w1, w2, w3⟩ := w
    simp only [blk_ret, thn_ret]
    rw [leave_own ctr_len (c.all _), hres, own_res2 (x := .agg rc) (y := .v (.int .i64 w2)) _ _]
    · exact lvo_two (hrc.frz _ _) rfl
    · cases hrc; simp only [res_cell, c_ld, ldAt, e_bslice1, e_bslice2, bs1, bs2, e_build, bdH_some, bd_nil, bd_cons, bd1, cl_agg, cl_int, toL, List.map_cons, List.map_nil, putAt, List.set_cons_zero, List.set_cons_succ, and_self, Nat.le_refl, app_get, app_set, g_agg, run_nil, run_cons, stp_plain, stp_guard, put_some, pass_eq, pick_tt, pick_ff, pick_tf, pick_ft, pick_u, reg_some, thn_normal, thn_exit, thn_ret, cnd_t, cnd_f, blk_normal, blk_ret, blk_exit, x_seq, x_region, x_cond, x_block, x_loop, x_ret, x_exit, x_skip, e_mov, e_pick, pk_t, pk_f, withH_some, e_box, e_load, e_store, stH_some, e_nil, e_bin, e_eqv, eqH_f, eqH_t, e_un, e_fa, e_ia, ia_eq, nat_eq, natV_nat, e_len, lnH_some, e_extract, ex_0, ex_1, e_call0, e_call1, e_call2, e_call3, pc0_eq, pc1_some, pc2_some, pc3_some, fin_some, g_var0, g_vars, g_loc0, g_locs, g_int, g_bool, g_str, g_sl, s_none, s_zero, s_succ, cl_nil, cl_str, cl_bool, cl_slc, cl_own, evFa, evNil, asEl, evBin, intBin, strBin, evUn, len_nil, len_slc, len_str, clr, List.length_nil, List.length_cons, List.getElem?_cons_zero, List.getElem?_cons_succ, Nat.reduceAdd, Nat.zero_add, Nat.add_zero, Nat.reduceLeDiff, Nat.reduceSub, ↓reduceIte, List.drop_succ_cons, List.drop_zero, List.take_succ_cons, List.take_zero, Bool.false_eq_true, List.nil_append, List.cons_append, Bool.not_true, Bool.not_false, cond_true, cond_false, bne, lv_ret, lv_normal, res1, res2, lv2_some, res_var, res_cell, lvf_v, lvf_slc, res1c, lvo1_some]
    · rfl
  · rw [loop_more h1 (by omega)]
    rw [h0]
    generalize walkT rs m t = w at hrc ⊢
    obtain ⟨w1, w2, w3⟩ := w
    cases hrc
    simp only [blk_exit, thn_normal, zeroC, c32_8, c_ld, c_ld0, c_st, c_st0, ldAt, stAt, preH_some, List.append_assoc, e_bslice1, e_bslice2, bs1, bs2, e_build, bdH_some, bd_nil, bd_cons, bd1, cl_agg, cl_int, toL, List.map_cons, List.map_nil, putAt, List.set_cons_zero, List.set_cons_succ, and_self, Nat.le_refl, app_get, app_set, g_agg, run_nil, run_cons, stp_plain, stp_guard, put_some, pass_eq, pick_tt, pick_ff, pick_tf, pick_ft, pick_u, reg_some, thn_normal, thn_exit, thn_ret, cnd_t, cnd_f, blk_normal, blk_ret, blk_exit, x_seq, x_region, x_cond, x_block, x_loop, x_ret, x_exit, x_skip, e_mov, e_pick, pk_t, pk_f, withH_some, e_box, e_load, e_store, stH_some, e_nil, e_bin, e_eqv, eqH_f, eqH_t, e_un, e_fa, e_ia, ia_eq, nat_eq, natV_nat, e_len, lnH_some, e_extract, ex_0, ex_1, e_call0, e_call1, e_call2, e_call3, pc0_eq, pc1_some, pc2_some, pc3_some, fin_some, g_var0, g_vars, g_loc0, g_locs, g_int, g_bool, g_str, g_sl, s_none, s_zero, s_succ, cl_nil, cl_str, cl_bool, cl_slc, cl_own, evFa, evNil, asEl, evBin, intBin, strBin, evUn, len_nil, len_slc, len_str, clr, List.length_nil, List.length_cons, List.getElem?_cons_zero, List.getElem?_cons_succ, Nat.reduceAdd, Nat.zero_add, Nat.add_zero, Nat.reduceLeDiff, Nat.reduceSub, ↓reduceIte, List.drop_succ_cons, List.drop_zero, List.take_succ_cons, List.take_zero, Bool.false_eq_true, List.nil_append, List.cons_append, Bool.not_true, Bool.not_false, cond_true, cond_false, bne, lv_ret, lv_normal, res1, res2, lv2_some, res_var, res_cell, lvf_v, lvf_slc, res1c, lvo1_some]
    rw [leave_own ctr_len (c.all _), hres, own_res2 (x := .agg _) (y := .v (.int .i64 0)) _ _]
    · exact lvo_two (IsT.frz (.mk _ _ _ _ _ (by assumption)) _ _) rfl
    · simp only [res_cell, c_ld, ldAt, e_bslice1, e_bslice2, bs1, bs2, e_build, bdH_some, bd_nil, bd_cons, bd1, cl_agg, cl_int, toL, List.map_cons, List.map_nil, putAt, List.set_cons_zero, List.set_cons_succ, and_self, Nat.le_refl, app_get, app_set, g_agg, run_nil, run_cons, stp_plain, stp_guard, put_some, pass_eq, pick_tt, pick_ff, pick_tf, pick_ft, pick_u, reg_some, thn_normal, thn_exit, thn_ret, cnd_t, cnd_f, blk_normal, blk_ret, blk_exit, x_seq, x_region, x_cond, x_block, x_loop, x_ret, x_exit, x_skip, e_mov, e_pick, pk_t, pk_f, withH_some, e_box, e_load, e_store, stH_some, e_nil, e_bin, e_eqv, eqH_f, eqH_t, e_un, e_fa, e_ia, ia_eq, nat_eq, natV_nat, e_len, lnH_some, e_extract, ex_0, ex_1, e_call0, e_call1, e_call2, e_call3, pc0_eq, pc1_some, pc2_some, pc3_some, fin_some, g_var0, g_vars, g_loc0, g_locs, g_int, g_bool, g_str, g_sl, s_none, s_zero, s_succ, cl_nil, cl_str, cl_bool, cl_slc, cl_own, evFa, evNil, asEl, evBin, intBin, strBin, evUn, len_nil, len_slc, len_str, clr, List.length_nil, List.length_cons, List.getElem?_cons_zero, List.getElem?_cons_succ, Nat.reduceAdd, Nat.zero_add, Nat.add_zero, Nat.reduceLeDiff, Nat.reduceSub, ↓reduceIte, List.drop_succ_cons, List.drop_zero, List.take_succ_cons, List.take_zero, Bool.false_eq_true, List.nil_append, List.cons_append, Bool.not_true, Bool.not_false, cond_true, cond_false, bne, lv_ret, lv_normal, res1, res2, lv2_some, res_var, res_cell, lvf_v, lvf_slc, res1c, lvo1_some]
    · rfl
end

/-- a heap whose last object is the counter -/
theorem ctr_new {h : List AO} (hh : h.all (AO.below h.length) = true) : Ctr (h ++ [.box [.v (.int .i64 0)]]) h.length 0 [.v (.int .i64 0)] := by
  refine ⟨by simp, by simp, ?_, rfl⟩
  rw [List.all_append, Bool.and_eq_true]
  exact ⟨all_below_mono (by simp) hh, rfl⟩
theorem ctr_new_eq {h : List AO} {n m : Int} : ctr (h ++ [.box [.v (.int .i64 n)]]) h.length 0 [.v (.int .i64 n)] m = h ++ [.box [.v (.int .i64 m)]] := by
  simp [ctr]

theorem walks {b : AV} {bs : List (Int × Tm)} (hb : IsB b bs) (hl : bs.length ≤ 100000) {a : AV} {t : Tm} (ht : IsT a t) : ∃ x y, IsT x (walkT bs.reverse 2000 t).1 ∧ IsT y (walkT bs.reverse 2000 t).1 ∧ callW F 11 [b, a] [] = some (.tup [x, .v (.int .i64 (walkT bs.reverse 2000 t).2.1)], []) ∧ callW F 12 [b, a] [] = some (.tup [y, .v (.int .i64 (walkT bs.reverse 2000 t).2.1)], []) := by
  obtain ⟨es, hes, hk1, hk2⟩ := looks hb hl
  have hbs : ∀ h : List AO, b.snap1 h = some b := by
    intro h; cases hb <;> rfl
  have h0 : ([.box a.cells, .box zeroC] : List AO).all (AO.below 2) = true := by
    have := below_mono (Nat.zero_le 2) _ ht.bel
    simp only [List.all_cons, List.all_nil, this, Bool.and_true]; rfl
  have hc := ctr_new (h := [.box a.cells, .box zeroC]) h0
  have hsn : ∀ h : List AO, a.snap1 h = some a := fun h => ht.snap
  obtain ⟨x, hx, h31⟩ := follow_ok hc hes.reverse hbs hk1 2000 (by omega) ht
  obtain ⟨y, hy, h32⟩ := meter_ok hc hes.reverse hbs hk2 2000 (by omega) ht
  rw [ctr_new_eq, ctr_new_eq] at h31 h32
  refine ⟨.agg x, .agg y, hx, hy, ?_, ?_⟩
  · refine callW_pure (c := c11) rfl rfl 0 ?_
    generalize walkT bs.reverse 2000 t = w at hx h31 ⊢
    obtain ⟨w1, w2, w3⟩ := w
    have g1 := lvt hx
    cases hx
    cases ht
    have e1 : ((2000 : Nat) : Int) = 2000 := rfl
    simp only [AV.cells, zeroC, e1, List.cons_append, List.nil_append, List.length_cons, List.length_nil, Nat.zero_add, Nat.reduceAdd] at h31
    simp only [c11, start, List.replicate, c11_0, c11_1, c11_2, q9z, h31, e_callh, g1, e_bslice1, e_bslice2, bs1, bs2, e_build, bdH_some, bd_nil, bd_cons, bd1, cl_agg, cl_int, toL, List.map_cons, List.map_nil, putAt, List.set_cons_zero, List.set_cons_succ, and_self, Nat.le_refl, evStore, app_get, app_set, g_agg, run_nil, run_cons, stp_plain, stp_guard, put_some, pass_eq, pick_tt, pick_ff, pick_tf, pick_ft, pick_u, reg_some, thn_normal, thn_exit, thn_ret, cnd_t, cnd_f, blk_normal, blk_ret, blk_exit, x_seq, x_region, x_cond, x_block, x_loop, x_ret, x_exit, x_skip, e_mov, e_pick, pk_t, pk_f, withH_some, e_box, bx_some, e_load, e_store, stH_some, e_nil, e_bin, e_eqv, eqH_f, eqH_t, e_un, e_fa, e_ia, ia_eq, nat_eq, natV_nat, e_len, lnH_some, e_extract, ex_0, ex_1, e_call0, e_call1, e_call2, e_call3, pc0_eq, pc1_some, pc2_some, pc3_some, fin_some, g_var0, g_vars, g_loc0, g_locs, g_int, g_bool, g_str, g_sl, s_none, s_zero, s_succ, cl_nil, cl_str, cl_bool, cl_slc, cl_own, evFa, evNil, evLoad, asEl, evBin, intBin, strBin, evUn, len_nil, len_slc, len_str, clr, List.length_nil, List.length_cons, List.getElem?_cons_zero, List.getElem?_cons_succ, Nat.reduceAdd, Nat.zero_add, Nat.add_zero, Nat.reduceLeDiff, Nat.reduceSub, ↓reduceIte, List.drop_succ_cons, List.drop_zero, List.take_succ_cons, List.take_zero, Bool.false_eq_true, List.nil_append, List.cons_append, Bool.not_true, Bool.not_false, cond_true, cond_false, bne, lv_ret, lv_normal, res1, res2, lv2_some, res_var, res_cell, lvf_v, lvf_slc, res1c, lvo1_some]
  · refine callW_pure (c := c12) rfl rfl 0 ?_
    generalize walkT bs.reverse 2000 t = w at hy h32 ⊢
    obtain ⟨w1, w2, w3⟩ := w
    have g1 := lvt hy
    cases hy
    cases ht
    have e0 : (2000 : Int) - ((2000 : Nat) : Int) = 0 := rfl
    simp only [AV.cells, zeroC, e0, List.cons_append, List.nil_append, List.length_cons, List.length_nil, Nat.zero_add, Nat.reduceAdd] at h32
    simp only [c12, start, List.replicate, c12_0, c12_1, c12_2, q9z, h32, e_callh, g1, e_bslice1, e_bslice2, bs1, bs2, e_build, bdH_some, bd_nil, bd_cons, bd1, cl_agg, cl_int, toL, List.map_cons, List.map_nil, putAt, List.set_cons_zero, List.set_cons_succ, and_self, Nat.le_refl, evStore, app_get, app_set, g_agg, run_nil, run_cons, stp_plain, stp_guard, put_some, pass_eq, pick_tt, pick_ff, pick_tf, pick_ft, pick_u, reg_some, thn_normal, thn_exit, thn_ret, cnd_t, cnd_f, blk_normal, blk_ret, blk_exit, x_seq, x_region, x_cond, x_block, x_loop, x_ret, x_exit, x_skip, e_mov, e_pick, pk_t, pk_f, withH_some, e_box, bx_some, e_load, e_store, stH_some, e_nil, e_bin, e_eqv, eqH_f, eqH_t, e_un, e_fa, e_ia, ia_eq, nat_eq, natV_nat, e_len, lnH_some, e_extract, ex_0, ex_1, e_call0, e_call1, e_call2, e_call3, pc0_eq, pc1_some, pc2_some, pc3_some, fin_some, g_var0, g_vars, g_loc0, g_locs, g_int, g_bool, g_str, g_sl, s_none, s_zero, s_succ, cl_nil, cl_str, cl_bool, cl_slc, cl_own, evFa, evNil, evLoad, asEl, evBin, intBin, strBin, evUn, len_nil, len_slc, len_str, clr, List.length_nil, List.length_cons, List.getElem?_cons_zero, List.getElem?_cons_succ, Nat.reduceAdd, Nat.zero_add, Nat.add_zero, Nat.reduceLeDiff, Nat.reduceSub, ↓reduceIte, List.drop_succ_cons, List.drop_zero, List.take_succ_cons, List.take_zero, Bool.false_eq_true, List.nil_append, List.cons_append, Bool.not_true, Bool.not_false, cond_true, cond_false, bne, lv_ret, lv_normal, res1, res2, lv2_some, res_var, res_cell, lvf_v, lvf_slc, res1c, lvo1_some]
end Go.AE.Ytpgoibncgekflaa

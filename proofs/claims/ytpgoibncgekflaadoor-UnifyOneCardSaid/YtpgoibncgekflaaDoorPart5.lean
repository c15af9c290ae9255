/- Texts of this claim, put together. -/
import Derived.Test.YtpgoibncgekflaaDoorPart4
import Derived.Test.YtpgoibncgekflaaDoorTie
import Derived.Test.YtpgoibncgekflaaDoorCards
import Derived.Lib.LaidIn
import Derived.Lib.LaidU8T
import Derived.Handed
import Derived.SevenTiedAt
/-! Resolve of the document: all of it. -/
section
set_option linter.unusedVariables false
set_option linter.unusedSimpArgs false
namespace Go.AE.YtpgoibncgekflaaDoor
open Go Go.AE Go.Proofs.YtpgoibncgekflaaDoor

theorem Lc.frz {tail H : List AO} {B : Nat} {acc : AV} {ds : List AV} {xs : List Tm} (a : Lc tail B acc ds) (hx : All2 ds xs) (hm : ds.length ≤ maxLen) (hB : H.length = B) (b0 b1 : AO) : ∃ c, acc.frz0 B (H ++ (b0 :: b1 :: tail)) = some c ∧ IsL c xs := by
  cases a with
  | nil => cases hx; exact ⟨_, rfl, .nil⟩
  | own k ver _ hr hne =>
    have h1 : (H ++ (b0 :: b1 :: tail))[B + (k + 2)]? = some (.row 4 ver ds 0) := by rw [obj_get hB]; exact hr
    have h2 : ¬ B + (k + 2) < B := by omega
    exact ⟨.slc 4 false false ds, by simp [AV.frz0, rowAt, h1], .slc _ _ _ _ hx hm⟩
theorem resL_len {f : Nat → Tm → Except Int (Tm × Nat)} : ∀ {l : List Tm} {m m2 : Nat} {xs : List Tm}, resL f m l = .ok (xs, m2) → xs.length = l.length
  | [], m, m2, xs, h => by simp only [resL] at h; cases h; rfl
  | t :: l, m, m2, xs, h => by
    simp only [resL] at h
    split at h
    · cases h
    · split at h
      · cases h
      · rename_i x m1 _ _ ys m3 he
        cases h
        simp [resL_len he]
theorem Lc.cl {tail : List AO} {B : Nat} {acc : AV} {ds : List AV} (a : Lc tail B acc ds) : acc.cl = some [acc] := by cases a <;> rfl
def tail44 : CC := (.seq (.region [] [] c44_16) (.seq (.region [] [] c44_17) .ret))
def head44 (rest : CC) : CC := (.seq (.region [] [] c44_0) (.seq (.region [] [] c44_1) (.seq (.seq (.region [] [] c44_2) (.cond (.var 12) (.seq (.region [] [] c44_3) .ret) .skip)) (.seq (.seq (.region [] [] c44_4) (.cond (.var 13) (.seq (.region [] [] c44_5) .ret) .skip)) rest))))
def mid44 : CC := (.seq (.region [] [] c44_6) (.seq (.seq (.region [] [] c44_7) (.block 0 (.loop K44 [] c44_15))) tail44))
theorem body44 : c44.body = head44 mid44 := rfl
theorem start44 (a b c d : AV) : start c44 [a, b, c, d] = [a, b, c, d, .v undef, .v undef, .v undef, .v undef, .v undef, .v undef, .v undef, .v undef, .v undef, .v undef, .v undef, .v undef, .v undef, .v undef, .v undef] := rfl
section
variable {b : AV}
theorem res44 {es : List AV} {rs : List (Int × Tm)} (hes : AllB es rs) (hbs : ∀ h : List AO, b.snap1 h = some b) (hlook : ∀ n, callW F 72 [b, .v (.int .i64 n)] [] = some (lookA n es, [])) (hrs : ∀ p ∈ rs, size p.2 ≤ 100000) : ∀ d : Nat, d ≤ 60 → Res44 rs b d := by
  intro d
  induction d with
  | zero =>
    intro _ h id off ms m t a c hm hsz ht
    have hl2 : ([.box a.cells, .box zeroC] : List AO).all (AO.below 0) = true := by
      have h1 := ht.bel
      have hz : (AO.box zeroC).below 0 = true := rfl
      simp only [List.all_cons, List.all_nil, h1, hz, Bool.and_true]
    obtain ⟨rc, hrc, hc⟩ := meet58 (c.app0 hl2) hes (b := b) (b' := b) (fun _ _ => hbs _) hlook m hm ht
    rw [ctr_app c.lt, ctr_app c.lt] at hc
    have hresv : c44.res = [.cell 5 true 4, .var 6] := rfl
    have hd : (60 : Int) - ((0 : Nat) : Int) = 60 := rfl
    rcases meetT_err rs m t with h0 | ⟨h1, h2⟩
    · simp only [resT]
      generalize meetT rs m t = w at hrc hc h0 ⊢
      obtain ⟨w1, w2, w3⟩ := w
      dsimp only at h0 hrc hc ⊢
      subst h0
      rw [if_pos rfl]
      refine ⟨by decide, spent 0 w3, callW_own (c := c44) rfl rfl 0 ?_⟩
      have e1 : decide ((60 : Int) ≥ 60) = true := rfl
      have e2 : ((0 : Int) == 0) = true := rfl
      rw [hd]
      generalize spent 0 w3 = N at hc ⊢
      have body : exec (callW F) 0 c44.body (start c44 [.ptr id off, b, a, .v (.int .i64 60)]) (ctr h id off ms (2000 - (m : Int)) ++ []) = some (.ret, [.ptr id off, b, a, .v (.int .i64 60), .ptr h.length 0, .ptr (h.length + 1) 0, .v (.int .i64 3), .v (.int .i64 0), .v undef, .v undef, .v undef, .v undef, .v (.bool false), .v (.bool true), .v undef, .v undef, .v undef, .v undef, .v undef], ctr h id off ms N ++ [.box rc, .box zeroC]) := by
        rw [body44, start44]
        generalize mid44 = rest
        cases hrc
        cases ht
        simp only [AV.cells, zeroC] at hc
        simp only [head44, zeroC, c44_0, c44_1, c44_2, c44_4, c44_5, e1, e2, hc, e_callh, q9z, AV.cells, evNil, c_ld, c_ld0, c_st, c_st0, c_bx, ldAt, stAt, preH_some, List.append_assoc, e_bslice1, e_bslice2, bs1, bs2, e_build, bdH_some, bd_nil, bd_cons, bd1, cl_agg, cl_int, toL, List.map_cons, List.map_nil, putAt, List.set_cons_zero, List.set_cons_succ, and_self, Nat.le_refl, app_get, app_set, g_agg, run_nil, run_cons, stp_plain, stp_guard, put_some, pass_eq, pick_tt, pick_ff, pick_tf, pick_ft, pick_u, reg_some, thn_normal, thn_exit, thn_ret, cnd_t, cnd_f, blk_normal, blk_ret, blk_exit, x_seq, x_region, x_cond, x_block, x_loop, x_ret, x_exit, x_skip, e_mov, e_pick, pk_t, pk_f, withH_some, e_box, e_load, e_store, stH_some, e_nil, e_bin, e_eqv, eqH_f, eqH_t, e_un, e_fa, e_ia, ia_eq, nat_eq, natV_nat, e_len, lnH_some, e_extract, ex_0, ex_1, e_call0, e_call1, e_call2, e_call3, pc0_eq, pc1_some, pc2_some, pc3_some, fin_some, g_var0, g_vars, g_loc0, g_locs, g_int, g_bool, g_str, g_sl, s_none, s_zero, s_succ, cl_nil, cl_str, cl_bool, cl_slc, cl_own, evFa, evNil, asEl, evBin, intBin, strBin, evUn, len_nil, len_slc, len_str, clr, List.length_nil, List.length_cons, List.getElem?_cons_zero, List.getElem?_cons_succ, Nat.reduceAdd, Nat.zero_add, Nat.add_zero, Nat.reduceLeDiff, Nat.reduceSub, ↓reduceIte, List.drop_succ_cons, List.drop_zero, List.take_succ_cons, List.take_zero, Bool.false_eq_true, List.nil_append, List.cons_append, Bool.not_true, Bool.not_false, cond_true, cond_false, bne, lv_ret, lv_normal, res1, res2, lv2_some, res_var, res_cell, lvf_v, lvf_slc, res1c, lvo1_some, e_mm, mm_max, mm_min]
      rw [body, ctr_len, leave_own ctr_len (c.all _), hresv, own_res2 (x := .agg zeroC) (y := .v (.int .i64 3)) _ _]
      · exact lvo_two (isT_zero.frz _ _) rfl
      · simp only [res_cell, c_ld, ldAt, zeroC, e_bslice1, e_bslice2, bs1, bs2, e_build, bdH_some, bd_nil, bd_cons, bd1, cl_agg, cl_int, toL, List.map_cons, List.map_nil, putAt, List.set_cons_zero, List.set_cons_succ, and_self, Nat.le_refl, app_get, app_set, g_agg, run_nil, run_cons, stp_plain, stp_guard, put_some, pass_eq, pick_tt, pick_ff, pick_tf, pick_ft, pick_u, reg_some, thn_normal, thn_exit, thn_ret, cnd_t, cnd_f, blk_normal, blk_ret, blk_exit, x_seq, x_region, x_cond, x_block, x_loop, x_ret, x_exit, x_skip, e_mov, e_pick, pk_t, pk_f, withH_some, e_box, e_load, e_store, stH_some, e_nil, e_bin, e_eqv, eqH_f, eqH_t, e_un, e_fa, e_ia, ia_eq, nat_eq, natV_nat, e_len, lnH_some, e_extract, ex_0, ex_1, e_call0, e_call1, e_call2, e_call3, pc0_eq, pc1_some, pc2_some, pc3_some, fin_some, g_var0, g_vars, g_loc0, g_locs, g_int, g_bool, g_str, g_sl, s_none, s_zero, s_succ, cl_nil, cl_str, cl_bool, cl_slc, cl_own, evFa, evNil, asEl, evBin, intBin, strBin, evUn, len_nil, len_slc, len_str, clr, List.length_nil, List.length_cons, List.getElem?_cons_zero, List.getElem?_cons_succ, Nat.reduceAdd, Nat.zero_add, Nat.add_zero, Nat.reduceLeDiff, Nat.reduceSub, ↓reduceIte, List.drop_succ_cons, List.drop_zero, List.take_succ_cons, List.take_zero, Bool.false_eq_true, List.nil_append, List.cons_append, Bool.not_true, Bool.not_false, cond_true, cond_false, bne, lv_ret, lv_normal, res1, res2, lv2_some, res_var, res_cell, lvf_v, lvf_slc, res1c, lvo1_some, e_mm, mm_max, mm_min]
      · rfl
    · simp only [resT]
      generalize meetT rs m t = w at hrc hc h1 h2 ⊢
      obtain ⟨w1, w2, w3⟩ := w
      dsimp only at h1 h2 hrc hc ⊢
      subst h1
      subst h2
      rw [if_neg (by decide)]
      refine ⟨by decide, spent 140 w3, callW_own (c := c44) rfl rfl 0 ?_⟩
      have e2 : ((140 : Int) == 0) = false := rfl
      rw [hd]
      generalize spent 140 w3 = N at hc ⊢
      have body : exec (callW F) 0 c44.body (start c44 [.ptr id off, b, a, .v (.int .i64 60)]) (ctr h id off ms (2000 - (m : Int)) ++ []) = some (.ret, [.ptr id off, b, a, .v (.int .i64 60), .ptr h.length 0, .ptr (h.length + 1) 0, .v (.int .i64 140), .v (.int .i64 140), .v undef, .v undef, .v undef, .v undef, .v (.bool true), .v undef, .v undef, .v undef, .v undef, .v undef, .v undef], ctr h id off ms N ++ [.box rc, .box zeroC]) := by
        rw [body44, start44]
        generalize mid44 = rest
        generalize zeroT = zt at hrc
        cases hrc
        cases ht
        simp only [AV.cells, zeroC] at hc
        simp only [head44, zeroC, c44_0, c44_1, c44_2, c44_3, e2, hc, e_callh, q9z, AV.cells, evNil, c_ld, c_ld0, c_st, c_st0, c_bx, ldAt, stAt, preH_some, List.append_assoc, e_bslice1, e_bslice2, bs1, bs2, e_build, bdH_some, bd_nil, bd_cons, bd1, cl_agg, cl_int, toL, List.map_cons, List.map_nil, putAt, List.set_cons_zero, List.set_cons_succ, and_self, Nat.le_refl, app_get, app_set, g_agg, run_nil, run_cons, stp_plain, stp_guard, put_some, pass_eq, pick_tt, pick_ff, pick_tf, pick_ft, pick_u, reg_some, thn_normal, thn_exit, thn_ret, cnd_t, cnd_f, blk_normal, blk_ret, blk_exit, x_seq, x_region, x_cond, x_block, x_loop, x_ret, x_exit, x_skip, e_mov, e_pick, pk_t, pk_f, withH_some, e_box, e_load, e_store, stH_some, e_nil, e_bin, e_eqv, eqH_f, eqH_t, e_un, e_fa, e_ia, ia_eq, nat_eq, natV_nat, e_len, lnH_some, e_extract, ex_0, ex_1, e_call0, e_call1, e_call2, e_call3, pc0_eq, pc1_some, pc2_some, pc3_some, fin_some, g_var0, g_vars, g_loc0, g_locs, g_int, g_bool, g_str, g_sl, s_none, s_zero, s_succ, cl_nil, cl_str, cl_bool, cl_slc, cl_own, evFa, evNil, asEl, evBin, intBin, strBin, evUn, len_nil, len_slc, len_str, clr, List.length_nil, List.length_cons, List.getElem?_cons_zero, List.getElem?_cons_succ, Nat.reduceAdd, Nat.zero_add, Nat.add_zero, Nat.reduceLeDiff, Nat.reduceSub, ↓reduceIte, List.drop_succ_cons, List.drop_zero, List.take_succ_cons, List.take_zero, Bool.false_eq_true, List.nil_append, List.cons_append, Bool.not_true, Bool.not_false, cond_true, cond_false, bne, lv_ret, lv_normal, res1, res2, lv2_some, res_var, res_cell, lvf_v, lvf_slc, res1c, lvo1_some, e_mm, mm_max, mm_min]
      rw [body, ctr_len, leave_own ctr_len (c.all _), hresv, own_res2 (x := .agg zeroC) (y := .v (.int .i64 140)) _ _]
      · exact lvo_two (isT_zero.frz _ _) rfl
      · simp only [res_cell, c_ld, ldAt, zeroC, e_bslice1, e_bslice2, bs1, bs2, e_build, bdH_some, bd_nil, bd_cons, bd1, cl_agg, cl_int, toL, List.map_cons, List.map_nil, putAt, List.set_cons_zero, List.set_cons_succ, and_self, Nat.le_refl, app_get, app_set, g_agg, run_nil, run_cons, stp_plain, stp_guard, put_some, pass_eq, pick_tt, pick_ff, pick_tf, pick_ft, pick_u, reg_some, thn_normal, thn_exit, thn_ret, cnd_t, cnd_f, blk_normal, blk_ret, blk_exit, x_seq, x_region, x_cond, x_block, x_loop, x_ret, x_exit, x_skip, e_mov, e_pick, pk_t, pk_f, withH_some, e_box, e_load, e_store, stH_some, e_nil, e_bin, e_eqv, eqH_f, eqH_t, e_un, e_fa, e_ia, ia_eq, nat_eq, natV_nat, e_len, lnH_some, e_extract, ex_0, ex_1, e_call0, e_call1, e_call2, e_call3, pc0_eq, pc1_some, pc2_some, pc3_some, fin_some, g_var0, g_vars, g_loc0, g_locs, g_int, g_bool, g_str, g_sl, s_none, s_zero, s_succ, cl_nil, cl_str, cl_bool, cl_slc, cl_own, evFa, evNil, asEl, evBin, intBin, strBin, evUn, len_nil, len_slc, len_str, clr, List.length_nil, List.length_cons, List.getElem?_cons_zero, List.getElem?_cons_succ, Nat.reduceAdd, Nat.zero_add, Nat.add_zero, Nat.reduceLeDiff, Nat.reduceSub, ↓reduceIte, List.drop_succ_cons, List.drop_zero, List.take_succ_cons, List.take_zero, Bool.false_eq_true, List.nil_append, List.cons_append, Bool.not_true, Bool.not_false, cond_true, cond_false, bne, lv_ret, lv_normal, res1, res2, lv2_some, res_var, res_cell, lvf_v, lvf_slc, res1c, lvo1_some, e_mm, mm_max, mm_min]
      · rfl
  | succ d ih =>
    intro hd60 h id off ms m t a c hm hsz ht
    have hR := ih (by omega)
    have hl2 : ([.box a.cells, .box zeroC] : List AO).all (AO.below 0) = true := by
      have h1 := ht.bel
      have hz : (AO.box zeroC).below 0 = true := rfl
      simp only [List.all_cons, List.all_nil, h1, hz, Bool.and_true]
    obtain ⟨rc, hrc, hc⟩ := meet58 (c.app0 hl2) hes (b := b) (b' := b) (fun _ _ => hbs _) hlook m hm ht
    rw [ctr_app c.lt, ctr_app c.lt] at hc
    have hresv : c44.res = [.cell 5 true 4, .var 6] := rfl
    have hmle := meetT_le rs m t
    have hmsz := meetT_size (M := 100000) (by omega) hrs m t hsz
    have e1 : decide ((60 : Int) - ((d + 1 : Nat) : Int) ≥ 60) = false := decide_eq_false (by omega)
    rcases meetT_err rs m t with h0 | ⟨h1, h2⟩
    · simp only [resT]
      generalize meetT rs m t = w at hrc hc h0 hmle hmsz ⊢
      obtain ⟨w1, w2, w3⟩ := w
      dsimp only at h0 hrc hc hmle hmsz
      subst h0
      rw [spent0] at hc
      have hbelr := hrc.bel
      cases hrc with
      | mk k s n cl l hcl =>
      dsimp only
      rw [if_pos rfl]
      simp only [size] at hmsz
      have hll := sizeL_len l
      obtain ⟨es', hs, hes', hmx⟩ := hcl.sl
      have e1' := hes'.length
      have hlen := hs.len
      have hloop := r44_loop (K := l.length + 1) (b := b) (cs0 := [.v (.int .i64 k), .v (.string s), .v (.int .i64 n), cl]) hs (by omega) d (by omega) hbelr hR c l 0 w3 (.v (.slice none 0 0)) [] [] [] (L44 id off h.length b (60 - ((d + 1 : Nat) : Int)) (.v (.slice none 0 0)) cl es'.length (0 : Nat)) (by omega) rfl (by omega) (by simpa using hes') .nil (fun t ht => by have := size_mem ht; omega) rfl .nil rfl
      have z0 : ((0 : Int) == 0) = true := rfl
      have pre : exec (callW F) (l.length + 1) c44.body (start c44 [.ptr id off, b, a, .v (.int .i64 (60 - ((d + 1 : Nat) : Int)))]) (ctr h id off ms (2000 - (m : Int)) ++ []) = thn (callW F) (l.length + 1) tail44 (blk 0 (loopN (exec (callW F) (l.length + 1) c44_15) K44 (l.length + 1) (L44 id off h.length b (60 - ((d + 1 : Nat) : Int)) (.v (.slice none 0 0)) cl es'.length ((0 : Nat) : Int)) (ctr h id off ms (2000 - (w3 : Int)) ++ (.box [.v (.int .i64 k), .v (.string s), .v (.int .i64 n), cl] :: .box zeroC :: [])))) := by
        rw [body44, start44]
        cases ht
        simp only [AV.cells, zeroC] at hc
        simp only [head44, mid44, zeroC, c44_0, c44_1, c44_2, c44_4, c44_6, c44_7, e1, z0, hc, hlen, e_callh, q9z, AV.cells, evNil, c_ld, c_ld0, c_st, c_st0, c_bx, ldAt, stAt, preH_some, List.append_assoc, e_bslice1, e_bslice2, bs1, bs2, e_build, bdH_some, bd_nil, bd_cons, bd1, cl_agg, cl_int, toL, List.map_cons, List.map_nil, putAt, List.set_cons_zero, List.set_cons_succ, and_self, Nat.le_refl, app_get, app_set, g_agg, run_nil, run_cons, stp_plain, stp_guard, put_some, pass_eq, pick_tt, pick_ff, pick_tf, pick_ft, pick_u, reg_some, thn_normal, thn_exit, thn_ret, cnd_t, cnd_f, blk_normal, blk_ret, blk_exit, x_seq, x_region, x_cond, x_block, x_loop, x_ret, x_exit, x_skip, e_mov, e_pick, pk_t, pk_f, withH_some, e_box, e_load, e_store, stH_some, e_nil, e_bin, e_eqv, eqH_f, eqH_t, e_un, e_fa, e_ia, ia_eq, nat_eq, natV_nat, e_len, lnH_some, e_extract, ex_0, ex_1, e_call0, e_call1, e_call2, e_call3, pc0_eq, pc1_some, pc2_some, pc3_some, fin_some, g_var0, g_vars, g_loc0, g_locs, g_int, g_bool, g_str, g_sl, s_none, s_zero, s_succ, cl_nil, cl_str, cl_bool, cl_slc, cl_own, evFa, evNil, asEl, evBin, intBin, strBin, evUn, len_nil, len_slc, len_str, clr, List.length_nil, List.length_cons, List.getElem?_cons_zero, List.getElem?_cons_succ, Nat.reduceAdd, Nat.zero_add, Nat.add_zero, Nat.reduceLeDiff, Nat.reduceSub, ↓reduceIte, List.drop_succ_cons, List.drop_zero, List.take_succ_cons, List.take_zero, Bool.false_eq_true, List.nil_append, List.cons_append, Bool.not_true, Bool.not_false, cond_true, cond_false, bne, lv_ret, lv_normal, res1, res2, lv2_some, res_var, res_cell, lvf_v, lvf_slc, res1c, lvo1_some, e_mm, mm_max, mm_min]
        rw [loop_cong (v2 := L44 id off h.length b (60 - ((d + 1 : Nat) : Int)) (.v (.slice none 0 0)) cl es'.length ((0 : Nat) : Int)) (by rfl)]
      cases hrl : resL (resT rs d) w3 l with
      | error er =>
        rw [hrl] at hloop
        obtain ⟨hne, l', tail', vs, g1, g2, g3⟩ := hloop
        refine ⟨hne, l', callW_own (c := c44) rfl rfl (l.length + 1) ?_⟩
        rw [pre, g1]
        simp only [blk_ret, thn_ret]
        rw [ctr_len, leave_own ctr_len (c.all _), hresv, own_res2 (x := .agg zeroC) (y := .v (.int .i64 er)) _ _]
        · exact lvo_two (isT_zero.frz _ _) rfl
        · rw [res_cell, g2]; simp only [c_ld, ldAt, zeroC, e_bslice1, e_bslice2, bs1, bs2, e_build, bdH_some, bd_nil, bd_cons, bd1, cl_agg, cl_int, toL, List.map_cons, List.map_nil, putAt, List.set_cons_zero, List.set_cons_succ, and_self, Nat.le_refl, app_get, app_set, g_agg, run_nil, run_cons, stp_plain, stp_guard, put_some, pass_eq, pick_tt, pick_ff, pick_tf, pick_ft, pick_u, reg_some, thn_normal, thn_exit, thn_ret, cnd_t, cnd_f, blk_normal, blk_ret, blk_exit, x_seq, x_region, x_cond, x_block, x_loop, x_ret, x_exit, x_skip, e_mov, e_pick, pk_t, pk_f, withH_some, e_box, e_load, e_store, stH_some, e_nil, e_bin, e_eqv, eqH_f, eqH_t, e_un, e_fa, e_ia, ia_eq, nat_eq, natV_nat, e_len, lnH_some, e_extract, ex_0, ex_1, e_call0, e_call1, e_call2, e_call3, pc0_eq, pc1_some, pc2_some, pc3_some, fin_some, g_var0, g_vars, g_loc0, g_locs, g_int, g_bool, g_str, g_sl, s_none, s_zero, s_succ, cl_nil, cl_str, cl_bool, cl_slc, cl_own, evFa, evNil, asEl, evBin, intBin, strBin, evUn, len_nil, len_slc, len_str, clr, List.length_nil, List.length_cons, List.getElem?_cons_zero, List.getElem?_cons_succ, Nat.reduceAdd, Nat.zero_add, Nat.add_zero, Nat.reduceLeDiff, Nat.reduceSub, ↓reduceIte, List.drop_succ_cons, List.drop_zero, List.take_succ_cons, List.take_zero, Bool.false_eq_true, List.nil_append, List.cons_append, Bool.not_true, Bool.not_false, cond_true, cond_false, bne, lv_ret, lv_normal, res1, res2, lv2_some, res_var, res_cell, lvf_v, lvf_slc, res1c, lvo1_some, e_mm, mm_max, mm_min]
        · rw [res_var, g3]
      | ok q =>
        obtain ⟨xs, m2⟩ := q
        rw [hrl] at hloop
        obtain ⟨hle2, acc', ds', tail', g1, g2, g3⟩ := hloop
        have g3 : All2 ds' xs := by simpa using g3
        have hxl : ds'.length = xs.length := g3.length
        have hxl2 := resL_len hrl
        obtain ⟨c2, hf2, hc2⟩ := g2.frz (H := ctr h id off ms (2000 - (m2 : Int))) g3 (by have : maxLen = 9223372036854775807 := rfl; omega) ctr_len (.box [.v (.int .i64 k), .v (.string s), .v (.int .i64 n), acc']) (.box [.v (.int .i64 k), .v (.string s), .v (.int .i64 n), acc'])
        refine ⟨by omega, .agg [.v (.int .i64 k), .v (.string s), .v (.int .i64 n), c2], .mk _ _ _ _ _ hc2, callW_own (c := c44) rfl rfl (l.length + 1) ?_⟩
        rw [pre, g1]
        have hcl' := g2.cl
        have hfin : exec (callW F) (l.length + 1) tail44 [.ptr id off, b, .junk, .v (.int .i64 (60 - ((d + 1 : Nat) : Int))), .ptr h.length 0, .ptr (h.length + 1) 0, .junk, .junk, acc', .junk, .junk, .junk, .junk, .junk, cl, .v (.int .i64 es'.length), .v (.int .i64 es'.length), .v (.bool false), .junk] (ctr h id off ms (2000 - (m2 : Int)) ++ (.box [.v (.int .i64 k), .v (.string s), .v (.int .i64 n), cl] :: .box zeroC :: tail')) = some (.ret, [.ptr id off, b, .junk, .v (.int .i64 (60 - ((d + 1 : Nat) : Int))), .ptr h.length 0, .ptr (h.length + 1) 0, .v (.int .i64 0), .junk, acc', .junk, .junk, .junk, .junk, .junk, cl, .v (.int .i64 es'.length), .v (.int .i64 es'.length), .v (.bool false), .junk], ctr h id off ms (2000 - (m2 : Int)) ++ (.box [.v (.int .i64 k), .v (.string s), .v (.int .i64 n), acc'] :: .box [.v (.int .i64 k), .v (.string s), .v (.int .i64 n), acc'] :: tail')) := by
          simp only [tail44, zeroC, c44_16, c44_17, hcl', c_ld, c_ld0, c_st, c_st0, ldAt, stAt, preH_some, List.append_assoc, e_bslice1, e_bslice2, bs1, bs2, e_build, bdH_some, bd_nil, bd_cons, bd1, cl_agg, cl_int, toL, List.map_cons, List.map_nil, putAt, List.set_cons_zero, List.set_cons_succ, and_self, Nat.le_refl, app_get, app_set, g_agg, run_nil, run_cons, stp_plain, stp_guard, put_some, pass_eq, pick_tt, pick_ff, pick_tf, pick_ft, pick_u, reg_some, thn_normal, thn_exit, thn_ret, cnd_t, cnd_f, blk_normal, blk_ret, blk_exit, x_seq, x_region, x_cond, x_block, x_loop, x_ret, x_exit, x_skip, e_mov, e_pick, pk_t, pk_f, withH_some, e_box, e_load, e_store, stH_some, e_nil, e_bin, e_eqv, eqH_f, eqH_t, e_un, e_fa, e_ia, ia_eq, nat_eq, natV_nat, e_len, lnH_some, e_extract, ex_0, ex_1, e_call0, e_call1, e_call2, e_call3, pc0_eq, pc1_some, pc2_some, pc3_some, fin_some, g_var0, g_vars, g_loc0, g_locs, g_int, g_bool, g_str, g_sl, s_none, s_zero, s_succ, cl_nil, cl_str, cl_bool, cl_slc, cl_own, evFa, evNil, asEl, evBin, intBin, strBin, evUn, len_nil, len_slc, len_str, clr, List.length_nil, List.length_cons, List.getElem?_cons_zero, List.getElem?_cons_succ, Nat.reduceAdd, Nat.zero_add, Nat.add_zero, Nat.reduceLeDiff, Nat.reduceSub, ↓reduceIte, List.drop_succ_cons, List.drop_zero, List.take_succ_cons, List.take_zero, Bool.false_eq_true, List.nil_append, List.cons_append, Bool.not_true, Bool.not_false, cond_true, cond_false, bne, lv_ret, lv_normal, res1, res2, lv2_some, res_var, res_cell, lvf_v, lvf_slc, res1c, lvo1_some, e_mm, mm_max, mm_min]
        rw [blk_exit, thn_normal, hfin, ctr_len, leave_own ctr_len (c.all _), hresv, own_res2 (x := .agg [.v (.int .i64 k), .v (.string s), .v (.int .i64 n), acc']) (y := .v (.int .i64 0)) _ _]
        · refine lvo_two ?_ rfl
          have k1 : ∀ (x : Value) (H : List AO), AV.frz0 h.length H (.v x) = some (.v x) := fun _ _ => rfl
          simp [AV.frz1, k1, hf2]
        · simp only [res_cell, c_ld, ldAt, e_bslice1, e_bslice2, bs1, bs2, e_build, bdH_some, bd_nil, bd_cons, bd1, cl_agg, cl_int, toL, List.map_cons, List.map_nil, putAt, List.set_cons_zero, List.set_cons_succ, and_self, Nat.le_refl, app_get, app_set, g_agg, run_nil, run_cons, stp_plain, stp_guard, put_some, pass_eq, pick_tt, pick_ff, pick_tf, pick_ft, pick_u, reg_some, thn_normal, thn_exit, thn_ret, cnd_t, cnd_f, blk_normal, blk_ret, blk_exit, x_seq, x_region, x_cond, x_block, x_loop, x_ret, x_exit, x_skip, e_mov, e_pick, pk_t, pk_f, withH_some, e_box, e_load, e_store, stH_some, e_nil, e_bin, e_eqv, eqH_f, eqH_t, e_un, e_fa, e_ia, ia_eq, nat_eq, natV_nat, e_len, lnH_some, e_extract, ex_0, ex_1, e_call0, e_call1, e_call2, e_call3, pc0_eq, pc1_some, pc2_some, pc3_some, fin_some, g_var0, g_vars, g_loc0, g_locs, g_int, g_bool, g_str, g_sl, s_none, s_zero, s_succ, cl_nil, cl_str, cl_bool, cl_slc, cl_own, evFa, evNil, asEl, evBin, intBin, strBin, evUn, len_nil, len_slc, len_str, clr, List.length_nil, List.length_cons, List.getElem?_cons_zero, List.getElem?_cons_succ, Nat.reduceAdd, Nat.zero_add, Nat.add_zero, Nat.reduceLeDiff, Nat.reduceSub, ↓reduceIte, List.drop_succ_cons, List.drop_zero, List.take_succ_cons, List.take_zero, Bool.false_eq_true, List.nil_append, List.cons_append, Bool.not_true, Bool.not_false, cond_true, cond_false, bne, lv_ret, lv_normal, res1, res2, lv2_some, res_var, res_cell, lvf_v, lvf_slc, res1c, lvo1_some, e_mm, mm_max, mm_min]
        · rfl
    · simp only [resT]
      generalize meetT rs m t = w at hrc hc h1 h2 ⊢
      obtain ⟨w1, w2, w3⟩ := w
      dsimp only at h1 h2 hrc hc ⊢
      subst h1
      subst h2
      simp only [zeroT]
      rw [if_neg (by decide)]
      refine ⟨by decide, spent 140 w3, callW_own (c := c44) rfl rfl 0 ?_⟩
      have e2 : ((140 : Int) == 0) = false := rfl
      generalize spent 140 w3 = N at hc ⊢
      have body : exec (callW F) 0 c44.body (start c44 [.ptr id off, b, a, .v (.int .i64 (60 - ((d + 1 : Nat) : Int)))]) (ctr h id off ms (2000 - (m : Int)) ++ []) = some (.ret, [.ptr id off, b, a, .v (.int .i64 (60 - ((d + 1 : Nat) : Int))), .ptr h.length 0, .ptr (h.length + 1) 0, .v (.int .i64 140), .v (.int .i64 140), .v undef, .v undef, .v undef, .v undef, .v (.bool true), .v undef, .v undef, .v undef, .v undef, .v undef, .v undef], ctr h id off ms N ++ [.box rc, .box zeroC]) := by
        rw [body44, start44]
        generalize mid44 = rest
        generalize zeroT = zt at hrc
        cases hrc
        cases ht
        simp only [AV.cells, zeroC] at hc
        simp only [head44, zeroC, c44_0, c44_1, c44_2, c44_3, e2, hc, e_callh, q9z, AV.cells, evNil, c_ld, c_ld0, c_st, c_st0, c_bx, ldAt, stAt, preH_some, List.append_assoc, e_bslice1, e_bslice2, bs1, bs2, e_build, bdH_some, bd_nil, bd_cons, bd1, cl_agg, cl_int, toL, List.map_cons, List.map_nil, putAt, List.set_cons_zero, List.set_cons_succ, and_self, Nat.le_refl, app_get, app_set, g_agg, run_nil, run_cons, stp_plain, stp_guard, put_some, pass_eq, pick_tt, pick_ff, pick_tf, pick_ft, pick_u, reg_some, thn_normal, thn_exit, thn_ret, cnd_t, cnd_f, blk_normal, blk_ret, blk_exit, x_seq, x_region, x_cond, x_block, x_loop, x_ret, x_exit, x_skip, e_mov, e_pick, pk_t, pk_f, withH_some, e_box, e_load, e_store, stH_some, e_nil, e_bin, e_eqv, eqH_f, eqH_t, e_un, e_fa, e_ia, ia_eq, nat_eq, natV_nat, e_len, lnH_some, e_extract, ex_0, ex_1, e_call0, e_call1, e_call2, e_call3, pc0_eq, pc1_some, pc2_some, pc3_some, fin_some, g_var0, g_vars, g_loc0, g_locs, g_int, g_bool, g_str, g_sl, s_none, s_zero, s_succ, cl_nil, cl_str, cl_bool, cl_slc, cl_own, evFa, evNil, asEl, evBin, intBin, strBin, evUn, len_nil, len_slc, len_str, clr, List.length_nil, List.length_cons, List.getElem?_cons_zero, List.getElem?_cons_succ, Nat.reduceAdd, Nat.zero_add, Nat.add_zero, Nat.reduceLeDiff, Nat.reduceSub, ↓reduceIte, List.drop_succ_cons, List.drop_zero, List.take_succ_cons, List.take_zero, Bool.false_eq_true, List.nil_append, List.cons_append, Bool.not_true, Bool.not_false, cond_true, cond_false, bne, lv_ret, lv_normal, res1, res2, lv2_some, res_var, res_cell, lvf_v, lvf_slc, res1c, lvo1_some, e_mm, mm_max, mm_min]
      rw [body, ctr_len, leave_own ctr_len (c.all _), hresv, own_res2 (x := .agg zeroC) (y := .v (.int .i64 140)) _ _]
      · exact lvo_two (isT_zero.frz _ _) rfl
      · simp only [res_cell, c_ld, ldAt, zeroC, e_bslice1, e_bslice2, bs1, bs2, e_build, bdH_some, bd_nil, bd_cons, bd1, cl_agg, cl_int, toL, List.map_cons, List.map_nil, putAt, List.set_cons_zero, List.set_cons_succ, and_self, Nat.le_refl, app_get, app_set, g_agg, run_nil, run_cons, stp_plain, stp_guard, put_some, pass_eq, pick_tt, pick_ff, pick_tf, pick_ft, pick_u, reg_some, thn_normal, thn_exit, thn_ret, cnd_t, cnd_f, blk_normal, blk_ret, blk_exit, x_seq, x_region, x_cond, x_block, x_loop, x_ret, x_exit, x_skip, e_mov, e_pick, pk_t, pk_f, withH_some, e_box, e_load, e_store, stH_some, e_nil, e_bin, e_eqv, eqH_f, eqH_t, e_un, e_fa, e_ia, ia_eq, nat_eq, natV_nat, e_len, lnH_some, e_extract, ex_0, ex_1, e_call0, e_call1, e_call2, e_call3, pc0_eq, pc1_some, pc2_some, pc3_some, fin_some, g_var0, g_vars, g_loc0, g_locs, g_int, g_bool, g_str, g_sl, s_none, s_zero, s_succ, cl_nil, cl_str, cl_bool, cl_slc, cl_own, evFa, evNil, asEl, evBin, intBin, strBin, evUn, len_nil, len_slc, len_str, clr, List.length_nil, List.length_cons, List.getElem?_cons_zero, List.getElem?_cons_succ, Nat.reduceAdd, Nat.zero_add, Nat.add_zero, Nat.reduceLeDiff, Nat.reduceSub, ↓reduceIte, List.drop_succ_cons, List.drop_zero, List.take_succ_cons, List.take_zero, Bool.false_eq_true, List.nil_append, List.cons_append, Bool.not_true, Bool.not_false, cond_true, cond_false, bne, lv_ret, lv_normal, res1, res2, lv2_some, res_var, res_cell, lvf_v, lvf_slc, res1c, lvo1_some, e_mm, mm_max, mm_min]
      · rfl

/-- the document's Resolve: the same as the program's -/
theorem resolve23 {a : AV} {bs : List (Int × Tm)} (hb : IsB b bs) (hl : bs.length ≤ 100000) (hbz : ∀ p ∈ bs, size p.2 ≤ 100000) {t : Tm} (hsz : size t ≤ 100000) (ht : IsT a t) :
    match resT bs.reverse 60 2000 t with
    | .ok (x, m2) => ∃ r, IsT r x ∧ callW F 23 [b, a] [] = some (.tup [r, .v (.int .i64 0)], [])
    | .error e => e ≠ 0 ∧ callW F 23 [b, a] [] = some (.tup [.agg zeroC, .v (.int .i64 e)], []) := by
  obtain ⟨es, hes, k1, k2⟩ := looks hb hl
  have hsn : ∀ h : List AO, b.snap1 h = some b := by intro h; cases hb <;> rfl
  have hres := res44 hes.reverse hsn k2 (fun p hp => hbz p (by simpa using hp)) 60 (by omega)
  have hbel : ([.box a.cells, .box zeroC, .box [.v (.int .i64 0)]] : List AO).all (AO.below 3) = true := by
    have := below_mono (Nat.zero_le 3) _ ht.bel
    simp only [List.all_cons, List.all_nil, this, Bool.and_true]; rfl
  have C : Ctr [.box a.cells, .box zeroC, .box [.v (.int .i64 0)]] 2 0 [.v (.int .i64 0)] := ⟨by simp, by simp, hbel, rfl⟩
  have key := hres _ 2 0 _ 2000 t a C (Nat.le_refl _) hsz ht
  have c0 : ctr [.box a.cells, .box zeroC, .box [.v (.int .i64 0)]] 2 0 [.v (.int .i64 0)] (2000 - ((2000 : Nat) : Int)) = [.box a.cells, .box zeroC, .box [.v (.int .i64 0)]] := rfl
  have c1 : ∀ n : Int, ctr [.box a.cells, .box zeroC, .box [.v (.int .i64 0)]] 2 0 [.v (.int .i64 0)] n = [.box a.cells, .box zeroC, .box [.v (.int .i64 n)]] := fun _ => rfl
  have z60 : (60 : Int) - ((60 : Nat) : Int) = 0 := rfl
  rw [c0, z60] at key
  simp only [c1] at key
  cases hr : resT bs.reverse 60 2000 t with
  | error e =>
    rw [hr] at key
    obtain ⟨hne, l', hc⟩ := key
    refine ⟨hne, callW_pure (c := c23) rfl rfl 0 ?_⟩
    cases ht
    simp only [AV.cells, zeroC] at hc
    have lt : ∀ (h : List AO) (a b c d e : Value), lvf h (.tup [.agg [.v a, .v b, .v c, .v d], .v e]) = some (.tup [.agg [.v a, .v b, .v c, .v d], .v e], []) := fun _ _ _ _ _ _ => rfl
    simp only [c23, start, zeroC, List.replicate, c23_0, c23_1, c23_2, hc, lt, e_callh, q9z, e_bslice1, e_bslice2, bs1, bs2, e_build, bdH_some, bd_nil, bd_cons, bd1, cl_agg, cl_int, toL, List.map_cons, List.map_nil, putAt, List.set_cons_zero, List.set_cons_succ, and_self, Nat.le_refl, evStore, app_get, app_set, g_agg, run_nil, run_cons, stp_plain, stp_guard, put_some, pass_eq, pick_tt, pick_ff, pick_tf, pick_ft, pick_u, reg_some, thn_normal, thn_exit, thn_ret, cnd_t, cnd_f, blk_normal, blk_ret, blk_exit, x_seq, x_region, x_cond, x_block, x_loop, x_ret, x_exit, x_skip, e_mov, e_pick, pk_t, pk_f, withH_some, e_box, bx_some, e_load, e_store, stH_some, e_nil, e_bin, e_eqv, eqH_f, eqH_t, e_un, e_fa, e_ia, ia_eq, nat_eq, natV_nat, e_len, lnH_some, e_extract, ex_0, ex_1, e_call0, e_call1, e_call2, e_call3, pc0_eq, pc1_some, pc2_some, pc3_some, fin_some, g_var0, g_vars, g_loc0, g_locs, g_int, g_bool, g_str, g_sl, s_none, s_zero, s_succ, cl_nil, cl_str, cl_bool, cl_slc, cl_own, evFa, evNil, evLoad, asEl, evBin, intBin, strBin, evUn, len_nil, len_slc, len_str, clr, List.length_nil, List.length_cons, List.getElem?_cons_zero, List.getElem?_cons_succ, Nat.reduceAdd, Nat.zero_add, Nat.add_zero, Nat.reduceLeDiff, Nat.reduceSub, ↓reduceIte, List.drop_succ_cons, List.drop_zero, List.take_succ_cons, List.take_zero, Bool.false_eq_true, List.nil_append, List.cons_append, Bool.not_true, Bool.not_false, cond_true, cond_false, bne, lv_ret, lv_normal, res1, res2, lv2_some, res_var, res_cell, lvf_v, lvf_slc, res1c, lvo1_some, e_mm, mm_max, mm_min]
  | ok q =>
    obtain ⟨x, m2⟩ := q
    rw [hr] at key
    obtain ⟨_, r, hrt, hc⟩ := key
    refine ⟨r, hrt, callW_pure (c := c23) rfl rfl 0 ?_⟩
    have lt := lvt hrt
    cases ht
    cases hrt
    simp only [AV.cells, zeroC] at hc
    simp only [c23, start, zeroC, List.replicate, c23_0, c23_1, c23_2, hc, lt, e_callh, q9z, e_bslice1, e_bslice2, bs1, bs2, e_build, bdH_some, bd_nil, bd_cons, bd1, cl_agg, cl_int, toL, List.map_cons, List.map_nil, putAt, List.set_cons_zero, List.set_cons_succ, and_self, Nat.le_refl, evStore, app_get, app_set, g_agg, run_nil, run_cons, stp_plain, stp_guard, put_some, pass_eq, pick_tt, pick_ff, pick_tf, pick_ft, pick_u, reg_some, thn_normal, thn_exit, thn_ret, cnd_t, cnd_f, blk_normal, blk_ret, blk_exit, x_seq, x_region, x_cond, x_block, x_loop, x_ret, x_exit, x_skip, e_mov, e_pick, pk_t, pk_f, withH_some, e_box, bx_some, e_load, e_store, stH_some, e_nil, e_bin, e_eqv, eqH_f, eqH_t, e_un, e_fa, e_ia, ia_eq, nat_eq, natV_nat, e_len, lnH_some, e_extract, ex_0, ex_1, e_call0, e_call1, e_call2, e_call3, pc0_eq, pc1_some, pc2_some, pc3_some, fin_some, g_var0, g_vars, g_loc0, g_locs, g_int, g_bool, g_str, g_sl, s_none, s_zero, s_succ, cl_nil, cl_str, cl_bool, cl_slc, cl_own, evFa, evNil, evLoad, asEl, evBin, intBin, strBin, evUn, len_nil, len_slc, len_str, clr, List.length_nil, List.length_cons, List.getElem?_cons_zero, List.getElem?_cons_succ, Nat.reduceAdd, Nat.zero_add, Nat.add_zero, Nat.reduceLeDiff, Nat.reduceSub, ↓reduceIte, List.drop_succ_cons, List.drop_zero, List.take_succ_cons, List.take_zero, Bool.false_eq_true, List.nil_append, List.cons_append, Bool.not_true, Bool.not_false, cond_true, cond_false, bne, lv_ret, lv_normal, res1, res2, lv2_some, res_var, res_cell, lvf_v, lvf_slc, res1c, lvo1_some, e_mm, mm_max, mm_min]
end
end Go.AE.YtpgoibncgekflaaDoor
end

/-! What all rows of this seat need: the world in which the library's two tables lie. -/
section
set_option linter.unusedVariables false
namespace Go.Proofs.YtpgoibncgekflaaDoor
open Go Go.AE Go.Proofs Go.RowKit Go.Lib Go.Shelf

/-- a world in which the two variables hold what their initialisers lay -/
noncomputable def laidWorld (os : Os) : World :=
  let w0 := World.holding Tryd.prog os ⟨#[], #[], []⟩
  let put (h : Array Obj) (g : Nat) (cs : Array Value) : Array Obj := h.modify g fun
    | .cells _ t frozen => .cells cs t frozen
    | o => o
  let h1 := put w0.heap (Tryd.laysValid_ren.g 3) (Lib.firstTab.map fun z => Value.int .u8 z).toArray
  let h2 := put h1 (Tryd.laysValid_ren.g 4) ((List.range 16).flatMap fun i => [Value.int .u8 (Lib.accLo i), Value.int .u8 (Lib.accHi i)]).toArray
  { w0 with heap := h2 }
set_option maxRecDepth 1000000 in
theorem laid_met (os : Os) (args : Array Value) : laidMetH Tryd.prog Rows.substApartRow.laid ((laidWorld os).forCall (fun _ _ => 0) ⟨#[], args, []⟩).memory :=
  (LaidIn.of_run (l := [("unicode/utf8.acceptRanges", Lib.acceptData), ("unicode/utf8.first", Lib.firstData)]) [0, 1] 8 (by kernel_rfl) (by kernel_rfl) (by kernel_rfl) (by kernel_rfl)).met
set_option maxRecDepth 1000000 in
theorem tabs_of {W : World} (hL : laidMetH Tryd.prog Rows.substApartRow.laid W) : Lib.Utf8Tabs (Tryd.laysValid_ren.g 3) (Tryd.laysValid_ren.g 4) W :=
  utf8Tabs_of_readsT (U8Types.of196 Tryd.laysValid) ⟨by kernel_rfl, by kernel_rfl, by kernel_rfl, by kernel_rfl, by kernel_rfl, by kernel_rfl, by kernel_rfl⟩ (Lib.laidMet.reads (l := Rows.substApartRow.laid) hL (.tail _ (.head _))) (Lib.laidMet.reads (l := Rows.substApartRow.laid) hL (.head _))
end Go.Proofs.YtpgoibncgekflaaDoor
end

/-! The row and the card of UnifyOne, out of its plain law. -/
section
set_option linter.unusedVariables false
namespace Go.Proofs.YtpgoibncgekflaaDoor
open Go Go.AE Go.Proofs Go.ChangeShapes Go.WideShapes Go.ChangeAt Go.RowKit
open Go.ChangeMaps (open_string shut_string)
namespace unifyOne
theorem args {I : Cells} {W : World} {a0 a1 a2 : AV} {v0 v1 v2 : Value} (r0 : Rep I W [] a0 v0) (r1 : Rep I W [] a1 v1) (r2 : Rep I W [] a2 v2) : ArgsRep I W [] [a0, a1, a2] #[v0, v1, v2] := by
  refine ⟨rfl, fun i a h => ?_⟩
  match i, h with
  | 0, h => cases h; exact r0
  | 1, h => cases h; exact r1
  | 2, h => cases h; exact r2
def Plain : Prop := ∀ a0 a1 a2 : AV, WT T 22 a0.cells → asEl ti22.agg a0.cells = some a0 → WT T 25 a1.cells → asEl ti25.agg a1.cells = some a1 → WT T 25 a2.cells → asEl ti25.agg a2.cells = some a2 →
  ∃ n, callN F n 5 [a0, a1, a2] [] = some (.v (.bool true), [])

set_option maxRecDepth 100000 in
theorem lifted (plain : Plain) (os : Os) (started : os.Started) (H : Type) (enc : TypeId × Value → H) :
    ReturnsInHanded {} Tryd.checked os 5 .any (fun w args => (Rows.unifyOneSpec.pre enc Tryd.prog Tryd.f5 [] false w args ∧ laidMetH Tryd.prog Rows.unifyOneRow.laid w) ∧ sizedMet enc Tryd.prog Tryd.f5 (OpenSpec.ofChange Rows.unifyOneSpec) false w args)
      (Rows.unifyOneSpec.post enc Tryd.prog Tryd.f5 false true false false) := by
  refine returnsInHanded_of_change_and (C := Tryd.checked) (X := fun w _ => laidMetH Tryd.prog Rows.unifyOneRow.laid w) (fun _ _ _ hh h => h.of_heap hh) own started (by kernel_rfl) Tryd.func5
    (ChangeSpec.witness_at (enc := enc) (C := Tryd.checked) (os := os) (X := fun w _ => laidMetH Tryd.prog Rows.unifyOneRow.laid w) false (laidWorld os) #[ti22.zero, ti25.zero, ti25.zero] 8 rfl (by kernel_rfl) (by kernel_rfl) (by kernel_rfl) (by kernel_rfl) (by kernel_rfl) (laid_met os _)) ?_
  intro W base args' ds gs before hval0 hW _ _ hL _
  have hval : ∀ (j : Nat) t v, Tryd.f5.params[j]? = some t → args'[j]? = some v → Value.okWide Tryd.prog W .any base t v := hval0
  have hW' := hW
  obtain ⟨p, q, hA0, hV, rfl, hfz, hnd⟩ := hW
  have hA : DataW.TrodAll enc Tryd.prog W 0 (fun _ => true) true Tryd.f5.params.toList args'.toList ds p := hA0
  rw [Tryd.params5] at hA hval
  obtain ⟨v0, vs0, d0, ds0, p0, q0, hargs, rfl, rfl, h0, r0⟩ := trodAll_cons hA
  obtain ⟨v1, vs1, d1, ds1, p1, q1, rfl, rfl, rfl, h1, r1⟩ := trodAll_cons r0
  obtain ⟨v2, vs2, d2, ds2, p2, q2, rfl, rfl, rfl, h2, r2⟩ := trodAll_cons r1
  obtain ⟨rfl, rfl, rfl⟩ := trodAll_nil r2
  obtain rfl : args' = #[v0, v1, v2] := by cases args'; simp_all
  obtain ⟨rfl, rfl⟩ := trodVars_none hV
  obtain ⟨a0, w0, e0, x0⟩ := trod_arg hT hG (t := 22) (i := ti22) (by decide) rfl (hval 0 22 v0 rfl rfl) h0
  obtain ⟨a1, w1, e1, x1⟩ := trod_arg hT hG (t := 25) (i := ti25) (by decide) rfl (hval 1 25 v1 rfl rfl) h1
  obtain ⟨a2, w2, e2, x2⟩ := trod_arg hT hG (t := 25) (i := ti25) (by decide) rfl (hval 2 25 v2 rfl rfl) h2
  have l0 : ∀ x ∈ p0, x.block < W.heap.size := by obtain ⟨m, hm⟩ := h0; exact DataW.trod_lt m _ _ _ hm
  have l1 : ∀ x ∈ p1, x.block < W.heap.size := by obtain ⟨m, hm⟩ := h1; exact DataW.trod_lt m _ _ _ hm
  have l2 : ∀ x ∈ p2, x.block < W.heap.size := by obtain ⟨m, hm⟩ := h2; exact DataW.trod_lt m _ _ _ hm
  obtain ⟨n, hn⟩ := plain a0 a1 a2 w0 e0 w1 e1 w2 e2
  refine (law_calls ⟨rfl, tabs_of hL⟩ (args x0 x1 x2) hn).mono fun e W' ⟨he, bel⟩ => ?_
  subst he
  exact ⟨_, rfl, _, _, _, [], _, [], hW', trodAll_mk1 (shut_bool Tryd.underlying4 _),
    (trodAll_cons_mk (Below.trod laidOut (by kernel_rfl) (of_decide_eq_true (by kernel_rfl)) h0 bel l0) (trodAll_cons_mk (Below.trod laidOut (by kernel_rfl) (of_decide_eq_true (by kernel_rfl)) h1 bel l1) (trodAll_cons_mk (Below.trod laidOut (by kernel_rfl) (of_decide_eq_true (by kernel_rfl)) h2 bel l2) trodAll_mk0))), rfl, bel.frame _, fun h => by cases h⟩
theorem over (plain : Plain) : Rows.unifyOneRow.holds Tryd.pinned (OpenSpec.ofChange Rows.unifyOneSpec) :=
  OpenClaim.holds_of_wide 5 Tryd.f5 rfl rfl rfl rfl rfl rfl rfl ⟨rfl, rfl, rfl, rfl, rfl⟩ rfl rfl rfl rfl rfl (by kernel_rfl) Tryd.func5 (by kernel_rfl)
    (of_decide_eq_true (by kernel_rfl)) (by unfold Func.isWrapper; first | (rw [if_pos (by decide +kernel)]; kernel_rfl) | (rw [if_neg (by decide +kernel)]; exact ⟨rfl, rfl⟩))
    (fun os started H enc _ => lifted plain os started H enc)
theorem proved (plain : Plain) : Rows.UnifyOneCardSaid :=
  Claim7.holds_tied_plain_at .later [] Rows.unifyOneCard.laidKinds true Rows.unifyOneCard.stood.harness Rows.unifyOneCard.stood.looks
    (over plain) (fun _ h => by cases h) (by kernel_rfl) (fun _ h => by cases h) unifyOne_row_tie rfl ⟨rfl, rfl⟩ (by kernel_rfl) rfl
    (fun f fn hf hfn => by
      obtain rfl : f = 5 := Option.some.inj ((show Tryd.prog.funcNamed Rows.unifyOneRow.func = some 5 by kernel_rfl).symm.trans hf) |>.symm
      obtain rfl : fn = Tryd.f5 := (Option.some.inj (Tryd.func5.symm.trans hfn)).symm
      refine ⟨by kernel_rfl, fun j t ht => ?_⟩
      rw [Tryd.params5] at ht
      match j, ht with
      | 0, ht => cases ht; exact (show Tryd.prog.wantsStandIn 22 = false by kernel_rfl)
      | 1, ht => cases ht; exact (show Tryd.prog.wantsStandIn 25 = false by kernel_rfl)
      | 2, ht => cases ht; exact (show Tryd.prog.wantsStandIn 25 = false by kernel_rfl)
      | _ + 3, ht => simp at ht)
    (by kernel_rfl)
end unifyOne
end Go.Proofs.YtpgoibncgekflaaDoor
end

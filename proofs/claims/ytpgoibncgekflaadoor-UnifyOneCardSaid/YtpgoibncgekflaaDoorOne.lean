/- UnifyOne holds, its card with it: whatever the input, where the library's tables lie as its text lays them, it returns true, and the input reads as it did. Conditions: none beside. -/
import Derived.Test.YtpgoibncgekflaaDoorPart4
import Derived.Test.YtpgoibncgekflaaDoorPart5
set_option linter.unusedVariables false
set_option linter.unusedSimpArgs false
namespace Go.AE.YtpgoibncgekflaaDoor
open Go Go.AE Go.Proofs.YtpgoibncgekflaaDoor

/-- Resolve, called: the term where there is one, or nothing of a term -/
theorem resolve_call {b a : AV} {bs : List (Int × Tm)} (hb : IsB b bs) (hl : bs.length ≤ 100000) (hbz : ∀ p ∈ bs, size p.2 ≤ 100000) {t : Tm} (hsz : size t ≤ 100000) (ht : IsT a t) :
    ∃ r u e, IsT r u ∧ callW F 23 [b, a] [] = some (.tup [r, .v (.int .i64 e)], []) ∧ (e = 0 → ∃ m, resT bs.reverse 60 2000 t = .ok (u, m)) := by
  have key := resolve23 hb hl hbz hsz ht
  cases hr : resT bs.reverse 60 2000 t with
  | error e =>
    rw [hr] at key
    exact ⟨_, _, e, isT_zero, key.2, fun h => absurd h key.1⟩
  | ok q =>
    obtain ⟨u, m⟩ := q
    rw [hr] at key
    obtain ⟨r, h1, h2⟩ := key
    exact ⟨r, u, 0, h1, h2, fun _ => ⟨m, rfl⟩⟩
theorem one_ok {b t t' : AV} {T T' : Tm} {bs : List (Int × Tm)} (hb : IsN b bs) (ht : IsT t T) (ht' : IsT t' T') : callW F 5 [b, t, t'] [] = some (.v (.bool true), []) := by
  have hlive := live17
  have hbig := big18 (ts := .slc 4 true true [t, t']) hb.1 rfl (All2.cons t T _ _ ht (.cons t' T' [] [] ht' .nil)) (by simp [maxLen])
  have s1 : ∀ h : List AO, t.snap1 h = some t := fun h => ht.snap
  have s2 : ∀ h : List AO, t'.snap1 h = some t' := fun h => ht'.snap
  have sb : ∀ h : List AO, b.snap1 h = some b := hb.1.snap'
  have sl : ∀ h : List AO, (AV.slc 4 true true [t, t']).snap1 h = some (.slc 4 true true [t, t']) := fun _ => rfl
  have b2 : ∀ h : List AO, bs2 h 4 (some t) (some t') = some (.slc 4 true true [t, t'], h) := by
    intro h
    simp only [bs2, ht.cl.1, ht'.cl.1, ht.cl.2, ht'.cl.2, if_true]
  have ht0 : ∀ tl : List AO, evLoad (.box t.cells :: tl) true 4 (.ptr 0 0) = some t := by
    intro tl
    rw [bx_ld (cs := t.cells) rfl, if_pos (by rw [ht.cl.2]; omega), List.drop_zero]
    exact ht.asEl
  have ht1 : ∀ (o : AO) (tl : List AO), evLoad (o :: .box t'.cells :: tl) true 4 (.ptr 1 0) = some t' := by
    intro o tl
    rw [bx_ld (cs := t'.cells) rfl, if_pos (by rw [ht'.cl.2]; omega), List.drop_zero]
    exact ht'.asEl
  have htc := ht.cl.1
  have htl := ht.cl.2
  have htc' := ht'.cl.1
  have htl' := ht'.cl.2
  refine callW_pure (c := c5) rfl rfl 0 ?_
  cases hB : big bs [T, T'] with
  | true =>
    rw [hB] at hbig
    simp only [c5, start, List.replicate, c5_0, c5_1, c5_2, c5_3, htc, htl, htc', htl', ht0, ht1, hlive, s1, s2, sb, sl, e_bslice2, b2, hbig, run_nil, run_cons, stp_plain, stp_guard, put_some, pass_eq, pick_tt, pick_ff, pick_tf, pick_ft, pick_u, reg_some, thn_normal, thn_exit, thn_ret, cnd_t, cnd_f, blk_normal, blk_ret, blk_exit, x_seq, x_region, x_cond, x_block, x_loop, x_ret, x_exit, x_skip, e_mov, e_pick, pk_t, pk_f, withH_some, e_box, bx_some, e_load, e_store, stH_some, e_nil, e_bin, e_eqv, eqH_f, eqH_t, e_un, e_fa, e_ia, ia_eq, nat_eq, natV_nat, e_len, lnH_some, e_extract, ex_0, ex_1, e_call0, e_call1, e_call2, e_call3, pc0_eq, pc1_some, pc2_some, pc3_some, fin_some, g_var0, g_vars, g_loc0, g_locs, g_int, g_bool, g_str, g_sl, s_none, s_zero, s_succ, cl_nil, cl_str, cl_bool, cl_slc, cl_own, evFa, evNil, asEl, evBin, intBin, strBin, evUn, len_nil, len_slc, len_str, clr, List.length_nil, List.length_cons, List.getElem?_cons_zero, List.getElem?_cons_succ, Nat.reduceAdd, Nat.zero_add, Nat.add_zero, Nat.reduceLeDiff, Nat.reduceSub, ↓reduceIte, List.drop_succ_cons, List.drop_zero, List.take_succ_cons, List.take_zero, Bool.false_eq_true, List.nil_append, List.cons_append, Bool.not_true, Bool.not_false, cond_true, cond_false, bne, lv_ret, lv_normal, res1, res2, lv2_some, res_var, res_cell, lvf_v, lvf_slc, res1c, lvo1_some, e_mm, mm_max, mm_min]
  | false =>
    rw [hB] at hbig
    have hsz := big_size hB
    have hszT : size T ≤ 3000 := hsz.2.2 T (by simp)
    have hszT' : size T' ≤ 3000 := hsz.2.2 T' (by simp)
    have hszB : ∀ p ∈ bs, size p.2 ≤ 3000 := fun p hp => by have := hsz.2.1 p hp; omega
    have hgood := good_ok (ts := .slc 4 true true [t, t']) hb.1 (.slc true true [t, t']) (All2.cons t T _ _ ht (.cons t' T' [] [] ht' .nil)) (by omega) (by simp) (fun p hp => by have := hszB p hp; omega) (by intro p hp; simp only [List.mem_cons, List.not_mem_nil, or_false] at hp; rcases hp with rfl | rfl <;> omega)
    cases hG : (goodB bs && goodT [T, T']) with
    | false =>
      rw [hG] at hgood
      simp only [c5, start, List.replicate, c5_0, c5_1, c5_2, c5_3, htc, htl, htc', htl', ht0, ht1, hlive, s1, s2, sb, sl, e_bslice2, b2, hbig, hgood, run_nil, run_cons, stp_plain, stp_guard, put_some, pass_eq, pick_tt, pick_ff, pick_tf, pick_ft, pick_u, reg_some, thn_normal, thn_exit, thn_ret, cnd_t, cnd_f, blk_normal, blk_ret, blk_exit, x_seq, x_region, x_cond, x_block, x_loop, x_ret, x_exit, x_skip, e_mov, e_pick, pk_t, pk_f, withH_some, e_box, bx_some, e_load, e_store, stH_some, e_nil, e_bin, e_eqv, eqH_f, eqH_t, e_un, e_fa, e_ia, ia_eq, nat_eq, natV_nat, e_len, lnH_some, e_extract, ex_0, ex_1, e_call0, e_call1, e_call2, e_call3, pc0_eq, pc1_some, pc2_some, pc3_some, fin_some, g_var0, g_vars, g_loc0, g_locs, g_int, g_bool, g_str, g_sl, s_none, s_zero, s_succ, cl_nil, cl_str, cl_bool, cl_slc, cl_own, evFa, evNil, asEl, evBin, intBin, strBin, evUn, len_nil, len_slc, len_str, clr, List.length_nil, List.length_cons, List.getElem?_cons_zero, List.getElem?_cons_succ, Nat.reduceAdd, Nat.zero_add, Nat.add_zero, Nat.reduceLeDiff, Nat.reduceSub, ↓reduceIte, List.drop_succ_cons, List.drop_zero, List.take_succ_cons, List.take_zero, Bool.false_eq_true, List.nil_append, List.cons_append, Bool.not_true, Bool.not_false, cond_true, cond_false, bne, lv_ret, lv_normal, res1, res2, lv2_some, res_var, res_cell, lvf_v, lvf_slc, res1c, lvo1_some, e_mm, mm_max, mm_min]
    | true =>
      rw [hG] at hgood
      simp only [Bool.and_eq_true] at hG
      have hbm := goodB_may hG.1
      have hTm := goodT_may hG.2 T (by simp)
      have hTm' := goodT_may hG.2 T' (by simp)
      obtain ⟨c, hc, hU⟩ := unify_ok hb (by omega) hszB ht ht' hszT hszT'
      have hlen := uRun_len 2001 bs 2000 [(T, T')]
      have hzz := uRun_size (M := 3000) (by omega) 2001 bs 2000 [(T, T')] hszB (by intro p hp; simp only [List.mem_singleton] at hp; subst hp; exact ⟨hszT, hszT'⟩)
      have hun := uni_un 2001 bs 2000 [(T, T')] (uniT bs T T').1 (uniT bs T T').2.2 hbm (by intro p hp; simp only [List.mem_singleton] at hp; subst hp; exact ⟨hTm, hTm'⟩)
      have ht1e := uRun_true 2001 bs 2000 [(T, T')]
      change (uniT bs T T').2.1 = true → (uniT bs T T').2.2 = 0 at ht1e
      change (uniT bs T T').1.length ≤ bs.length + 2001 at hlen
      change ∀ p ∈ (uniT bs T T').1, size p.2 ≤ 3000 at hzz
      change uniT bs T T' = _ → _ at hun
      generalize uniT bs T T' = u at hc hU hlen hzz hun ht1e
      obtain ⟨lb, is, e⟩ := u
      dsimp only at hc hU hlen hzz hun ht1e
      have sc : ∀ h : List AO, c.snap1 h = some c := hc.1.snap'
      cases is with
      | false =>
        simp only [c5, start, List.replicate, c5_0, c5_1, c5_2, c5_4, c5_5, c5_6, htc, htl, htc', htl', ht0, ht1, hlive, s1, s2, sb, sc, sl, e_bslice2, b2, hbig, hgood, hU, ex_2, pick_und, run_nil, run_cons, stp_plain, stp_guard, put_some, pass_eq, pick_tt, pick_ff, pick_tf, pick_ft, pick_u, reg_some, thn_normal, thn_exit, thn_ret, cnd_t, cnd_f, blk_normal, blk_ret, blk_exit, x_seq, x_region, x_cond, x_block, x_loop, x_ret, x_exit, x_skip, e_mov, e_pick, pk_t, pk_f, withH_some, e_box, bx_some, e_load, e_store, stH_some, e_nil, e_bin, e_eqv, eqH_f, eqH_t, e_un, e_fa, e_ia, ia_eq, nat_eq, natV_nat, e_len, lnH_some, e_extract, ex_0, ex_1, e_call0, e_call1, e_call2, e_call3, pc0_eq, pc1_some, pc2_some, pc3_some, fin_some, g_var0, g_vars, g_loc0, g_locs, g_int, g_bool, g_str, g_sl, s_none, s_zero, s_succ, cl_nil, cl_str, cl_bool, cl_slc, cl_own, evFa, evNil, asEl, evBin, intBin, strBin, evUn, len_nil, len_slc, len_str, clr, List.length_nil, List.length_cons, List.getElem?_cons_zero, List.getElem?_cons_succ, Nat.reduceAdd, Nat.zero_add, Nat.add_zero, Nat.reduceLeDiff, Nat.reduceSub, ↓reduceIte, List.drop_succ_cons, List.drop_zero, List.take_succ_cons, List.take_zero, Bool.false_eq_true, List.nil_append, List.cons_append, Bool.not_true, Bool.not_false, cond_true, cond_false, bne, lv_ret, lv_normal, res1, res2, lv2_some, res_var, res_cell, lvf_v, lvf_slc, res1c, lvo1_some, e_mm, mm_max, mm_min]
      | true =>
        have he := ht1e rfl
        subst he
        have z0 : ((0 : Int) == 0) = true := rfl
        obtain ⟨_, _, hUn⟩ := hun rfl
        have hUn := hUn (T, T') (by simp)
        dsimp only at hUn
        obtain ⟨r, ur, er, hr, hcr, hokr⟩ := resolve_call hc.1 (by omega) (fun p hp => by have := hzz p hp; omega) (by omega) ht
        obtain ⟨r', ur', er', hr', hcr', hokr'⟩ := resolve_call hc.1 (by omega) (fun p hp => by have := hzz p hp; omega) (by omega) ht'
        have l1 := hr.cl
        have l2 := hr'.cl
        have sr : ∀ h : List AO, r.snap1 h = some r := fun h => hr.snap
        have sr' : ∀ h : List AO, r'.snap1 h = some r' := fun h => hr'.snap
        have hst := hr.st [.box t.cells, .box t'.cells] zeroC rfl
        have hst' := hr'.st [.box t.cells, .box t'.cells, .box r.cells] zeroC rfl
        simp only [zeroC] at hst hst'
        have ld1 : evLoad [.box t.cells, .box t'.cells, .box r.cells, .box r'.cells] true 4 (.ptr 2 0) = some r := by
          rw [bx_ld (cs := r.cells) rfl, if_pos (by rw [hr.cl.2]; omega), List.drop_zero]
          exact hr.asEl
        have ld2 : evLoad [.box t.cells, .box t'.cells, .box r.cells, .box r'.cells] true 4 (.ptr 3 0) = some r' := by
          rw [bx_ld (cs := r'.cells) rfl, if_pos (by rw [hr'.cl.2]; omega), List.drop_zero]
          exact hr'.asEl
        have hst1 : evStore [.box t.cells, .box t'.cells, .box [.v (.int .i64 0), .v (.string ⟨#[]⟩), .v (.int .i64 0), .v (.slice none 0 0)]] 4 (.ptr 2 0) r = some [.box t.cells, .box t'.cells, .box r.cells] := hst
        have hst2 : evStore [.box t.cells, .box t'.cells, .box r.cells, .box [.v (.int .i64 0), .v (.string ⟨#[]⟩), .v (.int .i64 0), .v (.slice none 0 0)]] 4 (.ptr 3 0) r' = some [.box t.cells, .box t'.cells, .box r.cells, .box r'.cells] := hst'
        cases h1 : (er == 0) with
        | false =>
          simp only [c5, start, List.replicate, c5_0, c5_1, c5_2, c5_4, c5_5, c5_7, c5_8, c5_9, c5_10, htc, htl, htc', htl', ht0, ht1, hlive, s1, s2, sb, sc, sl, e_bslice2, b2, hbig, hgood, hU, hcr, hcr', hst1, hst2, z0, h1, q9z, g_agg, ex_2, pick_und, run_nil, run_cons, stp_plain, stp_guard, put_some, pass_eq, pick_tt, pick_ff, pick_tf, pick_ft, pick_u, reg_some, thn_normal, thn_exit, thn_ret, cnd_t, cnd_f, blk_normal, blk_ret, blk_exit, x_seq, x_region, x_cond, x_block, x_loop, x_ret, x_exit, x_skip, e_mov, e_pick, pk_t, pk_f, withH_some, e_box, bx_some, e_load, e_store, stH_some, e_nil, e_bin, e_eqv, eqH_f, eqH_t, e_un, e_fa, e_ia, ia_eq, nat_eq, natV_nat, e_len, lnH_some, e_extract, ex_0, ex_1, e_call0, e_call1, e_call2, e_call3, pc0_eq, pc1_some, pc2_some, pc3_some, fin_some, g_var0, g_vars, g_loc0, g_locs, g_int, g_bool, g_str, g_sl, s_none, s_zero, s_succ, cl_nil, cl_str, cl_bool, cl_slc, cl_own, evFa, evNil, asEl, evBin, intBin, strBin, evUn, len_nil, len_slc, len_str, clr, List.length_nil, List.length_cons, List.getElem?_cons_zero, List.getElem?_cons_succ, Nat.reduceAdd, Nat.zero_add, Nat.add_zero, Nat.reduceLeDiff, Nat.reduceSub, ↓reduceIte, List.drop_succ_cons, List.drop_zero, List.take_succ_cons, List.take_zero, Bool.false_eq_true, List.nil_append, List.cons_append, Bool.not_true, Bool.not_false, cond_true, cond_false, bne, lv_ret, lv_normal, res1, res2, lv2_some, res_var, res_cell, lvf_v, lvf_slc, res1c, lvo1_some, e_mm, mm_max, mm_min]
        | true =>
        cases h2 : (er' == 0) with
        | false =>
          simp only [c5, start, List.replicate, c5_0, c5_1, c5_2, c5_4, c5_5, c5_7, c5_8, c5_9, c5_10, htc, htl, htc', htl', ht0, ht1, hlive, s1, s2, sb, sc, sl, e_bslice2, b2, hbig, hgood, hU, hcr, hcr', hst1, hst2, z0, h1, h2, q9z, g_agg, ex_2, pick_und, run_nil, run_cons, stp_plain, stp_guard, put_some, pass_eq, pick_tt, pick_ff, pick_tf, pick_ft, pick_u, reg_some, thn_normal, thn_exit, thn_ret, cnd_t, cnd_f, blk_normal, blk_ret, blk_exit, x_seq, x_region, x_cond, x_block, x_loop, x_ret, x_exit, x_skip, e_mov, e_pick, pk_t, pk_f, withH_some, e_box, bx_some, e_load, e_store, stH_some, e_nil, e_bin, e_eqv, eqH_f, eqH_t, e_un, e_fa, e_ia, ia_eq, nat_eq, natV_nat, e_len, lnH_some, e_extract, ex_0, ex_1, e_call0, e_call1, e_call2, e_call3, pc0_eq, pc1_some, pc2_some, pc3_some, fin_some, g_var0, g_vars, g_loc0, g_locs, g_int, g_bool, g_str, g_sl, s_none, s_zero, s_succ, cl_nil, cl_str, cl_bool, cl_slc, cl_own, evFa, evNil, asEl, evBin, intBin, strBin, evUn, len_nil, len_slc, len_str, clr, List.length_nil, List.length_cons, List.getElem?_cons_zero, List.getElem?_cons_succ, Nat.reduceAdd, Nat.zero_add, Nat.add_zero, Nat.reduceLeDiff, Nat.reduceSub, ↓reduceIte, List.drop_succ_cons, List.drop_zero, List.take_succ_cons, List.take_zero, Bool.false_eq_true, List.nil_append, List.cons_append, Bool.not_true, Bool.not_false, cond_true, cond_false, bne, lv_ret, lv_normal, res1, res2, lv2_some, res_var, res_cell, lvf_v, lvf_slc, res1c, lvo1_some, e_mm, mm_max, mm_min]
        | true =>
          obtain ⟨m1, hk1⟩ := hokr (by simpa using h1)
          obtain ⟨m2, hk2⟩ := hokr' (by simpa using h2)
          have hsame := res_same 60 2000 2000 T T' ur ur' m1 m2 hUn hk1 hk2
          have hsm := same_ok _ ur ur' r r' (Nat.lt_succ_self _) hr hr'
          rw [hsame] at hsm
          have hsm : callW F 16 [r, r'] [] = some (.v (.bool true), []) := hsm
          obtain ⟨d, hd, hV⟩ := unify_ok hc (by omega) hzz ht ht' hszT hszT'
          have hag := again_run (lb := lb) 2001 2000 [(T, T')] (by intro p hp; simp only [List.mem_singleton] at hp; subst hp; exact hUn)
          change uniT lb T T' = (lb, true, 0) ∨ uniT lb T T' = ([], false, 140) at hag
          rcases hag with hag | hag
          · rw [hag] at hd hV
            dsimp only at hd hV
            have sd : ∀ h : List AO, d.snap1 h = some d := hd.1.snap'
            have hsb := sameB_ok hc.1 hd.1 (by omega)
            rw [sameB_refl] at hsb
            have z1 : ((0 : Int) == 140) = false := rfl
            simp only [c5, start, List.replicate, c5_0, c5_1, c5_2, c5_4, c5_5, c5_7, c5_8, c5_9, c5_11, c5_12, c5_14, htc, htl, htc', htl', ht0, ht1, hlive, s1, s2, sb, sc, sd, sr, sr', sl, e_bslice2, b2, hbig, hgood, hU, hV, hcr, hcr', hst1, hst2, ld1, ld2, hsm, hsb, z0, z1, h1, h2, q9z, g_agg, ex_2, pick_und, run_nil, run_cons, stp_plain, stp_guard, put_some, pass_eq, pick_tt, pick_ff, pick_tf, pick_ft, pick_u, reg_some, thn_normal, thn_exit, thn_ret, cnd_t, cnd_f, blk_normal, blk_ret, blk_exit, x_seq, x_region, x_cond, x_block, x_loop, x_ret, x_exit, x_skip, e_mov, e_pick, pk_t, pk_f, withH_some, e_box, bx_some, e_load, e_store, stH_some, e_nil, e_bin, e_eqv, eqH_f, eqH_t, e_un, e_fa, e_ia, ia_eq, nat_eq, natV_nat, e_len, lnH_some, e_extract, ex_0, ex_1, e_call0, e_call1, e_call2, e_call3, pc0_eq, pc1_some, pc2_some, pc3_some, fin_some, g_var0, g_vars, g_loc0, g_locs, g_int, g_bool, g_str, g_sl, s_none, s_zero, s_succ, cl_nil, cl_str, cl_bool, cl_slc, cl_own, evFa, evNil, asEl, evBin, intBin, strBin, evUn, len_nil, len_slc, len_str, clr, List.length_nil, List.length_cons, List.getElem?_cons_zero, List.getElem?_cons_succ, Nat.reduceAdd, Nat.zero_add, Nat.add_zero, Nat.reduceLeDiff, Nat.reduceSub, ↓reduceIte, List.drop_succ_cons, List.drop_zero, List.take_succ_cons, List.take_zero, Bool.false_eq_true, List.nil_append, List.cons_append, Bool.not_true, Bool.not_false, cond_true, cond_false, bne, lv_ret, lv_normal, res1, res2, lv2_some, res_var, res_cell, lvf_v, lvf_slc, res1c, lvo1_some, e_mm, mm_max, mm_min]
          · rw [hag] at hd hV
            dsimp only at hd hV
            have z1 : ((140 : Int) == 140) = true := rfl
            simp only [c5, start, List.replicate, c5_0, c5_1, c5_2, c5_4, c5_5, c5_7, c5_8, c5_9, c5_11, c5_12, c5_13, htc, htl, htc', htl', ht0, ht1, hlive, s1, s2, sb, sc, sl, e_bslice2, b2, hbig, hgood, hU, hV, hcr, hcr', hst1, hst2, z0, z1, h1, h2, q9z, g_agg, ex_2, pick_und, run_nil, run_cons, stp_plain, stp_guard, put_some, pass_eq, pick_tt, pick_ff, pick_tf, pick_ft, pick_u, reg_some, thn_normal, thn_exit, thn_ret, cnd_t, cnd_f, blk_normal, blk_ret, blk_exit, x_seq, x_region, x_cond, x_block, x_loop, x_ret, x_exit, x_skip, e_mov, e_pick, pk_t, pk_f, withH_some, e_box, bx_some, e_load, e_store, stH_some, e_nil, e_bin, e_eqv, eqH_f, eqH_t, e_un, e_fa, e_ia, ia_eq, nat_eq, natV_nat, e_len, lnH_some, e_extract, ex_0, ex_1, e_call0, e_call1, e_call2, e_call3, pc0_eq, pc1_some, pc2_some, pc3_some, fin_some, g_var0, g_vars, g_loc0, g_locs, g_int, g_bool, g_str, g_sl, s_none, s_zero, s_succ, cl_nil, cl_str, cl_bool, cl_slc, cl_own, evFa, evNil, asEl, evBin, intBin, strBin, evUn, len_nil, len_slc, len_str, clr, List.length_nil, List.length_cons, List.getElem?_cons_zero, List.getElem?_cons_succ, Nat.reduceAdd, Nat.zero_add, Nat.add_zero, Nat.reduceLeDiff, Nat.reduceSub, ↓reduceIte, List.drop_succ_cons, List.drop_zero, List.take_succ_cons, List.take_zero, Bool.false_eq_true, List.nil_append, List.cons_append, Bool.not_true, Bool.not_false, cond_true, cond_false, bne, lv_ret, lv_normal, res1, res2, lv2_some, res_var, res_cell, lvf_v, lvf_slc, res1c, lvo1_some, e_mm, mm_max, mm_min]

theorem one_plain : unifyOne.Plain := by
  intro a0 a1 a2 w0 e0 w1 e1 w2 e2
  obtain ⟨c0, bs, h0, hb⟩ := wt_nn w0
  obtain ⟨x, hx⟩ := (wt_good w1).1 rfl
  obtain ⟨y, hy⟩ := (wt_good w2).1 rfl
  rw [one_cell e0 h0]
  have h3 : AV.agg a1.cells = a1 := by
    have : asEl true a1.cells = some a1 := e1
    simpa [asEl] using this
  have h4 : AV.agg a2.cells = a2 := by
    have : asEl true a2.cells = some a2 := e2
    simpa [asEl] using this
  rw [h3] at hx
  rw [h4] at hy
  exact callW_iff.1 (one_ok hb hx hy)
end Go.AE.YtpgoibncgekflaaDoor
namespace Go.Proofs.YtpgoibncgekflaaDoor
theorem unifyOne_holds : Rows.UnifyOneCardSaid := unifyOne.proved Go.AE.YtpgoibncgekflaaDoor.one_plain
#print axioms unifyOne_holds
end Go.Proofs.YtpgoibncgekflaaDoor

/- SubstApart holds, its card with it: whatever the input, where the library's tables lie as its text lays them, it returns true, and the input reads as it did. Conditions: none beside. -/
import Derived.Test.YtpgoibncgekflaaDoorPart3
set_option linter.unusedVariables false
set_option linter.unusedSimpArgs false
namespace Go.AE.YtpgoibncgekflaaDoor
open Go Go.AE Go.Proofs.YtpgoibncgekflaaDoor

def K3 : List Bool := [false, false, true, false, true, true, false, false, false, false, true, true, true, false, false]
def L3 (b : AV) (acc : AV) (len i : Int) : List AV := [.junk, .junk, .ptr 0 0, .junk, .v (.bool true), acc, .junk, .junk, .junk, .junk, b, .v (.int .i64 len), .v (.int .i64 i), .junk, .junk]
def zeroB : List AV := [.v (.int .i64 0), .v (.int .i64 0), .v (.string ⟨#[]⟩), .v (.int .i64 0), .v (.slice none 0 0)]
theorem q9b : (ofVal (.agg #[(.int .i64 0), (.int .i64 0), (.string ⟨#[]⟩), (.int .i64 0), (.slice none 0 0)])).cl = some zeroB := by simp [ofVal, AV.cl, Value.oneCell', zeroB]

theorem apart_loop {K : Nat} {b t : AV} {T : Tm} {es : List AV} (hs : Sl 5 b es) (hm : es.length ≤ 100000) (ht : IsT t T) (hszT : size T ≤ 100000) :
    ∀ (l : List (Int × Tm)) (i : Nat) (acc : AV) (ds : List AV) (dl : List (Int × Tm)) (h : List AO) (vars : List AV), i + l.length = es.length → ds.length ≤ i → AllB (es.drop i) l → AllB ds dl →
      h[0]? = some (.box t.cells) → Acc 5 h acc ds → clr K3 vars = L3 b acc es.length i →
      ∃ acc' ds' h' x6 x13 x14, loopN (exec (callW F) K c3_11) K3 (l.length + 1) vars h = some (.exit 0, [.junk, .junk, .ptr 0 0, .junk, .v (.bool true), acc', x6, .junk, .junk, .junk, b, .v (.int .i64 es.length), .v (.int .i64 es.length), x13, x14], h') ∧ Acc 5 h' acc' ds' ∧ AllB ds' (dl ++ keepB (varsT T) l) ∧ ds'.length ≤ es.length ∧ Keeps h h' := by
  intro l
  induction l with
  | nil =>
    intro i acc ds dl h vars hi hds _ hall h0 ha hv
    have hil : i = es.length := by simpa using hi
    subst hil
    have hlt : decide ((es.length : Int) < (es.length : Int)) = false := by simp
    refine ⟨acc, ds, h, .junk, .v (.bool false), .junk, loop_exit ?_, ha, by simpa [keepB] using hall, hds, .refl h⟩
    rw [hv]
    simp only [L3, c3_11, c3_6, hlt, e_bslice1, e_bslice2, bs1, bs2, e_build, bdH_some, bd_nil, bd_cons, bd1, cl_agg, cl_int, toL, List.map_cons, List.map_nil, putAt, List.set_cons_zero, List.set_cons_succ, and_self, Nat.le_refl, app_get, app_set, g_agg, run_nil, run_cons, stp_plain, stp_guard, put_some, pass_eq, pick_tt, pick_ff, pick_tf, pick_ft, pick_u, reg_some, thn_normal, thn_exit, thn_ret, cnd_t, cnd_f, blk_normal, blk_ret, blk_exit, x_seq, x_region, x_cond, x_block, x_loop, x_ret, x_exit, x_skip, e_mov, e_pick, pk_t, pk_f, withH_some, e_box, bx_some, e_load, e_store, stH_some, e_nil, e_bin, e_eqv, eqH_f, eqH_t, e_un, e_fa, e_ia, ia_eq, nat_eq, natV_nat, e_len, lnH_some, e_extract, ex_0, ex_1, e_call0, e_call1, e_call2, e_call3, pc0_eq, pc1_some, pc2_some, pc3_some, fin_some, g_var0, g_vars, g_loc0, g_locs, g_int, g_bool, g_str, g_sl, s_none, s_zero, s_succ, cl_nil, cl_str, cl_bool, cl_slc, cl_own, evFa, evNil, asEl, evBin, intBin, strBin, evUn, len_nil, len_slc, len_str, clr, List.length_nil, List.length_cons, List.getElem?_cons_zero, List.getElem?_cons_succ, Nat.reduceAdd, Nat.zero_add, Nat.add_zero, Nat.reduceLeDiff, Nat.reduceSub, ↓reduceIte, List.drop_succ_cons, List.drop_zero, List.take_succ_cons, List.take_zero, Bool.false_eq_true, List.nil_append, List.cons_append, Bool.not_true, Bool.not_false, cond_true, cond_false, bne, lv_ret, lv_normal, res1, res2, lv2_some, res_var, res_cell, lvf_v, lvf_slc, res1c, lvo1_some, e_mm, mm_max, mm_min]
  | cons p l ih =>
    intro i acc ds dl h vars hi hds hes hall h0 ha hv
    obtain ⟨v, u⟩ := p
    have hil : i < es.length := by simp at hi; omega
    have he : es[i]? = some (es[i]'hil) := List.getElem?_eq_getElem _
    have hd : es.drop i = es[i] :: es.drop (i + 1) := List.drop_eq_getElem_cons hil
    rw [hd] at hes
    generalize es[i]'hil = e at hes he
    cases hes with
    | cons _ _ _ _ _ hT hs' =>
    have hT0 := hT
    cases hT with
    | mk v cs u hu =>
    obtain ⟨cv, hcv, hvars⟩ := vars_ok hszT ht
    have vl : (varsT T).length ≤ 1000000 := by
      have h1 := foldNew_len (placesT T) []
      have h2 := places_len T
      simp only [varsT, List.length_nil] at h1 ⊢
      omega
    have hhas := has_ok hcv vl v
    have hlt : (decide ((i : Int) < (es.length : Int))) = true := by simp; omega
    have q1 := hs.ia he
    have hcsl : cs.length = 4 := hu.cl.2
    have q3 : ∀ h : List AO, evLoad h true 5 (.ip (.v (.int .i64 v) :: cs)) = some (.agg (.v (.int .i64 v) :: cs)) := by
      intro h
      have hln : 5 ≤ (AV.v (.int .i64 v) :: cs).length := by simp [hcsl]
      simp only [evLoad, if_pos hln, List.take_of_length_le (show (AV.v (.int .i64 v) :: cs).length ≤ 5 by simp [hcsl]), asEl, if_true]
    have q6 : ∀ h : List AO, evStore (h ++ [.box zeroB]) 5 (.ptr h.length 0) (.agg (.v (.int .i64 v) :: cs)) = some (h ++ [.box (.v (.int .i64 v) :: cs)]) := fun h => st_new cl_agg (by simp [hcsl]) rfl
    have q7 : ∀ h : List AO, evLoad (h ++ [.box (.v (.int .i64 v) :: cs)]) false 1 (.ptr h.length 0) = some (.v (.int .i64 v)) := by
      intro h
      rw [ld_new, if_pos (by simp)]; rfl
    have q8 : ∀ h : List AO, evLoad (h ++ [.box (.v (.int .i64 v) :: cs)]) true 5 (.ptr h.length 0) = some (.agg (.v (.int .i64 v) :: cs)) := by
      intro h
      rw [ld_new, if_pos (by simp [hcsl]), List.drop_zero, List.take_of_length_le (by simp [hcsl])]
      simp [asEl]
    have q10 : evLoad (h ++ [.box (.v (.int .i64 v) :: cs)]) true 4 (.ptr 0 0) = some t := by
      rw [bx_ld (his_get h0), if_pos (by rw [ht.cl.2]; omega), List.drop_zero]
      exact ht.asEl
    have s1 : ∀ h : List AO, t.snap1 h = some t := fun h => ht.snap
    have s2 := hcv.snap
    have s3 : ∀ h : List AO, (AV.agg (.v (.int .i64 v) :: cs)).snap1 h = some (.agg (.v (.int .i64 v) :: cs)) := by
      intro h
      generalize AV.agg cs = a at hu
      cases hT0 with
      | mk v cs u hu2 => cases hu2 with | mk k s n c l hc => cases hc <;> rfl
    simp only [zeroB] at q6
    have q9 := q9b
    simp only [zeroB] at q9
    cases hmem : (varsT T).contains v with
    | true =>
      rw [hmem] at hhas
      have st : exec (callW F) K c3_11 (L3 b acc es.length i) h = some (.normal, [.junk, .junk, .ptr 0 0, .junk, .v (.bool true), acc, .ptr h.length 0, .junk, .junk, .junk, b, .v (.int .i64 es.length), .v (.int .i64 ((i + 1 : Nat) : Int)), .v (.bool true), .v (.bool false)], h ++ [.box (.v (.int .i64 v) :: cs)]) := by
        simp only [L3, AV.cells, c3_11, c3_6, c3_7, c3_8, c3_10, hlt, wrap_succ hil (small_max hm), q1, q3, q6, q7, q9, q10, s1, s2, hvars, hhas, snapv, e_bslice1, e_bslice2, bs1, bs2, e_build, bdH_some, bd_nil, bd_cons, bd1, cl_agg, cl_int, toL, List.map_cons, List.map_nil, putAt, List.set_cons_zero, List.set_cons_succ, and_self, Nat.le_refl, app_get, app_set, g_agg, run_nil, run_cons, stp_plain, stp_guard, put_some, pass_eq, pick_tt, pick_ff, pick_tf, pick_ft, pick_u, reg_some, thn_normal, thn_exit, thn_ret, cnd_t, cnd_f, blk_normal, blk_ret, blk_exit, x_seq, x_region, x_cond, x_block, x_loop, x_ret, x_exit, x_skip, e_mov, e_pick, pk_t, pk_f, withH_some, e_box, bx_some, e_load, e_store, stH_some, e_nil, e_bin, e_eqv, eqH_f, eqH_t, e_un, e_fa, e_ia, ia_eq, nat_eq, natV_nat, e_len, lnH_some, e_extract, ex_0, ex_1, e_call0, e_call1, e_call2, e_call3, pc0_eq, pc1_some, pc2_some, pc3_some, fin_some, g_var0, g_vars, g_loc0, g_locs, g_int, g_bool, g_str, g_sl, s_none, s_zero, s_succ, cl_nil, cl_str, cl_bool, cl_slc, cl_own, evFa, evNil, asEl, evBin, intBin, strBin, evUn, len_nil, len_slc, len_str, clr, List.length_nil, List.length_cons, List.getElem?_cons_zero, List.getElem?_cons_succ, Nat.reduceAdd, Nat.zero_add, Nat.add_zero, Nat.reduceLeDiff, Nat.reduceSub, ↓reduceIte, List.drop_succ_cons, List.drop_zero, List.take_succ_cons, List.take_zero, Bool.false_eq_true, List.nil_append, List.cons_append, Bool.not_true, Bool.not_false, cond_true, cond_false, bne, lv_ret, lv_normal, res1, res2, lv2_some, res_var, res_cell, lvf_v, lvf_slc, res1c, lvo1_some, e_mm, mm_max, mm_min]
      rw [show ((v, u) :: l).length + 1 = (l.length + 1) + 1 from rfl, loop_normal (by rw [hv]; exact st)]
      obtain ⟨acc'', ds', h', x6, x13, x14, g1, g2, g3, g4, g5⟩ := ih (i + 1) acc ds dl (h ++ [.box (.v (.int .i64 v) :: cs)]) [.junk, .junk, .ptr 0 0, .junk, .v (.bool true), acc, .ptr h.length 0, .junk, .junk, .junk, b, .v (.int .i64 es.length), .v (.int .i64 ((i + 1 : Nat) : Int)), .v (.bool true), .v (.bool false)] (by simp at hi; omega) (by omega) hs' hall (his_get h0) (ha.app _) rfl
      refine ⟨acc'', ds', h', x6, x13, x14, g1, g2, ?_, g4, (Keeps.app _ _).trans g5⟩
      have ek : keepB (varsT T) ((v, u) :: l) = keepB (varsT T) l := by simp only [keepB, List.filter_cons, hmem, Bool.not_true, Bool.false_eq_true, if_false]
      rw [ek]; exact g3
    | false =>
      rw [hmem] at hhas
      obtain ⟨acc', h2, h3, h4, h5⟩ := (ha.app (.box (.v (.int .i64 v) :: cs))).add (x := .slc 5 true true [.agg (.v (.int .i64 v) :: cs)]) (ys := [.agg (.v (.int .i64 v) :: cs)]) (bytes := 64) elems_one (by
        have : room = 140737488355328 := rfl
        simp only [fits, List.length_cons, List.length_nil, decide_eq_true_eq]; omega)
      have st : exec (callW F) K c3_11 (L3 b acc es.length i) h = some (.normal, [.junk, .junk, .ptr 0 0, .junk, .v (.bool true), acc', .ptr h.length 0, .junk, .junk, .junk, b, .v (.int .i64 es.length), .v (.int .i64 ((i + 1 : Nat) : Int)), .v (.bool true), .v (.bool true)], h2) := by
        simp only [L3, AV.cells, c3_11, c3_6, c3_7, c3_8, c3_9, c3_10, hlt, wrap_succ hil (small_max hm), q1, q3, q6, q7, q8, q9, q10, s1, s2, s3, hvars, hhas, h3, snapv, e_append, e_bslice1, g_agg, bs1_some (y := .agg (.v (.int .i64 v) :: cs)) (sz := 5) cl_agg (by simp [hcsl]), run_nil, run_cons, stp_plain, stp_guard, put_some, pass_eq, pick_tt, pick_ff, pick_tf, pick_ft, pick_u, reg_some, thn_normal, thn_exit, thn_ret, cnd_t, cnd_f, blk_normal, blk_ret, blk_exit, x_seq, x_region, x_cond, x_block, x_loop, x_ret, x_exit, x_skip, e_mov, e_pick, pk_t, pk_f, withH_some, e_box, bx_some, e_load, e_store, stH_some, e_nil, e_bin, e_eqv, eqH_f, eqH_t, e_un, e_fa, e_ia, ia_eq, nat_eq, natV_nat, e_len, lnH_some, e_extract, ex_0, ex_1, e_call0, e_call1, e_call2, e_call3, pc0_eq, pc1_some, pc2_some, pc3_some, fin_some, g_var0, g_vars, g_loc0, g_locs, g_int, g_bool, g_str, g_sl, s_none, s_zero, s_succ, cl_nil, cl_str, cl_bool, cl_slc, cl_own, evFa, evNil, asEl, evBin, intBin, strBin, evUn, len_nil, len_slc, len_str, clr, List.length_nil, List.length_cons, List.getElem?_cons_zero, List.getElem?_cons_succ, Nat.reduceAdd, Nat.zero_add, Nat.add_zero, Nat.reduceLeDiff, Nat.reduceSub, ↓reduceIte, List.drop_succ_cons, List.drop_zero, List.take_succ_cons, List.take_zero, Bool.false_eq_true, List.nil_append, List.cons_append, Bool.not_true, Bool.not_false, cond_true, cond_false, bne, lv_ret, lv_normal, res1, res2, lv2_some, res_var, res_cell, lvf_v, lvf_slc, res1c, lvo1_some, e_mm, mm_max, mm_min]
      rw [show ((v, u) :: l).length + 1 = (l.length + 1) + 1 from rfl, loop_normal (by rw [hv]; exact st)]
      obtain ⟨acc'', ds', h', x6, x13, x14, g1, g2, g3, g4, g5⟩ := ih (i + 1) acc' (ds ++ [.agg (.v (.int .i64 v) :: cs)]) (dl ++ [(v, u)]) h2 [.junk, .junk, .ptr 0 0, .junk, .v (.bool true), acc', .ptr h.length 0, .junk, .junk, .junk, b, .v (.int .i64 es.length), .v (.int .i64 ((i + 1 : Nat) : Int)), .v (.bool true), .v (.bool true)] (by simp at hi; omega) (by simp; omega) hs' (hall.append (.cons _ _ _ _ _ (.mk v cs u hu) .nil)) (h5.2 0 _ (his_get h0)) h4 rfl
      refine ⟨acc'', ds', h', x6, x13, x14, g1, g2, ?_, g4, ((Keeps.app _ _).trans h5).trans g5⟩
      have ek : keepB (varsT T) ((v, u) :: l) = (v, u) :: keepB (varsT T) l := by simp only [keepB, List.filter_cons, hmem, Bool.not_false, if_true]
      rw [ek]; simpa using g3

theorem IsB.sl {c : AV} {l : List (Int × Tm)} (h : IsB c l) : ∃ es, Sl 5 c es ∧ AllB es l ∧ es.length ≤ maxLen := by
  cases h with
  | nil => exact ⟨[], .nil, .nil, by simp⟩
  | slc ex nn es l h hb => exact ⟨es, .slc ex nn es, h, hb⟩
theorem Sl.isB {c : AV} {es : List AV} {l : List (Int × Tm)} (h : Sl 5 c es) (ha : AllB es l) (hb : es.length ≤ maxLen) : IsB c l := by
  cases h with
  | nil => cases ha; exact .nil
  | slc ex nn es => exact .slc ex nn es l ha hb

theorem apart_ok {b t : AV} {T : Tm} {bs : List (Int × Tm)} (hb : IsB b bs) (ht : IsT t T) : callW F 3 [b, t] [] = some (.v (.bool true), []) := by
  have hlive := live_ok
  have hbig := big_ok (ts := .slc 4 true true [t]) hb rfl (All2.cons t T [] [] ht .nil) (by simp [maxLen])
  have s1 : ∀ h : List AO, t.snap1 h = some t := fun h => ht.snap
  have sb : ∀ h : List AO, b.snap1 h = some b := by intro h; cases hb <;> rfl
  have sl : ∀ h : List AO, (AV.slc 4 true true [t]).snap1 h = some (.slc 4 true true [t]) := fun _ => rfl
  have b1 : ∀ h : List AO, bs1 h 4 (some t) = some (.slc 4 true true [t], h) := fun h => bs1_some ht.cl.1 ht.cl.2
  have ht0 : ∀ tl : List AO, evLoad (.box t.cells :: tl) true 4 (.ptr 0 0) = some t := by
    intro tl
    rw [bx_ld (cs := t.cells) rfl, if_pos (by rw [ht.cl.2]; omega), List.drop_zero]
    exact ht.asEl
  have htc := ht.cl.1
  have htl := ht.cl.2
  cases hB : big bs [T] with
  | true =>
    rw [hB] at hbig
    refine callW_pure (c := c3) rfl rfl 0 ?_
    simp only [c3, start, List.replicate, c3_0, c3_1, c3_2, c3_3, htc, htl, ht0, hlive, s1, sb, sl, b1, hbig, e_bslice1, e_bslice2, bs1, bs2, e_build, bdH_some, bd_nil, bd_cons, bd1, cl_agg, cl_int, toL, List.map_cons, List.map_nil, putAt, List.set_cons_zero, List.set_cons_succ, and_self, Nat.le_refl, app_get, app_set, g_agg, run_nil, run_cons, stp_plain, stp_guard, put_some, pass_eq, pick_tt, pick_ff, pick_tf, pick_ft, pick_u, reg_some, thn_normal, thn_exit, thn_ret, cnd_t, cnd_f, blk_normal, blk_ret, blk_exit, x_seq, x_region, x_cond, x_block, x_loop, x_ret, x_exit, x_skip, e_mov, e_pick, pk_t, pk_f, withH_some, e_box, bx_some, e_load, e_store, stH_some, e_nil, e_bin, e_eqv, eqH_f, eqH_t, e_un, e_fa, e_ia, ia_eq, nat_eq, natV_nat, e_len, lnH_some, e_extract, ex_0, ex_1, e_call0, e_call1, e_call2, e_call3, pc0_eq, pc1_some, pc2_some, pc3_some, fin_some, g_var0, g_vars, g_loc0, g_locs, g_int, g_bool, g_str, g_sl, s_none, s_zero, s_succ, cl_nil, cl_str, cl_bool, cl_slc, cl_own, evFa, evNil, asEl, evBin, intBin, strBin, evUn, len_nil, len_slc, len_str, clr, List.length_nil, List.length_cons, List.getElem?_cons_zero, List.getElem?_cons_succ, Nat.reduceAdd, Nat.zero_add, Nat.add_zero, Nat.reduceLeDiff, Nat.reduceSub, ↓reduceIte, List.drop_succ_cons, List.drop_zero, List.take_succ_cons, List.take_zero, Bool.false_eq_true, List.nil_append, List.cons_append, Bool.not_true, Bool.not_false, cond_true, cond_false, bne, lv_ret, lv_normal, res1, res2, lv2_some, res_var, res_cell, lvf_v, lvf_slc, res1c, lvo1_some, e_mm, mm_max, mm_min]
  | false =>
    rw [hB] at hbig
    have hsz := big_size hB
    have hszT : size T ≤ 100000 := by have := hsz.2.2 T (by simp); omega
    have hszB : ∀ p ∈ bs, size p.2 ≤ 100000 := fun p hp => by have := hsz.2.1 p hp; omega
    have hfew := few_ok T t 1900 ht
    by_cases hf : left T 1900 ≥ 0
    · have d1 : decide (left T 1900 ≥ 0) = true := by simpa using hf
      rw [d1] at hfew
      have hchk := check_ok hszT ht
      by_cases hc0 : checkT T = 0
      · -- the law itself
        have d2 : (checkT T == 0) = true := by simpa using hc0
        have hs19 : size T ≤ 1900 := by
          have := (left_size T 1900 (by omega) (by omega)).2.2 hf
          omega
        have hdeep : deepT T ≤ 60 := by
          unfold checkT at hc0
          split at hc0
          · split at hc0
            · omega
            · omega
          · omega
        obtain ⟨es, hs, hes, hmx⟩ := hb.sl
        have e1 := hes.length
        obtain ⟨acc', ds', h', x6, x13, x14, g1, g2, g3, g4, g5⟩ := apart_loop (K := bs.length + 1) hs (by omega) ht hszT bs 0 (.v (.slice none 0 0)) [] [] [.box t.cells] (L3 b (.v (.slice none 0 0)) es.length (0 : Nat)) (by omega) (by simp) (by simpa using hes) .nil rfl .nil rfl
        simp only [List.nil_append] at g3
        obtain ⟨f1, f2, c', f3, f4⟩ := g2.fix
        have g3l := g3.length
        have hIB : IsB c' (keepB (varsT T) bs) := Sl.isB f4 g3 (by have : maxLen = 9223372036854775807 := rfl; omega)
        obtain ⟨r, hr, hres⟩ := resolve_ok hIB (by omega) (fun p hp => by
          simp only [keepB, List.mem_filter] at hp
          exact hszB p hp.1) hszT ht
        simp only [resA, resT_same _ 60 2000 T (keep_free bs T) (by omega) (by omega)] at hr hres
        have e16 := same_call hr ht
        have sr : ∀ h : List AO, r.snap1 h = some r := fun h => hr.snap
        have k1 := f2.2 0 _ (g5.2 0 _ rfl)
        have m1 : evLoad (raise1 h' acc') true 4 (.ptr 0 0) = some t := by
          rw [bx_ld k1, if_pos (by rw [ht.cl.2]; omega), List.drop_zero]
          exact ht.asEl
        have m2 : evLoad (raise1 h' acc' ++ [.box r.cells]) true 4 (.ptr 0 0) = some t := by
          rw [bx_ld (his_get k1), if_pos (by rw [ht.cl.2]; omega), List.drop_zero]
          exact ht.asEl
        have n2 := hr.st (raise1 h' acc') zeroC rfl
        have n3 := hr.ld (raise1 h' acc')
        simp only [zeroC] at n2
        have z0 : ((0 : Int) == 0) = true := rfl
        refine callW_pure (c := c3) rfl rfl (bs.length + 1) ?_
        show lv [.var 3] (exec (callW F) (bs.length + 1) (.seq (.region [] [] c3_0) (.seq (.region [] [] c3_1) (.seq (.seq (.region [] [] c3_2) (.cond (.var 9) (.seq (.region [] [] c3_3) .ret) .skip)) (.seq (.region [] [] c3_4) (.seq (.seq (.region [] [] c3_5) (.block 0 (.loop K3 [] c3_11))) (.seq (.region [.v 5] [] c3_12) (.seq (.region [] [] c3_13) .ret))))))) _ _) = _
        generalize hrest : (CC.seq (.region [.v 5] [] c3_12) (.seq (.region [] [] c3_13) .ret)) = rest
        have hl := hs.len
        simp only [c3, start, List.replicate, c3_0, c3_1, c3_2, c3_4, c3_5, htc, htl, ht0, hlive, s1, sb, sl, b1, hbig, hfew, hchk, d2, hl, snapv, e_bslice1, e_bslice2, bs1, bs2, e_build, bdH_some, bd_nil, bd_cons, bd1, cl_agg, cl_int, toL, List.map_cons, List.map_nil, putAt, List.set_cons_zero, List.set_cons_succ, and_self, Nat.le_refl, app_get, app_set, g_agg, run_nil, run_cons, stp_plain, stp_guard, put_some, pass_eq, pick_tt, pick_ff, pick_tf, pick_ft, pick_u, reg_some, thn_normal, thn_exit, thn_ret, cnd_t, cnd_f, blk_normal, blk_ret, blk_exit, x_seq, x_region, x_cond, x_block, x_loop, x_ret, x_exit, x_skip, e_mov, e_pick, pk_t, pk_f, withH_some, e_box, bx_some, e_load, e_store, stH_some, e_nil, e_bin, e_eqv, eqH_f, eqH_t, e_un, e_fa, e_ia, ia_eq, nat_eq, natV_nat, e_len, lnH_some, e_extract, ex_0, ex_1, e_call0, e_call1, e_call2, e_call3, pc0_eq, pc1_some, pc2_some, pc3_some, fin_some, g_var0, g_vars, g_loc0, g_locs, g_int, g_bool, g_str, g_sl, s_none, s_zero, s_succ, cl_nil, cl_str, cl_bool, cl_slc, cl_own, evFa, evNil, asEl, evBin, intBin, strBin, evUn, len_nil, len_slc, len_str, clr, List.length_nil, List.length_cons, List.getElem?_cons_zero, List.getElem?_cons_succ, Nat.reduceAdd, Nat.zero_add, Nat.add_zero, Nat.reduceLeDiff, Nat.reduceSub, ↓reduceIte, List.drop_succ_cons, List.drop_zero, List.take_succ_cons, List.take_zero, Bool.false_eq_true, List.nil_append, List.cons_append, Bool.not_true, Bool.not_false, cond_true, cond_false, bne, lv_ret, lv_normal, res1, res2, lv2_some, res_var, res_cell, lvf_v, lvf_slc, res1c, lvo1_some, e_mm, mm_max, mm_min]
        rw [loop_cong (v2 := L3 b (.v (.slice none 0 0)) es.length ((0 : Nat) : Int)) (by rfl), g1, ← hrest]
        simp only [x_region_m, marked_eq, marked, List.foldl_cons, List.foldl_nil, doMark, List.getD_cons_zero, List.getD_cons_succ, blk_exit, thn_normal, c3_12, c3_13, m1, m2, n2, n3, z0, s1, sr, f3, hres, e16, snapv, q9z, e_bslice1, e_bslice2, bs1, bs2, e_build, bdH_some, bd_nil, bd_cons, bd1, cl_agg, cl_int, toL, List.map_cons, List.map_nil, putAt, List.set_cons_zero, List.set_cons_succ, and_self, Nat.le_refl, app_get, app_set, g_agg, run_nil, run_cons, stp_plain, stp_guard, put_some, pass_eq, pick_tt, pick_ff, pick_tf, pick_ft, pick_u, reg_some, thn_normal, thn_exit, thn_ret, cnd_t, cnd_f, blk_normal, blk_ret, blk_exit, x_seq, x_region, x_cond, x_block, x_loop, x_ret, x_exit, x_skip, e_mov, e_pick, pk_t, pk_f, withH_some, e_box, bx_some, e_load, e_store, stH_some, e_nil, e_bin, e_eqv, eqH_f, eqH_t, e_un, e_fa, e_ia, ia_eq, nat_eq, natV_nat, e_len, lnH_some, e_extract, ex_0, ex_1, e_call0, e_call1, e_call2, e_call3, pc0_eq, pc1_some, pc2_some, pc3_some, fin_some, g_var0, g_vars, g_loc0, g_locs, g_int, g_bool, g_str, g_sl, s_none, s_zero, s_succ, cl_nil, cl_str, cl_bool, cl_slc, cl_own, evFa, evNil, asEl, evBin, intBin, strBin, evUn, len_nil, len_slc, len_str, clr, List.length_nil, List.length_cons, List.getElem?_cons_zero, List.getElem?_cons_succ, Nat.reduceAdd, Nat.zero_add, Nat.add_zero, Nat.reduceLeDiff, Nat.reduceSub, ↓reduceIte, List.drop_succ_cons, List.drop_zero, List.take_succ_cons, List.take_zero, Bool.false_eq_true, List.nil_append, List.cons_append, Bool.not_true, Bool.not_false, cond_true, cond_false, bne, lv_ret, lv_normal, res1, res2, lv2_some, res_var, res_cell, lvf_v, lvf_slc, res1c, lvo1_some, e_mm, mm_max, mm_min]
      · have d2 : (checkT T == 0) = false := by simpa using hc0
        refine callW_pure (c := c3) rfl rfl 0 ?_
        simp only [c3, start, List.replicate, c3_0, c3_1, c3_2, c3_3, htc, htl, ht0, hlive, s1, sb, sl, b1, hbig, hfew, hchk, d2, snapv, e_bslice1, e_bslice2, bs1, bs2, e_build, bdH_some, bd_nil, bd_cons, bd1, cl_agg, cl_int, toL, List.map_cons, List.map_nil, putAt, List.set_cons_zero, List.set_cons_succ, and_self, Nat.le_refl, app_get, app_set, g_agg, run_nil, run_cons, stp_plain, stp_guard, put_some, pass_eq, pick_tt, pick_ff, pick_tf, pick_ft, pick_u, reg_some, thn_normal, thn_exit, thn_ret, cnd_t, cnd_f, blk_normal, blk_ret, blk_exit, x_seq, x_region, x_cond, x_block, x_loop, x_ret, x_exit, x_skip, e_mov, e_pick, pk_t, pk_f, withH_some, e_box, bx_some, e_load, e_store, stH_some, e_nil, e_bin, e_eqv, eqH_f, eqH_t, e_un, e_fa, e_ia, ia_eq, nat_eq, natV_nat, e_len, lnH_some, e_extract, ex_0, ex_1, e_call0, e_call1, e_call2, e_call3, pc0_eq, pc1_some, pc2_some, pc3_some, fin_some, g_var0, g_vars, g_loc0, g_locs, g_int, g_bool, g_str, g_sl, s_none, s_zero, s_succ, cl_nil, cl_str, cl_bool, cl_slc, cl_own, evFa, evNil, asEl, evBin, intBin, strBin, evUn, len_nil, len_slc, len_str, clr, List.length_nil, List.length_cons, List.getElem?_cons_zero, List.getElem?_cons_succ, Nat.reduceAdd, Nat.zero_add, Nat.add_zero, Nat.reduceLeDiff, Nat.reduceSub, ↓reduceIte, List.drop_succ_cons, List.drop_zero, List.take_succ_cons, List.take_zero, Bool.false_eq_true, List.nil_append, List.cons_append, Bool.not_true, Bool.not_false, cond_true, cond_false, bne, lv_ret, lv_normal, res1, res2, lv2_some, res_var, res_cell, lvf_v, lvf_slc, res1c, lvo1_some, e_mm, mm_max, mm_min]
    · have d1 : decide (left T 1900 ≥ 0) = false := by simpa using hf
      rw [d1] at hfew
      refine callW_pure (c := c3) rfl rfl 0 ?_
      simp only [c3, start, List.replicate, c3_0, c3_1, c3_2, c3_3, htc, htl, ht0, hlive, s1, sb, sl, b1, hbig, hfew, snapv, e_bslice1, e_bslice2, bs1, bs2, e_build, bdH_some, bd_nil, bd_cons, bd1, cl_agg, cl_int, toL, List.map_cons, List.map_nil, putAt, List.set_cons_zero, List.set_cons_succ, and_self, Nat.le_refl, app_get, app_set, g_agg, run_nil, run_cons, stp_plain, stp_guard, put_some, pass_eq, pick_tt, pick_ff, pick_tf, pick_ft, pick_u, reg_some, thn_normal, thn_exit, thn_ret, cnd_t, cnd_f, blk_normal, blk_ret, blk_exit, x_seq, x_region, x_cond, x_block, x_loop, x_ret, x_exit, x_skip, e_mov, e_pick, pk_t, pk_f, withH_some, e_box, bx_some, e_load, e_store, stH_some, e_nil, e_bin, e_eqv, eqH_f, eqH_t, e_un, e_fa, e_ia, ia_eq, nat_eq, natV_nat, e_len, lnH_some, e_extract, ex_0, ex_1, e_call0, e_call1, e_call2, e_call3, pc0_eq, pc1_some, pc2_some, pc3_some, fin_some, g_var0, g_vars, g_loc0, g_locs, g_int, g_bool, g_str, g_sl, s_none, s_zero, s_succ, cl_nil, cl_str, cl_bool, cl_slc, cl_own, evFa, evNil, asEl, evBin, intBin, strBin, evUn, len_nil, len_slc, len_str, clr, List.length_nil, List.length_cons, List.getElem?_cons_zero, List.getElem?_cons_succ, Nat.reduceAdd, Nat.zero_add, Nat.add_zero, Nat.reduceLeDiff, Nat.reduceSub, ↓reduceIte, List.drop_succ_cons, List.drop_zero, List.take_succ_cons, List.take_zero, Bool.false_eq_true, List.nil_append, List.cons_append, Bool.not_true, Bool.not_false, cond_true, cond_false, bne, lv_ret, lv_normal, res1, res2, lv2_some, res_var, res_cell, lvf_v, lvf_slc, res1c, lvo1_some, e_mm, mm_max, mm_min]

theorem apart_plain : substApart.Plain := by
  intro a0 a1 w0 e0 w1 e1
  obtain ⟨c0, bs, h0, hb⟩ := (wt_good w0).2.2.2.2.2.2 rfl
  obtain ⟨x, hx⟩ := (wt_good w1).1 rfl
  rw [one_cell e0 h0]
  have h3 : AV.agg a1.cells = a1 := by
    have : asEl true a1.cells = some a1 := e1
    simpa [asEl] using this
  rw [h3] at hx
  exact callW_iff.1 (apart_ok hb hx)
end Go.AE.YtpgoibncgekflaaDoor
namespace Go.Proofs.YtpgoibncgekflaaDoor
theorem substApart_holds : Rows.SubstApartCardSaid := substApart.proved Go.AE.YtpgoibncgekflaaDoor.apart_plain
#print axioms substApart_holds
end Go.Proofs.YtpgoibncgekflaaDoor

/- SubstShifts holds: whatever the input, it returns true, and the input reads as it did. Conditions: none. -/
import Derived.Test.YtpgoibncgekflaaPart3
set_option linter.unusedVariables false
set_option linter.unusedSimpArgs false
namespace Go.AE.Ytpgoibncgekflaa
open Go Go.AE Go.Proofs.Ytpgoibncgekflaa

def K6 : List Bool := [true, false, true, true, false, true, true, false, false, false, false, false, false, true, true, true, false, false]
def L6 (b : AV) (x : Int) (acc : AV) (len i : Int) : List AV := [b, .junk, .v (.int .i64 x), .ptr 0 0, .junk, .v (.bool true), acc, .junk, .junk, .junk, .junk, .junk, .junk, b, .v (.int .i64 len), .v (.int .i64 i), .junk, .junk]
def zeroB : List AV := [.v (.int .i64 0), .v (.int .i64 0), .v (.string ⟨#[]⟩), .v (.int .i64 0), .v (.slice none 0 0)]
theorem q9b : (ofVal (.agg #[(.int .i64 0), (.int .i64 0), (.string ⟨#[]⟩), (.int .i64 0), (.slice none 0 0)])).cl = some zeroB := by simp [ofVal, AV.cl, Value.oneCell', zeroB]

theorem shifts_loop {K : Nat} {b : AV} {es : List AV} (hs : Sl 5 b es) (hm : es.length ≤ 100000) {x : Int} (hx : 0 ≤ x ∧ x ≤ 1000000) :
    ∀ (l : List (Int × Tm)) (i : Nat) (acc : AV) (ds : List AV) (dl : List (Int × Tm)) (h : List AO) (vars : List AV), i + l.length = es.length → ds.length = i → AllB (es.drop i) l → AllB ds dl → (∀ p ∈ l, size p.2 ≤ 100000) →
      Acc 5 h acc ds → clr K6 vars = L6 b x acc es.length i →
      (¬ Small l ∧ ∃ vs h', loopN (exec (callW F) K c6_13) K6 (l.length + 1) vars h = some (.ret, vs, h') ∧ getO vs [] (.var 4) = .v (.bool true)) ∨
      (Small l ∧ ∃ acc' ds' h' x1 x4 x7 x8 x9 x10 x11 x12 x16 x17, loopN (exec (callW F) K c6_13) K6 (l.length + 1) vars h = some (.exit 0, [b, x1, .v (.int .i64 x), .ptr 0 0, x4, .v (.bool true), acc', x7, x8, x9, x10, x11, x12, b, .v (.int .i64 es.length), .v (.int .i64 es.length), x16, x17], h') ∧ Acc 5 h' acc' ds' ∧ AllB ds' (dl ++ shiftB x l) ∧ Keeps h h') := by
  intro l
  induction l with
  | nil =>
    intro i acc ds dl h vars hi hds _ hall _ ha hv
    have hil : i = es.length := by simpa using hi
    subst hil
    have hlt : decide ((es.length : Int) < (es.length : Int)) = false := by simp
    refine .inr ⟨fun p hp => by simp at hp, acc, ds, h, .junk, .junk, .junk, .junk, .junk, .junk, .junk, .junk, .v (.bool false), .junk, loop_exit ?_, ha, by simpa [shiftB] using hall, .refl h⟩
    rw [hv]
    simp only [L6, c6_13, c6_7, hlt, e_bslice1, e_bslice2, bs1, bs2, e_build, bdH_some, bd_nil, bd_cons, bd1, cl_agg, cl_int, toL, List.map_cons, List.map_nil, putAt, List.set_cons_zero, List.set_cons_succ, and_self, Nat.le_refl, app_get, app_set, g_agg, run_nil, run_cons, stp_plain, stp_guard, put_some, pass_eq, pick_tt, pick_ff, pick_tf, pick_ft, pick_u, reg_some, thn_normal, thn_exit, thn_ret, cnd_t, cnd_f, blk_normal, blk_ret, blk_exit, x_seq, x_region, x_cond, x_block, x_loop, x_ret, x_exit, x_skip, e_mov, e_pick, pk_t, pk_f, withH_some, e_box, bx_some, e_load, e_store, stH_some, e_nil, e_bin, e_eqv, eqH_f, eqH_t, e_un, e_fa, e_ia, ia_eq, nat_eq, natV_nat, e_len, lnH_some, e_extract, ex_0, ex_1, e_call0, e_call1, e_call2, e_call3, pc0_eq, pc1_some, pc2_some, pc3_some, fin_some, g_var0, g_vars, g_loc0, g_locs, g_int, g_bool, g_str, g_sl, s_none, s_zero, s_succ, cl_nil, cl_str, cl_bool, cl_slc, cl_own, evFa, evNil, asEl, evBin, intBin, strBin, evUn, len_nil, len_slc, len_str, clr, List.length_nil, List.length_cons, List.getElem?_cons_zero, List.getElem?_cons_succ, Nat.reduceAdd, Nat.zero_add, Nat.add_zero, Nat.reduceLeDiff, Nat.reduceSub, ↓reduceIte, List.drop_succ_cons, List.drop_zero, List.take_succ_cons, List.take_zero, Bool.false_eq_true, List.nil_append, List.cons_append, Bool.not_true, Bool.not_false, cond_true, cond_false, bne, lv_ret, lv_normal, res1, res2, lv2_some, res_var, res_cell, lvf_v, lvf_slc, res1c, lvo1_some, e_mm, mm_max, mm_min]
  | cons p l ih =>
    intro i acc ds dl h vars hi hds hes hall hsz ha hv
    obtain ⟨v, t⟩ := p
    have hil : i < es.length := by simp at hi; omega
    have he : es[i]? = some (es[i]'hil) := List.getElem?_eq_getElem _
    have hd : es.drop i = es[i] :: es.drop (i + 1) := List.drop_eq_getElem_cons hil
    rw [hd] at hes
    generalize es[i]'hil = e at hes he
    cases hes with
    | cons _ _ _ _ _ hT hs' =>
    cases hT with
    | mk v cs t ht =>
    have hlt : (decide ((i : Int) < (es.length : Int))) = true := by simp; omega
    have q1 := hs.ia he
    have hcsl : cs.length = 4 := ht.cl.2
    have q3 : ∀ h : List AO, evLoad h true 5 (.ip (.v (.int .i64 v) :: cs)) = some (.agg (.v (.int .i64 v) :: cs)) := by
      intro h
      have hln : 5 ≤ (AV.v (.int .i64 v) :: cs).length := by simp [hcsl]
      simp only [evLoad, if_pos hln, List.take_of_length_le (show (AV.v (.int .i64 v) :: cs).length ≤ 5 by simp [hcsl]), asEl, if_true]
    have q6 : ∀ h : List AO, evStore (h ++ [.box zeroB]) 5 (.ptr h.length 0) (.agg (.v (.int .i64 v) :: cs)) = some (h ++ [.box (.v (.int .i64 v) :: cs)]) := fun h => st_new cl_agg (by simp [hcsl]) rfl
    have q7 : ∀ h : List AO, evLoad (h ++ [.box (.v (.int .i64 v) :: cs)]) false 1 (.ptr h.length 0) = some (.v (.int .i64 v)) := by
      intro h
      rw [ld_new, if_pos (by simp)]; rfl
    have q8 : ∀ h : List AO, evLoad (h ++ [.box (.v (.int .i64 v) :: cs)]) true 4 (.ptr h.length 1) = some (.agg cs) := by
      intro h
      rw [ld_new, if_pos (by simp [hcsl]), List.drop_succ_cons, List.drop_zero, List.take_of_length_le (by omega)]
      simp [asEl]
    simp only [zeroB] at q6
    have q9 := q9b
    simp only [zeroB] at q9
    have small_iff : Small ((v, t) :: l) ↔ (-1000000 ≤ v ∧ v ≤ 1000000) ∧ Small l := by
      constructor
      · intro h; exact ⟨h (v, t) (by simp), fun p hp => h p (by simp [hp])⟩
      · rintro ⟨h1, h2⟩ p hp
        rcases List.mem_cons.1 hp with rfl | hp
        · exact h1
        · exact h2 p hp
    by_cases hbig : v > 1000000
    · left
      refine ⟨fun hsm => by have := (small_iff.1 hsm).1; omega, ?_⟩
      have d1 : decide (v > 1000000) = true := by simpa using hbig
      refine ⟨[b, .junk, .v (.int .i64 x), .ptr 0 0, .v (.bool true), .v (.bool true), acc, .ptr h.length 0, .junk, .junk, .junk, .junk, .junk, b, .v (.int .i64 es.length), .v (.int .i64 i), .v (.bool true), .v (.bool true)], h ++ [.box (.v (.int .i64 v) :: cs)], loop_ret ?_, rfl⟩
      rw [hv]
      simp only [L6, AV.cells, c6_13, c6_7, c6_8, c6_9, c6_10, hlt, d1, q1, q3, q6, q7, q9, e_bslice1, e_bslice2, bs1, bs2, e_build, bdH_some, bd_nil, bd_cons, bd1, cl_agg, cl_int, toL, List.map_cons, List.map_nil, putAt, List.set_cons_zero, List.set_cons_succ, and_self, Nat.le_refl, app_get, app_set, g_agg, run_nil, run_cons, stp_plain, stp_guard, put_some, pass_eq, pick_tt, pick_ff, pick_tf, pick_ft, pick_u, reg_some, thn_normal, thn_exit, thn_ret, cnd_t, cnd_f, blk_normal, blk_ret, blk_exit, x_seq, x_region, x_cond, x_block, x_loop, x_ret, x_exit, x_skip, e_mov, e_pick, pk_t, pk_f, withH_some, e_box, bx_some, e_load, e_store, stH_some, e_nil, e_bin, e_eqv, eqH_f, eqH_t, e_un, e_fa, e_ia, ia_eq, nat_eq, natV_nat, e_len, lnH_some, e_extract, ex_0, ex_1, e_call0, e_call1, e_call2, e_call3, pc0_eq, pc1_some, pc2_some, pc3_some, fin_some, g_var0, g_vars, g_loc0, g_locs, g_int, g_bool, g_str, g_sl, s_none, s_zero, s_succ, cl_nil, cl_str, cl_bool, cl_slc, cl_own, evFa, evNil, asEl, evBin, intBin, strBin, evUn, len_nil, len_slc, len_str, clr, List.length_nil, List.length_cons, List.getElem?_cons_zero, List.getElem?_cons_succ, Nat.reduceAdd, Nat.zero_add, Nat.add_zero, Nat.reduceLeDiff, Nat.reduceSub, ↓reduceIte, List.drop_succ_cons, List.drop_zero, List.take_succ_cons, List.take_zero, Bool.false_eq_true, List.nil_append, List.cons_append, Bool.not_true, Bool.not_false, cond_true, cond_false, bne, lv_ret, lv_normal, res1, res2, lv2_some, res_var, res_cell, lvf_v, lvf_slc, res1c, lvo1_some, e_mm, mm_max, mm_min]
    · have d1 : decide (v > 1000000) = false := by simpa using hbig
      by_cases hlow : v < -1000000
      · left
        refine ⟨fun hsm => by have := (small_iff.1 hsm).1; omega, ?_⟩
        have d2 : decide (v < -1000000) = true := by simpa using hlow
        refine ⟨[b, .junk, .v (.int .i64 x), .ptr 0 0, .v (.bool true), .v (.bool true), acc, .ptr h.length 0, .junk, .junk, .junk, .junk, .junk, b, .v (.int .i64 es.length), .v (.int .i64 i), .v (.bool true), .v (.bool true)], h ++ [.box (.v (.int .i64 v) :: cs)], loop_ret ?_, rfl⟩
        rw [hv]
        simp only [L6, AV.cells, c6_13, c6_7, c6_8, c6_9, c6_10, hlt, d1, d2, q1, q3, q6, q7, q9, e_bslice1, e_bslice2, bs1, bs2, e_build, bdH_some, bd_nil, bd_cons, bd1, cl_agg, cl_int, toL, List.map_cons, List.map_nil, putAt, List.set_cons_zero, List.set_cons_succ, and_self, Nat.le_refl, app_get, app_set, g_agg, run_nil, run_cons, stp_plain, stp_guard, put_some, pass_eq, pick_tt, pick_ff, pick_tf, pick_ft, pick_u, reg_some, thn_normal, thn_exit, thn_ret, cnd_t, cnd_f, blk_normal, blk_ret, blk_exit, x_seq, x_region, x_cond, x_block, x_loop, x_ret, x_exit, x_skip, e_mov, e_pick, pk_t, pk_f, withH_some, e_box, bx_some, e_load, e_store, stH_some, e_nil, e_bin, e_eqv, eqH_f, eqH_t, e_un, e_fa, e_ia, ia_eq, nat_eq, natV_nat, e_len, lnH_some, e_extract, ex_0, ex_1, e_call0, e_call1, e_call2, e_call3, pc0_eq, pc1_some, pc2_some, pc3_some, fin_some, g_var0, g_vars, g_loc0, g_locs, g_int, g_bool, g_str, g_sl, s_none, s_zero, s_succ, cl_nil, cl_str, cl_bool, cl_slc, cl_own, evFa, evNil, asEl, evBin, intBin, strBin, evUn, len_nil, len_slc, len_str, clr, List.length_nil, List.length_cons, List.getElem?_cons_zero, List.getElem?_cons_succ, Nat.reduceAdd, Nat.zero_add, Nat.add_zero, Nat.reduceLeDiff, Nat.reduceSub, ↓reduceIte, List.drop_succ_cons, List.drop_zero, List.take_succ_cons, List.take_zero, Bool.false_eq_true, List.nil_append, List.cons_append, Bool.not_true, Bool.not_false, cond_true, cond_false, bne, lv_ret, lv_normal, res1, res2, lv2_some, res_var, res_cell, lvf_v, lvf_slc, res1c, lvo1_some, e_mm, mm_max, mm_min]
      · have d2 : decide (v < -1000000) = false := by simpa using hlow
        obtain ⟨r, hr, hc⟩ := shift16 x (hsz (v, t) (by simp)) ht
        have hw : IntKind.i64.wrap (v + x) = v + x := wrap_in (by unfold in64; omega)
        have hrc := hr.cl
        have hre := hr.eta
        have s1 : ∀ h : List AO, (AV.agg cs).snap1 h = some (.agg cs) := fun h => ht.snap
        obtain ⟨acc', h2, h3, h4, h5⟩ := (ha.app (.box (.v (.int .i64 v) :: cs))).add (x := .slc 5 true true [.agg (.v (.int .i64 (v + x)) :: r.cells)]) (ys := [.agg (.v (.int .i64 (v + x)) :: r.cells)]) (bytes := 64) elems_one (by
          have : room = 140737488355328 := rfl
          simp only [fits, List.length_cons, List.length_nil, decide_eq_true_eq]; omega)
        have hbd : IsBd (.agg (.v (.int .i64 (v + x)) :: r.cells)) (v + x) (shiftT x t) := .mk _ _ _ (by rw [hre]; exact hr)
        have st : exec (callW F) K c6_13 (L6 b x acc es.length i) h = some (.normal, [b, .junk, .v (.int .i64 x), .ptr 0 0, .junk, .v (.bool true), acc', .ptr h.length 0, .junk, .junk, .junk, .junk, .junk, b, .v (.int .i64 es.length), .v (.int .i64 ((i + 1 : Nat) : Int)), .v (.bool true), .v (.bool false)], h2) := by
          generalize shiftT x t = u at hr
          cases hr with
          | mk k2 s2 n2 c2 l2 hc2 =>
          have sn2 : ∀ h : List AO, (AV.agg [.v (.int .i64 (v + x)), .v (.int .i64 k2), .v (.string s2), .v (.int .i64 n2), c2]).snap1 h = some (.agg [.v (.int .i64 (v + x)), .v (.int .i64 k2), .v (.string s2), .v (.int .i64 n2), c2]) := by
            intro h; cases hc2 <;> rfl
          simp only [AV.cells] at h3
          simp only [L6, AV.cells, c6_13, c6_7, c6_8, c6_9, c6_11, c6_12, hlt, d1, d2, hw, wrap_succ hil (small_max hm), q1, q3, q6, q7, q8, q9, s1, sn2, hc, h3, snapv, e_append, bs1_some (y := .agg [.v (.int .i64 (v + x)), .v (.int .i64 k2), .v (.string s2), .v (.int .i64 n2), c2]) (sz := 5) cl_agg rfl, e_bslice1, e_bslice2, bs1, bs2, e_build, bdH_some, bd_nil, bd_cons, bd1, cl_agg, cl_int, toL, List.map_cons, List.map_nil, putAt, List.set_cons_zero, List.set_cons_succ, and_self, Nat.le_refl, app_get, app_set, g_agg, run_nil, run_cons, stp_plain, stp_guard, put_some, pass_eq, pick_tt, pick_ff, pick_tf, pick_ft, pick_u, reg_some, thn_normal, thn_exit, thn_ret, cnd_t, cnd_f, blk_normal, blk_ret, blk_exit, x_seq, x_region, x_cond, x_block, x_loop, x_ret, x_exit, x_skip, e_mov, e_pick, pk_t, pk_f, withH_some, e_box, bx_some, e_load, e_store, stH_some, e_nil, e_bin, e_eqv, eqH_f, eqH_t, e_un, e_fa, e_ia, ia_eq, nat_eq, natV_nat, e_len, lnH_some, e_extract, ex_0, ex_1, e_call0, e_call1, e_call2, e_call3, pc0_eq, pc1_some, pc2_some, pc3_some, fin_some, g_var0, g_vars, g_loc0, g_locs, g_int, g_bool, g_str, g_sl, s_none, s_zero, s_succ, cl_nil, cl_str, cl_bool, cl_slc, cl_own, evFa, evNil, asEl, evBin, intBin, strBin, evUn, len_nil, len_slc, len_str, clr, List.length_nil, List.length_cons, List.getElem?_cons_zero, List.getElem?_cons_succ, Nat.reduceAdd, Nat.zero_add, Nat.add_zero, Nat.reduceLeDiff, Nat.reduceSub, ↓reduceIte, List.drop_succ_cons, List.drop_zero, List.take_succ_cons, List.take_zero, Bool.false_eq_true, List.nil_append, List.cons_append, Bool.not_true, Bool.not_false, cond_true, cond_false, bne, lv_ret, lv_normal, res1, res2, lv2_some, res_var, res_cell, lvf_v, lvf_slc, res1c, lvo1_some, e_mm, mm_max, mm_min]
        have hnext := ih (i + 1) acc' (ds ++ [.agg (.v (.int .i64 (v + x)) :: r.cells)]) (dl ++ [(v + x, shiftT x t)]) h2 [b, .junk, .v (.int .i64 x), .ptr 0 0, .junk, .v (.bool true), acc', .ptr h.length 0, .junk, .junk, .junk, .junk, .junk, b, .v (.int .i64 es.length), .v (.int .i64 ((i + 1 : Nat) : Int)), .v (.bool true), .v (.bool false)] (by simp at hi; omega) (by simp [hds]) hs' (hall.append (.cons _ _ _ _ _ hbd .nil)) (fun p hp => hsz p (by simp [hp])) h4 rfl
        have hln : ∀ X, loopN (exec (callW F) K c6_13) K6 (((v, t) :: l).length + 1) vars h = X ↔ _ = X := fun X => by
          rw [show ((v, t) :: l).length + 1 = (l.length + 1) + 1 from rfl, loop_normal (by rw [hv]; exact st)]
        rcases hnext with ⟨hns, vs, h', g1, g2⟩ | ⟨hsm, acc'', ds', h', x1, x4, x7, x8, x9, x10, x11, x12, x16, x17, g1, g2, g3, g4⟩
        · exact .inl ⟨fun hsm => hns (small_iff.1 hsm).2, vs, h', (hln _).2 g1, g2⟩
        · refine .inr ⟨small_iff.2 ⟨⟨by omega, by omega⟩, hsm⟩, acc'', ds', h', x1, x4, x7, x8, x9, x10, x11, x12, x16, x17, (hln _).2 g1, g2, ?_, ((Keeps.app _ _).trans h5).trans g4⟩
          simpa [shiftB] using g3

theorem IsB.sl {c : AV} {l : List (Int × Tm)} (h : IsB c l) : ∃ es, Sl 5 c es ∧ AllB es l ∧ es.length ≤ maxLen := by
  cases h with
  | nil => exact ⟨[], .nil, .nil, by simp⟩
  | slc ex nn es l h hb => exact ⟨es, .slc ex nn es, h, hb⟩
theorem Sl.isB {c : AV} {es : List AV} {l : List (Int × Tm)} (h : Sl 5 c es) (ha : AllB es l) (hb : es.length ≤ maxLen) : IsB c l := by
  cases h with
  | nil => cases ha; exact .nil
  | slc ex nn es => exact .slc ex nn es l ha hb
theorem shift_size (x : Int) : ∀ t : Tm, size (shiftT x t) = size t
  | .mk k s n l => by
    have := shiftL_size x l
    simp only [shiftT, size, this]
where shiftL_size (x : Int) : ∀ l : List Tm, sizeL (shiftL x l) = sizeL l
  | [] => rfl
  | t :: l => by simp only [shiftL, sizeL, shift_size x t, shiftL_size x l]

theorem shifts_ok {b t : AV} {T : Tm} {bs : List (Int × Tm)} (hb : IsB b bs) (ht : IsT t T) (hrT : Rng T) (hrB : RngB bs) (y : Int) : callW F 6 [b, t, .v (.int .i64 y)] [] = some (.v (.bool true), []) := by
  have hlive := live_ok
  have hbig := big_ok (ts := .slc 4 true true [t]) hb rfl (All2.cons t T [] [] ht .nil) (by simp [maxLen])
  have s1 : ∀ h : List AO, t.snap1 h = some t := fun h => ht.snap
  have sb : ∀ h : List AO, b.snap1 h = some b := by intro h; cases hb <;> rfl
  have sl : ∀ h : List AO, (AV.slc 4 true true [t]).snap1 h = some (.slc 4 true true [t]) := fun _ => rfl
  have b1 : ∀ h : List AO, bs1 h 4 (some t) = some (.slc 4 true true [t], h) := fun h => bs1_some ht.cl.1 ht.cl.2
  have ht0 : ∀ tl : List AO, evLoad (.box t.cells :: tl) true 4 (.ptr 0 0) = some t := by
    intro tl
    rw [bx_ld (cs := t.cells) rfl, if_pos (by rw [ht.cl.2]; omega), List.drop_zero]
    exact ht.asEl
  have htc := ht.cl.1
  have htl := ht.cl.2
  cases hB : big bs [T] with
  | true =>
    rw [hB] at hbig
    refine callW_pure (c := c6) rfl rfl 0 ?_
    simp only [c6, start, List.replicate, c6_0, c6_1, c6_2, c6_3, htc, htl, ht0, hlive, s1, sb, sl, b1, hbig, e_bslice1, e_bslice2, bs1, bs2, e_build, bdH_some, bd_nil, bd_cons, bd1, cl_agg, cl_int, toL, List.map_cons, List.map_nil, putAt, List.set_cons_zero, List.set_cons_succ, and_self, Nat.le_refl, app_get, app_set, g_agg, run_nil, run_cons, stp_plain, stp_guard, put_some, pass_eq, pick_tt, pick_ff, pick_tf, pick_ft, pick_u, reg_some, thn_normal, thn_exit, thn_ret, cnd_t, cnd_f, blk_normal, blk_ret, blk_exit, x_seq, x_region, x_cond, x_block, x_loop, x_ret, x_exit, x_skip, e_mov, e_pick, pk_t, pk_f, withH_some, e_box, bx_some, e_load, e_store, stH_some, e_nil, e_bin, e_eqv, eqH_f, eqH_t, e_un, e_fa, e_ia, ia_eq, nat_eq, natV_nat, e_len, lnH_some, e_extract, ex_0, ex_1, e_call0, e_call1, e_call2, e_call3, pc0_eq, pc1_some, pc2_some, pc3_some, fin_some, g_var0, g_vars, g_loc0, g_locs, g_int, g_bool, g_str, g_sl, s_none, s_zero, s_succ, cl_nil, cl_str, cl_bool, cl_slc, cl_own, evFa, evNil, asEl, evBin, intBin, strBin, evUn, len_nil, len_slc, len_str, clr, List.length_nil, List.length_cons, List.getElem?_cons_zero, List.getElem?_cons_succ, Nat.reduceAdd, Nat.zero_add, Nat.add_zero, Nat.reduceLeDiff, Nat.reduceSub, ↓reduceIte, List.drop_succ_cons, List.drop_zero, List.take_succ_cons, List.take_zero, Bool.false_eq_true, List.nil_append, List.cons_append, Bool.not_true, Bool.not_false, cond_true, cond_false, bne, lv_ret, lv_normal, res1, res2, lv2_some, res_var, res_cell, lvf_v, lvf_slc, res1c, lvo1_some, e_mm, mm_max, mm_min]
  | false =>
    rw [hB] at hbig
    have hsz := big_size hB
    have hszT : size T ≤ 100000 := by have := hsz.2.2 T (by simp); omega
    have hszB : ∀ p ∈ bs, size p.2 ≤ 100000 := fun p hp => by have := hsz.2.1 p hp; omega
    obtain ⟨es, hs, hes, hmx⟩ := hb.sl
    have e1 := hes.length
    obtain ⟨x, hx, hxe⟩ : ∃ x : Int, (0 ≤ x ∧ x ≤ 1000000) ∧ x = min (max y 0) 1000000 := ⟨min (max y 0) 1000000, by omega, rfl⟩
    have key := shifts_loop (K := bs.length + 1) hs (by omega) hx bs 0 (.v (.slice none 0 0)) [] [] [.box t.cells] (L6 b x (.v (.slice none 0 0)) es.length (0 : Nat)) (by omega) rfl (by simpa using hes) .nil hszB .nil rfl
    refine callW_pure (c := c6) rfl rfl (bs.length + 1) ?_
    show lv [.var 4] (exec (callW F) (bs.length + 1) (.seq (.region [] [] c6_0) (.seq (.region [] [] c6_1) (.seq (.seq (.region [] [] c6_2) (.cond (.var 12) (.seq (.region [] [] c6_3) .ret) .skip)) (.seq (.region [] [] c6_4) (.seq (.region [] [] c6_5) (.seq (.seq (.region [] [] c6_6) (.block 0 (.loop K6 [] c6_13))) (.seq (.region [] [] c6_14) (.seq (.region [.v 6] [] c6_15) (.seq (.region [] [] c6_16) .ret))))))))) _ _) = _
    generalize hrest : (CC.seq (.region [] [] c6_14) (.seq (.region [.v 6] [] c6_15) (.seq (.region [] [] c6_16) .ret))) = rest
    have hl := hs.len
    simp only [c6, start, List.replicate, c6_0, c6_1, c6_2, c6_4, c6_5, c6_6, htc, htl, ht0, hlive, s1, sb, sl, b1, hbig, hl, e_bslice1, e_bslice2, bs1, bs2, e_build, bdH_some, bd_nil, bd_cons, bd1, cl_agg, cl_int, toL, List.map_cons, List.map_nil, putAt, List.set_cons_zero, List.set_cons_succ, and_self, Nat.le_refl, app_get, app_set, g_agg, run_nil, run_cons, stp_plain, stp_guard, put_some, pass_eq, pick_tt, pick_ff, pick_tf, pick_ft, pick_u, reg_some, thn_normal, thn_exit, thn_ret, cnd_t, cnd_f, blk_normal, blk_ret, blk_exit, x_seq, x_region, x_cond, x_block, x_loop, x_ret, x_exit, x_skip, e_mov, e_pick, pk_t, pk_f, withH_some, e_box, bx_some, e_load, e_store, stH_some, e_nil, e_bin, e_eqv, eqH_f, eqH_t, e_un, e_fa, e_ia, ia_eq, nat_eq, natV_nat, e_len, lnH_some, e_extract, ex_0, ex_1, e_call0, e_call1, e_call2, e_call3, pc0_eq, pc1_some, pc2_some, pc3_some, fin_some, g_var0, g_vars, g_loc0, g_locs, g_int, g_bool, g_str, g_sl, s_none, s_zero, s_succ, cl_nil, cl_str, cl_bool, cl_slc, cl_own, evFa, evNil, asEl, evBin, intBin, strBin, evUn, len_nil, len_slc, len_str, clr, List.length_nil, List.length_cons, List.getElem?_cons_zero, List.getElem?_cons_succ, Nat.reduceAdd, Nat.zero_add, Nat.add_zero, Nat.reduceLeDiff, Nat.reduceSub, ↓reduceIte, List.drop_succ_cons, List.drop_zero, List.take_succ_cons, List.take_zero, Bool.false_eq_true, List.nil_append, List.cons_append, Bool.not_true, Bool.not_false, cond_true, cond_false, bne, lv_ret, lv_normal, res1, res2, lv2_some, res_var, res_cell, lvf_v, lvf_slc, res1c, lvo1_some, e_mm, mm_max, mm_min]
    rw [← hxe, loop_cong (v2 := L6 b x (.v (.slice none 0 0)) es.length ((0 : Nat) : Int)) (by rfl)]
    rcases key with ⟨_, vs, h', g1, g2⟩ | ⟨hsm, acc', ds', h', x1, x4, x7, x8, x9, x10, x11, x12, x16, x17, g1, g2, g3, g4⟩
    · rw [g1]
      simp only [blk_ret, thn_ret, g2, run_nil, run_cons, stp_plain, stp_guard, put_some, pass_eq, pick_tt, pick_ff, pick_tf, pick_ft, pick_u, reg_some, thn_normal, thn_exit, thn_ret, cnd_t, cnd_f, blk_normal, blk_ret, blk_exit, x_seq, x_region, x_cond, x_block, x_loop, x_ret, x_exit, x_skip, e_mov, e_pick, pk_t, pk_f, withH_some, e_box, bx_some, e_load, e_store, stH_some, e_nil, e_bin, e_eqv, eqH_f, eqH_t, e_un, e_fa, e_ia, ia_eq, nat_eq, natV_nat, e_len, lnH_some, e_extract, ex_0, ex_1, e_call0, e_call1, e_call2, e_call3, pc0_eq, pc1_some, pc2_some, pc3_some, fin_some, g_var0, g_vars, g_loc0, g_locs, g_int, g_bool, g_str, g_sl, s_none, s_zero, s_succ, cl_nil, cl_str, cl_bool, cl_slc, cl_own, evFa, evNil, asEl, evBin, intBin, strBin, evUn, len_nil, len_slc, len_str, clr, List.length_nil, List.length_cons, List.getElem?_cons_zero, List.getElem?_cons_succ, Nat.reduceAdd, Nat.zero_add, Nat.add_zero, Nat.reduceLeDiff, Nat.reduceSub, ↓reduceIte, List.drop_succ_cons, List.drop_zero, List.take_succ_cons, List.take_zero, Bool.false_eq_true, List.nil_append, List.cons_append, Bool.not_true, Bool.not_false, cond_true, cond_false, bne, lv_ret, lv_normal, res1, res2, lv2_some, res_var, res_cell, lvf_v, lvf_slc, res1c, lvo1_some, e_mm, mm_max, mm_min]
    · rw [g1, ← hrest]
      simp only [List.nil_append] at g3
      obtain ⟨r, hr, hres⟩ := resolve_ok hb (by omega) hszB hszT ht
      -- what was shifted, resolved
      obtain ⟨f1, f2, c', f3, f4⟩ := (g2.app (.box r.cells)).fix
      have hbl : (shiftB x bs).length = bs.length := by simp [shiftB]
      have hIB : IsB c' (shiftB x bs) := Sl.isB f4 g3 (by have := g3.length; have : maxLen = 9223372036854775807 := rfl; omega)
      obtain ⟨tf, htf, hcf⟩ := shift16 x hszT ht
      obtain ⟨r2, hr2, hres2⟩ := resolve_ok hIB (by omega) (fun p hp => by
        simp only [shiftB, List.mem_map] at hp
        obtain ⟨q, hq, rfl⟩ := hp
        rw [shift_size]; exact hszB q hq) (t := shiftT x T) (by rw [shift_size]; exact hszT) htf
      have hrev : (shiftB x bs).reverse = shiftB x bs.reverse := by simp [shiftB]
      have hmv := resA_shift hx (rs := bs.reverse) (fun p hp => hsm p (by simpa using hp)) (fun p hp => hrB.mem p (by simpa using hp)) hrT
      rw [hrev, hmv] at hr2 hres2
      -- the heaps
      have k0 : h'[0]? = some (.box t.cells) := g4.2 0 _ rfl
      have m0 : evLoad h' true 4 (.ptr 0 0) = some t := by
        rw [bx_ld k0, if_pos (by rw [ht.cl.2]; omega), List.drop_zero]
        exact ht.asEl
      have k1 := f2.2 0 _ (his_get k0)
      have m1 : evLoad (raise1 (h' ++ [.box r.cells]) acc') true 4 (.ptr 0 0) = some t := by
        rw [bx_ld k1, if_pos (by rw [ht.cl.2]; omega), List.drop_zero]
        exact ht.asEl
      have k2 : (raise1 (h' ++ [.box r.cells]) acc')[h'.length]? = some (.box r.cells) := f2.2 _ _ (by simp)
      have m2 : evLoad (raise1 (h' ++ [.box r.cells]) acc' ++ [.box r2.cells]) true 4 (.ptr h'.length 0) = some r := by
        rw [bx_ld (his_get k2), if_pos (by rw [hr.cl.2]; omega), List.drop_zero]
        exact hr.asEl
      have n1 := hr.st h' zeroC rfl
      have n2 := hr2.st (raise1 (h' ++ [.box r.cells]) acc') zeroC rfl
      have n3 := hr2.ld (raise1 (h' ++ [.box r.cells]) acc')
      have sr : ∀ h : List AO, r.snap1 h = some r := fun h => hr.snap
      have sr2 : ∀ h : List AO, r2.snap1 h = some r2 := fun h => hr2.snap
      have stf : ∀ h : List AO, tf.snap1 h = some tf := fun h => htf.snap
      simp only [zeroC] at n1 n2
      have hq : ((resA bs.reverse T).2 == (resA bs.reverse T).2) = true := by simp
      by_cases h0 : (resA bs.reverse T).2 = 0
      · have z0 : ((resA bs.reverse T).2 == 0) = true := by simpa using h0
        have hsr : size (resA bs.reverse T).1 ≤ 100000 := by
          simp only [resA]
          cases hR : resT bs.reverse 60 2000 T with
          | error e => simp [zeroT, size, sizeL]
          | ok q =>
            obtain ⟨u, m⟩ := q
            have := (resT_free _ _ _ _ _ _ hR).2.1
            simp only; omega
        obtain ⟨rf, hrf, hcr⟩ := shift16 x hsr hr
        have srf : ∀ h : List AO, rf.snap1 h = some rf := fun h => hrf.snap
        have e15 := same_call hrf hr2
        simp only [x_region_m, marked_eq, marked, List.foldl_cons, List.foldl_nil, doMark, List.getD_cons_zero, List.getD_cons_succ, blk_exit, thn_normal, c6_14, c6_15, c6_16, m0, m1, m2, n1, n2, n3, hq, z0, sb, s1, sr, sr2, stf, srf, f3, hres, hres2, hcf, hcr, e15, snapv, q9z, e_bslice1, e_bslice2, bs1, bs2, e_build, bdH_some, bd_nil, bd_cons, bd1, cl_agg, cl_int, toL, List.map_cons, List.map_nil, putAt, List.set_cons_zero, List.set_cons_succ, and_self, Nat.le_refl, app_get, app_set, g_agg, run_nil, run_cons, stp_plain, stp_guard, put_some, pass_eq, pick_tt, pick_ff, pick_tf, pick_ft, pick_u, reg_some, thn_normal, thn_exit, thn_ret, cnd_t, cnd_f, blk_normal, blk_ret, blk_exit, x_seq, x_region, x_cond, x_block, x_loop, x_ret, x_exit, x_skip, e_mov, e_pick, pk_t, pk_f, withH_some, e_box, bx_some, e_load, e_store, stH_some, e_nil, e_bin, e_eqv, eqH_f, eqH_t, e_un, e_fa, e_ia, ia_eq, nat_eq, natV_nat, e_len, lnH_some, e_extract, ex_0, ex_1, e_call0, e_call1, e_call2, e_call3, pc0_eq, pc1_some, pc2_some, pc3_some, fin_some, g_var0, g_vars, g_loc0, g_locs, g_int, g_bool, g_str, g_sl, s_none, s_zero, s_succ, cl_nil, cl_str, cl_bool, cl_slc, cl_own, evFa, evNil, asEl, evBin, intBin, strBin, evUn, len_nil, len_slc, len_str, clr, List.length_nil, List.length_cons, List.getElem?_cons_zero, List.getElem?_cons_succ, Nat.reduceAdd, Nat.zero_add, Nat.add_zero, Nat.reduceLeDiff, Nat.reduceSub, ↓reduceIte, List.drop_succ_cons, List.drop_zero, List.take_succ_cons, List.take_zero, Bool.false_eq_true, List.nil_append, List.cons_append, Bool.not_true, Bool.not_false, cond_true, cond_false, bne, lv_ret, lv_normal, res1, res2, lv2_some, res_var, res_cell, lvf_v, lvf_slc, res1c, lvo1_some, e_mm, mm_max, mm_min]
      · have z0 : ((resA bs.reverse T).2 == 0) = false := by simpa using h0
        simp only [x_region_m, marked_eq, marked, List.foldl_cons, List.foldl_nil, doMark, List.getD_cons_zero, List.getD_cons_succ, blk_exit, thn_normal, c6_14, c6_15, c6_16, m0, m1, m2, n1, n2, n3, hq, z0, sb, s1, sr, sr2, stf, f3, hres, hres2, hcf, snapv, q9z, e_bslice1, e_bslice2, bs1, bs2, e_build, bdH_some, bd_nil, bd_cons, bd1, cl_agg, cl_int, toL, List.map_cons, List.map_nil, putAt, List.set_cons_zero, List.set_cons_succ, and_self, Nat.le_refl, app_get, app_set, g_agg, run_nil, run_cons, stp_plain, stp_guard, put_some, pass_eq, pick_tt, pick_ff, pick_tf, pick_ft, pick_u, reg_some, thn_normal, thn_exit, thn_ret, cnd_t, cnd_f, blk_normal, blk_ret, blk_exit, x_seq, x_region, x_cond, x_block, x_loop, x_ret, x_exit, x_skip, e_mov, e_pick, pk_t, pk_f, withH_some, e_box, bx_some, e_load, e_store, stH_some, e_nil, e_bin, e_eqv, eqH_f, eqH_t, e_un, e_fa, e_ia, ia_eq, nat_eq, natV_nat, e_len, lnH_some, e_extract, ex_0, ex_1, e_call0, e_call1, e_call2, e_call3, pc0_eq, pc1_some, pc2_some, pc3_some, fin_some, g_var0, g_vars, g_loc0, g_locs, g_int, g_bool, g_str, g_sl, s_none, s_zero, s_succ, cl_nil, cl_str, cl_bool, cl_slc, cl_own, evFa, evNil, asEl, evBin, intBin, strBin, evUn, len_nil, len_slc, len_str, clr, List.length_nil, List.length_cons, List.getElem?_cons_zero, List.getElem?_cons_succ, Nat.reduceAdd, Nat.zero_add, Nat.add_zero, Nat.reduceLeDiff, Nat.reduceSub, ↓reduceIte, List.drop_succ_cons, List.drop_zero, List.take_succ_cons, List.take_zero, Bool.false_eq_true, List.nil_append, List.cons_append, Bool.not_true, Bool.not_false, cond_true, cond_false, bne, lv_ret, lv_normal, res1, res2, lv2_some, res_var, res_cell, lvf_v, lvf_slc, res1c, lvo1_some, e_mm, mm_max, mm_min]

theorem shifts_plain : substShifts.Plain := by
  intro a0 a1 a2 w0 e0 w1 e1 w2 e2
  obtain ⟨c0, bs, h0, hb⟩ := (wt_good w0).2.2.2.2.2.2 rfl
  obtain ⟨n2, h2⟩ := (wt_good w2).2.2.1 rfl
  obtain ⟨x, hx⟩ := (wt_good w1).1 rfl
  have r0 := (wt_rng w0).2.2.2.2 rfl c0 bs h0 hb
  have r1 := (wt_rng w1).1 rfl x hx
  rw [one_cell e0 h0, one_cell e2 h2]
  have h3 : AV.agg a1.cells = a1 := by
    have : asEl true a1.cells = some a1 := e1
    simpa [asEl] using this
  rw [h3] at hx
  exact callW_iff.1 (shifts_ok hb hx r1 r0 n2)
end Go.AE.Ytpgoibncgekflaa
namespace Go.Proofs.Ytpgoibncgekflaa
theorem substShifts_holds : Rows.SubstShiftsSaid := substShifts.proved Go.AE.Ytpgoibncgekflaa.shifts_plain
#print axioms substShifts_holds
end Go.Proofs.Ytpgoibncgekflaa

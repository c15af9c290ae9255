/- Texts of this claim, put together. -/
import Derived.Test.YtpgoibncgekflaaDoorPart3
import Derived.Test.YtpgoibncgekflaaDoorPart2
import Derived.Test.YtpgoibncgekflaaDoorPart1
import Derived.Test.YtpgoibncgekflaaDoorRows
import Derived.WalkKit
import Derived.ProofKit
import Derived.OpenShut
import Derived.ShutString
import Derived.ChangeOld
import Derived.Below
import Derived.SizedLaws
/-! Vars, and whether a number is among some. -/
section
set_option linter.unusedVariables false
set_option linter.unusedSimpArgs false
namespace Go.AE.YtpgoibncgekflaaDoor
open Go Go.AE Go.Proofs.YtpgoibncgekflaaDoor

def iv (n : Int) : AV := .v (.int .i64 n)
mutual
def placesT : Tm → List Int
  | .mk k _ n l => (if k = 1 then [n] else []) ++ placesL l
def placesL : List Tm → List Int
  | [] => []
  | t :: l => placesT t ++ placesL l
end
mutual
theorem places_len : ∀ t : Tm, (placesT t).length ≤ size t
  | .mk k s n l => by
    have := placesL_len l
    simp only [placesT, size, List.length_append]
    split <;> simp <;> omega
theorem placesL_len : ∀ l : List Tm, (placesL l).length ≤ sizeL l
  | [] => by simp [placesL, sizeL]
  | t :: l => by
    have := places_len t
    have := placesL_len l
    simp only [placesL, sizeL, List.length_append]; omega
end

/-! ### Has -/
def K38 : List Bool := [false, true, false, false, true, true, true, false, false]
def L38 (n : Int) (c : AV) (len i : Int) : List AV := [.junk, .v (.int .i64 n), .junk, .junk, c, .v (.int .i64 len), .v (.int .i64 i), .junk, .junk]
theorem has_loop {K : Nat} {c : AV} {es : List AV} (hs : Sl 1 c es) (hm : es.length ≤ 1000000) (n : Int) :
    ∀ (l : List Int) (i : Nat) (h : List AO) (vars : List AV), i + l.length = es.length → es.drop i = l.map iv → clr K38 vars = L38 n c es.length i →
      (l.contains n = true ∧ ∃ vs, loopN (exec (callW F) K c13_7) K38 (l.length + 1) vars h = some (.ret, vs, h) ∧ getO vs [] (.var 2) = .v (.bool true)) ∨ (l.contains n = false ∧ ∃ vs, loopN (exec (callW F) K c13_7) K38 (l.length + 1) vars h = some (.exit 0, vs, h) ∧ vs.length = 9) := by
  intro l
  induction l with
  | nil =>
    intro i h vars hi _ hv
    have hil : i = es.length := by simpa using hi
    subst hil
    have hlt : decide ((es.length : Int) < (es.length : Int)) = false := by simp
    refine .inr ⟨rfl, [.junk, .v (.int .i64 n), .junk, .junk, c, .v (.int .i64 es.length), .v (.int .i64 es.length), .v (.bool false), .junk], loop_exit ?_, rfl⟩
    rw [hv]
    simp only [L38, c13_7, c13_2, hlt, e_bslice1, e_bslice2, bs1, bs2, e_build, bdH_some, bd_nil, bd_cons, bd1, cl_agg, cl_int, toL, List.map_cons, List.map_nil, putAt, List.set_cons_zero, List.set_cons_succ, and_self, Nat.le_refl, app_get, app_set, g_agg, run_nil, run_cons, stp_plain, stp_guard, put_some, pass_eq, pick_tt, pick_ff, pick_tf, pick_ft, pick_u, reg_some, thn_normal, thn_exit, thn_ret, cnd_t, cnd_f, blk_normal, blk_ret, blk_exit, x_seq, x_region, x_cond, x_block, x_loop, x_ret, x_exit, x_skip, e_mov, e_pick, pk_t, pk_f, withH_some, e_box, bx_some, e_load, e_store, stH_some, e_nil, e_bin, e_eqv, eqH_f, eqH_t, e_un, e_fa, e_ia, ia_eq, nat_eq, natV_nat, e_len, lnH_some, e_extract, ex_0, ex_1, e_call0, e_call1, e_call2, e_call3, pc0_eq, pc1_some, pc2_some, pc3_some, fin_some, g_var0, g_vars, g_loc0, g_locs, g_int, g_bool, g_str, g_sl, s_none, s_zero, s_succ, AV.cl, evFa, evNil, evLoad, asEl, evBin, intBin, strBin, evUn, len_nil, len_slc, len_str, clr, List.length_nil, List.length_cons, List.getElem?_cons_zero, List.getElem?_cons_succ, Nat.reduceAdd, Nat.zero_add, Nat.add_zero, Nat.reduceLeDiff, Nat.reduceSub, ↓reduceIte, List.drop_succ_cons, List.drop_zero, List.take_succ_cons, List.take_zero, Bool.false_eq_true, List.nil_append, List.cons_append, Bool.not_true, Bool.not_false, cond_true, cond_false, bne, lv_ret, lv_normal, res1, res2, lv2_some, res_var, res_cell, lvf_v, lvf_slc, res1c, lvo1_some, e_mm, mm_max, mm_min]
  | cons k l ih =>
    intro i h vars hi hes hv
    have hil : i < es.length := by simp at hi; omega
    have he : es[i]? = some (iv k) := by
      have : (es.drop i)[0]? = some (iv k) := by rw [hes]; rfl
      simpa using this
    have hd : es.drop (i + 1) = l.map iv := by
      have h2 := congrArg List.tail hes
      simpa using h2
    have hlt : (decide ((i : Int) < (es.length : Int))) = true := by simp; omega
    have q1 := hs.ia he
    by_cases hk : n = k
    · left
      subst hk
      have he : ((n == n) : Bool) = true := by simp
      refine ⟨by simp, [.junk, .v (.int .i64 n), .v (.bool true), .v (.int .i64 n), c, .v (.int .i64 es.length), .v (.int .i64 i), .v (.bool true), .v (.bool true)], loop_ret ?_, rfl⟩
      rw [hv]
      simp only [L38, iv, AV.cells, c13_7, c13_2, c13_3, c13_4, c13_5, hlt, he, q1, e_bslice1, e_bslice2, bs1, bs2, e_build, bdH_some, bd_nil, bd_cons, bd1, cl_agg, cl_int, toL, List.map_cons, List.map_nil, putAt, List.set_cons_zero, List.set_cons_succ, and_self, Nat.le_refl, app_get, app_set, g_agg, run_nil, run_cons, stp_plain, stp_guard, put_some, pass_eq, pick_tt, pick_ff, pick_tf, pick_ft, pick_u, reg_some, thn_normal, thn_exit, thn_ret, cnd_t, cnd_f, blk_normal, blk_ret, blk_exit, x_seq, x_region, x_cond, x_block, x_loop, x_ret, x_exit, x_skip, e_mov, e_pick, pk_t, pk_f, withH_some, e_box, bx_some, e_load, e_store, stH_some, e_nil, e_bin, e_eqv, eqH_f, eqH_t, e_un, e_fa, e_ia, ia_eq, nat_eq, natV_nat, e_len, lnH_some, e_extract, ex_0, ex_1, e_call0, e_call1, e_call2, e_call3, pc0_eq, pc1_some, pc2_some, pc3_some, fin_some, g_var0, g_vars, g_loc0, g_locs, g_int, g_bool, g_str, g_sl, s_none, s_zero, s_succ, AV.cl, evFa, evNil, evLoad, asEl, evBin, intBin, strBin, evUn, len_nil, len_slc, len_str, clr, List.length_nil, List.length_cons, List.getElem?_cons_zero, List.getElem?_cons_succ, Nat.reduceAdd, Nat.zero_add, Nat.add_zero, Nat.reduceLeDiff, Nat.reduceSub, ↓reduceIte, List.drop_succ_cons, List.drop_zero, List.take_succ_cons, List.take_zero, Bool.false_eq_true, List.nil_append, List.cons_append, Bool.not_true, Bool.not_false, cond_true, cond_false, bne, lv_ret, lv_normal, res1, res2, lv2_some, res_var, res_cell, lvf_v, lvf_slc, res1c, lvo1_some, e_mm, mm_max, mm_min]
    · have he : ((k == n) : Bool) = false := by simpa using fun e => hk e.symm
      have st : exec (callW F) K c13_7 (L38 n c es.length i) h = some (.normal, [.junk, .v (.int .i64 n), .junk, .v (.int .i64 k), c, .v (.int .i64 es.length), .v (.int .i64 ((i + 1 : Nat) : Int)), .v (.bool true), .v (.bool false)], h) := by
        have : maxLen = 9223372036854775807 := rfl
        simp only [L38, iv, AV.cells, c13_7, c13_2, c13_3, c13_4, c13_6, hlt, he, wrap_succ hil (by omega), q1, e_bslice1, e_bslice2, bs1, bs2, e_build, bdH_some, bd_nil, bd_cons, bd1, cl_agg, cl_int, toL, List.map_cons, List.map_nil, putAt, List.set_cons_zero, List.set_cons_succ, and_self, Nat.le_refl, app_get, app_set, g_agg, run_nil, run_cons, stp_plain, stp_guard, put_some, pass_eq, pick_tt, pick_ff, pick_tf, pick_ft, pick_u, reg_some, thn_normal, thn_exit, thn_ret, cnd_t, cnd_f, blk_normal, blk_ret, blk_exit, x_seq, x_region, x_cond, x_block, x_loop, x_ret, x_exit, x_skip, e_mov, e_pick, pk_t, pk_f, withH_some, e_box, bx_some, e_load, e_store, stH_some, e_nil, e_bin, e_eqv, eqH_f, eqH_t, e_un, e_fa, e_ia, ia_eq, nat_eq, natV_nat, e_len, lnH_some, e_extract, ex_0, ex_1, e_call0, e_call1, e_call2, e_call3, pc0_eq, pc1_some, pc2_some, pc3_some, fin_some, g_var0, g_vars, g_loc0, g_locs, g_int, g_bool, g_str, g_sl, s_none, s_zero, s_succ, AV.cl, evFa, evNil, evLoad, asEl, evBin, intBin, strBin, evUn, len_nil, len_slc, len_str, clr, List.length_nil, List.length_cons, List.getElem?_cons_zero, List.getElem?_cons_succ, Nat.reduceAdd, Nat.zero_add, Nat.add_zero, Nat.reduceLeDiff, Nat.reduceSub, ↓reduceIte, List.drop_succ_cons, List.drop_zero, List.take_succ_cons, List.take_zero, Bool.false_eq_true, List.nil_append, List.cons_append, Bool.not_true, Bool.not_false, cond_true, cond_false, bne, lv_ret, lv_normal, res1, res2, lv2_some, res_var, res_cell, lvf_v, lvf_slc, res1c, lvo1_some, e_mm, mm_max, mm_min]
      rw [show (k :: l).length + 1 = (l.length + 1) + 1 from rfl, loop_normal (by rw [hv]; exact st)]
      have hc : (k :: l).contains n = l.contains n := by
        have : (n == k) = false := by simpa using hk
        rw [List.contains_cons, this, Bool.false_or]
      rw [hc]
      exact ih (i + 1) h _ (by simp at hi; omega) hd rfl
theorem has_ok {c : AV} {ns : List Int} (hs : Sl 1 c (ns.map iv)) (hm : ns.length ≤ 1000000) (n : Int) : callW F 13 [c, .v (.int .i64 n)] [] = some (.v (.bool (ns.contains n)), []) := by
  refine callW_pure (c := c13) rfl rfl (ns.length + 1) ?_
  have key := has_loop (K := ns.length + 1) hs (by simpa using hm) n ns 0 [] (L38 n c (ns.map iv).length (0 : Nat)) (by simp) rfl rfl
  show lv [.var 2] (exec (callW F) (ns.length + 1) (.seq (.region [] [] c13_0) (.seq (.seq (.region [] [] c13_1) (.block 0 (.loop K38 [] c13_7))) (.seq (.region [] [] c13_8) .ret))) _ _) = _
  generalize hrest : (CC.seq (.region [] [] c13_8) .ret) = rest
  simp only [c13, start, List.replicate, c13_0, c13_1, hs.len, e_bslice1, e_bslice2, bs1, bs2, e_build, bdH_some, bd_nil, bd_cons, bd1, cl_agg, cl_int, toL, List.map_cons, List.map_nil, putAt, List.set_cons_zero, List.set_cons_succ, and_self, Nat.le_refl, app_get, app_set, g_agg, run_nil, run_cons, stp_plain, stp_guard, put_some, pass_eq, pick_tt, pick_ff, pick_tf, pick_ft, pick_u, reg_some, thn_normal, thn_exit, thn_ret, cnd_t, cnd_f, blk_normal, blk_ret, blk_exit, x_seq, x_region, x_cond, x_block, x_loop, x_ret, x_exit, x_skip, e_mov, e_pick, pk_t, pk_f, withH_some, e_box, bx_some, e_load, e_store, stH_some, e_nil, e_bin, e_eqv, eqH_f, eqH_t, e_un, e_fa, e_ia, ia_eq, nat_eq, natV_nat, e_len, lnH_some, e_extract, ex_0, ex_1, e_call0, e_call1, e_call2, e_call3, pc0_eq, pc1_some, pc2_some, pc3_some, fin_some, g_var0, g_vars, g_loc0, g_locs, g_int, g_bool, g_str, g_sl, s_none, s_zero, s_succ, AV.cl, evFa, evNil, evLoad, asEl, evBin, intBin, strBin, evUn, len_nil, len_slc, len_str, clr, List.length_nil, List.length_cons, List.getElem?_cons_zero, List.getElem?_cons_succ, Nat.reduceAdd, Nat.zero_add, Nat.add_zero, Nat.reduceLeDiff, Nat.reduceSub, ↓reduceIte, List.drop_succ_cons, List.drop_zero, List.take_succ_cons, List.take_zero, Bool.false_eq_true, List.nil_append, List.cons_append, Bool.not_true, Bool.not_false, cond_true, cond_false, bne, lv_ret, lv_normal, res1, res2, lv2_some, res_var, res_cell, lvf_v, lvf_slc, res1c, lvo1_some, e_mm, mm_max, mm_min]
  rw [loop_cong (v2 := L38 n c (ns.map iv).length ((0 : Nat) : Int)) (by rfl)]
  rcases key with ⟨h0, vs, h1, h2⟩ | ⟨h0, vs, h1, h2⟩
  · rw [h1, h0]
    simp only [blk_ret, thn_ret, h2, run_nil, run_cons, stp_plain, stp_guard, put_some, pass_eq, pick_tt, pick_ff, pick_tf, pick_ft, pick_u, reg_some, thn_normal, thn_exit, thn_ret, cnd_t, cnd_f, blk_normal, blk_ret, blk_exit, x_seq, x_region, x_cond, x_block, x_loop, x_ret, x_exit, x_skip, e_mov, e_pick, pk_t, pk_f, withH_some, e_box, bx_some, e_load, e_store, stH_some, e_nil, e_bin, e_eqv, eqH_f, eqH_t, e_un, e_fa, e_ia, ia_eq, nat_eq, natV_nat, e_len, lnH_some, e_extract, ex_0, ex_1, e_call0, e_call1, e_call2, e_call3, pc0_eq, pc1_some, pc2_some, pc3_some, fin_some, g_var0, g_vars, g_loc0, g_locs, g_int, g_bool, g_str, g_sl, s_none, s_zero, s_succ, AV.cl, evFa, evNil, evLoad, asEl, evBin, intBin, strBin, evUn, len_nil, len_slc, len_str, clr, List.length_nil, List.length_cons, List.getElem?_cons_zero, List.getElem?_cons_succ, Nat.reduceAdd, Nat.zero_add, Nat.add_zero, Nat.reduceLeDiff, Nat.reduceSub, ↓reduceIte, List.drop_succ_cons, List.drop_zero, List.take_succ_cons, List.take_zero, Bool.false_eq_true, List.nil_append, List.cons_append, Bool.not_true, Bool.not_false, cond_true, cond_false, bne, lv_ret, lv_normal, res1, res2, lv2_some, res_var, res_cell, lvf_v, lvf_slc, res1c, lvo1_some, e_mm, mm_max, mm_min]
  · rw [h1, h0, ← hrest]
    match vs, h2 with
    | [a0, a1, a2, a3, a4, a5, a6, a7, a8], _ => simp only [c13_8, run_nil, run_cons, stp_plain, stp_guard, put_some, pass_eq, pick_tt, pick_ff, pick_tf, pick_ft, pick_u, reg_some, thn_normal, thn_exit, thn_ret, cnd_t, cnd_f, blk_normal, blk_ret, blk_exit, x_seq, x_region, x_cond, x_block, x_loop, x_ret, x_exit, x_skip, e_mov, e_pick, pk_t, pk_f, withH_some, e_box, bx_some, e_load, e_store, stH_some, e_nil, e_bin, e_eqv, eqH_f, eqH_t, e_un, e_fa, e_ia, ia_eq, nat_eq, natV_nat, e_len, lnH_some, e_extract, ex_0, ex_1, e_call0, e_call1, e_call2, e_call3, pc0_eq, pc1_some, pc2_some, pc3_some, fin_some, g_var0, g_vars, g_loc0, g_locs, g_int, g_bool, g_str, g_sl, s_none, s_zero, s_succ, AV.cl, evFa, evNil, evLoad, asEl, evBin, intBin, strBin, evUn, len_nil, len_slc, len_str, clr, List.length_nil, List.length_cons, List.getElem?_cons_zero, List.getElem?_cons_succ, Nat.reduceAdd, Nat.zero_add, Nat.add_zero, Nat.reduceLeDiff, Nat.reduceSub, ↓reduceIte, List.drop_succ_cons, List.drop_zero, List.take_succ_cons, List.take_zero, Bool.false_eq_true, List.nil_append, List.cons_append, Bool.not_true, Bool.not_false, cond_true, cond_false, bne, lv_ret, lv_normal, res1, res2, lv2_some, res_var, res_cell, lvf_v, lvf_slc, res1c, lvo1_some, e_mm, mm_max, mm_min]

/-! ### The places -/
def K37 : List Bool := [false, false, false, true, false, false, true, true, true, false]
def L37 (acc c : AV) (len i : Int) : List AV := [.junk, .junk, .junk, acc, .junk, .junk, c, .v (.int .i64 len), .v (.int .i64 i), .junk]
theorem places_loop {K : Nat} {c : AV} {es : List AV} (hs : Sl 4 c es) (hm : es.length ≤ 100000) :
    ∀ (l : List Tm) (i : Nat) (acc : AV) (p : List Int) (h : List AO) (vars : List AV), i + l.length = es.length → p.length + sizeL l ≤ 1000000 → All2 (es.drop i) l → (∀ t ∈ l, ∀ (e : AV), IsT e t → ∃ r, Sl 1 r ((placesT t).map iv) ∧ callW F 34 [e] [] = some (r, [])) →
      Acc 1 h acc (p.map iv) → clr K37 vars = L37 acc c es.length i →
      ∃ acc' h' x4 x5 x9, loopN (exec (callW F) K c34_9) K37 (l.length + 1) vars h = some (.exit 0, [.junk, .junk, .junk, acc', x4, x5, c, .v (.int .i64 es.length), .v (.int .i64 es.length), x9], h') ∧ Acc 1 h' acc' ((p ++ placesL l).map iv) := by
  intro l
  induction l with
  | nil =>
    intro i acc p h vars hi hp _ _ ha hv
    have hil : i = es.length := by simpa using hi
    subst hil
    have hlt : decide ((es.length : Int) < (es.length : Int)) = false := by simp
    refine ⟨acc, h, .junk, .junk, .v (.bool false), loop_exit ?_, by simpa [placesL] using ha⟩
    rw [hv]
    simp only [L37, c34_9, c34_5, hlt, e_bslice1, e_bslice2, bs1, bs2, e_build, bdH_some, bd_nil, bd_cons, bd1, cl_agg, cl_int, toL, List.map_cons, List.map_nil, putAt, List.set_cons_zero, List.set_cons_succ, and_self, Nat.le_refl, app_get, app_set, g_agg, run_nil, run_cons, stp_plain, stp_guard, put_some, pass_eq, pick_tt, pick_ff, pick_tf, pick_ft, pick_u, reg_some, thn_normal, thn_exit, thn_ret, cnd_t, cnd_f, blk_normal, blk_ret, blk_exit, x_seq, x_region, x_cond, x_block, x_loop, x_ret, x_exit, x_skip, e_mov, e_pick, pk_t, pk_f, withH_some, e_box, bx_some, e_load, e_store, stH_some, e_nil, e_bin, e_eqv, eqH_f, eqH_t, e_un, e_fa, e_ia, ia_eq, nat_eq, natV_nat, e_len, lnH_some, e_extract, ex_0, ex_1, e_call0, e_call1, e_call2, e_call3, pc0_eq, pc1_some, pc2_some, pc3_some, fin_some, g_var0, g_vars, g_loc0, g_locs, g_int, g_bool, g_str, g_sl, s_none, s_zero, s_succ, cl_nil, cl_str, cl_bool, cl_slc, cl_own, evFa, evNil, asEl, evBin, intBin, strBin, evUn, len_nil, len_slc, len_str, clr, List.length_nil, List.length_cons, List.getElem?_cons_zero, List.getElem?_cons_succ, Nat.reduceAdd, Nat.zero_add, Nat.add_zero, Nat.reduceLeDiff, Nat.reduceSub, ↓reduceIte, List.drop_succ_cons, List.drop_zero, List.take_succ_cons, List.take_zero, Bool.false_eq_true, List.nil_append, List.cons_append, Bool.not_true, Bool.not_false, cond_true, cond_false, bne, lv_ret, lv_normal, res1, res2, lv2_some, res_var, res_cell, lvf_v, lvf_slc, res1c, lvo1_some, e_mm, mm_max, mm_min]
  | cons t l ih =>
    intro i acc p h vars hi hp hes hcall ha hv
    have hil : i < es.length := by simp at hi; omega
    have he : es[i]? = some (es[i]'hil) := List.getElem?_eq_getElem _
    have hd : es.drop i = es[i] :: es.drop (i + 1) := List.drop_eq_getElem_cons hil
    rw [hd] at hes
    generalize es[i]'hil = e at hes he
    cases hes with
    | cons _ _ _ _ hT hs' =>
    obtain ⟨r, hr, hc⟩ := hcall t (by simp) _ hT
    have hpl := places_len t
    simp only [sizeL] at hp
    obtain ⟨acc', h2, h3, h4, h5⟩ := (ha.app (.box e.cells)).add (x := r) (bytes := 8) (hr.elems _) (by
      have : room = 140737488355328 := rfl
      simp only [fits, List.length_map, decide_eq_true_eq]; omega)
    have hlt : (decide ((i : Int) < (es.length : Int))) = true := by simp; omega
    have q1 := hs.ia he
    have q3 : ∀ h : List AO, evLoad h true 4 (.ip e.cells) = some e := fun h => hT.load
    have q5 : ∀ h : List AO, e.snap1 h = some e := fun h => hT.snap
    have st : exec (callW F) K c34_9 (L37 acc c es.length i) h = some (.normal, [.junk, .junk, .junk, acc', .ptr h.length 0, .junk, c, .v (.int .i64 es.length), .v (.int .i64 ((i + 1 : Nat) : Int)), .v (.bool true)], h2) := by
      have hz : ([.v (.int .i64 0), .v (.string ⟨#[]⟩), .v (.int .i64 0), .v (.slice none 0 0)] : List AV).length = 4 := rfl
      simp only [L37, c34_9, c34_5, c34_6, c34_7, c34_8, hlt, wrap_succ hil (small_max hm), q1, q3, q5, hc, h3, hT.st _ _ hz, hT.ld, q9z, e_append, e_bslice1, e_bslice2, bs1, bs2, e_build, bdH_some, bd_nil, bd_cons, bd1, cl_agg, cl_int, toL, List.map_cons, List.map_nil, putAt, List.set_cons_zero, List.set_cons_succ, and_self, Nat.le_refl, app_get, app_set, g_agg, run_nil, run_cons, stp_plain, stp_guard, put_some, pass_eq, pick_tt, pick_ff, pick_tf, pick_ft, pick_u, reg_some, thn_normal, thn_exit, thn_ret, cnd_t, cnd_f, blk_normal, blk_ret, blk_exit, x_seq, x_region, x_cond, x_block, x_loop, x_ret, x_exit, x_skip, e_mov, e_pick, pk_t, pk_f, withH_some, e_box, bx_some, e_load, e_store, stH_some, e_nil, e_bin, e_eqv, eqH_f, eqH_t, e_un, e_fa, e_ia, ia_eq, nat_eq, natV_nat, e_len, lnH_some, e_extract, ex_0, ex_1, e_call0, e_call1, e_call2, e_call3, pc0_eq, pc1_some, pc2_some, pc3_some, fin_some, g_var0, g_vars, g_loc0, g_locs, g_int, g_bool, g_str, g_sl, s_none, s_zero, s_succ, cl_nil, cl_str, cl_bool, cl_slc, cl_own, evFa, evNil, asEl, evBin, intBin, strBin, evUn, len_nil, len_slc, len_str, clr, List.length_nil, List.length_cons, List.getElem?_cons_zero, List.getElem?_cons_succ, Nat.reduceAdd, Nat.zero_add, Nat.add_zero, Nat.reduceLeDiff, Nat.reduceSub, ↓reduceIte, List.drop_succ_cons, List.drop_zero, List.take_succ_cons, List.take_zero, Bool.false_eq_true, List.nil_append, List.cons_append, Bool.not_true, Bool.not_false, cond_true, cond_false, bne, lv_ret, lv_normal, res1, res2, lv2_some, res_var, res_cell, lvf_v, lvf_slc, res1c, lvo1_some, e_mm, mm_max, mm_min]
    rw [show (t :: l).length + 1 = (l.length + 1) + 1 from rfl, loop_normal (by rw [hv]; exact st)]
    rw [← List.map_append] at h4
    obtain ⟨acc'', h', x4, x5, x9, g1, g2⟩ := ih (i + 1) acc' (p ++ placesT t) h2 [.junk, .junk, .junk, acc', .ptr h.length 0, .junk, c, .v (.int .i64 es.length), .v (.int .i64 ((i + 1 : Nat) : Int)), .v (.bool true)] (by simp at hi; omega) (by rw [List.length_append]; omega) hs' (fun t ht => hcall t (by simp [ht])) h4 rfl
    refine ⟨acc'', h', x4, x5, x9, g1, ?_⟩
    rw [placesL, ← List.append_assoc]
    exact g2

theorem places_ok : ∀ (N : Nat) (t : Tm) (a : AV), SizeOf.sizeOf t < N → size t ≤ 100000 → IsT a t → ∃ r, Sl 1 r ((placesT t).map iv) ∧ callW F 34 [a] [] = some (r, []) := by
  intro N
  induction N with
  | zero => intro t a h; omega
  | succ N ih =>
    intro t a hN hsz ha
    cases ha with
    | mk k s n c l hc =>
    have h5 := Tm.mk.sizeOf_spec k s n l
    simp only [size] at hsz
    have hll := sizeL_len l
    have hcall : ∀ t ∈ l, ∀ (e : AV), IsT e t → ∃ r, Sl 1 r ((placesT t).map iv) ∧ callW F 34 [e] [] = some (r, []) := by
      intro t ht e hT
      have h6 := List.sizeOf_lt_of_mem ht
      have h7 := size_mem ht
      exact ih t e (by omega) (by omega) hT
    obtain ⟨es, hs, hes, hm⟩ := hc.sl
    have e1 := hes.length
    have key : ∀ (p : List Int) (acc : AV) (h : List AO), p.length ≤ 10 → Acc 1 h acc (p.map iv) → ∃ acc' h' x4 x5 x9, loopN (exec (callW F) (l.length + 1) c34_9) K37 (l.length + 1) (L37 acc c es.length (0 : Nat)) h = some (.exit 0, [.junk, .junk, .junk, acc', x4, x5, c, .v (.int .i64 es.length), .v (.int .i64 es.length), x9], h') ∧ Acc 1 h' acc' ((p ++ placesL l).map iv) :=
      fun p acc h hp ha => places_loop (K := l.length + 1) hs (by omega) l 0 acc p h (L37 acc c es.length (0 : Nat)) (by omega) (by omega) (by simpa using hes) hcall ha rfl
    by_cases hk : k = 1
    · have h1 : (k == 1) = true := by simpa using hk
      have hap : evAppend [.box [.v (.int .i64 k), .v (.string s), .v (.int .i64 n), c]] 1 8 (.v (.slice none 0 0)) (.slc 1 true true [.v (.int .i64 n)]) = some (.own 1 1 0 0 1, [.box [.v (.int .i64 k), .v (.string s), .v (.int .i64 n), c], .row 1 0 [.v (.int .i64 n)] 0]) := ap_new (h := [.box [.v (.int .i64 k), .v (.string s), .v (.int .i64 n), c]]) (by simp) (by simp only [List.length_cons, List.length_nil]; decide)
      obtain ⟨acc', h', x4, x5, x9, g1, g2⟩ := key [n] (.own 1 1 0 0 1) [.box [.v (.int .i64 k), .v (.string s), .v (.int .i64 n), c], .row 1 0 [.v (.int .i64 n)] 0] (by simp) (.own 1 0 0 [.v (.int .i64 n)] rfl (by simp) (by simp))
      obtain ⟨r, g3, g4⟩ := g2.lvf
      refine ⟨r, by rw [placesT, if_pos hk]; exact g4, callW_pure (c := c34) rfl rfl (l.length + 1) ?_⟩
      show lv [.var 2] (exec (callW F) (l.length + 1) (.seq (.region [] [] c34_0) (.seq (.region [] [] c34_1) (.seq (.seq (.region [] [] c34_2) (.cond (.var 5) (.region [] [] c34_3) .skip)) (.seq (.seq (.region [] [] c34_4) (.block 0 (.loop K37 [] c34_9))) (.seq (.region [] [] c34_10) .ret))))) _ _) = _
      generalize hrest : (CC.seq (.region [] [] c34_10) .ret) = rest
      simp only [c34, start, List.replicate, c34_0, c34_1, c34_2, c34_3, c34_4, h1, hs.len, hap, snapv, bs1_some (y := .v (.int .i64 n)) (sz := 1) cl_int rfl, e_append, q9z, evStore, e_bslice1, e_bslice2, bs1, bs2, e_build, bdH_some, bd_nil, bd_cons, bd1, cl_agg, cl_int, toL, List.map_cons, List.map_nil, putAt, List.set_cons_zero, List.set_cons_succ, and_self, Nat.le_refl, evStore, app_get, app_set, g_agg, run_nil, run_cons, stp_plain, stp_guard, put_some, pass_eq, pick_tt, pick_ff, pick_tf, pick_ft, pick_u, reg_some, thn_normal, thn_exit, thn_ret, cnd_t, cnd_f, blk_normal, blk_ret, blk_exit, x_seq, x_region, x_cond, x_block, x_loop, x_ret, x_exit, x_skip, e_mov, e_pick, pk_t, pk_f, withH_some, e_box, bx_some, e_load, e_store, stH_some, e_nil, e_bin, e_eqv, eqH_f, eqH_t, e_un, e_fa, e_ia, ia_eq, nat_eq, natV_nat, e_len, lnH_some, e_extract, ex_0, ex_1, e_call0, e_call1, e_call2, e_call3, pc0_eq, pc1_some, pc2_some, pc3_some, fin_some, g_var0, g_vars, g_loc0, g_locs, g_int, g_bool, g_str, g_sl, s_none, s_zero, s_succ, cl_nil, cl_str, cl_bool, cl_slc, cl_own, evFa, evNil, evLoad, asEl, evBin, intBin, strBin, evUn, len_nil, len_slc, len_str, clr, List.length_nil, List.length_cons, List.getElem?_cons_zero, List.getElem?_cons_succ, Nat.reduceAdd, Nat.zero_add, Nat.add_zero, Nat.reduceLeDiff, Nat.reduceSub, ↓reduceIte, List.drop_succ_cons, List.drop_zero, List.take_succ_cons, List.take_zero, Bool.false_eq_true, List.nil_append, List.cons_append, Bool.not_true, Bool.not_false, cond_true, cond_false, bne, lv_ret, lv_normal, res1, res2, lv2_some, res_var, res_cell, lvf_v, lvf_slc, res1c, lvo1_some, e_mm, mm_max, mm_min]
      rw [loop_cong (v2 := L37 (.own 1 1 0 0 1) c es.length ((0 : Nat) : Int)) (by rfl), g1, ← hrest]
      simp only [blk_exit, thn_normal, c34_10, g3, run_nil, run_cons, stp_plain, stp_guard, put_some, pass_eq, pick_tt, pick_ff, pick_tf, pick_ft, pick_u, reg_some, thn_normal, thn_exit, thn_ret, cnd_t, cnd_f, blk_normal, blk_ret, blk_exit, x_seq, x_region, x_cond, x_block, x_loop, x_ret, x_exit, x_skip, e_mov, e_pick, pk_t, pk_f, withH_some, e_box, bx_some, e_load, e_store, stH_some, e_nil, e_bin, e_eqv, eqH_f, eqH_t, e_un, e_fa, e_ia, ia_eq, nat_eq, natV_nat, e_len, lnH_some, e_extract, ex_0, ex_1, e_call0, e_call1, e_call2, e_call3, pc0_eq, pc1_some, pc2_some, pc3_some, fin_some, g_var0, g_vars, g_loc0, g_locs, g_int, g_bool, g_str, g_sl, s_none, s_zero, s_succ, cl_nil, cl_str, cl_bool, cl_slc, cl_own, evFa, evNil, asEl, evBin, intBin, strBin, evUn, len_nil, len_slc, len_str, clr, List.length_nil, List.length_cons, List.getElem?_cons_zero, List.getElem?_cons_succ, Nat.reduceAdd, Nat.zero_add, Nat.add_zero, Nat.reduceLeDiff, Nat.reduceSub, ↓reduceIte, List.drop_succ_cons, List.drop_zero, List.take_succ_cons, List.take_zero, Bool.false_eq_true, List.nil_append, List.cons_append, Bool.not_true, Bool.not_false, cond_true, cond_false, bne, lv_ret, lv_normal, res1, res2, lv2_some, res_var, res_cell, lvf_v, lvf_slc, res1c, lvo1_some, e_mm, mm_max, mm_min]
    · have h1 : (k == 1) = false := by simpa using hk
      obtain ⟨acc', h', x4, x5, x9, g1, g2⟩ := key [] (.v (.slice none 0 0)) [.box [.v (.int .i64 k), .v (.string s), .v (.int .i64 n), c]] (by simp) .nil
      obtain ⟨r, g3, g4⟩ := g2.lvf
      refine ⟨r, by rw [placesT, if_neg hk]; exact g4, callW_pure (c := c34) rfl rfl (l.length + 1) ?_⟩
      show lv [.var 2] (exec (callW F) (l.length + 1) (.seq (.region [] [] c34_0) (.seq (.region [] [] c34_1) (.seq (.seq (.region [] [] c34_2) (.cond (.var 5) (.region [] [] c34_3) .skip)) (.seq (.seq (.region [] [] c34_4) (.block 0 (.loop K37 [] c34_9))) (.seq (.region [] [] c34_10) .ret))))) _ _) = _
      generalize hrest : (CC.seq (.region [] [] c34_10) .ret) = rest
      simp only [c34, start, List.replicate, c34_0, c34_1, c34_2, c34_4, h1, hs.len, evStore, e_bslice1, e_bslice2, bs1, bs2, e_build, bdH_some, bd_nil, bd_cons, bd1, cl_agg, cl_int, toL, List.map_cons, List.map_nil, putAt, List.set_cons_zero, List.set_cons_succ, and_self, Nat.le_refl, evStore, app_get, app_set, g_agg, run_nil, run_cons, stp_plain, stp_guard, put_some, pass_eq, pick_tt, pick_ff, pick_tf, pick_ft, pick_u, reg_some, thn_normal, thn_exit, thn_ret, cnd_t, cnd_f, blk_normal, blk_ret, blk_exit, x_seq, x_region, x_cond, x_block, x_loop, x_ret, x_exit, x_skip, e_mov, e_pick, pk_t, pk_f, withH_some, e_box, bx_some, e_load, e_store, stH_some, e_nil, e_bin, e_eqv, eqH_f, eqH_t, e_un, e_fa, e_ia, ia_eq, nat_eq, natV_nat, e_len, lnH_some, e_extract, ex_0, ex_1, e_call0, e_call1, e_call2, e_call3, pc0_eq, pc1_some, pc2_some, pc3_some, fin_some, g_var0, g_vars, g_loc0, g_locs, g_int, g_bool, g_str, g_sl, s_none, s_zero, s_succ, cl_nil, cl_str, cl_bool, cl_slc, cl_own, evFa, evNil, evLoad, asEl, evBin, intBin, strBin, evUn, len_nil, len_slc, len_str, clr, List.length_nil, List.length_cons, List.getElem?_cons_zero, List.getElem?_cons_succ, Nat.reduceAdd, Nat.zero_add, Nat.add_zero, Nat.reduceLeDiff, Nat.reduceSub, ↓reduceIte, List.drop_succ_cons, List.drop_zero, List.take_succ_cons, List.take_zero, Bool.false_eq_true, List.nil_append, List.cons_append, Bool.not_true, Bool.not_false, cond_true, cond_false, bne, lv_ret, lv_normal, res1, res2, lv2_some, res_var, res_cell, lvf_v, lvf_slc, res1c, lvo1_some, e_mm, mm_max, mm_min]
      rw [loop_cong (v2 := L37 (.v (.slice none 0 0)) c es.length ((0 : Nat) : Int)) (by rfl), g1, ← hrest]
      simp only [blk_exit, thn_normal, c34_10, g3, run_nil, run_cons, stp_plain, stp_guard, put_some, pass_eq, pick_tt, pick_ff, pick_tf, pick_ft, pick_u, reg_some, thn_normal, thn_exit, thn_ret, cnd_t, cnd_f, blk_normal, blk_ret, blk_exit, x_seq, x_region, x_cond, x_block, x_loop, x_ret, x_exit, x_skip, e_mov, e_pick, pk_t, pk_f, withH_some, e_box, bx_some, e_load, e_store, stH_some, e_nil, e_bin, e_eqv, eqH_f, eqH_t, e_un, e_fa, e_ia, ia_eq, nat_eq, natV_nat, e_len, lnH_some, e_extract, ex_0, ex_1, e_call0, e_call1, e_call2, e_call3, pc0_eq, pc1_some, pc2_some, pc3_some, fin_some, g_var0, g_vars, g_loc0, g_locs, g_int, g_bool, g_str, g_sl, s_none, s_zero, s_succ, cl_nil, cl_str, cl_bool, cl_slc, cl_own, evFa, evNil, asEl, evBin, intBin, strBin, evUn, len_nil, len_slc, len_str, clr, List.length_nil, List.length_cons, List.getElem?_cons_zero, List.getElem?_cons_succ, Nat.reduceAdd, Nat.zero_add, Nat.add_zero, Nat.reduceLeDiff, Nat.reduceSub, ↓reduceIte, List.drop_succ_cons, List.drop_zero, List.take_succ_cons, List.take_zero, Bool.false_eq_true, List.nil_append, List.cons_append, Bool.not_true, Bool.not_false, cond_true, cond_false, bne, lv_ret, lv_normal, res1, res2, lv2_some, res_var, res_cell, lvf_v, lvf_slc, res1c, lvo1_some, e_mm, mm_max, mm_min]

/-! ### Vars -/
def addNew (p : List Int) (n : Int) : List Int := if p.contains n then p else p ++ [n]
def varsT (t : Tm) : List Int := (placesT t).foldl addNew []
def K19 : List Bool := [false, false, false, true, false, true, true, true, false, false]
def L19 (acc c : AV) (len i : Int) : List AV := [.junk, .junk, .junk, acc, .junk, c, .v (.int .i64 len), .v (.int .i64 i), .junk, .junk]
end Go.AE.YtpgoibncgekflaaDoor
end

/-! Vars walked. -/
section
set_option linter.unusedVariables false
set_option linter.unusedSimpArgs false
namespace Go.AE.YtpgoibncgekflaaDoor
open Go Go.AE Go.Proofs.YtpgoibncgekflaaDoor

theorem addNew_len (p : List Int) (n : Int) : (addNew p n).length ≤ p.length + 1 := by
  simp only [addNew]; split <;> simp
theorem foldNew_len : ∀ (l p : List Int), (l.foldl addNew p).length ≤ p.length + l.length
  | [], p => by simp
  | n :: l, p => by
    have := foldNew_len l (addNew p n)
    have := addNew_len p n
    simp only [List.foldl_cons, List.length_cons]; omega

theorem vars_loop {K : Nat} {c : AV} {es : List AV} (hs : Sl 1 c es) (hm : es.length ≤ 100000) :
    ∀ (l : List Int) (i : Nat) (acc : AV) (p : List Int) (h : List AO) (vars : List AV), i + l.length = es.length → p.length ≤ i → es.drop i = l.map iv →
      Acc 1 h acc (p.map iv) → clr K19 vars = L19 acc c es.length i →
      ∃ acc' h' x4 x8 x9, loopN (exec (callW F) K c14_8) K19 (l.length + 1) vars h = some (.exit 0, [.junk, .junk, .junk, acc', x4, c, .v (.int .i64 es.length), .v (.int .i64 es.length), x8, x9], h') ∧ Acc 1 h' acc' ((l.foldl addNew p).map iv) := by
  intro l
  induction l with
  | nil =>
    intro i acc p h vars hi hp _ ha hv
    have hil : i = es.length := by simpa using hi
    subst hil
    have hlt : decide ((es.length : Int) < (es.length : Int)) = false := by simp
    refine ⟨acc, h, .junk, .v (.bool false), .junk, loop_exit ?_, ha⟩
    rw [hv]
    simp only [L19, c14_8, c14_3, hlt, e_bslice1, e_bslice2, bs1, bs2, e_build, bdH_some, bd_nil, bd_cons, bd1, cl_agg, cl_int, toL, List.map_cons, List.map_nil, putAt, List.set_cons_zero, List.set_cons_succ, and_self, Nat.le_refl, app_get, app_set, g_agg, run_nil, run_cons, stp_plain, stp_guard, put_some, pass_eq, pick_tt, pick_ff, pick_tf, pick_ft, pick_u, reg_some, thn_normal, thn_exit, thn_ret, cnd_t, cnd_f, blk_normal, blk_ret, blk_exit, x_seq, x_region, x_cond, x_block, x_loop, x_ret, x_exit, x_skip, e_mov, e_pick, pk_t, pk_f, withH_some, e_box, bx_some, e_load, e_store, stH_some, e_nil, e_bin, e_eqv, eqH_f, eqH_t, e_un, e_fa, e_ia, ia_eq, nat_eq, natV_nat, e_len, lnH_some, e_extract, ex_0, ex_1, e_call0, e_call1, e_call2, e_call3, pc0_eq, pc1_some, pc2_some, pc3_some, fin_some, g_var0, g_vars, g_loc0, g_locs, g_int, g_bool, g_str, g_sl, s_none, s_zero, s_succ, cl_nil, cl_str, cl_bool, cl_slc, cl_own, evFa, evNil, asEl, evBin, intBin, strBin, evUn, len_nil, len_slc, len_str, clr, List.length_nil, List.length_cons, List.getElem?_cons_zero, List.getElem?_cons_succ, Nat.reduceAdd, Nat.zero_add, Nat.add_zero, Nat.reduceLeDiff, Nat.reduceSub, ↓reduceIte, List.drop_succ_cons, List.drop_zero, List.take_succ_cons, List.take_zero, Bool.false_eq_true, List.nil_append, List.cons_append, Bool.not_true, Bool.not_false, cond_true, cond_false, bne, lv_ret, lv_normal, res1, res2, lv2_some, res_var, res_cell, lvf_v, lvf_slc, res1c, lvo1_some, e_mm, mm_max, mm_min]
  | cons n l ih =>
    intro i acc p h vars hi hp hes ha hv
    have hil : i < es.length := by simp at hi; omega
    have he : es[i]? = some (iv n) := by
      have : (es.drop i)[0]? = some (iv n) := by rw [hes]; rfl
      simpa using this
    have hd : es.drop (i + 1) = l.map iv := by
      have h2 := congrArg List.tail hes
      simpa using h2
    have hlt : (decide ((i : Int) < (es.length : Int))) = true := by simp; omega
    have q1 := hs.ia he
    obtain ⟨f1, f2, c', f3, f4⟩ := ha.fix
    have hc := has_ok f4 (by omega) n
    have hmax : es.length ≤ maxLen := small_max hm
    rw [show (n :: l).length + 1 = (l.length + 1) + 1 from rfl, List.foldl_cons]
    cases hh : p.contains n with
    | true =>
      rw [hh] at hc
      have st : exec (callW F) K c14_8 (L19 acc c es.length i) h = some (.normal, [.junk, .junk, .junk, acc, .v (.int .i64 n), c, .v (.int .i64 es.length), .v (.int .i64 ((i + 1 : Nat) : Int)), .v (.bool true), .v (.bool false)], raise1 h acc) := by
        have q3 : ∀ h, evLoad h false 1 (.ip [.v (.int .i64 n)]) = some (.v (.int .i64 n)) := fun _ => rfl
        simp only [L19, iv, AV.cells, x_region_m, marked_eq, marked, List.foldl_cons, List.foldl_nil, doMark, List.getD_cons_zero, List.getD_cons_succ, c14_8, c14_3, c14_4, c14_5, c14_7, hlt, wrap_succ hil hmax, q1, q3, f3, hc, snapv, e_bslice1, e_bslice2, bs1, bs2, e_build, bdH_some, bd_nil, bd_cons, bd1, cl_agg, cl_int, toL, List.map_cons, List.map_nil, putAt, List.set_cons_zero, List.set_cons_succ, and_self, Nat.le_refl, app_get, app_set, g_agg, run_nil, run_cons, stp_plain, stp_guard, put_some, pass_eq, pick_tt, pick_ff, pick_tf, pick_ft, pick_u, reg_some, thn_normal, thn_exit, thn_ret, cnd_t, cnd_f, blk_normal, blk_ret, blk_exit, x_seq, x_region, x_cond, x_block, x_loop, x_ret, x_exit, x_skip, e_mov, e_pick, pk_t, pk_f, withH_some, e_box, bx_some, e_load, e_store, stH_some, e_nil, e_bin, e_eqv, eqH_f, eqH_t, e_un, e_fa, e_ia, ia_eq, nat_eq, natV_nat, e_len, lnH_some, e_extract, ex_0, ex_1, e_call0, e_call1, e_call2, e_call3, pc0_eq, pc1_some, pc2_some, pc3_some, fin_some, g_var0, g_vars, g_loc0, g_locs, g_int, g_bool, g_str, g_sl, s_none, s_zero, s_succ, cl_nil, cl_str, cl_bool, cl_slc, cl_own, evFa, evNil, asEl, evBin, intBin, strBin, evUn, len_nil, len_slc, len_str, clr, List.length_nil, List.length_cons, List.getElem?_cons_zero, List.getElem?_cons_succ, Nat.reduceAdd, Nat.zero_add, Nat.add_zero, Nat.reduceLeDiff, Nat.reduceSub, ↓reduceIte, List.drop_succ_cons, List.drop_zero, List.take_succ_cons, List.take_zero, Bool.false_eq_true, List.nil_append, List.cons_append, Bool.not_true, Bool.not_false, cond_true, cond_false, bne, lv_ret, lv_normal, res1, res2, lv2_some, res_var, res_cell, lvf_v, lvf_slc, res1c, lvo1_some, e_mm, mm_max, mm_min]
      rw [loop_normal (by rw [hv]; exact st)]
      have e : addNew p n = p := by simp only [addNew, hh, if_true]
      rw [e]
      exact ih (i + 1) acc p _ _ (by simp at hi; omega) (by omega) hd f1 rfl
    | false =>
      rw [hh] at hc
      have q3 : ∀ h, evLoad h false 1 (.ip [.v (.int .i64 n)]) = some (.v (.int .i64 n)) := fun _ => rfl
      obtain ⟨acc', h2, h3, h4, h5⟩ := f1.add (x := .slc 1 true true [.v (.int .i64 n)]) (ys := [.v (.int .i64 n)]) (bytes := 8) elems_one (by
        have : room = 140737488355328 := rfl
        simp only [fits, List.length_map, List.length_cons, List.length_nil, decide_eq_true_eq]; omega)
      have st : exec (callW F) K c14_8 (L19 acc c es.length i) h = some (.normal, [.junk, .junk, .junk, acc', .v (.int .i64 n), c, .v (.int .i64 es.length), .v (.int .i64 ((i + 1 : Nat) : Int)), .v (.bool true), .v (.bool true)], h2) := by
        simp only [L19, iv, AV.cells, x_region_m, marked_eq, marked, List.foldl_cons, List.foldl_nil, doMark, List.getD_cons_zero, List.getD_cons_succ, c14_8, c14_3, c14_4, c14_5, c14_6, c14_7, hlt, wrap_succ hil hmax, q1, q3, f3, hc, h3, snapv, e_append, bs1_some (y := .v (.int .i64 n)) (sz := 1) cl_int rfl, e_bslice1, e_bslice2, bs1, bs2, e_build, bdH_some, bd_nil, bd_cons, bd1, cl_agg, cl_int, toL, List.map_cons, List.map_nil, putAt, List.set_cons_zero, List.set_cons_succ, and_self, Nat.le_refl, app_get, app_set, g_agg, run_nil, run_cons, stp_plain, stp_guard, put_some, pass_eq, pick_tt, pick_ff, pick_tf, pick_ft, pick_u, reg_some, thn_normal, thn_exit, thn_ret, cnd_t, cnd_f, blk_normal, blk_ret, blk_exit, x_seq, x_region, x_cond, x_block, x_loop, x_ret, x_exit, x_skip, e_mov, e_pick, pk_t, pk_f, withH_some, e_box, bx_some, e_load, e_store, stH_some, e_nil, e_bin, e_eqv, eqH_f, eqH_t, e_un, e_fa, e_ia, ia_eq, nat_eq, natV_nat, e_len, lnH_some, e_extract, ex_0, ex_1, e_call0, e_call1, e_call2, e_call3, pc0_eq, pc1_some, pc2_some, pc3_some, fin_some, g_var0, g_vars, g_loc0, g_locs, g_int, g_bool, g_str, g_sl, s_none, s_zero, s_succ, cl_nil, cl_str, cl_bool, cl_slc, cl_own, evFa, evNil, asEl, evBin, intBin, strBin, evUn, len_nil, len_slc, len_str, clr, List.length_nil, List.length_cons, List.getElem?_cons_zero, List.getElem?_cons_succ, Nat.reduceAdd, Nat.zero_add, Nat.add_zero, Nat.reduceLeDiff, Nat.reduceSub, ↓reduceIte, List.drop_succ_cons, List.drop_zero, List.take_succ_cons, List.take_zero, Bool.false_eq_true, List.nil_append, List.cons_append, Bool.not_true, Bool.not_false, cond_true, cond_false, bne, lv_ret, lv_normal, res1, res2, lv2_some, res_var, res_cell, lvf_v, lvf_slc, res1c, lvo1_some, e_mm, mm_max, mm_min]
      rw [loop_normal (by rw [hv]; exact st)]
      have e : addNew p n = p ++ [n] := by simp only [addNew, hh]; rfl
      rw [e]
      have h4' : Acc 1 h2 acc' ((p ++ [n]).map iv) := by rw [List.map_append]; exact h4
      exact ih (i + 1) acc' (p ++ [n]) h2 _ (by simp at hi; omega) (by simp; omega) hd h4' rfl

theorem vars_ok {t : Tm} {a : AV} (hsz : size t ≤ 100000) (ha : IsT a t) : ∃ r, Sl 1 r ((varsT t).map iv) ∧ callW F 14 [a] [] = some (r, []) := by
  obtain ⟨c, hs, hc⟩ := places_ok _ t a (Nat.lt_succ_self _) hsz ha
  have hpl := places_len t
  have hlen : ((placesT t).map iv).length = (placesT t).length := by simp
  obtain ⟨acc', h', x4, x8, x9, g1, g2⟩ := vars_loop (K := (placesT t).length + 1) hs (by omega) (placesT t) 0 (.v (.slice none 0 0)) [] [.box a.cells] (L19 (.v (.slice none 0 0)) c ((placesT t).map iv).length (0 : Nat)) (by simp) (by simp) (by simp) .nil rfl
  obtain ⟨r, g3, g4⟩ := g2.lvf
  refine ⟨r, g4, callW_pure (c := c14) rfl rfl ((placesT t).length + 1) ?_⟩
  have q5 : ∀ h : List AO, a.snap1 h = some a := fun h => ha.snap
  show lv [.var 2] (exec (callW F) ((placesT t).length + 1) (.seq (.region [] [] c14_0) (.seq (.region [] [] c14_1) (.seq (.seq (.region [] [] c14_2) (.block 0 (.loop K19 [] c14_8))) (.seq (.region [] [] c14_9) .ret)))) _ _) = _
  generalize hrest : (CC.seq (.region [] [] c14_9) .ret) = rest
  generalize (placesT t).map iv = qs at hs g1
  cases ha
  simp only [AV.cells] at g1
  simp only [c14, start, List.replicate, c14_0, c14_1, c14_2, hc, q5, hs.len, e_bslice1, e_bslice2, bs1, bs2, e_build, bdH_some, bd_nil, bd_cons, bd1, cl_agg, cl_int, toL, List.map_cons, List.map_nil, putAt, List.set_cons_zero, List.set_cons_succ, and_self, Nat.le_refl, evStore, app_get, app_set, g_agg, run_nil, run_cons, stp_plain, stp_guard, put_some, pass_eq, pick_tt, pick_ff, pick_tf, pick_ft, pick_u, reg_some, thn_normal, thn_exit, thn_ret, cnd_t, cnd_f, blk_normal, blk_ret, blk_exit, x_seq, x_region, x_cond, x_block, x_loop, x_ret, x_exit, x_skip, e_mov, e_pick, pk_t, pk_f, withH_some, e_box, bx_some, e_load, e_store, stH_some, e_nil, e_bin, e_eqv, eqH_f, eqH_t, e_un, e_fa, e_ia, ia_eq, nat_eq, natV_nat, e_len, lnH_some, e_extract, ex_0, ex_1, e_call0, e_call1, e_call2, e_call3, pc0_eq, pc1_some, pc2_some, pc3_some, fin_some, g_var0, g_vars, g_loc0, g_locs, g_int, g_bool, g_str, g_sl, s_none, s_zero, s_succ, cl_nil, cl_str, cl_bool, cl_slc, cl_own, evFa, evNil, evLoad, asEl, evBin, intBin, strBin, evUn, len_nil, len_slc, len_str, clr, List.length_nil, List.length_cons, List.getElem?_cons_zero, List.getElem?_cons_succ, Nat.reduceAdd, Nat.zero_add, Nat.add_zero, Nat.reduceLeDiff, Nat.reduceSub, ↓reduceIte, List.drop_succ_cons, List.drop_zero, List.take_succ_cons, List.take_zero, Bool.false_eq_true, List.nil_append, List.cons_append, Bool.not_true, Bool.not_false, cond_true, cond_false, bne, lv_ret, lv_normal, res1, res2, lv2_some, res_var, res_cell, lvf_v, lvf_slc, res1c, lvo1_some, e_mm, mm_max, mm_min]
  rw [loop_cong (v2 := L19 (.v (.slice none 0 0)) c qs.length ((0 : Nat) : Int)) (by rfl), g1, ← hrest]
  simp only [blk_exit, thn_normal, c14_9, g3, run_nil, run_cons, stp_plain, stp_guard, put_some, pass_eq, pick_tt, pick_ff, pick_tf, pick_ft, pick_u, reg_some, thn_normal, thn_exit, thn_ret, cnd_t, cnd_f, blk_normal, blk_ret, blk_exit, x_seq, x_region, x_cond, x_block, x_loop, x_ret, x_exit, x_skip, e_mov, e_pick, pk_t, pk_f, withH_some, e_box, bx_some, e_load, e_store, stH_some, e_nil, e_bin, e_eqv, eqH_f, eqH_t, e_un, e_fa, e_ia, ia_eq, nat_eq, natV_nat, e_len, lnH_some, e_extract, ex_0, ex_1, e_call0, e_call1, e_call2, e_call3, pc0_eq, pc1_some, pc2_some, pc3_some, fin_some, g_var0, g_vars, g_loc0, g_locs, g_int, g_bool, g_str, g_sl, s_none, s_zero, s_succ, cl_nil, cl_str, cl_bool, cl_slc, cl_own, evFa, evNil, asEl, evBin, intBin, strBin, evUn, len_nil, len_slc, len_str, clr, List.length_nil, List.length_cons, List.getElem?_cons_zero, List.getElem?_cons_succ, Nat.reduceAdd, Nat.zero_add, Nat.add_zero, Nat.reduceLeDiff, Nat.reduceSub, ↓reduceIte, List.drop_succ_cons, List.drop_zero, List.take_succ_cons, List.take_zero, Bool.false_eq_true, List.nil_append, List.cons_append, Bool.not_true, Bool.not_false, cond_true, cond_false, bne, lv_ret, lv_normal, res1, res2, lv2_some, res_var, res_cell, lvf_v, lvf_slc, res1c, lvo1_some, e_mm, mm_max, mm_min]

theorem foldNew_sub : ∀ (l p : List Int) (n : Int), n ∈ l.foldl addNew p ↔ n ∈ p ∨ n ∈ l
  | [], p, n => by simp
  | k :: l, p, n => by
    rw [List.foldl_cons, foldNew_sub l]
    simp only [addNew]
    split
    · rename_i hc
      have : k ∈ p := by simpa using hc
      constructor
      · rintro (h | h)
        · exact .inl h
        · exact .inr (by simp [h])
      · rintro (h | h)
        · exact .inl h
        · rcases List.mem_cons.1 h with rfl | h
          · exact .inl this
          · exact .inr h
    · simp [or_assoc]
theorem vars_mem {t : Tm} {n : Int} : n ∈ varsT t ↔ n ∈ placesT t := by
  simp [varsT, foldNew_sub]
end Go.AE.YtpgoibncgekflaaDoor
end

/-! Whether a term may be, and how deep it is: the document's Check. -/
section
set_option linter.unusedVariables false
set_option linter.unusedSimpArgs false
namespace Go.AE.YtpgoibncgekflaaDoor
open Go Go.AE Go.Proofs.YtpgoibncgekflaaDoor

/-- whether a text may be an atom's -/
def chk (s : ByteArray) : Bool := decide ((s.size : Int) ≤ 255) && Lib.validD s.data.toList
theorem snaps (h : List AO) (s : ByteArray) : (AV.v (.string s)).snap1 h = some (.v (.string s)) := rfl
theorem chk_ok (s : ByteArray) : callW F 47 [.v (.string s)] [] = some (.v (.bool (chk s)), []) := by
  refine callW_pure (c := c47) rfl rfl 0 ?_
  unfold chk
  cases h1 : decide ((s.size : Int) ≤ 255) with
  | false => simp only [c47, start, List.replicate, c47_0, c47_1, h1, Bool.false_and, run_nil, run_cons, stp_plain, stp_guard, put_some, pass_eq, pick_tt, pick_ff, pick_tf, pick_ft, pick_u, reg_some, thn_normal, thn_exit, thn_ret, cnd_t, cnd_f, blk_normal, blk_ret, blk_exit, x_seq, x_region, x_cond, x_block, x_loop, x_ret, x_exit, x_skip, e_mov, e_pick, pk_t, pk_f, withH_some, e_box, bx_some, e_load, e_store, stH_some, e_nil, e_bin, e_eqv, eqH_f, eqH_t, e_un, e_fa, e_ia, ia_eq, nat_eq, natV_nat, e_len, lnH_some, e_extract, ex_0, ex_1, e_call0, e_call1, e_call2, e_call3, pc0_eq, pc1_some, pc2_some, pc3_some, fin_some, g_var0, g_vars, g_loc0, g_locs, g_int, g_bool, g_str, g_sl, s_none, s_zero, s_succ, AV.cl, evFa, evNil, evLoad, asEl, evBin, intBin, strBin, evUn, len_nil, len_slc, len_str, clr, List.length_nil, List.length_cons, List.getElem?_cons_zero, List.getElem?_cons_succ, Nat.reduceAdd, Nat.zero_add, Nat.add_zero, Nat.reduceLeDiff, Nat.reduceSub, ↓reduceIte, List.drop_succ_cons, List.drop_zero, List.take_succ_cons, List.take_zero, Bool.false_eq_true, List.nil_append, List.cons_append, Bool.not_true, Bool.not_false, cond_true, cond_false, bne, lv_ret, lv_normal, res1, res2, lv2_some, res_var, res_cell, lvf_v, lvf_slc, res1c, lvo1_some, e_mm, mm_max, mm_min]
  | true =>
    have h2 : s.size ≤ 9223372036854775807 := by
      have : (s.size : Int) ≤ 255 := by simpa using h1
      omega
    have hv : callW F 61 [.v (.string s)] [] = some (.v (.bool (Lib.validD s.data.toList)), []) := callW_oracle (g := validG) rfl (by simp [validG, h2])
    simp only [c47, start, List.replicate, c47_0, c47_1, h1, hv, snaps, Bool.true_and, run_nil, run_cons, stp_plain, stp_guard, put_some, pass_eq, pick_tt, pick_ff, pick_tf, pick_ft, pick_u, reg_some, thn_normal, thn_exit, thn_ret, cnd_t, cnd_f, blk_normal, blk_ret, blk_exit, x_seq, x_region, x_cond, x_block, x_loop, x_ret, x_exit, x_skip, e_mov, e_pick, pk_t, pk_f, withH_some, e_box, bx_some, e_load, e_store, stH_some, e_nil, e_bin, e_eqv, eqH_f, eqH_t, e_un, e_fa, e_ia, ia_eq, nat_eq, natV_nat, e_len, lnH_some, e_extract, ex_0, ex_1, e_call0, e_call1, e_call2, e_call3, pc0_eq, pc1_some, pc2_some, pc3_some, fin_some, g_var0, g_vars, g_loc0, g_locs, g_int, g_bool, g_str, g_sl, s_none, s_zero, s_succ, AV.cl, evFa, evNil, evLoad, asEl, evBin, intBin, strBin, evUn, len_nil, len_slc, len_str, clr, List.length_nil, List.length_cons, List.getElem?_cons_zero, List.getElem?_cons_succ, Nat.reduceAdd, Nat.zero_add, Nat.add_zero, Nat.reduceLeDiff, Nat.reduceSub, ↓reduceIte, List.drop_succ_cons, List.drop_zero, List.take_succ_cons, List.take_zero, Bool.false_eq_true, List.nil_append, List.cons_append, Bool.not_true, Bool.not_false, cond_true, cond_false, bne, lv_ret, lv_normal, res1, res2, lv2_some, res_var, res_cell, lvf_v, lvf_slc, res1c, lvo1_some, e_mm, mm_max, mm_min]

/-! ### Deep -/
mutual
def deepT : Tm → Int
  | .mk _ _ _ l => deepL l 0 + 1
def deepL : List Tm → Int → Int
  | [], m => m
  | t :: l, m => deepL l (max m (deepT t))
end
mutual
theorem deepT_le : ∀ t : Tm, 1 ≤ deepT t ∧ deepT t ≤ size t
  | .mk k s n l => by
    have := deepL_le l 0
    simp only [deepT, size]; omega
theorem deepL_le : ∀ (l : List Tm) (m : Int), m ≤ deepL l m ∧ deepL l m ≤ max m (sizeL l)
  | [], m => by simp only [deepL, sizeL]; omega
  | t :: l, m => by
    have h1 := deepT_le t
    have h2 := deepL_le l (max m (deepT t))
    simp only [deepL, sizeL]; omega
end
def K33 : List Bool := [false, false, false, true, false, true, true, true, false]
def L33 (m : Int) (c : AV) (len i : Int) : List AV := [.junk, .junk, .junk, .v (.int .i64 m), .junk, c, .v (.int .i64 len), .v (.int .i64 i), .junk]
theorem deep_loop {K : Nat} {c : AV} {es : List AV} (hs : Sl 4 c es) (hm : es.length ≤ 100000) :
    ∀ (l : List Tm) (i : Nat) (m : Int) (h : List AO) (vars : List AV), i + l.length = es.length → All2 (es.drop i) l → (∀ t ∈ l, ∀ (e : AV), IsT e t → callW F 33 [e] [] = some (.v (.int .i64 (deepT t)), [])) →
      clr K33 vars = L33 m c es.length i →
      ∃ h' x4 x8, loopN (exec (callW F) K c33_7) K33 (l.length + 1) vars h = some (.exit 0, [.junk, .junk, .junk, .v (.int .i64 (deepL l m)), x4, c, .v (.int .i64 es.length), .v (.int .i64 es.length), x8], h') := by
  intro l
  induction l with
  | nil =>
    intro i m h vars hi _ _ hv
    have hil : i = es.length := by simpa using hi
    subst hil
    have hlt : decide ((es.length : Int) < (es.length : Int)) = false := by simp
    refine ⟨h, .junk, .v (.bool false), loop_exit ?_⟩
    rw [hv]
    simp only [L33, deepL, c33_7, c33_3, hlt, e_bslice1, e_bslice2, bs1, bs2, e_build, bdH_some, bd_nil, bd_cons, bd1, cl_agg, cl_int, toL, List.map_cons, List.map_nil, putAt, List.set_cons_zero, List.set_cons_succ, and_self, Nat.le_refl, app_get, app_set, g_agg, run_nil, run_cons, stp_plain, stp_guard, put_some, pass_eq, pick_tt, pick_ff, pick_tf, pick_ft, pick_u, reg_some, thn_normal, thn_exit, thn_ret, cnd_t, cnd_f, blk_normal, blk_ret, blk_exit, x_seq, x_region, x_cond, x_block, x_loop, x_ret, x_exit, x_skip, e_mov, e_pick, pk_t, pk_f, withH_some, e_box, bx_some, e_load, e_store, stH_some, e_nil, e_bin, e_eqv, eqH_f, eqH_t, e_un, e_fa, e_ia, ia_eq, nat_eq, natV_nat, e_len, lnH_some, e_extract, ex_0, ex_1, e_call0, e_call1, e_call2, e_call3, pc0_eq, pc1_some, pc2_some, pc3_some, fin_some, g_var0, g_vars, g_loc0, g_locs, g_int, g_bool, g_str, g_sl, s_none, s_zero, s_succ, cl_nil, cl_str, cl_bool, cl_slc, cl_own, evFa, evNil, asEl, evBin, intBin, strBin, evUn, len_nil, len_slc, len_str, clr, List.length_nil, List.length_cons, List.getElem?_cons_zero, List.getElem?_cons_succ, Nat.reduceAdd, Nat.zero_add, Nat.add_zero, Nat.reduceLeDiff, Nat.reduceSub, ↓reduceIte, List.drop_succ_cons, List.drop_zero, List.take_succ_cons, List.take_zero, Bool.false_eq_true, List.nil_append, List.cons_append, Bool.not_true, Bool.not_false, cond_true, cond_false, bne, lv_ret, lv_normal, res1, res2, lv2_some, res_var, res_cell, lvf_v, lvf_slc, res1c, lvo1_some, e_mm, mm_max, mm_min]
  | cons t l ih =>
    intro i m h vars hi hes hcall hv
    have hil : i < es.length := by simp at hi; omega
    have he : es[i]? = some (es[i]'hil) := List.getElem?_eq_getElem _
    have hd : es.drop i = es[i] :: es.drop (i + 1) := List.drop_eq_getElem_cons hil
    rw [hd] at hes
    generalize es[i]'hil = e at hes he
    cases hes with
    | cons _ _ _ _ hT hs' =>
    have hc := hcall t (by simp) _ hT
    have hlt : (decide ((i : Int) < (es.length : Int))) = true := by simp; omega
    have q1 := hs.ia he
    have q3 : ∀ h : List AO, evLoad h true 4 (.ip e.cells) = some e := fun h => hT.load
    have q5 : ∀ h : List AO, e.snap1 h = some e := fun h => hT.snap
    have st : exec (callW F) K c33_7 (L33 m c es.length i) h = some (.normal, [.junk, .junk, .junk, .v (.int .i64 (max m (deepT t))), .ptr h.length 0, c, .v (.int .i64 es.length), .v (.int .i64 ((i + 1 : Nat) : Int)), .v (.bool true)], h ++ [.box e.cells]) := by
      have hz : ([.v (.int .i64 0), .v (.string ⟨#[]⟩), .v (.int .i64 0), .v (.slice none 0 0)] : List AV).length = 4 := rfl
      simp only [L33, c33_7, c33_3, c33_4, c33_5, c33_6, hlt, wrap_succ hil (small_max hm), q1, q3, q5, hc, hT.st _ _ hz, hT.ld, q9z, e_bslice1, e_bslice2, bs1, bs2, e_build, bdH_some, bd_nil, bd_cons, bd1, cl_agg, cl_int, toL, List.map_cons, List.map_nil, putAt, List.set_cons_zero, List.set_cons_succ, and_self, Nat.le_refl, app_get, app_set, g_agg, run_nil, run_cons, stp_plain, stp_guard, put_some, pass_eq, pick_tt, pick_ff, pick_tf, pick_ft, pick_u, reg_some, thn_normal, thn_exit, thn_ret, cnd_t, cnd_f, blk_normal, blk_ret, blk_exit, x_seq, x_region, x_cond, x_block, x_loop, x_ret, x_exit, x_skip, e_mov, e_pick, pk_t, pk_f, withH_some, e_box, bx_some, e_load, e_store, stH_some, e_nil, e_bin, e_eqv, eqH_f, eqH_t, e_un, e_fa, e_ia, ia_eq, nat_eq, natV_nat, e_len, lnH_some, e_extract, ex_0, ex_1, e_call0, e_call1, e_call2, e_call3, pc0_eq, pc1_some, pc2_some, pc3_some, fin_some, g_var0, g_vars, g_loc0, g_locs, g_int, g_bool, g_str, g_sl, s_none, s_zero, s_succ, cl_nil, cl_str, cl_bool, cl_slc, cl_own, evFa, evNil, asEl, evBin, intBin, strBin, evUn, len_nil, len_slc, len_str, clr, List.length_nil, List.length_cons, List.getElem?_cons_zero, List.getElem?_cons_succ, Nat.reduceAdd, Nat.zero_add, Nat.add_zero, Nat.reduceLeDiff, Nat.reduceSub, ↓reduceIte, List.drop_succ_cons, List.drop_zero, List.take_succ_cons, List.take_zero, Bool.false_eq_true, List.nil_append, List.cons_append, Bool.not_true, Bool.not_false, cond_true, cond_false, bne, lv_ret, lv_normal, res1, res2, lv2_some, res_var, res_cell, lvf_v, lvf_slc, res1c, lvo1_some, e_mm, mm_max, mm_min]
    rw [show (t :: l).length + 1 = (l.length + 1) + 1 from rfl, loop_normal (by rw [hv]; exact st), deepL]
    exact ih (i + 1) (max m (deepT t)) _ _ (by simp at hi; omega) hs' (fun t ht => hcall t (by simp [ht])) rfl
theorem deep_ok : ∀ (N : Nat) (t : Tm) (a : AV), SizeOf.sizeOf t < N → size t ≤ 100000 → IsT a t → callW F 33 [a] [] = some (.v (.int .i64 (deepT t)), []) := by
  intro N
  induction N with
  | zero => intro t a h; omega
  | succ N ih =>
    intro t a hN hsz ha
    have hdt := deepT_le t
    cases ha with
    | mk k s n c l hc =>
    have h5 := Tm.mk.sizeOf_spec k s n l
    have hsz' := hsz
    simp only [size] at hsz
    have hll := sizeL_len l
    have hcall : ∀ t ∈ l, ∀ (e : AV), IsT e t → callW F 33 [e] [] = some (.v (.int .i64 (deepT t)), []) := by
      intro t ht e hT
      have h6 := List.sizeOf_lt_of_mem ht
      have h7 := size_mem ht
      exact ih t e (by omega) (by omega) hT
    obtain ⟨es, hs, hes, hm⟩ := hc.sl
    have e1 := hes.length
    obtain ⟨h', x4, x8, g1⟩ := deep_loop (K := l.length + 1) hs (by omega) l 0 0 [.box [.v (.int .i64 k), .v (.string s), .v (.int .i64 n), c]] (L33 0 c es.length (0 : Nat)) (by omega) (by simpa using hes) hcall rfl
    have hw : IntKind.i64.wrap (deepL l 0 + 1) = deepL l 0 + 1 := by
      simp only [deepT] at hdt
      rw [wrap_ok] <;> omega
    refine callW_pure (c := c33) rfl rfl (l.length + 1) ?_
    show lv [.var 2] (exec (callW F) (l.length + 1) (.seq (.region [] [] c33_0) (.seq (.region [] [] c33_1) (.seq (.seq (.region [] [] c33_2) (.block 0 (.loop K33 [] c33_7))) (.seq (.region [] [] c33_8) .ret)))) _ _) = _
    generalize hrest : (CC.seq (.region [] [] c33_8) .ret) = rest
    simp only [c33, start, List.replicate, c33_0, c33_1, c33_2, hs.len, e_bslice1, e_bslice2, bs1, bs2, e_build, bdH_some, bd_nil, bd_cons, bd1, cl_agg, cl_int, toL, List.map_cons, List.map_nil, putAt, List.set_cons_zero, List.set_cons_succ, and_self, Nat.le_refl, evStore, app_get, app_set, g_agg, run_nil, run_cons, stp_plain, stp_guard, put_some, pass_eq, pick_tt, pick_ff, pick_tf, pick_ft, pick_u, reg_some, thn_normal, thn_exit, thn_ret, cnd_t, cnd_f, blk_normal, blk_ret, blk_exit, x_seq, x_region, x_cond, x_block, x_loop, x_ret, x_exit, x_skip, e_mov, e_pick, pk_t, pk_f, withH_some, e_box, bx_some, e_load, e_store, stH_some, e_nil, e_bin, e_eqv, eqH_f, eqH_t, e_un, e_fa, e_ia, ia_eq, nat_eq, natV_nat, e_len, lnH_some, e_extract, ex_0, ex_1, e_call0, e_call1, e_call2, e_call3, pc0_eq, pc1_some, pc2_some, pc3_some, fin_some, g_var0, g_vars, g_loc0, g_locs, g_int, g_bool, g_str, g_sl, s_none, s_zero, s_succ, cl_nil, cl_str, cl_bool, cl_slc, cl_own, evFa, evNil, evLoad, asEl, evBin, intBin, strBin, evUn, len_nil, len_slc, len_str, clr, List.length_nil, List.length_cons, List.getElem?_cons_zero, List.getElem?_cons_succ, Nat.reduceAdd, Nat.zero_add, Nat.add_zero, Nat.reduceLeDiff, Nat.reduceSub, ↓reduceIte, List.drop_succ_cons, List.drop_zero, List.take_succ_cons, List.take_zero, Bool.false_eq_true, List.nil_append, List.cons_append, Bool.not_true, Bool.not_false, cond_true, cond_false, bne, lv_ret, lv_normal, res1, res2, lv2_some, res_var, res_cell, lvf_v, lvf_slc, res1c, lvo1_some, e_mm, mm_max, mm_min]
    rw [loop_cong (v2 := L33 0 c es.length ((0 : Nat) : Int)) (by rfl), g1, ← hrest]
    simp only [blk_exit, thn_normal, c33_8, deepT, hw, run_nil, run_cons, stp_plain, stp_guard, put_some, pass_eq, pick_tt, pick_ff, pick_tf, pick_ft, pick_u, reg_some, thn_normal, thn_exit, thn_ret, cnd_t, cnd_f, blk_normal, blk_ret, blk_exit, x_seq, x_region, x_cond, x_block, x_loop, x_ret, x_exit, x_skip, e_mov, e_pick, pk_t, pk_f, withH_some, e_box, bx_some, e_load, e_store, stH_some, e_nil, e_bin, e_eqv, eqH_f, eqH_t, e_un, e_fa, e_ia, ia_eq, nat_eq, natV_nat, e_len, lnH_some, e_extract, ex_0, ex_1, e_call0, e_call1, e_call2, e_call3, pc0_eq, pc1_some, pc2_some, pc3_some, fin_some, g_var0, g_vars, g_loc0, g_locs, g_int, g_bool, g_str, g_sl, s_none, s_zero, s_succ, cl_nil, cl_str, cl_bool, cl_slc, cl_own, evFa, evNil, asEl, evBin, intBin, strBin, evUn, len_nil, len_slc, len_str, clr, List.length_nil, List.length_cons, List.getElem?_cons_zero, List.getElem?_cons_succ, Nat.reduceAdd, Nat.zero_add, Nat.add_zero, Nat.reduceLeDiff, Nat.reduceSub, ↓reduceIte, List.drop_succ_cons, List.drop_zero, List.take_succ_cons, List.take_zero, Bool.false_eq_true, List.nil_append, List.cons_append, Bool.not_true, Bool.not_false, cond_true, cond_false, bne, lv_ret, lv_normal, res1, res2, lv2_some, res_var, res_cell, lvf_v, lvf_slc, res1c, lvo1_some, e_mm, mm_max, mm_min]

/-! ### may -/
mutual
def mayT : Tm → Bool
  | .mk k s n l =>
    if k == 1 then decide (n ≥ 0) && (s.toList == (⟨#[]⟩ : ByteArray).toList) && ((l.length : Int) == 0)
    else if k == 2 then (n == 0) && chk s && ((l.length : Int) == 0)
    else if k == 3 then (s.toList == (⟨#[]⟩ : ByteArray).toList) && ((l.length : Int) == 0)
    else if k == 4 then (n == 0) && chk s && !decide ((l.length : Int) < 1) && !decide ((l.length : Int) > 16) && mayL l
    else false
def mayL : List Tm → Bool
  | [] => true
  | t :: l => mayT t && mayL l
end
def K32' : List Bool := [false, false, false, false, false, false, false, false, false, false, true, true, true, false, false]
def L32' (c : AV) (len i : Int) : List AV := [.junk, .junk, .junk, .junk, .junk, .junk, .junk, .junk, .junk, .junk, c, .v (.int .i64 len), .v (.int .i64 i), .junk, .junk]
theorem may_loop {K : Nat} {c : AV} {es : List AV} (hs : Sl 4 c es) (hm : es.length ≤ 100000) :
    ∀ (l : List Tm) (i : Nat) (h : List AO) (vars : List AV), i + l.length = es.length → All2 (es.drop i) l → (∀ t ∈ l, ∀ (e : AV), IsT e t → callW F 32 [e] [] = some (.v (.bool (mayT t)), [])) →
      clr K32' vars = L32' c es.length i →
      (mayL l = false ∧ ∃ vs h', loopN (exec (callW F) K c32_17) K32' (l.length + 1) vars h = some (.ret, vs, h') ∧ getO vs [] (.var 2) = .v (.bool false)) ∨
      (mayL l = true ∧ ∃ vs h', loopN (exec (callW F) K c32_17) K32' (l.length + 1) vars h = some (.exit 1, vs, h') ∧ vs.length = 15) := by
  intro l
  induction l with
  | nil =>
    intro i h vars hi _ _ hv
    have hil : i = es.length := by simpa using hi
    subst hil
    have hlt : decide ((es.length : Int) < (es.length : Int)) = false := by simp
    refine .inr ⟨rfl, [.junk, .junk, .junk, .junk, .junk, .junk, .junk, .junk, .junk, .junk, c, .v (.int .i64 es.length), .v (.int .i64 es.length), .v (.bool false), .junk], h, loop_exit ?_, rfl⟩
    rw [hv]
    simp only [L32', c32_17, c32_12, hlt, e_bslice1, e_bslice2, bs1, bs2, e_build, bdH_some, bd_nil, bd_cons, bd1, cl_agg, cl_int, toL, List.map_cons, List.map_nil, putAt, List.set_cons_zero, List.set_cons_succ, and_self, Nat.le_refl, app_get, app_set, g_agg, run_nil, run_cons, stp_plain, stp_guard, put_some, pass_eq, pick_tt, pick_ff, pick_tf, pick_ft, pick_u, reg_some, thn_normal, thn_exit, thn_ret, cnd_t, cnd_f, blk_normal, blk_ret, blk_exit, x_seq, x_region, x_cond, x_block, x_loop, x_ret, x_exit, x_skip, e_mov, e_pick, pk_t, pk_f, withH_some, e_box, bx_some, e_load, e_store, stH_some, e_nil, e_bin, e_eqv, eqH_f, eqH_t, e_un, e_fa, e_ia, ia_eq, nat_eq, natV_nat, e_len, lnH_some, e_extract, ex_0, ex_1, e_call0, e_call1, e_call2, e_call3, pc0_eq, pc1_some, pc2_some, pc3_some, fin_some, g_var0, g_vars, g_loc0, g_locs, g_int, g_bool, g_str, g_sl, s_none, s_zero, s_succ, cl_nil, cl_str, cl_bool, cl_slc, cl_own, evFa, evNil, asEl, evBin, intBin, strBin, evUn, len_nil, len_slc, len_str, clr, List.length_nil, List.length_cons, List.getElem?_cons_zero, List.getElem?_cons_succ, Nat.reduceAdd, Nat.zero_add, Nat.add_zero, Nat.reduceLeDiff, Nat.reduceSub, ↓reduceIte, List.drop_succ_cons, List.drop_zero, List.take_succ_cons, List.take_zero, Bool.false_eq_true, List.nil_append, List.cons_append, Bool.not_true, Bool.not_false, cond_true, cond_false, bne, lv_ret, lv_normal, res1, res2, lv2_some, res_var, res_cell, lvf_v, lvf_slc, res1c, lvo1_some, e_mm, mm_max, mm_min]
  | cons t l ih =>
    intro i h vars hi hes hcall hv
    have hil : i < es.length := by simp at hi; omega
    have he : es[i]? = some (es[i]'hil) := List.getElem?_eq_getElem _
    have hd : es.drop i = es[i] :: es.drop (i + 1) := List.drop_eq_getElem_cons hil
    rw [hd] at hes
    generalize es[i]'hil = e at hes he
    cases hes with
    | cons _ _ _ _ hT hs' =>
    have hc := hcall t (by simp) _ hT
    have hlt : (decide ((i : Int) < (es.length : Int))) = true := by simp; omega
    have q1 := hs.ia he
    have q3 : ∀ h : List AO, evLoad h true 4 (.ip e.cells) = some e := fun h => hT.load
    have q5 : ∀ h : List AO, e.snap1 h = some e := fun h => hT.snap
    have hz : ([.v (.int .i64 0), .v (.string ⟨#[]⟩), .v (.int .i64 0), .v (.slice none 0 0)] : List AV).length = 4 := rfl
    cases hmt : mayT t with
    | false =>
      rw [hmt] at hc
      left
      refine ⟨by simp [mayL, hmt], [.junk, .junk, .v (.bool false), .ptr h.length 0, .junk, .junk, .junk, .junk, .junk, .junk, c, .v (.int .i64 es.length), .v (.int .i64 i), .v (.bool true), .v (.bool true)], h ++ [.box e.cells], loop_ret ?_, rfl⟩
      rw [hv]
      simp only [L32', c32_17, c32_12, c32_13, c32_14, c32_15, hlt, q1, q3, q5, hc, hT.st _ _ hz, hT.ld, q9z, e_bslice1, e_bslice2, bs1, bs2, e_build, bdH_some, bd_nil, bd_cons, bd1, cl_agg, cl_int, toL, List.map_cons, List.map_nil, putAt, List.set_cons_zero, List.set_cons_succ, and_self, Nat.le_refl, app_get, app_set, g_agg, run_nil, run_cons, stp_plain, stp_guard, put_some, pass_eq, pick_tt, pick_ff, pick_tf, pick_ft, pick_u, reg_some, thn_normal, thn_exit, thn_ret, cnd_t, cnd_f, blk_normal, blk_ret, blk_exit, x_seq, x_region, x_cond, x_block, x_loop, x_ret, x_exit, x_skip, e_mov, e_pick, pk_t, pk_f, withH_some, e_box, bx_some, e_load, e_store, stH_some, e_nil, e_bin, e_eqv, eqH_f, eqH_t, e_un, e_fa, e_ia, ia_eq, nat_eq, natV_nat, e_len, lnH_some, e_extract, ex_0, ex_1, e_call0, e_call1, e_call2, e_call3, pc0_eq, pc1_some, pc2_some, pc3_some, fin_some, g_var0, g_vars, g_loc0, g_locs, g_int, g_bool, g_str, g_sl, s_none, s_zero, s_succ, cl_nil, cl_str, cl_bool, cl_slc, cl_own, evFa, evNil, asEl, evBin, intBin, strBin, evUn, len_nil, len_slc, len_str, clr, List.length_nil, List.length_cons, List.getElem?_cons_zero, List.getElem?_cons_succ, Nat.reduceAdd, Nat.zero_add, Nat.add_zero, Nat.reduceLeDiff, Nat.reduceSub, ↓reduceIte, List.drop_succ_cons, List.drop_zero, List.take_succ_cons, List.take_zero, Bool.false_eq_true, List.nil_append, List.cons_append, Bool.not_true, Bool.not_false, cond_true, cond_false, bne, lv_ret, lv_normal, res1, res2, lv2_some, res_var, res_cell, lvf_v, lvf_slc, res1c, lvo1_some, e_mm, mm_max, mm_min]
    | true =>
      rw [hmt] at hc
      have st : exec (callW F) K c32_17 (L32' c es.length i) h = some (.normal, [.junk, .junk, .junk, .ptr h.length 0, .junk, .junk, .junk, .junk, .junk, .junk, c, .v (.int .i64 es.length), .v (.int .i64 ((i + 1 : Nat) : Int)), .v (.bool true), .v (.bool false)], h ++ [.box e.cells]) := by
        simp only [L32', c32_17, c32_12, c32_13, c32_14, c32_16, hlt, wrap_succ hil (small_max hm), q1, q3, q5, hc, hT.st _ _ hz, hT.ld, q9z, e_bslice1, e_bslice2, bs1, bs2, e_build, bdH_some, bd_nil, bd_cons, bd1, cl_agg, cl_int, toL, List.map_cons, List.map_nil, putAt, List.set_cons_zero, List.set_cons_succ, and_self, Nat.le_refl, app_get, app_set, g_agg, run_nil, run_cons, stp_plain, stp_guard, put_some, pass_eq, pick_tt, pick_ff, pick_tf, pick_ft, pick_u, reg_some, thn_normal, thn_exit, thn_ret, cnd_t, cnd_f, blk_normal, blk_ret, blk_exit, x_seq, x_region, x_cond, x_block, x_loop, x_ret, x_exit, x_skip, e_mov, e_pick, pk_t, pk_f, withH_some, e_box, bx_some, e_load, e_store, stH_some, e_nil, e_bin, e_eqv, eqH_f, eqH_t, e_un, e_fa, e_ia, ia_eq, nat_eq, natV_nat, e_len, lnH_some, e_extract, ex_0, ex_1, e_call0, e_call1, e_call2, e_call3, pc0_eq, pc1_some, pc2_some, pc3_some, fin_some, g_var0, g_vars, g_loc0, g_locs, g_int, g_bool, g_str, g_sl, s_none, s_zero, s_succ, cl_nil, cl_str, cl_bool, cl_slc, cl_own, evFa, evNil, asEl, evBin, intBin, strBin, evUn, len_nil, len_slc, len_str, clr, List.length_nil, List.length_cons, List.getElem?_cons_zero, List.getElem?_cons_succ, Nat.reduceAdd, Nat.zero_add, Nat.add_zero, Nat.reduceLeDiff, Nat.reduceSub, ↓reduceIte, List.drop_succ_cons, List.drop_zero, List.take_succ_cons, List.take_zero, Bool.false_eq_true, List.nil_append, List.cons_append, Bool.not_true, Bool.not_false, cond_true, cond_false, bne, lv_ret, lv_normal, res1, res2, lv2_some, res_var, res_cell, lvf_v, lvf_slc, res1c, lvo1_some, e_mm, mm_max, mm_min]
      rw [show (t :: l).length + 1 = (l.length + 1) + 1 from rfl, loop_normal (by rw [hv]; exact st)]
      have hml : mayL (t :: l) = mayL l := by simp [mayL, hmt]
      rw [hml]
      exact ih (i + 1) _ _ (by simp at hi; omega) hs' (fun t ht => hcall t (by simp [ht])) rfl

theorem may_ok : ∀ (N : Nat) (t : Tm) (a : AV), SizeOf.sizeOf t < N → size t ≤ 100000 → IsT a t → callW F 32 [a] [] = some (.v (.bool (mayT t)), []) := by
  intro N
  induction N with
  | zero => intro t a h; omega
  | succ N ih =>
    intro t a hN hsz ha
    cases ha with
    | mk k s n c l hc =>
    have h5 := Tm.mk.sizeOf_spec k s n l
    simp only [size] at hsz
    have hll := sizeL_len l
    have hcall : ∀ t ∈ l, ∀ (e : AV), IsT e t → callW F 32 [e] [] = some (.v (.bool (mayT t)), []) := by
      intro t ht e hT
      have h6 := List.sizeOf_lt_of_mem ht
      have h7 := size_mem ht
      exact ih t e (by omega) (by omega) hT
    obtain ⟨es, hs, hes, hm⟩ := hc.sl
    have e1 : (l.length : Int) = (es.length : Int) := by have := hes.length; omega
    have hck := chk_ok s
    have hl := hs.len
    rw [mayT, e1]
    cases k1 : (k == 1) with
    | true =>
      simp only [if_true]
      refine callW_pure (c := c32) rfl rfl 0 ?_
      cases b1 : decide (n ≥ 0) with
      | false => simp only [c32, start, List.replicate, c32_0, c32_1, c32_2, c32_3, k1, b1, hl, Bool.false_and, e_bslice1, e_bslice2, bs1, bs2, e_build, bdH_some, bd_nil, bd_cons, bd1, cl_agg, cl_int, toL, List.map_cons, List.map_nil, putAt, List.set_cons_zero, List.set_cons_succ, and_self, Nat.le_refl, evStore, app_get, app_set, g_agg, run_nil, run_cons, stp_plain, stp_guard, put_some, pass_eq, pick_tt, pick_ff, pick_tf, pick_ft, pick_u, reg_some, thn_normal, thn_exit, thn_ret, cnd_t, cnd_f, blk_normal, blk_ret, blk_exit, x_seq, x_region, x_cond, x_block, x_loop, x_ret, x_exit, x_skip, e_mov, e_pick, pk_t, pk_f, withH_some, e_box, bx_some, e_load, e_store, stH_some, e_nil, e_bin, e_eqv, eqH_f, eqH_t, e_un, e_fa, e_ia, ia_eq, nat_eq, natV_nat, e_len, lnH_some, e_extract, ex_0, ex_1, e_call0, e_call1, e_call2, e_call3, pc0_eq, pc1_some, pc2_some, pc3_some, fin_some, g_var0, g_vars, g_loc0, g_locs, g_int, g_bool, g_str, g_sl, s_none, s_zero, s_succ, cl_nil, cl_str, cl_bool, cl_slc, cl_own, evFa, evNil, evLoad, asEl, evBin, intBin, strBin, evUn, len_nil, len_slc, len_str, clr, List.length_nil, List.length_cons, List.getElem?_cons_zero, List.getElem?_cons_succ, Nat.reduceAdd, Nat.zero_add, Nat.add_zero, Nat.reduceLeDiff, Nat.reduceSub, ↓reduceIte, List.drop_succ_cons, List.drop_zero, List.take_succ_cons, List.take_zero, Bool.false_eq_true, List.nil_append, List.cons_append, Bool.not_true, Bool.not_false, cond_true, cond_false, bne, lv_ret, lv_normal, res1, res2, lv2_some, res_var, res_cell, lvf_v, lvf_slc, res1c, lvo1_some, e_mm, mm_max, mm_min]
      | true =>
        cases b2 : (s.toList == (⟨#[]⟩ : ByteArray).toList) with
        | false => simp only [c32, start, List.replicate, c32_0, c32_1, c32_2, c32_3, k1, b1, b2, hl, Bool.false_and, Bool.true_and, e_bslice1, e_bslice2, bs1, bs2, e_build, bdH_some, bd_nil, bd_cons, bd1, cl_agg, cl_int, toL, List.map_cons, List.map_nil, putAt, List.set_cons_zero, List.set_cons_succ, and_self, Nat.le_refl, evStore, app_get, app_set, g_agg, run_nil, run_cons, stp_plain, stp_guard, put_some, pass_eq, pick_tt, pick_ff, pick_tf, pick_ft, pick_u, reg_some, thn_normal, thn_exit, thn_ret, cnd_t, cnd_f, blk_normal, blk_ret, blk_exit, x_seq, x_region, x_cond, x_block, x_loop, x_ret, x_exit, x_skip, e_mov, e_pick, pk_t, pk_f, withH_some, e_box, bx_some, e_load, e_store, stH_some, e_nil, e_bin, e_eqv, eqH_f, eqH_t, e_un, e_fa, e_ia, ia_eq, nat_eq, natV_nat, e_len, lnH_some, e_extract, ex_0, ex_1, e_call0, e_call1, e_call2, e_call3, pc0_eq, pc1_some, pc2_some, pc3_some, fin_some, g_var0, g_vars, g_loc0, g_locs, g_int, g_bool, g_str, g_sl, s_none, s_zero, s_succ, cl_nil, cl_str, cl_bool, cl_slc, cl_own, evFa, evNil, evLoad, asEl, evBin, intBin, strBin, evUn, len_nil, len_slc, len_str, clr, List.length_nil, List.length_cons, List.getElem?_cons_zero, List.getElem?_cons_succ, Nat.reduceAdd, Nat.zero_add, Nat.add_zero, Nat.reduceLeDiff, Nat.reduceSub, ↓reduceIte, List.drop_succ_cons, List.drop_zero, List.take_succ_cons, List.take_zero, Bool.false_eq_true, List.nil_append, List.cons_append, Bool.not_true, Bool.not_false, cond_true, cond_false, bne, lv_ret, lv_normal, res1, res2, lv2_some, res_var, res_cell, lvf_v, lvf_slc, res1c, lvo1_some, e_mm, mm_max, mm_min]
        | true => simp only [c32, start, List.replicate, c32_0, c32_1, c32_2, c32_3, k1, b1, b2, hl, Bool.false_and, Bool.true_and, e_bslice1, e_bslice2, bs1, bs2, e_build, bdH_some, bd_nil, bd_cons, bd1, cl_agg, cl_int, toL, List.map_cons, List.map_nil, putAt, List.set_cons_zero, List.set_cons_succ, and_self, Nat.le_refl, evStore, app_get, app_set, g_agg, run_nil, run_cons, stp_plain, stp_guard, put_some, pass_eq, pick_tt, pick_ff, pick_tf, pick_ft, pick_u, reg_some, thn_normal, thn_exit, thn_ret, cnd_t, cnd_f, blk_normal, blk_ret, blk_exit, x_seq, x_region, x_cond, x_block, x_loop, x_ret, x_exit, x_skip, e_mov, e_pick, pk_t, pk_f, withH_some, e_box, bx_some, e_load, e_store, stH_some, e_nil, e_bin, e_eqv, eqH_f, eqH_t, e_un, e_fa, e_ia, ia_eq, nat_eq, natV_nat, e_len, lnH_some, e_extract, ex_0, ex_1, e_call0, e_call1, e_call2, e_call3, pc0_eq, pc1_some, pc2_some, pc3_some, fin_some, g_var0, g_vars, g_loc0, g_locs, g_int, g_bool, g_str, g_sl, s_none, s_zero, s_succ, cl_nil, cl_str, cl_bool, cl_slc, cl_own, evFa, evNil, evLoad, asEl, evBin, intBin, strBin, evUn, len_nil, len_slc, len_str, clr, List.length_nil, List.length_cons, List.getElem?_cons_zero, List.getElem?_cons_succ, Nat.reduceAdd, Nat.zero_add, Nat.add_zero, Nat.reduceLeDiff, Nat.reduceSub, ↓reduceIte, List.drop_succ_cons, List.drop_zero, List.take_succ_cons, List.take_zero, Bool.false_eq_true, List.nil_append, List.cons_append, Bool.not_true, Bool.not_false, cond_true, cond_false, bne, lv_ret, lv_normal, res1, res2, lv2_some, res_var, res_cell, lvf_v, lvf_slc, res1c, lvo1_some, e_mm, mm_max, mm_min]
    | false =>
    cases k2 : (k == 2) with
    | true =>
      simp only [if_true, Bool.false_eq_true, if_false]
      refine callW_pure (c := c32) rfl rfl 0 ?_
      cases b1 : (n == 0) with
      | false => simp only [c32, start, List.replicate, c32_0, c32_1, c32_2, c32_4, c32_5, k1, k2, b1, hl, hck, snaps, Bool.false_and, e_bslice1, e_bslice2, bs1, bs2, e_build, bdH_some, bd_nil, bd_cons, bd1, cl_agg, cl_int, toL, List.map_cons, List.map_nil, putAt, List.set_cons_zero, List.set_cons_succ, and_self, Nat.le_refl, evStore, app_get, app_set, g_agg, run_nil, run_cons, stp_plain, stp_guard, put_some, pass_eq, pick_tt, pick_ff, pick_tf, pick_ft, pick_u, reg_some, thn_normal, thn_exit, thn_ret, cnd_t, cnd_f, blk_normal, blk_ret, blk_exit, x_seq, x_region, x_cond, x_block, x_loop, x_ret, x_exit, x_skip, e_mov, e_pick, pk_t, pk_f, withH_some, e_box, bx_some, e_load, e_store, stH_some, e_nil, e_bin, e_eqv, eqH_f, eqH_t, e_un, e_fa, e_ia, ia_eq, nat_eq, natV_nat, e_len, lnH_some, e_extract, ex_0, ex_1, e_call0, e_call1, e_call2, e_call3, pc0_eq, pc1_some, pc2_some, pc3_some, fin_some, g_var0, g_vars, g_loc0, g_locs, g_int, g_bool, g_str, g_sl, s_none, s_zero, s_succ, cl_nil, cl_str, cl_bool, cl_slc, cl_own, evFa, evNil, evLoad, asEl, evBin, intBin, strBin, evUn, len_nil, len_slc, len_str, clr, List.length_nil, List.length_cons, List.getElem?_cons_zero, List.getElem?_cons_succ, Nat.reduceAdd, Nat.zero_add, Nat.add_zero, Nat.reduceLeDiff, Nat.reduceSub, ↓reduceIte, List.drop_succ_cons, List.drop_zero, List.take_succ_cons, List.take_zero, Bool.false_eq_true, List.nil_append, List.cons_append, Bool.not_true, Bool.not_false, cond_true, cond_false, bne, lv_ret, lv_normal, res1, res2, lv2_some, res_var, res_cell, lvf_v, lvf_slc, res1c, lvo1_some, e_mm, mm_max, mm_min]
      | true =>
        cases b2 : chk s with
        | false => rw [b2] at hck; simp only [c32, start, List.replicate, c32_0, c32_1, c32_2, c32_4, c32_5, k1, k2, b1, hl, hck, snaps, Bool.false_and, Bool.true_and, e_bslice1, e_bslice2, bs1, bs2, e_build, bdH_some, bd_nil, bd_cons, bd1, cl_agg, cl_int, toL, List.map_cons, List.map_nil, putAt, List.set_cons_zero, List.set_cons_succ, and_self, Nat.le_refl, evStore, app_get, app_set, g_agg, run_nil, run_cons, stp_plain, stp_guard, put_some, pass_eq, pick_tt, pick_ff, pick_tf, pick_ft, pick_u, reg_some, thn_normal, thn_exit, thn_ret, cnd_t, cnd_f, blk_normal, blk_ret, blk_exit, x_seq, x_region, x_cond, x_block, x_loop, x_ret, x_exit, x_skip, e_mov, e_pick, pk_t, pk_f, withH_some, e_box, bx_some, e_load, e_store, stH_some, e_nil, e_bin, e_eqv, eqH_f, eqH_t, e_un, e_fa, e_ia, ia_eq, nat_eq, natV_nat, e_len, lnH_some, e_extract, ex_0, ex_1, e_call0, e_call1, e_call2, e_call3, pc0_eq, pc1_some, pc2_some, pc3_some, fin_some, g_var0, g_vars, g_loc0, g_locs, g_int, g_bool, g_str, g_sl, s_none, s_zero, s_succ, cl_nil, cl_str, cl_bool, cl_slc, cl_own, evFa, evNil, evLoad, asEl, evBin, intBin, strBin, evUn, len_nil, len_slc, len_str, clr, List.length_nil, List.length_cons, List.getElem?_cons_zero, List.getElem?_cons_succ, Nat.reduceAdd, Nat.zero_add, Nat.add_zero, Nat.reduceLeDiff, Nat.reduceSub, ↓reduceIte, List.drop_succ_cons, List.drop_zero, List.take_succ_cons, List.take_zero, Bool.false_eq_true, List.nil_append, List.cons_append, Bool.not_true, Bool.not_false, cond_true, cond_false, bne, lv_ret, lv_normal, res1, res2, lv2_some, res_var, res_cell, lvf_v, lvf_slc, res1c, lvo1_some, e_mm, mm_max, mm_min]
        | true => rw [b2] at hck; simp only [c32, start, List.replicate, c32_0, c32_1, c32_2, c32_4, c32_5, k1, k2, b1, hl, hck, snaps, Bool.false_and, Bool.true_and, e_bslice1, e_bslice2, bs1, bs2, e_build, bdH_some, bd_nil, bd_cons, bd1, cl_agg, cl_int, toL, List.map_cons, List.map_nil, putAt, List.set_cons_zero, List.set_cons_succ, and_self, Nat.le_refl, evStore, app_get, app_set, g_agg, run_nil, run_cons, stp_plain, stp_guard, put_some, pass_eq, pick_tt, pick_ff, pick_tf, pick_ft, pick_u, reg_some, thn_normal, thn_exit, thn_ret, cnd_t, cnd_f, blk_normal, blk_ret, blk_exit, x_seq, x_region, x_cond, x_block, x_loop, x_ret, x_exit, x_skip, e_mov, e_pick, pk_t, pk_f, withH_some, e_box, bx_some, e_load, e_store, stH_some, e_nil, e_bin, e_eqv, eqH_f, eqH_t, e_un, e_fa, e_ia, ia_eq, nat_eq, natV_nat, e_len, lnH_some, e_extract, ex_0, ex_1, e_call0, e_call1, e_call2, e_call3, pc0_eq, pc1_some, pc2_some, pc3_some, fin_some, g_var0, g_vars, g_loc0, g_locs, g_int, g_bool, g_str, g_sl, s_none, s_zero, s_succ, cl_nil, cl_str, cl_bool, cl_slc, cl_own, evFa, evNil, evLoad, asEl, evBin, intBin, strBin, evUn, len_nil, len_slc, len_str, clr, List.length_nil, List.length_cons, List.getElem?_cons_zero, List.getElem?_cons_succ, Nat.reduceAdd, Nat.zero_add, Nat.add_zero, Nat.reduceLeDiff, Nat.reduceSub, ↓reduceIte, List.drop_succ_cons, List.drop_zero, List.take_succ_cons, List.take_zero, Bool.false_eq_true, List.nil_append, List.cons_append, Bool.not_true, Bool.not_false, cond_true, cond_false, bne, lv_ret, lv_normal, res1, res2, lv2_some, res_var, res_cell, lvf_v, lvf_slc, res1c, lvo1_some, e_mm, mm_max, mm_min]
    | false =>
    cases k3 : (k == 3) with
    | true =>
      simp only [if_true, Bool.false_eq_true, if_false]
      refine callW_pure (c := c32) rfl rfl 0 ?_
      cases b2 : (s.toList == (⟨#[]⟩ : ByteArray).toList) with
      | false => simp only [c32, start, List.replicate, c32_0, c32_1, c32_2, c32_4, c32_6, c32_7, k1, k2, k3, b2, hl, Bool.false_and, Bool.true_and, e_bslice1, e_bslice2, bs1, bs2, e_build, bdH_some, bd_nil, bd_cons, bd1, cl_agg, cl_int, toL, List.map_cons, List.map_nil, putAt, List.set_cons_zero, List.set_cons_succ, and_self, Nat.le_refl, evStore, app_get, app_set, g_agg, run_nil, run_cons, stp_plain, stp_guard, put_some, pass_eq, pick_tt, pick_ff, pick_tf, pick_ft, pick_u, reg_some, thn_normal, thn_exit, thn_ret, cnd_t, cnd_f, blk_normal, blk_ret, blk_exit, x_seq, x_region, x_cond, x_block, x_loop, x_ret, x_exit, x_skip, e_mov, e_pick, pk_t, pk_f, withH_some, e_box, bx_some, e_load, e_store, stH_some, e_nil, e_bin, e_eqv, eqH_f, eqH_t, e_un, e_fa, e_ia, ia_eq, nat_eq, natV_nat, e_len, lnH_some, e_extract, ex_0, ex_1, e_call0, e_call1, e_call2, e_call3, pc0_eq, pc1_some, pc2_some, pc3_some, fin_some, g_var0, g_vars, g_loc0, g_locs, g_int, g_bool, g_str, g_sl, s_none, s_zero, s_succ, cl_nil, cl_str, cl_bool, cl_slc, cl_own, evFa, evNil, evLoad, asEl, evBin, intBin, strBin, evUn, len_nil, len_slc, len_str, clr, List.length_nil, List.length_cons, List.getElem?_cons_zero, List.getElem?_cons_succ, Nat.reduceAdd, Nat.zero_add, Nat.add_zero, Nat.reduceLeDiff, Nat.reduceSub, ↓reduceIte, List.drop_succ_cons, List.drop_zero, List.take_succ_cons, List.take_zero, Bool.false_eq_true, List.nil_append, List.cons_append, Bool.not_true, Bool.not_false, cond_true, cond_false, bne, lv_ret, lv_normal, res1, res2, lv2_some, res_var, res_cell, lvf_v, lvf_slc, res1c, lvo1_some, e_mm, mm_max, mm_min]
      | true => simp only [c32, start, List.replicate, c32_0, c32_1, c32_2, c32_4, c32_6, c32_7, k1, k2, k3, b2, hl, Bool.false_and, Bool.true_and, e_bslice1, e_bslice2, bs1, bs2, e_build, bdH_some, bd_nil, bd_cons, bd1, cl_agg, cl_int, toL, List.map_cons, List.map_nil, putAt, List.set_cons_zero, List.set_cons_succ, and_self, Nat.le_refl, evStore, app_get, app_set, g_agg, run_nil, run_cons, stp_plain, stp_guard, put_some, pass_eq, pick_tt, pick_ff, pick_tf, pick_ft, pick_u, reg_some, thn_normal, thn_exit, thn_ret, cnd_t, cnd_f, blk_normal, blk_ret, blk_exit, x_seq, x_region, x_cond, x_block, x_loop, x_ret, x_exit, x_skip, e_mov, e_pick, pk_t, pk_f, withH_some, e_box, bx_some, e_load, e_store, stH_some, e_nil, e_bin, e_eqv, eqH_f, eqH_t, e_un, e_fa, e_ia, ia_eq, nat_eq, natV_nat, e_len, lnH_some, e_extract, ex_0, ex_1, e_call0, e_call1, e_call2, e_call3, pc0_eq, pc1_some, pc2_some, pc3_some, fin_some, g_var0, g_vars, g_loc0, g_locs, g_int, g_bool, g_str, g_sl, s_none, s_zero, s_succ, cl_nil, cl_str, cl_bool, cl_slc, cl_own, evFa, evNil, evLoad, asEl, evBin, intBin, strBin, evUn, len_nil, len_slc, len_str, clr, List.length_nil, List.length_cons, List.getElem?_cons_zero, List.getElem?_cons_succ, Nat.reduceAdd, Nat.zero_add, Nat.add_zero, Nat.reduceLeDiff, Nat.reduceSub, ↓reduceIte, List.drop_succ_cons, List.drop_zero, List.take_succ_cons, List.take_zero, Bool.false_eq_true, List.nil_append, List.cons_append, Bool.not_true, Bool.not_false, cond_true, cond_false, bne, lv_ret, lv_normal, res1, res2, lv2_some, res_var, res_cell, lvf_v, lvf_slc, res1c, lvo1_some, e_mm, mm_max, mm_min]
    | false =>
    cases k4 : (k == 4) with
    | false =>
      simp only [Bool.false_eq_true, if_false]
      refine callW_pure (c := c32) rfl rfl 0 ?_
      simp only [c32, start, List.replicate, c32_0, c32_1, c32_2, c32_4, c32_6, c32_8, c32_19, k1, k2, k3, k4, hl, e_bslice1, e_bslice2, bs1, bs2, e_build, bdH_some, bd_nil, bd_cons, bd1, cl_agg, cl_int, toL, List.map_cons, List.map_nil, putAt, List.set_cons_zero, List.set_cons_succ, and_self, Nat.le_refl, evStore, app_get, app_set, g_agg, run_nil, run_cons, stp_plain, stp_guard, put_some, pass_eq, pick_tt, pick_ff, pick_tf, pick_ft, pick_u, reg_some, thn_normal, thn_exit, thn_ret, cnd_t, cnd_f, blk_normal, blk_ret, blk_exit, x_seq, x_region, x_cond, x_block, x_loop, x_ret, x_exit, x_skip, e_mov, e_pick, pk_t, pk_f, withH_some, e_box, bx_some, e_load, e_store, stH_some, e_nil, e_bin, e_eqv, eqH_f, eqH_t, e_un, e_fa, e_ia, ia_eq, nat_eq, natV_nat, e_len, lnH_some, e_extract, ex_0, ex_1, e_call0, e_call1, e_call2, e_call3, pc0_eq, pc1_some, pc2_some, pc3_some, fin_some, g_var0, g_vars, g_loc0, g_locs, g_int, g_bool, g_str, g_sl, s_none, s_zero, s_succ, cl_nil, cl_str, cl_bool, cl_slc, cl_own, evFa, evNil, evLoad, asEl, evBin, intBin, strBin, evUn, len_nil, len_slc, len_str, clr, List.length_nil, List.length_cons, List.getElem?_cons_zero, List.getElem?_cons_succ, Nat.reduceAdd, Nat.zero_add, Nat.add_zero, Nat.reduceLeDiff, Nat.reduceSub, ↓reduceIte, List.drop_succ_cons, List.drop_zero, List.take_succ_cons, List.take_zero, Bool.false_eq_true, List.nil_append, List.cons_append, Bool.not_true, Bool.not_false, cond_true, cond_false, bne, lv_ret, lv_normal, res1, res2, lv2_some, res_var, res_cell, lvf_v, lvf_slc, res1c, lvo1_some, e_mm, mm_max, mm_min]
    | true =>
      simp only [if_true, Bool.false_eq_true, if_false]
      cases b1 : (n == 0) with
      | false =>
        refine callW_pure (c := c32) rfl rfl 0 ?_
        simp only [c32, start, List.replicate, c32_0, c32_1, c32_2, c32_4, c32_6, c32_8, c32_9, c32_10, k1, k2, k3, k4, b1, hl, hck, snaps, Bool.false_and, e_bslice1, e_bslice2, bs1, bs2, e_build, bdH_some, bd_nil, bd_cons, bd1, cl_agg, cl_int, toL, List.map_cons, List.map_nil, putAt, List.set_cons_zero, List.set_cons_succ, and_self, Nat.le_refl, evStore, app_get, app_set, g_agg, run_nil, run_cons, stp_plain, stp_guard, put_some, pass_eq, pick_tt, pick_ff, pick_tf, pick_ft, pick_u, reg_some, thn_normal, thn_exit, thn_ret, cnd_t, cnd_f, blk_normal, blk_ret, blk_exit, x_seq, x_region, x_cond, x_block, x_loop, x_ret, x_exit, x_skip, e_mov, e_pick, pk_t, pk_f, withH_some, e_box, bx_some, e_load, e_store, stH_some, e_nil, e_bin, e_eqv, eqH_f, eqH_t, e_un, e_fa, e_ia, ia_eq, nat_eq, natV_nat, e_len, lnH_some, e_extract, ex_0, ex_1, e_call0, e_call1, e_call2, e_call3, pc0_eq, pc1_some, pc2_some, pc3_some, fin_some, g_var0, g_vars, g_loc0, g_locs, g_int, g_bool, g_str, g_sl, s_none, s_zero, s_succ, cl_nil, cl_str, cl_bool, cl_slc, cl_own, evFa, evNil, evLoad, asEl, evBin, intBin, strBin, evUn, len_nil, len_slc, len_str, clr, List.length_nil, List.length_cons, List.getElem?_cons_zero, List.getElem?_cons_succ, Nat.reduceAdd, Nat.zero_add, Nat.add_zero, Nat.reduceLeDiff, Nat.reduceSub, ↓reduceIte, List.drop_succ_cons, List.drop_zero, List.take_succ_cons, List.take_zero, Bool.false_eq_true, List.nil_append, List.cons_append, Bool.not_true, Bool.not_false, cond_true, cond_false, bne, lv_ret, lv_normal, res1, res2, lv2_some, res_var, res_cell, lvf_v, lvf_slc, res1c, lvo1_some, e_mm, mm_max, mm_min]
      | true =>
      cases b2 : chk s with
      | false =>
        rw [b2] at hck
        refine callW_pure (c := c32) rfl rfl 0 ?_
        simp only [c32, start, List.replicate, c32_0, c32_1, c32_2, c32_4, c32_6, c32_8, c32_9, c32_10, k1, k2, k3, k4, b1, hl, hck, snaps, Bool.false_and, Bool.true_and, e_bslice1, e_bslice2, bs1, bs2, e_build, bdH_some, bd_nil, bd_cons, bd1, cl_agg, cl_int, toL, List.map_cons, List.map_nil, putAt, List.set_cons_zero, List.set_cons_succ, and_self, Nat.le_refl, evStore, app_get, app_set, g_agg, run_nil, run_cons, stp_plain, stp_guard, put_some, pass_eq, pick_tt, pick_ff, pick_tf, pick_ft, pick_u, reg_some, thn_normal, thn_exit, thn_ret, cnd_t, cnd_f, blk_normal, blk_ret, blk_exit, x_seq, x_region, x_cond, x_block, x_loop, x_ret, x_exit, x_skip, e_mov, e_pick, pk_t, pk_f, withH_some, e_box, bx_some, e_load, e_store, stH_some, e_nil, e_bin, e_eqv, eqH_f, eqH_t, e_un, e_fa, e_ia, ia_eq, nat_eq, natV_nat, e_len, lnH_some, e_extract, ex_0, ex_1, e_call0, e_call1, e_call2, e_call3, pc0_eq, pc1_some, pc2_some, pc3_some, fin_some, g_var0, g_vars, g_loc0, g_locs, g_int, g_bool, g_str, g_sl, s_none, s_zero, s_succ, cl_nil, cl_str, cl_bool, cl_slc, cl_own, evFa, evNil, evLoad, asEl, evBin, intBin, strBin, evUn, len_nil, len_slc, len_str, clr, List.length_nil, List.length_cons, List.getElem?_cons_zero, List.getElem?_cons_succ, Nat.reduceAdd, Nat.zero_add, Nat.add_zero, Nat.reduceLeDiff, Nat.reduceSub, ↓reduceIte, List.drop_succ_cons, List.drop_zero, List.take_succ_cons, List.take_zero, Bool.false_eq_true, List.nil_append, List.cons_append, Bool.not_true, Bool.not_false, cond_true, cond_false, bne, lv_ret, lv_normal, res1, res2, lv2_some, res_var, res_cell, lvf_v, lvf_slc, res1c, lvo1_some, e_mm, mm_max, mm_min]
      | true =>
      rw [b2] at hck
      cases b3 : decide ((es.length : Int) < 1) with
      | true =>
        refine callW_pure (c := c32) rfl rfl 0 ?_
        simp only [c32, start, List.replicate, c32_0, c32_1, c32_2, c32_4, c32_6, c32_8, c32_9, c32_10, k1, k2, k3, k4, b1, b3, hl, hck, snaps, Bool.false_and, Bool.true_and, e_bslice1, e_bslice2, bs1, bs2, e_build, bdH_some, bd_nil, bd_cons, bd1, cl_agg, cl_int, toL, List.map_cons, List.map_nil, putAt, List.set_cons_zero, List.set_cons_succ, and_self, Nat.le_refl, evStore, app_get, app_set, g_agg, run_nil, run_cons, stp_plain, stp_guard, put_some, pass_eq, pick_tt, pick_ff, pick_tf, pick_ft, pick_u, reg_some, thn_normal, thn_exit, thn_ret, cnd_t, cnd_f, blk_normal, blk_ret, blk_exit, x_seq, x_region, x_cond, x_block, x_loop, x_ret, x_exit, x_skip, e_mov, e_pick, pk_t, pk_f, withH_some, e_box, bx_some, e_load, e_store, stH_some, e_nil, e_bin, e_eqv, eqH_f, eqH_t, e_un, e_fa, e_ia, ia_eq, nat_eq, natV_nat, e_len, lnH_some, e_extract, ex_0, ex_1, e_call0, e_call1, e_call2, e_call3, pc0_eq, pc1_some, pc2_some, pc3_some, fin_some, g_var0, g_vars, g_loc0, g_locs, g_int, g_bool, g_str, g_sl, s_none, s_zero, s_succ, cl_nil, cl_str, cl_bool, cl_slc, cl_own, evFa, evNil, evLoad, asEl, evBin, intBin, strBin, evUn, len_nil, len_slc, len_str, clr, List.length_nil, List.length_cons, List.getElem?_cons_zero, List.getElem?_cons_succ, Nat.reduceAdd, Nat.zero_add, Nat.add_zero, Nat.reduceLeDiff, Nat.reduceSub, ↓reduceIte, List.drop_succ_cons, List.drop_zero, List.take_succ_cons, List.take_zero, Bool.false_eq_true, List.nil_append, List.cons_append, Bool.not_true, Bool.not_false, cond_true, cond_false, bne, lv_ret, lv_normal, res1, res2, lv2_some, res_var, res_cell, lvf_v, lvf_slc, res1c, lvo1_some, e_mm, mm_max, mm_min]
      | false =>
      cases b4 : decide ((es.length : Int) > 16) with
      | true =>
        refine callW_pure (c := c32) rfl rfl 0 ?_
        simp only [c32, start, List.replicate, c32_0, c32_1, c32_2, c32_4, c32_6, c32_8, c32_9, c32_10, k1, k2, k3, k4, b1, b3, b4, hl, hck, snaps, Bool.false_and, Bool.true_and, Bool.and_false, e_bslice1, e_bslice2, bs1, bs2, e_build, bdH_some, bd_nil, bd_cons, bd1, cl_agg, cl_int, toL, List.map_cons, List.map_nil, putAt, List.set_cons_zero, List.set_cons_succ, and_self, Nat.le_refl, evStore, app_get, app_set, g_agg, run_nil, run_cons, stp_plain, stp_guard, put_some, pass_eq, pick_tt, pick_ff, pick_tf, pick_ft, pick_u, reg_some, thn_normal, thn_exit, thn_ret, cnd_t, cnd_f, blk_normal, blk_ret, blk_exit, x_seq, x_region, x_cond, x_block, x_loop, x_ret, x_exit, x_skip, e_mov, e_pick, pk_t, pk_f, withH_some, e_box, bx_some, e_load, e_store, stH_some, e_nil, e_bin, e_eqv, eqH_f, eqH_t, e_un, e_fa, e_ia, ia_eq, nat_eq, natV_nat, e_len, lnH_some, e_extract, ex_0, ex_1, e_call0, e_call1, e_call2, e_call3, pc0_eq, pc1_some, pc2_some, pc3_some, fin_some, g_var0, g_vars, g_loc0, g_locs, g_int, g_bool, g_str, g_sl, s_none, s_zero, s_succ, cl_nil, cl_str, cl_bool, cl_slc, cl_own, evFa, evNil, evLoad, asEl, evBin, intBin, strBin, evUn, len_nil, len_slc, len_str, clr, List.length_nil, List.length_cons, List.getElem?_cons_zero, List.getElem?_cons_succ, Nat.reduceAdd, Nat.zero_add, Nat.add_zero, Nat.reduceLeDiff, Nat.reduceSub, ↓reduceIte, List.drop_succ_cons, List.drop_zero, List.take_succ_cons, List.take_zero, Bool.false_eq_true, List.nil_append, List.cons_append, Bool.not_true, Bool.not_false, cond_true, cond_false, bne, lv_ret, lv_normal, res1, res2, lv2_some, res_var, res_cell, lvf_v, lvf_slc, res1c, lvo1_some, e_mm, mm_max, mm_min]
      | false =>
      have key := may_loop (K := l.length + 1) hs (by omega) l 0 [.box [.v (.int .i64 k), .v (.string s), .v (.int .i64 n), c]] (L32' c es.length (0 : Nat)) (by omega) (by simpa using hes) hcall rfl
      refine callW_pure (c := c32) rfl rfl (l.length + 1) ?_
      generalize hlp : (CC.loop [false, false, false, false, false, false, false, false, false, false, true, true, true, false, false] [] c32_17) = lp
      have hx : ∀ (vars : List AV) (h : List AO), exec (callW F) (l.length + 1) lp vars h = loopN (exec (callW F) (l.length + 1) c32_17) K32' (l.length + 1) vars h := fun _ _ => by rw [← hlp]; rfl
      simp only [c32, hlp, hx, start, List.replicate, c32_0, c32_1, c32_2, c32_4, c32_6, c32_8, c32_9, c32_11, k1, k2, k3, k4, b1, b3, b4, hl, hck, snaps, Bool.false_and, Bool.true_and, e_bslice1, e_bslice2, bs1, bs2, e_build, bdH_some, bd_nil, bd_cons, bd1, cl_agg, cl_int, toL, List.map_cons, List.map_nil, putAt, List.set_cons_zero, List.set_cons_succ, and_self, Nat.le_refl, evStore, app_get, app_set, g_agg, run_nil, run_cons, stp_plain, stp_guard, put_some, pass_eq, pick_tt, pick_ff, pick_tf, pick_ft, pick_u, reg_some, thn_normal, thn_exit, thn_ret, cnd_t, cnd_f, blk_normal, blk_ret, blk_exit, x_seq, x_region, x_cond, x_block, x_loop, x_ret, x_exit, x_skip, e_mov, e_pick, pk_t, pk_f, withH_some, e_box, bx_some, e_load, e_store, stH_some, e_nil, e_bin, e_eqv, eqH_f, eqH_t, e_un, e_fa, e_ia, ia_eq, nat_eq, natV_nat, e_len, lnH_some, e_extract, ex_0, ex_1, e_call0, e_call1, e_call2, e_call3, pc0_eq, pc1_some, pc2_some, pc3_some, fin_some, g_var0, g_vars, g_loc0, g_locs, g_int, g_bool, g_str, g_sl, s_none, s_zero, s_succ, cl_nil, cl_str, cl_bool, cl_slc, cl_own, evFa, evNil, evLoad, asEl, evBin, intBin, strBin, evUn, len_nil, len_slc, len_str, clr, List.length_nil, List.length_cons, List.getElem?_cons_zero, List.getElem?_cons_succ, Nat.reduceAdd, Nat.zero_add, Nat.add_zero, Nat.reduceLeDiff, Nat.reduceSub, ↓reduceIte, List.drop_succ_cons, List.drop_zero, List.take_succ_cons, List.take_zero, Bool.false_eq_true, List.nil_append, List.cons_append, Bool.not_true, Bool.not_false, cond_true, cond_false, bne, lv_ret, lv_normal, res1, res2, lv2_some, res_var, res_cell, lvf_v, lvf_slc, res1c, lvo1_some, e_mm, mm_max, mm_min]
      rw [loop_cong (v2 := L32' c es.length ((0 : Nat) : Int)) (by rfl)]
      rcases key with ⟨h0, vs, h', g1, g2⟩ | ⟨h0, vs, h', g1, g2⟩
      · rw [g1, h0]
        simp only [blk_ret, thn_ret, g2, run_nil, run_cons, stp_plain, stp_guard, put_some, pass_eq, pick_tt, pick_ff, pick_tf, pick_ft, pick_u, reg_some, thn_normal, thn_exit, thn_ret, cnd_t, cnd_f, blk_normal, blk_ret, blk_exit, x_seq, x_region, x_cond, x_block, x_loop, x_ret, x_exit, x_skip, e_mov, e_pick, pk_t, pk_f, withH_some, e_box, bx_some, e_load, e_store, stH_some, e_nil, e_bin, e_eqv, eqH_f, eqH_t, e_un, e_fa, e_ia, ia_eq, nat_eq, natV_nat, e_len, lnH_some, e_extract, ex_0, ex_1, e_call0, e_call1, e_call2, e_call3, pc0_eq, pc1_some, pc2_some, pc3_some, fin_some, g_var0, g_vars, g_loc0, g_locs, g_int, g_bool, g_str, g_sl, s_none, s_zero, s_succ, cl_nil, cl_str, cl_bool, cl_slc, cl_own, evFa, evNil, evLoad, asEl, evBin, intBin, strBin, evUn, len_nil, len_slc, len_str, clr, List.length_nil, List.length_cons, List.getElem?_cons_zero, List.getElem?_cons_succ, Nat.reduceAdd, Nat.zero_add, Nat.add_zero, Nat.reduceLeDiff, Nat.reduceSub, ↓reduceIte, List.drop_succ_cons, List.drop_zero, List.take_succ_cons, List.take_zero, Bool.false_eq_true, List.nil_append, List.cons_append, Bool.not_true, Bool.not_false, cond_true, cond_false, bne, lv_ret, lv_normal, res1, res2, lv2_some, res_var, res_cell, lvf_v, lvf_slc, res1c, lvo1_some, e_mm, mm_max, mm_min]
      · rw [g1, h0]
        match vs, g2 with
        | [a0, a1, a2, a3, a4, a5, a6, a7, a8, a9, a10, a11, a12, a13, a14], _ => simp only [blk_exit, thn_normal, blk_ret, thn_ret, c32_18, run_nil, run_cons, stp_plain, stp_guard, put_some, pass_eq, pick_tt, pick_ff, pick_tf, pick_ft, pick_u, reg_some, thn_normal, thn_exit, thn_ret, cnd_t, cnd_f, blk_normal, blk_ret, blk_exit, x_seq, x_region, x_cond, x_block, x_loop, x_ret, x_exit, x_skip, e_mov, e_pick, pk_t, pk_f, withH_some, e_box, bx_some, e_load, e_store, stH_some, e_nil, e_bin, e_eqv, eqH_f, eqH_t, e_un, e_fa, e_ia, ia_eq, nat_eq, natV_nat, e_len, lnH_some, e_extract, ex_0, ex_1, e_call0, e_call1, e_call2, e_call3, pc0_eq, pc1_some, pc2_some, pc3_some, fin_some, g_var0, g_vars, g_loc0, g_locs, g_int, g_bool, g_str, g_sl, s_none, s_zero, s_succ, cl_nil, cl_str, cl_bool, cl_slc, cl_own, evFa, evNil, evLoad, asEl, evBin, intBin, strBin, evUn, len_nil, len_slc, len_str, clr, List.length_nil, List.length_cons, List.getElem?_cons_zero, List.getElem?_cons_succ, Nat.reduceAdd, Nat.zero_add, Nat.add_zero, Nat.reduceLeDiff, Nat.reduceSub, ↓reduceIte, List.drop_succ_cons, List.drop_zero, List.take_succ_cons, List.take_zero, Bool.false_eq_true, List.nil_append, List.cons_append, Bool.not_true, Bool.not_false, cond_true, cond_false, bne, lv_ret, lv_normal, res1, res2, lv2_some, res_var, res_cell, lvf_v, lvf_slc, res1c, lvo1_some, e_mm, mm_max, mm_min]

/-- the document's Check -/
def checkT (t : Tm) : Int := if mayT t then (if deepT t > 60 then 3 else 0) else 30
theorem check_ok {t : Tm} {a : AV} (hsz : size t ≤ 100000) (ha : IsT a t) : callW F 12 [a] [] = some (.v (.int .i64 (checkT t)), []) := by
  have h1 := may_ok _ t a (Nat.lt_succ_self _) hsz ha
  have h2 := deep_ok _ t a (Nat.lt_succ_self _) hsz ha
  have q5 : ∀ h : List AO, a.snap1 h = some a := fun h => ha.snap
  refine callW_pure (c := c12) rfl rfl 0 ?_
  unfold checkT
  cases hm : mayT t with
  | false =>
    rw [hm] at h1
    cases ha
    simp only [c12, start, List.replicate, c12_0, c12_1, c12_2, h1, q5, Bool.false_eq_true, if_false, e_bslice1, e_bslice2, bs1, bs2, e_build, bdH_some, bd_nil, bd_cons, bd1, cl_agg, cl_int, toL, List.map_cons, List.map_nil, putAt, List.set_cons_zero, List.set_cons_succ, and_self, Nat.le_refl, evStore, app_get, app_set, g_agg, run_nil, run_cons, stp_plain, stp_guard, put_some, pass_eq, pick_tt, pick_ff, pick_tf, pick_ft, pick_u, reg_some, thn_normal, thn_exit, thn_ret, cnd_t, cnd_f, blk_normal, blk_ret, blk_exit, x_seq, x_region, x_cond, x_block, x_loop, x_ret, x_exit, x_skip, e_mov, e_pick, pk_t, pk_f, withH_some, e_box, bx_some, e_load, e_store, stH_some, e_nil, e_bin, e_eqv, eqH_f, eqH_t, e_un, e_fa, e_ia, ia_eq, nat_eq, natV_nat, e_len, lnH_some, e_extract, ex_0, ex_1, e_call0, e_call1, e_call2, e_call3, pc0_eq, pc1_some, pc2_some, pc3_some, fin_some, g_var0, g_vars, g_loc0, g_locs, g_int, g_bool, g_str, g_sl, s_none, s_zero, s_succ, cl_nil, cl_str, cl_bool, cl_slc, cl_own, evFa, evNil, evLoad, asEl, evBin, intBin, strBin, evUn, len_nil, len_slc, len_str, clr, List.length_nil, List.length_cons, List.getElem?_cons_zero, List.getElem?_cons_succ, Nat.reduceAdd, Nat.zero_add, Nat.add_zero, Nat.reduceLeDiff, Nat.reduceSub, ↓reduceIte, List.drop_succ_cons, List.drop_zero, List.take_succ_cons, List.take_zero, Bool.false_eq_true, List.nil_append, List.cons_append, Bool.not_true, Bool.not_false, cond_true, cond_false, bne, lv_ret, lv_normal, res1, res2, lv2_some, res_var, res_cell, lvf_v, lvf_slc, res1c, lvo1_some, e_mm, mm_max, mm_min]
  | true =>
    rw [hm] at h1
    by_cases hd : deepT t > 60
    · have d1 : decide (deepT t > 60) = true := by simpa using hd
      rw [if_pos rfl, if_pos hd]
      generalize deepT t = D at h2 d1
      cases ha
      simp only [c12, start, List.replicate, c12_0, c12_1, c12_3, c12_4, h1, h2, d1, q5, e_bslice1, e_bslice2, bs1, bs2, e_build, bdH_some, bd_nil, bd_cons, bd1, cl_agg, cl_int, toL, List.map_cons, List.map_nil, putAt, List.set_cons_zero, List.set_cons_succ, and_self, Nat.le_refl, evStore, app_get, app_set, g_agg, run_nil, run_cons, stp_plain, stp_guard, put_some, pass_eq, pick_tt, pick_ff, pick_tf, pick_ft, pick_u, reg_some, thn_normal, thn_exit, thn_ret, cnd_t, cnd_f, blk_normal, blk_ret, blk_exit, x_seq, x_region, x_cond, x_block, x_loop, x_ret, x_exit, x_skip, e_mov, e_pick, pk_t, pk_f, withH_some, e_box, bx_some, e_load, e_store, stH_some, e_nil, e_bin, e_eqv, eqH_f, eqH_t, e_un, e_fa, e_ia, ia_eq, nat_eq, natV_nat, e_len, lnH_some, e_extract, ex_0, ex_1, e_call0, e_call1, e_call2, e_call3, pc0_eq, pc1_some, pc2_some, pc3_some, fin_some, g_var0, g_vars, g_loc0, g_locs, g_int, g_bool, g_str, g_sl, s_none, s_zero, s_succ, cl_nil, cl_str, cl_bool, cl_slc, cl_own, evFa, evNil, evLoad, asEl, evBin, intBin, strBin, evUn, len_nil, len_slc, len_str, clr, List.length_nil, List.length_cons, List.getElem?_cons_zero, List.getElem?_cons_succ, Nat.reduceAdd, Nat.zero_add, Nat.add_zero, Nat.reduceLeDiff, Nat.reduceSub, ↓reduceIte, List.drop_succ_cons, List.drop_zero, List.take_succ_cons, List.take_zero, Bool.false_eq_true, List.nil_append, List.cons_append, Bool.not_true, Bool.not_false, cond_true, cond_false, bne, lv_ret, lv_normal, res1, res2, lv2_some, res_var, res_cell, lvf_v, lvf_slc, res1c, lvo1_some, e_mm, mm_max, mm_min]
    · have d1 : decide (deepT t > 60) = false := by simpa using hd
      rw [if_pos rfl, if_neg hd]
      generalize deepT t = D at h2 d1
      cases ha
      simp only [c12, start, List.replicate, c12_0, c12_1, c12_3, c12_5, h1, h2, d1, q5, e_bslice1, e_bslice2, bs1, bs2, e_build, bdH_some, bd_nil, bd_cons, bd1, cl_agg, cl_int, toL, List.map_cons, List.map_nil, putAt, List.set_cons_zero, List.set_cons_succ, and_self, Nat.le_refl, evStore, app_get, app_set, g_agg, run_nil, run_cons, stp_plain, stp_guard, put_some, pass_eq, pick_tt, pick_ff, pick_tf, pick_ft, pick_u, reg_some, thn_normal, thn_exit, thn_ret, cnd_t, cnd_f, blk_normal, blk_ret, blk_exit, x_seq, x_region, x_cond, x_block, x_loop, x_ret, x_exit, x_skip, e_mov, e_pick, pk_t, pk_f, withH_some, e_box, bx_some, e_load, e_store, stH_some, e_nil, e_bin, e_eqv, eqH_f, eqH_t, e_un, e_fa, e_ia, ia_eq, nat_eq, natV_nat, e_len, lnH_some, e_extract, ex_0, ex_1, e_call0, e_call1, e_call2, e_call3, pc0_eq, pc1_some, pc2_some, pc3_some, fin_some, g_var0, g_vars, g_loc0, g_locs, g_int, g_bool, g_str, g_sl, s_none, s_zero, s_succ, cl_nil, cl_str, cl_bool, cl_slc, cl_own, evFa, evNil, evLoad, asEl, evBin, intBin, strBin, evUn, len_nil, len_slc, len_str, clr, List.length_nil, List.length_cons, List.getElem?_cons_zero, List.getElem?_cons_succ, Nat.reduceAdd, Nat.zero_add, Nat.add_zero, Nat.reduceLeDiff, Nat.reduceSub, ↓reduceIte, List.drop_succ_cons, List.drop_zero, List.take_succ_cons, List.take_zero, Bool.false_eq_true, List.nil_append, List.cons_append, Bool.not_true, Bool.not_false, cond_true, cond_false, bne, lv_ret, lv_normal, res1, res2, lv2_some, res_var, res_cell, lvf_v, lvf_slc, res1c, lvo1_some, e_mm, mm_max, mm_min]
end Go.AE.YtpgoibncgekflaaDoor
end

/-! Terms that may be. -/
section
set_option linter.unusedVariables false
set_option linter.unusedSimpArgs false
namespace Go.AE.YtpgoibncgekflaaDoor
open Go Go.AE Go.Proofs.YtpgoibncgekflaaDoor

theorem bytes_inj {s s' : ByteArray} (h : s.data.toList = s'.data.toList) : s = s' := by
  cases s with
  | mk a =>
  cases s' with
  | mk b =>
  simp only at h
  have := Array.toList_inj.1 h
  rw [this]
theorem may_args {k n : Int} {s : ByteArray} {l : List Tm} (h : mayT (.mk k s n l) = true) : (k = 1 ∨ k = 2 ∨ k = 3 ∨ k = 4) ∧ (l = [] ∨ k = 4) := by
  simp only [mayT] at h
  by_cases h1 : (k == 1) = true
  · rw [if_pos h1] at h
    simp only [Bool.and_eq_true, beq_iff_eq] at h h1
    exact ⟨.inl h1, .inl (List.length_eq_zero_iff.1 (by have := h.2; omega))⟩
  rw [if_neg h1] at h
  by_cases h2 : (k == 2) = true
  · rw [if_pos h2] at h
    simp only [Bool.and_eq_true, beq_iff_eq] at h h2
    exact ⟨.inr (.inl h2), .inl (List.length_eq_zero_iff.1 (by have := h.2; omega))⟩
  rw [if_neg h2] at h
  by_cases h3 : (k == 3) = true
  · rw [if_pos h3] at h
    simp only [Bool.and_eq_true, beq_iff_eq] at h h3
    exact ⟨.inr (.inr (.inl h3)), .inl (List.length_eq_zero_iff.1 (by have := h.2; omega))⟩
  rw [if_neg h3] at h
  by_cases h4 : (k == 4) = true
  · simp only [beq_iff_eq] at h4
    exact ⟨.inr (.inr (.inr h4)), .inr h4⟩
  rw [if_neg h4] at h
  cases h
theorem walkT_may {rs : List (Int × Tm)} (hrs : ∀ p ∈ rs, mayT p.2 = true) : ∀ (m : Nat) (t : Tm), mayT t = true → (walkT rs m t).2.1 = 0 → mayT (walkT rs m t).1 = true := by
  intro m
  induction m with
  | zero =>
    intro t ht
    simp only [walkT]
    split
    · intro h; simp at h
    · intro _; exact ht
  | succ m ih =>
    intro t ht
    simp only [walkT]
    split
    · rename_i t' hb
      obtain ⟨p, hp, rfl⟩ := bound_mem hb
      exact ih _ (hrs p hp)
    · intro _; exact ht
theorem meetT_may {rs : List (Int × Tm)} (hrs : ∀ p ∈ rs, mayT p.2 = true) (m : Nat) (t : Tm) (ht : mayT t = true) (h : (meetT rs m t).2.1 = 0) : mayT (meetT rs m t).1 = true := by
  cases m with
  | zero => simp [meetT] at h
  | succ m => exact walkT_may hrs m t ht h
theorem nextT_may {rs : List (Int × Tm)} (hrs : ∀ p ∈ rs, mayT p.2 = true) {m : Nat} {x y : Tm} (hx : mayT x = true) (hy : mayT y = true) (h : (nextT rs m x y).2.2.1 = 0) : mayT (nextT rs m x y).1 = true ∧ mayT (nextT rs m x y).2.1 = true := by
  by_cases h0 : (meetT rs m x).2.1 = 0
  · simp only [nextT, if_pos h0] at h ⊢
    exact ⟨meetT_may hrs m x hx h0, meetT_may hrs _ y hy h⟩
  · simp only [nextT, if_neg h0] at h
    exact absurd h h0
theorem mayL_mem : ∀ {l : List Tm} {t : Tm}, mayL l = true → t ∈ l → mayT t = true
  | [], _, _, h => by simp at h
  | u :: l, t, h, ht => by
    simp only [mayL, Bool.and_eq_true] at h
    rcases List.mem_cons.1 ht with e | e
    · rw [e]; exact h.1
    · exact mayL_mem h.2 e
theorem may_sub {k n : Int} {s : ByteArray} {l : List Tm} (h : mayT (.mk k s n l) = true) : mayL l = true := by
  rcases (may_args h).2 with e | e
  · rw [e]; rfl
  · subst e
    simp only [mayT] at h
    simp at h
    exact h.2

end Go.AE.YtpgoibncgekflaaDoor
end

/-! Whether two lists of bindings are the same; whether bindings and terms may be. -/
section
set_option linter.unusedVariables false
set_option linter.unusedSimpArgs false
namespace Go.AE.YtpgoibncgekflaaDoor
open Go Go.AE Go.Proofs.YtpgoibncgekflaaDoor

theorem IsB.sl' {c : AV} {l : List (Int × Tm)} (h : IsB c l) : ∃ es, Sl 5 c es ∧ AllB es l ∧ es.length ≤ maxLen := by
  cases h with
  | nil => exact ⟨[], .nil, .nil, by simp⟩
  | slc ex nn es l h hb => exact ⟨es, .slc ex nn es, h, hb⟩
def sameBL : List (Int × Tm) → List (Int × Tm) → Bool
  | (v, t) :: l, (v', t') :: l' => (v == v') && same t t' && sameBL l l'
  | _, _ => true
def sameB (l l' : List (Int × Tm)) : Bool := decide (l.length = l'.length) && sameBL l l'
def K24 : List Bool := [true, true, false, false, false, true, true, false, false]
def L24 (a b : AV) (len i : Int) : List AV := [a, b, .junk, .junk, .junk, .v (.int .i64 len), .v (.int .i64 i), .junk, .junk]
theorem sb_loop {K : Nat} {a b : AV} {es es' : List AV} (hs : Sl 5 a es) (hs' : Sl 5 b es') (hlen : es.length = es'.length) (hm : es.length ≤ 200000) :
    ∀ (l l' : List (Int × Tm)) (i : Nat) (h : List AO) (vars : List AV), i + l.length = es.length → AllB (es.drop i) l → AllB (es'.drop i) l' → clr K24 vars = L24 a b es.length i →
      (sameBL l l' = true ∧ ∃ vs h', loopN (exec (callW F) K c24_9) K24 (l.length + 1) vars h = some (.exit 0, vs, h') ∧ vs.length = 9) ∨
      (sameBL l l' = false ∧ ∃ vs h', loopN (exec (callW F) K c24_9) K24 (l.length + 1) vars h = some (.ret, vs, h') ∧ getO vs [] (.var 2) = .v (.bool false)) := by
  intro l
  induction l with
  | nil =>
    intro l' i h vars hi _ _ hv
    have hil : i = es.length := by simpa using hi
    subst hil
    have hlt : decide ((es.length : Int) < (es.length : Int)) = false := by simp
    refine .inl ⟨rfl, [a, b, .junk, .junk, .junk, .v (.int .i64 es.length), .v (.int .i64 es.length), .v (.bool false), .junk], h, loop_exit ?_, rfl⟩
    rw [hv]
    simp only [L24, c24_9, c24_4, hlt, e_bslice1, e_bslice2, bs1, bs2, e_build, bdH_some, bd_nil, bd_cons, bd1, cl_agg, cl_int, toL, List.map_cons, List.map_nil, putAt, List.set_cons_zero, List.set_cons_succ, and_self, Nat.le_refl, app_get, app_set, g_agg, run_nil, run_cons, stp_plain, stp_guard, put_some, pass_eq, pick_tt, pick_ff, pick_tf, pick_ft, pick_u, reg_some, thn_normal, thn_exit, thn_ret, cnd_t, cnd_f, blk_normal, blk_ret, blk_exit, x_seq, x_region, x_cond, x_block, x_loop, x_ret, x_exit, x_skip, e_mov, e_pick, pk_t, pk_f, withH_some, e_box, bx_some, e_load, e_store, stH_some, e_nil, e_bin, e_eqv, eqH_f, eqH_t, e_un, e_fa, e_ia, ia_eq, nat_eq, natV_nat, e_len, lnH_some, e_extract, ex_0, ex_1, e_call0, e_call1, e_call2, e_call3, pc0_eq, pc1_some, pc2_some, pc3_some, fin_some, g_var0, g_vars, g_loc0, g_locs, g_int, g_bool, g_str, g_sl, s_none, s_zero, s_succ, cl_nil, cl_str, cl_bool, cl_slc, cl_own, evFa, evNil, asEl, evBin, intBin, strBin, evUn, len_nil, len_slc, len_str, clr, List.length_nil, List.length_cons, List.getElem?_cons_zero, List.getElem?_cons_succ, Nat.reduceAdd, Nat.zero_add, Nat.add_zero, Nat.reduceLeDiff, Nat.reduceSub, ↓reduceIte, List.drop_succ_cons, List.drop_zero, List.take_succ_cons, List.take_zero, Bool.false_eq_true, List.nil_append, List.cons_append, Bool.not_true, Bool.not_false, cond_true, cond_false, bne, lv_ret, lv_normal, res1, res2, lv2_some, res_var, res_cell, lvf_v, lvf_slc, res1c, lvo1_some, e_mm, mm_max, mm_min]
  | cons p l ih =>
    intro l' i h vars hi hes hes' hv
    obtain ⟨v, t⟩ := p
    have hil : i < es.length := by simp at hi; omega
    have hil' : i < es'.length := by omega
    have he : es[i]? = some (es[i]'hil) := List.getElem?_eq_getElem _
    have he' : es'[i]? = some (es'[i]'hil') := List.getElem?_eq_getElem _
    have hd : es.drop i = es[i] :: es.drop (i + 1) := List.drop_eq_getElem_cons hil
    have hd' : es'.drop i = es'[i] :: es'.drop (i + 1) := List.drop_eq_getElem_cons hil'
    rw [hd] at hes
    rw [hd'] at hes'
    generalize es[i]'hil = e at hes he
    generalize es'[i]'hil' = e' at hes' he'
    cases hes with
    | cons _ _ _ _ _ hT hsr =>
    cases hes' with
    | cons _ v' t' _ l' hT' hsr' =>
    cases hT with
    | mk v cs t ht =>
    cases hT' with
    | mk v' cs' t' ht' =>
    have hlt : (decide ((i : Int) < (es.length : Int))) = true := by simp; omega
    have q1 := hs.ia he
    have q2 := hs'.ia he'
    have hcs : cs.length = 4 := ht.cl.2
    have hcs' : cs'.length = 4 := ht'.cl.2
    have q3 : ∀ h : List AO, evLoad h true 4 (.ip cs) = some (.agg cs) := fun h => ht.load
    have q4 : ∀ h : List AO, evLoad h true 4 (.ip cs') = some (.agg cs') := fun h => ht'.load
    have q5 : ∀ (h : List AO) (x : AV) (cs : List AV), evLoad h false 1 (.ip (x :: cs)) = some x := by
      intro h x cs; simp [evLoad, asEl]
    have s1 : ∀ h : List AO, (AV.agg cs).snap1 h = some (.agg cs) := fun h => ht.snap
    have s2 : ∀ h : List AO, (AV.agg cs').snap1 h = some (.agg cs') := fun h => ht'.snap
    have hsm := same_ok _ t t' _ _ (Nat.lt_succ_self _) ht ht'
    have hsm : callW F 16 [.agg cs, .agg cs'] [] = some (.v (.bool (same t t')), []) := hsm
    simp only [AV.cells] at q1 q2
    cases hvv : (v == v') with
    | false =>
      refine .inr ⟨by simp [sameBL, hvv], [a, b, .v (.bool false), .v (.int .i64 i), .junk, .v (.int .i64 es.length), .v (.int .i64 i), .v (.bool true), .v (.bool true)], h, loop_ret ?_, rfl⟩
      rw [hv]
      simp only [L24, AV.cells, c24_9, c24_4, c24_5, c24_6, c24_7, hlt, q1, q2, q3, q4, q5, hvv, e_bslice1, e_bslice2, bs1, bs2, e_build, bdH_some, bd_nil, bd_cons, bd1, cl_agg, cl_int, toL, List.map_cons, List.map_nil, putAt, List.set_cons_zero, List.set_cons_succ, and_self, Nat.le_refl, app_get, app_set, g_agg, run_nil, run_cons, stp_plain, stp_guard, put_some, pass_eq, pick_tt, pick_ff, pick_tf, pick_ft, pick_u, reg_some, thn_normal, thn_exit, thn_ret, cnd_t, cnd_f, blk_normal, blk_ret, blk_exit, x_seq, x_region, x_cond, x_block, x_loop, x_ret, x_exit, x_skip, e_mov, e_pick, pk_t, pk_f, withH_some, e_box, bx_some, e_load, e_store, stH_some, e_nil, e_bin, e_eqv, eqH_f, eqH_t, e_un, e_fa, e_ia, ia_eq, nat_eq, natV_nat, e_len, lnH_some, e_extract, ex_0, ex_1, e_call0, e_call1, e_call2, e_call3, pc0_eq, pc1_some, pc2_some, pc3_some, fin_some, g_var0, g_vars, g_loc0, g_locs, g_int, g_bool, g_str, g_sl, s_none, s_zero, s_succ, cl_nil, cl_str, cl_bool, cl_slc, cl_own, evFa, evNil, asEl, evBin, intBin, strBin, evUn, len_nil, len_slc, len_str, clr, List.length_nil, List.length_cons, List.getElem?_cons_zero, List.getElem?_cons_succ, Nat.reduceAdd, Nat.zero_add, Nat.add_zero, Nat.reduceLeDiff, Nat.reduceSub, ↓reduceIte, List.drop_succ_cons, List.drop_zero, List.take_succ_cons, List.take_zero, Bool.false_eq_true, List.nil_append, List.cons_append, Bool.not_true, Bool.not_false, cond_true, cond_false, bne, lv_ret, lv_normal, res1, res2, lv2_some, res_var, res_cell, lvf_v, lvf_slc, res1c, lvo1_some, e_mm, mm_max, mm_min]
    | true =>
    cases hsv : same t t' with
    | false =>
      rw [hsv] at hsm
      refine .inr ⟨by simp [sameBL, hsv], [a, b, .v (.bool false), .v (.int .i64 i), .junk, .v (.int .i64 es.length), .v (.int .i64 i), .v (.bool true), .v (.bool true)], h, loop_ret ?_, rfl⟩
      rw [hv]
      simp only [L24, AV.cells, c24_9, c24_4, c24_5, c24_6, c24_7, hlt, q1, q2, q3, q4, q5, s1, s2, hvv, hsm, e_bslice1, e_bslice2, bs1, bs2, e_build, bdH_some, bd_nil, bd_cons, bd1, cl_agg, cl_int, toL, List.map_cons, List.map_nil, putAt, List.set_cons_zero, List.set_cons_succ, and_self, Nat.le_refl, app_get, app_set, g_agg, run_nil, run_cons, stp_plain, stp_guard, put_some, pass_eq, pick_tt, pick_ff, pick_tf, pick_ft, pick_u, reg_some, thn_normal, thn_exit, thn_ret, cnd_t, cnd_f, blk_normal, blk_ret, blk_exit, x_seq, x_region, x_cond, x_block, x_loop, x_ret, x_exit, x_skip, e_mov, e_pick, pk_t, pk_f, withH_some, e_box, bx_some, e_load, e_store, stH_some, e_nil, e_bin, e_eqv, eqH_f, eqH_t, e_un, e_fa, e_ia, ia_eq, nat_eq, natV_nat, e_len, lnH_some, e_extract, ex_0, ex_1, e_call0, e_call1, e_call2, e_call3, pc0_eq, pc1_some, pc2_some, pc3_some, fin_some, g_var0, g_vars, g_loc0, g_locs, g_int, g_bool, g_str, g_sl, s_none, s_zero, s_succ, cl_nil, cl_str, cl_bool, cl_slc, cl_own, evFa, evNil, asEl, evBin, intBin, strBin, evUn, len_nil, len_slc, len_str, clr, List.length_nil, List.length_cons, List.getElem?_cons_zero, List.getElem?_cons_succ, Nat.reduceAdd, Nat.zero_add, Nat.add_zero, Nat.reduceLeDiff, Nat.reduceSub, ↓reduceIte, List.drop_succ_cons, List.drop_zero, List.take_succ_cons, List.take_zero, Bool.false_eq_true, List.nil_append, List.cons_append, Bool.not_true, Bool.not_false, cond_true, cond_false, bne, lv_ret, lv_normal, res1, res2, lv2_some, res_var, res_cell, lvf_v, lvf_slc, res1c, lvo1_some, e_mm, mm_max, mm_min]
    | true =>
      rw [hsv] at hsm
      have hw : IntKind.i64.wrap ((i : Int) + 1) = ((i + 1 : Nat) : Int) := by rw [wrap_ok (by omega) (by omega)]; omega
      have st : exec (callW F) K c24_9 (L24 a b es.length i) h = some (.normal, [a, b, .junk, .v (.int .i64 i), .junk, .v (.int .i64 es.length), .v (.int .i64 ((i + 1 : Nat) : Int)), .v (.bool true), .v (.bool false)], h) := by
        simp only [L24, AV.cells, c24_9, c24_4, c24_5, c24_6, c24_8, hlt, hw, q1, q2, q3, q4, q5, s1, s2, hvv, hsm, e_bslice1, e_bslice2, bs1, bs2, e_build, bdH_some, bd_nil, bd_cons, bd1, cl_agg, cl_int, toL, List.map_cons, List.map_nil, putAt, List.set_cons_zero, List.set_cons_succ, and_self, Nat.le_refl, app_get, app_set, g_agg, run_nil, run_cons, stp_plain, stp_guard, put_some, pass_eq, pick_tt, pick_ff, pick_tf, pick_ft, pick_u, reg_some, thn_normal, thn_exit, thn_ret, cnd_t, cnd_f, blk_normal, blk_ret, blk_exit, x_seq, x_region, x_cond, x_block, x_loop, x_ret, x_exit, x_skip, e_mov, e_pick, pk_t, pk_f, withH_some, e_box, bx_some, e_load, e_store, stH_some, e_nil, e_bin, e_eqv, eqH_f, eqH_t, e_un, e_fa, e_ia, ia_eq, nat_eq, natV_nat, e_len, lnH_some, e_extract, ex_0, ex_1, e_call0, e_call1, e_call2, e_call3, pc0_eq, pc1_some, pc2_some, pc3_some, fin_some, g_var0, g_vars, g_loc0, g_locs, g_int, g_bool, g_str, g_sl, s_none, s_zero, s_succ, cl_nil, cl_str, cl_bool, cl_slc, cl_own, evFa, evNil, asEl, evBin, intBin, strBin, evUn, len_nil, len_slc, len_str, clr, List.length_nil, List.length_cons, List.getElem?_cons_zero, List.getElem?_cons_succ, Nat.reduceAdd, Nat.zero_add, Nat.add_zero, Nat.reduceLeDiff, Nat.reduceSub, ↓reduceIte, List.drop_succ_cons, List.drop_zero, List.take_succ_cons, List.take_zero, Bool.false_eq_true, List.nil_append, List.cons_append, Bool.not_true, Bool.not_false, cond_true, cond_false, bne, lv_ret, lv_normal, res1, res2, lv2_some, res_var, res_cell, lvf_v, lvf_slc, res1c, lvo1_some, e_mm, mm_max, mm_min]
      rw [show ((v, t) :: l).length + 1 = (l.length + 1) + 1 from rfl, loop_normal (by rw [hv]; exact st)]
      have e1 : sameBL ((v, t) :: l) ((v', t') :: l') = sameBL l l' := by simp [sameBL, hvv, hsv]
      rw [e1]
      exact ih l' (i + 1) h _ (by simp at hi; omega) hsr hsr' rfl
theorem sameB_ok {a b : AV} {bs bs' : List (Int × Tm)} (ha : IsB a bs) (hb : IsB b bs') (hl : bs.length ≤ 200000) : callW F 24 [a, b] [] = some (.v (.bool (sameB bs bs')), []) := by
  obtain ⟨es, hs, hes, hm⟩ := ha.sl'
  obtain ⟨es', hs', hes', hm'⟩ := hb.sl'
  have l1 := hs.len
  have l2 := hs'.len
  have e1 := hes.length
  have e2 := hes'.length
  by_cases hlen : es.length = es'.length
  · have h1 : ((es.length : Int) == (es'.length : Int)) = true := by rw [hlen]; simp
    have eb : sameB bs bs' = sameBL bs bs' := by
      have : bs.length = bs'.length := by omega
      simp [sameB, this]
    rw [eb]
    have key := sb_loop (K := bs.length + 1) hs hs' hlen (by omega) bs bs' 0 [] (L24 a b es.length (0 : Nat)) (by omega) (by simpa using hes) (by simpa using hes') rfl
    refine callW_pure (c := c24) rfl rfl (bs.length + 1) ?_
    show lv [.var 2] (exec (callW F) (bs.length + 1) (.seq (.region [] [] c24_0) (.seq (.seq (.region [] [] c24_1) (.cond (.var 4) (.seq (.region [] [] c24_2) .ret) .skip)) (.seq (.seq (.region [] [] c24_3) (.block 0 (.loop K24 [] c24_9))) (.seq (.region [] [] c24_10) .ret)))) _ _) = _
    generalize hrest : (CC.seq (.region [] [] c24_10) .ret) = rest
    simp only [c24, start, List.replicate, c24_0, c24_1, c24_3, l1, l2, h1, e_bslice1, e_bslice2, bs1, bs2, e_build, bdH_some, bd_nil, bd_cons, bd1, cl_agg, cl_int, toL, List.map_cons, List.map_nil, putAt, List.set_cons_zero, List.set_cons_succ, and_self, Nat.le_refl, evStore, app_get, app_set, g_agg, run_nil, run_cons, stp_plain, stp_guard, put_some, pass_eq, pick_tt, pick_ff, pick_tf, pick_ft, pick_u, reg_some, thn_normal, thn_exit, thn_ret, cnd_t, cnd_f, blk_normal, blk_ret, blk_exit, x_seq, x_region, x_cond, x_block, x_loop, x_ret, x_exit, x_skip, e_mov, e_pick, pk_t, pk_f, withH_some, e_box, bx_some, e_load, e_store, stH_some, e_nil, e_bin, e_eqv, eqH_f, eqH_t, e_un, e_fa, e_ia, ia_eq, nat_eq, natV_nat, e_len, lnH_some, e_extract, ex_0, ex_1, e_call0, e_call1, e_call2, e_call3, pc0_eq, pc1_some, pc2_some, pc3_some, fin_some, g_var0, g_vars, g_loc0, g_locs, g_int, g_bool, g_str, g_sl, s_none, s_zero, s_succ, cl_nil, cl_str, cl_bool, cl_slc, cl_own, evFa, evNil, evLoad, asEl, evBin, intBin, strBin, evUn, len_nil, len_slc, len_str, clr, List.length_nil, List.length_cons, List.getElem?_cons_zero, List.getElem?_cons_succ, Nat.reduceAdd, Nat.zero_add, Nat.add_zero, Nat.reduceLeDiff, Nat.reduceSub, ↓reduceIte, List.drop_succ_cons, List.drop_zero, List.take_succ_cons, List.take_zero, Bool.false_eq_true, List.nil_append, List.cons_append, Bool.not_true, Bool.not_false, cond_true, cond_false, bne, lv_ret, lv_normal, res1, res2, lv2_some, res_var, res_cell, lvf_v, lvf_slc, res1c, lvo1_some, e_mm, mm_max, mm_min]
    rw [loop_cong (v2 := L24 a b es.length ((0 : Nat) : Int)) (by rfl)]
    rcases key with ⟨h0, vs, h', g1, g2⟩ | ⟨h0, vs, h', g1, g2⟩
    · rw [g1, h0, ← hrest]
      match vs, g2 with
      | [a0, a1, a2, a3, a4, a5, a6, a7, a8], _ => simp only [blk_exit, thn_normal, blk_ret, thn_ret, c24_10, run_nil, run_cons, stp_plain, stp_guard, put_some, pass_eq, pick_tt, pick_ff, pick_tf, pick_ft, pick_u, reg_some, thn_normal, thn_exit, thn_ret, cnd_t, cnd_f, blk_normal, blk_ret, blk_exit, x_seq, x_region, x_cond, x_block, x_loop, x_ret, x_exit, x_skip, e_mov, e_pick, pk_t, pk_f, withH_some, e_box, bx_some, e_load, e_store, stH_some, e_nil, e_bin, e_eqv, eqH_f, eqH_t, e_un, e_fa, e_ia, ia_eq, nat_eq, natV_nat, e_len, lnH_some, e_extract, ex_0, ex_1, e_call0, e_call1, e_call2, e_call3, pc0_eq, pc1_some, pc2_some, pc3_some, fin_some, g_var0, g_vars, g_loc0, g_locs, g_int, g_bool, g_str, g_sl, s_none, s_zero, s_succ, cl_nil, cl_str, cl_bool, cl_slc, cl_own, evFa, evNil, evLoad, asEl, evBin, intBin, strBin, evUn, len_nil, len_slc, len_str, clr, List.length_nil, List.length_cons, List.getElem?_cons_zero, List.getElem?_cons_succ, Nat.reduceAdd, Nat.zero_add, Nat.add_zero, Nat.reduceLeDiff, Nat.reduceSub, ↓reduceIte, List.drop_succ_cons, List.drop_zero, List.take_succ_cons, List.take_zero, Bool.false_eq_true, List.nil_append, List.cons_append, Bool.not_true, Bool.not_false, cond_true, cond_false, bne, lv_ret, lv_normal, res1, res2, lv2_some, res_var, res_cell, lvf_v, lvf_slc, res1c, lvo1_some, e_mm, mm_max, mm_min]
    · rw [g1, h0]
      simp only [blk_ret, thn_ret, g2, run_nil, run_cons, stp_plain, stp_guard, put_some, pass_eq, pick_tt, pick_ff, pick_tf, pick_ft, pick_u, reg_some, thn_normal, thn_exit, thn_ret, cnd_t, cnd_f, blk_normal, blk_ret, blk_exit, x_seq, x_region, x_cond, x_block, x_loop, x_ret, x_exit, x_skip, e_mov, e_pick, pk_t, pk_f, withH_some, e_box, bx_some, e_load, e_store, stH_some, e_nil, e_bin, e_eqv, eqH_f, eqH_t, e_un, e_fa, e_ia, ia_eq, nat_eq, natV_nat, e_len, lnH_some, e_extract, ex_0, ex_1, e_call0, e_call1, e_call2, e_call3, pc0_eq, pc1_some, pc2_some, pc3_some, fin_some, g_var0, g_vars, g_loc0, g_locs, g_int, g_bool, g_str, g_sl, s_none, s_zero, s_succ, cl_nil, cl_str, cl_bool, cl_slc, cl_own, evFa, evNil, evLoad, asEl, evBin, intBin, strBin, evUn, len_nil, len_slc, len_str, clr, List.length_nil, List.length_cons, List.getElem?_cons_zero, List.getElem?_cons_succ, Nat.reduceAdd, Nat.zero_add, Nat.add_zero, Nat.reduceLeDiff, Nat.reduceSub, ↓reduceIte, List.drop_succ_cons, List.drop_zero, List.take_succ_cons, List.take_zero, Bool.false_eq_true, List.nil_append, List.cons_append, Bool.not_true, Bool.not_false, cond_true, cond_false, bne, lv_ret, lv_normal, res1, res2, lv2_some, res_var, res_cell, lvf_v, lvf_slc, res1c, lvo1_some, e_mm, mm_max, mm_min]
  · have h1 : ((es.length : Int) == (es'.length : Int)) = false := by
      rw [beq_eq_false_iff_ne]; omega
    have eb : sameB bs bs' = false := by
      have : ¬ bs.length = bs'.length := by omega
      simp [sameB, this]
    rw [eb]
    refine callW_pure (c := c24) rfl rfl 0 ?_
    simp only [c24, start, List.replicate, c24_0, c24_1, c24_2, l1, l2, h1, e_bslice1, e_bslice2, bs1, bs2, e_build, bdH_some, bd_nil, bd_cons, bd1, cl_agg, cl_int, toL, List.map_cons, List.map_nil, putAt, List.set_cons_zero, List.set_cons_succ, and_self, Nat.le_refl, evStore, app_get, app_set, g_agg, run_nil, run_cons, stp_plain, stp_guard, put_some, pass_eq, pick_tt, pick_ff, pick_tf, pick_ft, pick_u, reg_some, thn_normal, thn_exit, thn_ret, cnd_t, cnd_f, blk_normal, blk_ret, blk_exit, x_seq, x_region, x_cond, x_block, x_loop, x_ret, x_exit, x_skip, e_mov, e_pick, pk_t, pk_f, withH_some, e_box, bx_some, e_load, e_store, stH_some, e_nil, e_bin, e_eqv, eqH_f, eqH_t, e_un, e_fa, e_ia, ia_eq, nat_eq, natV_nat, e_len, lnH_some, e_extract, ex_0, ex_1, e_call0, e_call1, e_call2, e_call3, pc0_eq, pc1_some, pc2_some, pc3_some, fin_some, g_var0, g_vars, g_loc0, g_locs, g_int, g_bool, g_str, g_sl, s_none, s_zero, s_succ, cl_nil, cl_str, cl_bool, cl_slc, cl_own, evFa, evNil, evLoad, asEl, evBin, intBin, strBin, evUn, len_nil, len_slc, len_str, clr, List.length_nil, List.length_cons, List.getElem?_cons_zero, List.getElem?_cons_succ, Nat.reduceAdd, Nat.zero_add, Nat.add_zero, Nat.reduceLeDiff, Nat.reduceSub, ↓reduceIte, List.drop_succ_cons, List.drop_zero, List.take_succ_cons, List.take_zero, Bool.false_eq_true, List.nil_append, List.cons_append, Bool.not_true, Bool.not_false, cond_true, cond_false, bne, lv_ret, lv_normal, res1, res2, lv2_some, res_var, res_cell, lvf_v, lvf_slc, res1c, lvo1_some, e_mm, mm_max, mm_min]

/-! ### good -/
def goodB (bs : List (Int × Tm)) : Bool := bs.all fun p => checkT p.2 == 0
def goodT (l : List Tm) : Bool := l.all fun t => checkT t == 0
def K19a : List Bool := [false, true, false, false, false, true, true, true, false, false, false, false, false, false, false]
def L19a (ts c : AV) (len i : Int) : List AV := [.junk, ts, .junk, .junk, .junk, c, .v (.int .i64 len), .v (.int .i64 i), .junk, .junk, .junk, .junk, .junk, .junk, .junk]
def zeroB5 : List AV := [.v (.int .i64 0), .v (.int .i64 0), .v (.string ⟨#[]⟩), .v (.int .i64 0), .v (.slice none 0 0)]
theorem q9b5 : (ofVal (.agg #[(.int .i64 0), (.int .i64 0), (.string ⟨#[]⟩), (.int .i64 0), (.slice none 0 0)])).cl = some zeroB5 := by simp [ofVal, AV.cl, Value.oneCell', zeroB5]
theorem good_loop {K : Nat} {c ts : AV} {es : List AV} (hs : Sl 5 c es) (hm : es.length ≤ 200000) :
    ∀ (l : List (Int × Tm)) (i : Nat) (h : List AO) (vars : List AV), i + l.length = es.length → AllB (es.drop i) l → (∀ p ∈ l, size p.2 ≤ 100000) → clr K19a vars = L19a ts c es.length i →
      (goodB l = true ∧ ∃ x h', loopN (exec (callW F) K c19_7) K19a (l.length + 1) vars h = some (.exit 0, [.junk, ts, .junk, .junk, .junk, c, .v (.int .i64 es.length), .v (.int .i64 es.length), x, .junk, .junk, .junk, .junk, .junk, .junk], h')) ∨
      (goodB l = false ∧ ∃ vs h', loopN (exec (callW F) K c19_7) K19a (l.length + 1) vars h = some (.ret, vs, h') ∧ getO vs [] (.var 2) = .v (.bool false)) := by
  intro l
  induction l with
  | nil =>
    intro i h vars hi _ _ hv
    have hil : i = es.length := by simpa using hi
    subst hil
    have hlt : decide ((es.length : Int) < (es.length : Int)) = false := by simp
    refine .inl ⟨rfl, .v (.bool false), h, loop_exit ?_⟩
    rw [hv]
    simp only [L19a, c19_7, c19_2, hlt, e_bslice1, e_bslice2, bs1, bs2, e_build, bdH_some, bd_nil, bd_cons, bd1, cl_agg, cl_int, toL, List.map_cons, List.map_nil, putAt, List.set_cons_zero, List.set_cons_succ, and_self, Nat.le_refl, app_get, app_set, g_agg, run_nil, run_cons, stp_plain, stp_guard, put_some, pass_eq, pick_tt, pick_ff, pick_tf, pick_ft, pick_u, reg_some, thn_normal, thn_exit, thn_ret, cnd_t, cnd_f, blk_normal, blk_ret, blk_exit, x_seq, x_region, x_cond, x_block, x_loop, x_ret, x_exit, x_skip, e_mov, e_pick, pk_t, pk_f, withH_some, e_box, bx_some, e_load, e_store, stH_some, e_nil, e_bin, e_eqv, eqH_f, eqH_t, e_un, e_fa, e_ia, ia_eq, nat_eq, natV_nat, e_len, lnH_some, e_extract, ex_0, ex_1, e_call0, e_call1, e_call2, e_call3, pc0_eq, pc1_some, pc2_some, pc3_some, fin_some, g_var0, g_vars, g_loc0, g_locs, g_int, g_bool, g_str, g_sl, s_none, s_zero, s_succ, cl_nil, cl_str, cl_bool, cl_slc, cl_own, evFa, evNil, asEl, evBin, intBin, strBin, evUn, len_nil, len_slc, len_str, clr, List.length_nil, List.length_cons, List.getElem?_cons_zero, List.getElem?_cons_succ, Nat.reduceAdd, Nat.zero_add, Nat.add_zero, Nat.reduceLeDiff, Nat.reduceSub, ↓reduceIte, List.drop_succ_cons, List.drop_zero, List.take_succ_cons, List.take_zero, Bool.false_eq_true, List.nil_append, List.cons_append, Bool.not_true, Bool.not_false, cond_true, cond_false, bne, lv_ret, lv_normal, res1, res2, lv2_some, res_var, res_cell, lvf_v, lvf_slc, res1c, lvo1_some, e_mm, mm_max, mm_min]
  | cons p l ih =>
    intro i h vars hi hes hsz hv
    obtain ⟨v, t⟩ := p
    have hil : i < es.length := by simp at hi; omega
    have he : es[i]? = some (es[i]'hil) := List.getElem?_eq_getElem _
    have hd : es.drop i = es[i] :: es.drop (i + 1) := List.drop_eq_getElem_cons hil
    rw [hd] at hes
    generalize es[i]'hil = e at hes he
    cases hes with
    | cons _ _ _ _ _ hT hsr =>
    have hT0 := hT
    cases hT with
    | mk v cs t ht =>
    have hlt : (decide ((i : Int) < (es.length : Int))) = true := by simp; omega
    have q1 := hs.ia he
    have hcsl : cs.length = 4 := ht.cl.2
    have q3 : ∀ h : List AO, evLoad h true 5 (.ip (.v (.int .i64 v) :: cs)) = some (.agg (.v (.int .i64 v) :: cs)) := fun h => hT0.load
    have q6 : ∀ h : List AO, evStore (h ++ [.box zeroB5]) 5 (.ptr h.length 0) (.agg (.v (.int .i64 v) :: cs)) = some (h ++ [.box (.v (.int .i64 v) :: cs)]) := fun h => st_new cl_agg (by simp [hcsl]) rfl
    have q7 : ∀ h : List AO, evLoad (h ++ [.box (.v (.int .i64 v) :: cs)]) true 4 (.ptr h.length 1) = some (.agg cs) := by
      intro h; rw [ld_new, if_pos (by simp [hcsl])]
      simp only [List.drop_succ_cons, List.drop_zero, List.take_of_length_le (show cs.length ≤ 4 by omega), asEl, if_true]
    have s1 : ∀ h : List AO, (AV.agg cs).snap1 h = some (.agg cs) := fun h => ht.snap
    have hck := check_ok (hsz (v, t) (by simp)) ht
    simp only [zeroB5] at q6
    have q9 := q9b5
    simp only [zeroB5] at q9
    simp only [AV.cells] at q1
    cases hz : (checkT t == 0) with
    | false =>
      refine .inr ⟨by simp [goodB, hz], [.junk, ts, .v (.bool false), .ptr h.length 0, .junk, c, .v (.int .i64 es.length), .v (.int .i64 i), .v (.bool true), .v (.bool true), .junk, .junk, .junk, .junk, .junk], h ++ [.box (.v (.int .i64 v) :: cs)], loop_ret ?_, rfl⟩
      rw [hv]
      simp only [L19a, AV.cells, c19_7, c19_2, c19_3, c19_4, c19_5, hlt, q1, q3, q6, q7, q9, s1, hck, hz, e_bslice1, e_bslice2, bs1, bs2, e_build, bdH_some, bd_nil, bd_cons, bd1, cl_agg, cl_int, toL, List.map_cons, List.map_nil, putAt, List.set_cons_zero, List.set_cons_succ, and_self, Nat.le_refl, app_get, app_set, g_agg, run_nil, run_cons, stp_plain, stp_guard, put_some, pass_eq, pick_tt, pick_ff, pick_tf, pick_ft, pick_u, reg_some, thn_normal, thn_exit, thn_ret, cnd_t, cnd_f, blk_normal, blk_ret, blk_exit, x_seq, x_region, x_cond, x_block, x_loop, x_ret, x_exit, x_skip, e_mov, e_pick, pk_t, pk_f, withH_some, e_box, bx_some, e_load, e_store, stH_some, e_nil, e_bin, e_eqv, eqH_f, eqH_t, e_un, e_fa, e_ia, ia_eq, nat_eq, natV_nat, e_len, lnH_some, e_extract, ex_0, ex_1, e_call0, e_call1, e_call2, e_call3, pc0_eq, pc1_some, pc2_some, pc3_some, fin_some, g_var0, g_vars, g_loc0, g_locs, g_int, g_bool, g_str, g_sl, s_none, s_zero, s_succ, cl_nil, cl_str, cl_bool, cl_slc, cl_own, evFa, evNil, asEl, evBin, intBin, strBin, evUn, len_nil, len_slc, len_str, clr, List.length_nil, List.length_cons, List.getElem?_cons_zero, List.getElem?_cons_succ, Nat.reduceAdd, Nat.zero_add, Nat.add_zero, Nat.reduceLeDiff, Nat.reduceSub, ↓reduceIte, List.drop_succ_cons, List.drop_zero, List.take_succ_cons, List.take_zero, Bool.false_eq_true, List.nil_append, List.cons_append, Bool.not_true, Bool.not_false, cond_true, cond_false, bne, lv_ret, lv_normal, res1, res2, lv2_some, res_var, res_cell, lvf_v, lvf_slc, res1c, lvo1_some, e_mm, mm_max, mm_min]
    | true =>
      have hw : IntKind.i64.wrap ((i : Int) + 1) = ((i + 1 : Nat) : Int) := by rw [wrap_ok (by omega) (by omega)]; omega
      have st : exec (callW F) K c19_7 (L19a ts c es.length i) h = some (.normal, [.junk, ts, .junk, .ptr h.length 0, .junk, c, .v (.int .i64 es.length), .v (.int .i64 ((i + 1 : Nat) : Int)), .v (.bool true), .v (.bool false), .junk, .junk, .junk, .junk, .junk], h ++ [.box (.v (.int .i64 v) :: cs)]) := by
        simp only [L19a, AV.cells, c19_7, c19_2, c19_3, c19_4, c19_6, hlt, hw, q1, q3, q6, q7, q9, s1, hck, hz, e_bslice1, e_bslice2, bs1, bs2, e_build, bdH_some, bd_nil, bd_cons, bd1, cl_agg, cl_int, toL, List.map_cons, List.map_nil, putAt, List.set_cons_zero, List.set_cons_succ, and_self, Nat.le_refl, app_get, app_set, g_agg, run_nil, run_cons, stp_plain, stp_guard, put_some, pass_eq, pick_tt, pick_ff, pick_tf, pick_ft, pick_u, reg_some, thn_normal, thn_exit, thn_ret, cnd_t, cnd_f, blk_normal, blk_ret, blk_exit, x_seq, x_region, x_cond, x_block, x_loop, x_ret, x_exit, x_skip, e_mov, e_pick, pk_t, pk_f, withH_some, e_box, bx_some, e_load, e_store, stH_some, e_nil, e_bin, e_eqv, eqH_f, eqH_t, e_un, e_fa, e_ia, ia_eq, nat_eq, natV_nat, e_len, lnH_some, e_extract, ex_0, ex_1, e_call0, e_call1, e_call2, e_call3, pc0_eq, pc1_some, pc2_some, pc3_some, fin_some, g_var0, g_vars, g_loc0, g_locs, g_int, g_bool, g_str, g_sl, s_none, s_zero, s_succ, cl_nil, cl_str, cl_bool, cl_slc, cl_own, evFa, evNil, asEl, evBin, intBin, strBin, evUn, len_nil, len_slc, len_str, clr, List.length_nil, List.length_cons, List.getElem?_cons_zero, List.getElem?_cons_succ, Nat.reduceAdd, Nat.zero_add, Nat.add_zero, Nat.reduceLeDiff, Nat.reduceSub, ↓reduceIte, List.drop_succ_cons, List.drop_zero, List.take_succ_cons, List.take_zero, Bool.false_eq_true, List.nil_append, List.cons_append, Bool.not_true, Bool.not_false, cond_true, cond_false, bne, lv_ret, lv_normal, res1, res2, lv2_some, res_var, res_cell, lvf_v, lvf_slc, res1c, lvo1_some, e_mm, mm_max, mm_min]
      rw [show ((v, t) :: l).length + 1 = (l.length + 1) + 1 from rfl, loop_normal (by rw [hv]; exact st)]
      have e1 : goodB ((v, t) :: l) = goodB l := by simp only [goodB, List.all_cons, hz, Bool.true_and]
      rw [e1]
      exact ih (i + 1) _ _ (by simp at hi; omega) hsr (fun p hp => hsz p (by simp [hp])) rfl
def K19b : List Bool := [false, false, false, false, false, false, false, false, false, false, true, true, true, false, false]
def L19b (c : AV) (len i : Int) : List AV := [.junk, .junk, .junk, .junk, .junk, .junk, .junk, .junk, .junk, .junk, c, .v (.int .i64 len), .v (.int .i64 i), .junk, .junk]
theorem good_loop2 {K : Nat} {c : AV} {es : List AV} (hs : Sl 4 c es) (hm : es.length ≤ 200000) :
    ∀ (l : List Tm) (i : Nat) (h : List AO) (vars : List AV), i + l.length = es.length → All2 (es.drop i) l → (∀ p ∈ l, size p ≤ 100000) → clr K19b vars = L19b c es.length i →
      (goodT l = true ∧ ∃ x h', loopN (exec (callW F) K c19_14) K19b (l.length + 1) vars h = some (.exit 2, [.junk, .junk, .junk, .junk, .junk, .junk, .junk, .junk, .junk, .junk, c, .v (.int .i64 es.length), .v (.int .i64 es.length), x, .junk], h')) ∨
      (goodT l = false ∧ ∃ vs h', loopN (exec (callW F) K c19_14) K19b (l.length + 1) vars h = some (.ret, vs, h') ∧ getO vs [] (.var 2) = .v (.bool false)) := by
  intro l
  induction l with
  | nil =>
    intro i h vars hi _ _ hv
    have hil : i = es.length := by simpa using hi
    subst hil
    have hlt : decide ((es.length : Int) < (es.length : Int)) = false := by simp
    refine .inl ⟨rfl, .v (.bool false), h, loop_exit ?_⟩
    rw [hv]
    simp only [L19b, c19_14, c19_9, hlt, e_bslice1, e_bslice2, bs1, bs2, e_build, bdH_some, bd_nil, bd_cons, bd1, cl_agg, cl_int, toL, List.map_cons, List.map_nil, putAt, List.set_cons_zero, List.set_cons_succ, and_self, Nat.le_refl, app_get, app_set, g_agg, run_nil, run_cons, stp_plain, stp_guard, put_some, pass_eq, pick_tt, pick_ff, pick_tf, pick_ft, pick_u, reg_some, thn_normal, thn_exit, thn_ret, cnd_t, cnd_f, blk_normal, blk_ret, blk_exit, x_seq, x_region, x_cond, x_block, x_loop, x_ret, x_exit, x_skip, e_mov, e_pick, pk_t, pk_f, withH_some, e_box, bx_some, e_load, e_store, stH_some, e_nil, e_bin, e_eqv, eqH_f, eqH_t, e_un, e_fa, e_ia, ia_eq, nat_eq, natV_nat, e_len, lnH_some, e_extract, ex_0, ex_1, e_call0, e_call1, e_call2, e_call3, pc0_eq, pc1_some, pc2_some, pc3_some, fin_some, g_var0, g_vars, g_loc0, g_locs, g_int, g_bool, g_str, g_sl, s_none, s_zero, s_succ, cl_nil, cl_str, cl_bool, cl_slc, cl_own, evFa, evNil, asEl, evBin, intBin, strBin, evUn, len_nil, len_slc, len_str, clr, List.length_nil, List.length_cons, List.getElem?_cons_zero, List.getElem?_cons_succ, Nat.reduceAdd, Nat.zero_add, Nat.add_zero, Nat.reduceLeDiff, Nat.reduceSub, ↓reduceIte, List.drop_succ_cons, List.drop_zero, List.take_succ_cons, List.take_zero, Bool.false_eq_true, List.nil_append, List.cons_append, Bool.not_true, Bool.not_false, cond_true, cond_false, bne, lv_ret, lv_normal, res1, res2, lv2_some, res_var, res_cell, lvf_v, lvf_slc, res1c, lvo1_some, e_mm, mm_max, mm_min]
  | cons t l ih =>
    intro i h vars hi hes hsz hv
    have hil : i < es.length := by simp at hi; omega
    have he : es[i]? = some (es[i]'hil) := List.getElem?_eq_getElem _
    have hd : es.drop i = es[i] :: es.drop (i + 1) := List.drop_eq_getElem_cons hil
    rw [hd] at hes
    generalize es[i]'hil = e at hes he
    cases hes with
    | cons _ _ _ _ hT hsr =>
    have hlt : (decide ((i : Int) < (es.length : Int))) = true := by simp; omega
    have q1 := hs.ia he
    have q3 : ∀ h : List AO, evLoad h true 4 (.ip e.cells) = some e := fun h => hT.load
    have q5 : ∀ h : List AO, e.snap1 h = some e := fun h => hT.snap
    have hzz : ([.v (.int .i64 0), .v (.string ⟨#[]⟩), .v (.int .i64 0), .v (.slice none 0 0)] : List AV).length = 4 := rfl
    have hck := check_ok (hsz t (by simp)) hT
    cases hz : (checkT t == 0) with
    | false =>
      refine .inr ⟨by simp [goodT, hz], [.junk, .junk, .v (.bool false), .junk, .ptr h.length 0, .junk, .junk, .junk, .junk, .junk, c, .v (.int .i64 es.length), .v (.int .i64 i), .v (.bool true), .v (.bool true)], h ++ [.box e.cells], loop_ret ?_, rfl⟩
      rw [hv]
      simp only [L19b, c19_14, c19_9, c19_10, c19_11, c19_12, hlt, q1, q3, q5, hck, hz, hT.st _ _ hzz, hT.ld, q9z, e_bslice1, e_bslice2, bs1, bs2, e_build, bdH_some, bd_nil, bd_cons, bd1, cl_agg, cl_int, toL, List.map_cons, List.map_nil, putAt, List.set_cons_zero, List.set_cons_succ, and_self, Nat.le_refl, app_get, app_set, g_agg, run_nil, run_cons, stp_plain, stp_guard, put_some, pass_eq, pick_tt, pick_ff, pick_tf, pick_ft, pick_u, reg_some, thn_normal, thn_exit, thn_ret, cnd_t, cnd_f, blk_normal, blk_ret, blk_exit, x_seq, x_region, x_cond, x_block, x_loop, x_ret, x_exit, x_skip, e_mov, e_pick, pk_t, pk_f, withH_some, e_box, bx_some, e_load, e_store, stH_some, e_nil, e_bin, e_eqv, eqH_f, eqH_t, e_un, e_fa, e_ia, ia_eq, nat_eq, natV_nat, e_len, lnH_some, e_extract, ex_0, ex_1, e_call0, e_call1, e_call2, e_call3, pc0_eq, pc1_some, pc2_some, pc3_some, fin_some, g_var0, g_vars, g_loc0, g_locs, g_int, g_bool, g_str, g_sl, s_none, s_zero, s_succ, cl_nil, cl_str, cl_bool, cl_slc, cl_own, evFa, evNil, asEl, evBin, intBin, strBin, evUn, len_nil, len_slc, len_str, clr, List.length_nil, List.length_cons, List.getElem?_cons_zero, List.getElem?_cons_succ, Nat.reduceAdd, Nat.zero_add, Nat.add_zero, Nat.reduceLeDiff, Nat.reduceSub, ↓reduceIte, List.drop_succ_cons, List.drop_zero, List.take_succ_cons, List.take_zero, Bool.false_eq_true, List.nil_append, List.cons_append, Bool.not_true, Bool.not_false, cond_true, cond_false, bne, lv_ret, lv_normal, res1, res2, lv2_some, res_var, res_cell, lvf_v, lvf_slc, res1c, lvo1_some, e_mm, mm_max, mm_min]
    | true =>
      have hw : IntKind.i64.wrap ((i : Int) + 1) = ((i + 1 : Nat) : Int) := by rw [wrap_ok (by omega) (by omega)]; omega
      have st : exec (callW F) K c19_14 (L19b c es.length i) h = some (.normal, [.junk, .junk, .junk, .junk, .ptr h.length 0, .junk, .junk, .junk, .junk, .junk, c, .v (.int .i64 es.length), .v (.int .i64 ((i + 1 : Nat) : Int)), .v (.bool true), .v (.bool false)], h ++ [.box e.cells]) := by
        simp only [L19b, c19_14, c19_9, c19_10, c19_11, c19_13, hlt, hw, q1, q3, q5, hck, hz, hT.st _ _ hzz, hT.ld, q9z, e_bslice1, e_bslice2, bs1, bs2, e_build, bdH_some, bd_nil, bd_cons, bd1, cl_agg, cl_int, toL, List.map_cons, List.map_nil, putAt, List.set_cons_zero, List.set_cons_succ, and_self, Nat.le_refl, app_get, app_set, g_agg, run_nil, run_cons, stp_plain, stp_guard, put_some, pass_eq, pick_tt, pick_ff, pick_tf, pick_ft, pick_u, reg_some, thn_normal, thn_exit, thn_ret, cnd_t, cnd_f, blk_normal, blk_ret, blk_exit, x_seq, x_region, x_cond, x_block, x_loop, x_ret, x_exit, x_skip, e_mov, e_pick, pk_t, pk_f, withH_some, e_box, bx_some, e_load, e_store, stH_some, e_nil, e_bin, e_eqv, eqH_f, eqH_t, e_un, e_fa, e_ia, ia_eq, nat_eq, natV_nat, e_len, lnH_some, e_extract, ex_0, ex_1, e_call0, e_call1, e_call2, e_call3, pc0_eq, pc1_some, pc2_some, pc3_some, fin_some, g_var0, g_vars, g_loc0, g_locs, g_int, g_bool, g_str, g_sl, s_none, s_zero, s_succ, cl_nil, cl_str, cl_bool, cl_slc, cl_own, evFa, evNil, asEl, evBin, intBin, strBin, evUn, len_nil, len_slc, len_str, clr, List.length_nil, List.length_cons, List.getElem?_cons_zero, List.getElem?_cons_succ, Nat.reduceAdd, Nat.zero_add, Nat.add_zero, Nat.reduceLeDiff, Nat.reduceSub, ↓reduceIte, List.drop_succ_cons, List.drop_zero, List.take_succ_cons, List.take_zero, Bool.false_eq_true, List.nil_append, List.cons_append, Bool.not_true, Bool.not_false, cond_true, cond_false, bne, lv_ret, lv_normal, res1, res2, lv2_some, res_var, res_cell, lvf_v, lvf_slc, res1c, lvo1_some, e_mm, mm_max, mm_min]
      rw [show (t :: l).length + 1 = (l.length + 1) + 1 from rfl, loop_normal (by rw [hv]; exact st)]
      have e1 : goodT (t :: l) = goodT l := by simp only [goodT, List.all_cons, hz, Bool.true_and]
      rw [e1]
      exact ih (i + 1) _ _ (by simp at hi; omega) hsr (fun p hp => hsz p (by simp [hp])) rfl
theorem good_ok {b ts : AV} {bs : List (Int × Tm)} {l : List Tm} (hb : IsB b bs) {es : List AV} (hs2 : Sl 4 ts es) (hes2 : All2 es l) (hl : bs.length ≤ 100000) (hl2 : l.length ≤ 100000) (hz1 : ∀ p ∈ bs, size p.2 ≤ 100000) (hz2 : ∀ p ∈ l, size p ≤ 100000) : callW F 19 [b, ts] [] = some (.v (.bool (goodB bs && goodT l)), []) := by
  obtain ⟨es1, hs, hes, hm⟩ := hb.sl'
  have l1 := hs.len
  have l2 := hs2.len
  have e1 := hes.length
  have e2 := hes2.length
  have key := good_loop (K := bs.length + l.length + 1) (ts := ts) hs (by omega) bs 0 [] (L19a ts b es1.length (0 : Nat)) (by omega) (by simpa using hes) hz1 rfl
  have mono : ∀ {step : List AV → List AO → CRun} {keep : List Bool} (n d : Nat) (v : List AV) (h : List AO) (q : AXit × List AV × List AO), loopN step keep n v h = some q → loopN step keep (n + d) v h = some q := by
    intro step keep n
    induction n with
    | zero => intro d v h q hq; cases hq
    | succ n ih =>
      intro d v h q hq
      rw [show n + 1 + d = (n + d) + 1 by omega]
      simp only [loopN] at hq ⊢
      cases hstep : step (clr keep v) h with
      | none => rw [hstep] at hq; cases hq
      | some w =>
        obtain ⟨x, v', h'⟩ := w
        rw [hstep] at hq
        cases x with
        | normal => exact ih d v' h' q hq
        | exit id => exact hq
        | ret => exact hq
  refine callW_pure (c := c19) rfl rfl (bs.length + l.length + 1) ?_
  show lv [.var 2] (exec (callW F) (bs.length + l.length + 1) (.seq (.region [] [] c19_0) (.seq (.seq (.region [] [] c19_1) (.block 0 (.loop K19a [] c19_7))) (.seq (.seq (.region [] [] c19_8) (.block 2 (.loop K19b [] c19_14))) (.seq (.region [] [] c19_15) .ret)))) _ _) = _
  generalize hrest : (CC.seq (.seq (.region [] [] c19_8) (.block 2 (.loop K19b [] c19_14))) (.seq (.region [] [] c19_15) .ret)) = rest
  simp only [c19, start, List.replicate, c19_0, c19_1, l1, e_bslice1, e_bslice2, bs1, bs2, e_build, bdH_some, bd_nil, bd_cons, bd1, cl_agg, cl_int, toL, List.map_cons, List.map_nil, putAt, List.set_cons_zero, List.set_cons_succ, and_self, Nat.le_refl, evStore, app_get, app_set, g_agg, run_nil, run_cons, stp_plain, stp_guard, put_some, pass_eq, pick_tt, pick_ff, pick_tf, pick_ft, pick_u, reg_some, thn_normal, thn_exit, thn_ret, cnd_t, cnd_f, blk_normal, blk_ret, blk_exit, x_seq, x_region, x_cond, x_block, x_loop, x_ret, x_exit, x_skip, e_mov, e_pick, pk_t, pk_f, withH_some, e_box, bx_some, e_load, e_store, stH_some, e_nil, e_bin, e_eqv, eqH_f, eqH_t, e_un, e_fa, e_ia, ia_eq, nat_eq, natV_nat, e_len, lnH_some, e_extract, ex_0, ex_1, e_call0, e_call1, e_call2, e_call3, pc0_eq, pc1_some, pc2_some, pc3_some, fin_some, g_var0, g_vars, g_loc0, g_locs, g_int, g_bool, g_str, g_sl, s_none, s_zero, s_succ, cl_nil, cl_str, cl_bool, cl_slc, cl_own, evFa, evNil, evLoad, asEl, evBin, intBin, strBin, evUn, len_nil, len_slc, len_str, clr, List.length_nil, List.length_cons, List.getElem?_cons_zero, List.getElem?_cons_succ, Nat.reduceAdd, Nat.zero_add, Nat.add_zero, Nat.reduceLeDiff, Nat.reduceSub, ↓reduceIte, List.drop_succ_cons, List.drop_zero, List.take_succ_cons, List.take_zero, Bool.false_eq_true, List.nil_append, List.cons_append, Bool.not_true, Bool.not_false, cond_true, cond_false, bne, lv_ret, lv_normal, res1, res2, lv2_some, res_var, res_cell, lvf_v, lvf_slc, res1c, lvo1_some, e_mm, mm_max, mm_min]
  rw [loop_cong (v2 := L19a ts b es1.length ((0 : Nat) : Int)) (by rfl)]
  rcases key with ⟨h0, x, h', g1⟩ | ⟨h0, vs, h', g1, g2⟩
  · have g1 := mono _ l.length _ _ _ g1
    rw [show bs.length + 1 + l.length = bs.length + l.length + 1 by omega] at g1
    rw [g1, h0, ← hrest]
    have key2 := good_loop2 (K := bs.length + l.length + 1) hs2 (by omega) l 0 h' (L19b ts es.length (0 : Nat)) (by omega) (by simpa using hes2) hz2 rfl
    simp only [blk_exit, thn_normal, c19_8, l2, e_bslice1, e_bslice2, bs1, bs2, e_build, bdH_some, bd_nil, bd_cons, bd1, cl_agg, cl_int, toL, List.map_cons, List.map_nil, putAt, List.set_cons_zero, List.set_cons_succ, and_self, Nat.le_refl, evStore, app_get, app_set, g_agg, run_nil, run_cons, stp_plain, stp_guard, put_some, pass_eq, pick_tt, pick_ff, pick_tf, pick_ft, pick_u, reg_some, thn_normal, thn_exit, thn_ret, cnd_t, cnd_f, blk_normal, blk_ret, blk_exit, x_seq, x_region, x_cond, x_block, x_loop, x_ret, x_exit, x_skip, e_mov, e_pick, pk_t, pk_f, withH_some, e_box, bx_some, e_load, e_store, stH_some, e_nil, e_bin, e_eqv, eqH_f, eqH_t, e_un, e_fa, e_ia, ia_eq, nat_eq, natV_nat, e_len, lnH_some, e_extract, ex_0, ex_1, e_call0, e_call1, e_call2, e_call3, pc0_eq, pc1_some, pc2_some, pc3_some, fin_some, g_var0, g_vars, g_loc0, g_locs, g_int, g_bool, g_str, g_sl, s_none, s_zero, s_succ, cl_nil, cl_str, cl_bool, cl_slc, cl_own, evFa, evNil, evLoad, asEl, evBin, intBin, strBin, evUn, len_nil, len_slc, len_str, clr, List.length_nil, List.length_cons, List.getElem?_cons_zero, List.getElem?_cons_succ, Nat.reduceAdd, Nat.zero_add, Nat.add_zero, Nat.reduceLeDiff, Nat.reduceSub, ↓reduceIte, List.drop_succ_cons, List.drop_zero, List.take_succ_cons, List.take_zero, Bool.false_eq_true, List.nil_append, List.cons_append, Bool.not_true, Bool.not_false, cond_true, cond_false, bne, lv_ret, lv_normal, res1, res2, lv2_some, res_var, res_cell, lvf_v, lvf_slc, res1c, lvo1_some, e_mm, mm_max, mm_min]
    rw [loop_cong (v2 := L19b ts es.length ((0 : Nat) : Int)) (by rfl)]
    rcases key2 with ⟨h1, x, h'', g2⟩ | ⟨h1, vs, h'', g2, g3⟩
    · have g2 := mono _ bs.length _ _ _ g2
      rw [show l.length + 1 + bs.length = bs.length + l.length + 1 by omega] at g2
      rw [g2, h1]
      simp only [blk_exit, thn_normal, c19_15, Bool.and_true, run_nil, run_cons, stp_plain, stp_guard, put_some, pass_eq, pick_tt, pick_ff, pick_tf, pick_ft, pick_u, reg_some, thn_normal, thn_exit, thn_ret, cnd_t, cnd_f, blk_normal, blk_ret, blk_exit, x_seq, x_region, x_cond, x_block, x_loop, x_ret, x_exit, x_skip, e_mov, e_pick, pk_t, pk_f, withH_some, e_box, bx_some, e_load, e_store, stH_some, e_nil, e_bin, e_eqv, eqH_f, eqH_t, e_un, e_fa, e_ia, ia_eq, nat_eq, natV_nat, e_len, lnH_some, e_extract, ex_0, ex_1, e_call0, e_call1, e_call2, e_call3, pc0_eq, pc1_some, pc2_some, pc3_some, fin_some, g_var0, g_vars, g_loc0, g_locs, g_int, g_bool, g_str, g_sl, s_none, s_zero, s_succ, cl_nil, cl_str, cl_bool, cl_slc, cl_own, evFa, evNil, evLoad, asEl, evBin, intBin, strBin, evUn, len_nil, len_slc, len_str, clr, List.length_nil, List.length_cons, List.getElem?_cons_zero, List.getElem?_cons_succ, Nat.reduceAdd, Nat.zero_add, Nat.add_zero, Nat.reduceLeDiff, Nat.reduceSub, ↓reduceIte, List.drop_succ_cons, List.drop_zero, List.take_succ_cons, List.take_zero, Bool.false_eq_true, List.nil_append, List.cons_append, Bool.not_true, Bool.not_false, cond_true, cond_false, bne, lv_ret, lv_normal, res1, res2, lv2_some, res_var, res_cell, lvf_v, lvf_slc, res1c, lvo1_some, e_mm, mm_max, mm_min]
    · have g2 := mono _ bs.length _ _ _ g2
      rw [show l.length + 1 + bs.length = bs.length + l.length + 1 by omega] at g2
      rw [g2, h1]
      simp only [blk_ret, thn_ret, g3, Bool.and_false, run_nil, run_cons, stp_plain, stp_guard, put_some, pass_eq, pick_tt, pick_ff, pick_tf, pick_ft, pick_u, reg_some, thn_normal, thn_exit, thn_ret, cnd_t, cnd_f, blk_normal, blk_ret, blk_exit, x_seq, x_region, x_cond, x_block, x_loop, x_ret, x_exit, x_skip, e_mov, e_pick, pk_t, pk_f, withH_some, e_box, bx_some, e_load, e_store, stH_some, e_nil, e_bin, e_eqv, eqH_f, eqH_t, e_un, e_fa, e_ia, ia_eq, nat_eq, natV_nat, e_len, lnH_some, e_extract, ex_0, ex_1, e_call0, e_call1, e_call2, e_call3, pc0_eq, pc1_some, pc2_some, pc3_some, fin_some, g_var0, g_vars, g_loc0, g_locs, g_int, g_bool, g_str, g_sl, s_none, s_zero, s_succ, cl_nil, cl_str, cl_bool, cl_slc, cl_own, evFa, evNil, evLoad, asEl, evBin, intBin, strBin, evUn, len_nil, len_slc, len_str, clr, List.length_nil, List.length_cons, List.getElem?_cons_zero, List.getElem?_cons_succ, Nat.reduceAdd, Nat.zero_add, Nat.add_zero, Nat.reduceLeDiff, Nat.reduceSub, ↓reduceIte, List.drop_succ_cons, List.drop_zero, List.take_succ_cons, List.take_zero, Bool.false_eq_true, List.nil_append, List.cons_append, Bool.not_true, Bool.not_false, cond_true, cond_false, bne, lv_ret, lv_normal, res1, res2, lv2_some, res_var, res_cell, lvf_v, lvf_slc, res1c, lvo1_some, e_mm, mm_max, mm_min]
  · have g1 := mono _ l.length _ _ _ g1
    rw [show bs.length + 1 + l.length = bs.length + l.length + 1 by omega] at g1
    rw [g1, h0]
    simp only [blk_ret, thn_ret, g2, Bool.false_and, run_nil, run_cons, stp_plain, stp_guard, put_some, pass_eq, pick_tt, pick_ff, pick_tf, pick_ft, pick_u, reg_some, thn_normal, thn_exit, thn_ret, cnd_t, cnd_f, blk_normal, blk_ret, blk_exit, x_seq, x_region, x_cond, x_block, x_loop, x_ret, x_exit, x_skip, e_mov, e_pick, pk_t, pk_f, withH_some, e_box, bx_some, e_load, e_store, stH_some, e_nil, e_bin, e_eqv, eqH_f, eqH_t, e_un, e_fa, e_ia, ia_eq, nat_eq, natV_nat, e_len, lnH_some, e_extract, ex_0, ex_1, e_call0, e_call1, e_call2, e_call3, pc0_eq, pc1_some, pc2_some, pc3_some, fin_some, g_var0, g_vars, g_loc0, g_locs, g_int, g_bool, g_str, g_sl, s_none, s_zero, s_succ, cl_nil, cl_str, cl_bool, cl_slc, cl_own, evFa, evNil, evLoad, asEl, evBin, intBin, strBin, evUn, len_nil, len_slc, len_str, clr, List.length_nil, List.length_cons, List.getElem?_cons_zero, List.getElem?_cons_succ, Nat.reduceAdd, Nat.zero_add, Nat.add_zero, Nat.reduceLeDiff, Nat.reduceSub, ↓reduceIte, List.drop_succ_cons, List.drop_zero, List.take_succ_cons, List.take_zero, Bool.false_eq_true, List.nil_append, List.cons_append, Bool.not_true, Bool.not_false, cond_true, cond_false, bne, lv_ret, lv_normal, res1, res2, lv2_some, res_var, res_cell, lvf_v, lvf_slc, res1c, lvo1_some, e_mm, mm_max, mm_min]
end Go.AE.YtpgoibncgekflaaDoor
end

/-! The examples of Unify; what is too great. -/
section
set_option linter.unusedVariables false
set_option linter.unusedSimpArgs false
namespace Go.AE.YtpgoibncgekflaaDoor
open Go Go.AE Go.Proofs.YtpgoibncgekflaaDoor
set_option maxRecDepth 1000000 in
theorem live17_n : callN F 60 17 [] [] = some (.v (.bool true), []) := by kernel_rfl
theorem live17 : callW F 17 [] [] = some (.v (.bool true), []) := callW_iff.2 ⟨_, live17_n⟩
theorem call_same {f g : FuncId} {c : CFun} (hf : F f = some (.code c)) (hg : F g = some (.code c)) (args : List AV) (h : List AO) (r : AV × List AO) : callW F f args h = some r → callW F g args h = some r := by
  intro hr
  obtain ⟨n, hn⟩ := callW_iff.1 hr
  refine callW_iff.2 ⟨n, ?_⟩
  cases n with
  | zero => cases hn
  | succ n => simp only [callN, hf] at hn; simp only [callN, hg]; exact hn
theorem c18_10 : c18 = c10 := rfl
theorem big18 {b ts : AV} {bs : List (Int × Tm)} {l : List Tm} (hb : IsB b bs) {ex nn : Bool} {es : List AV} (hts : ts = .slc 4 ex nn es) (hes : All2 es l) (hm : es.length ≤ maxLen) : callW F 18 [b, ts] [] = some (.v (.bool (big bs l)), []) :=
  call_same (c := c10) rfl rfl _ _ _ (big_ok hb hts hes hm)
end Go.AE.YtpgoibncgekflaaDoor
end

/-! What all rows of this program need. -/
section
set_option linter.unusedVariables false
namespace Go.Proofs.YtpgoibncgekflaaDoor
open Go Go.AE Go.Proofs Go.ChangeShapes Go.WideShapes Go.ChangeAt Go.RowKit
open Go.ChangeMaps (open_string shut_string)

theorem own : ownKnob Tryd.prog.godebug = none := by kernel_rfl
theorem laidOut : laidOutB Tryd.prog = true := by kernel_rfl
theorem mixed : Tryd.prog.follows .mixedOrders = true := by kernel_rfl
def G : List TypeId := [2, 3, 9, 22, 23, 25, 32]
theorem hG : goodB T G = true := by kernel_rfl

/-- What a call comes to that is handed what came in. -/
theorem law_calls {f : FuncId} {args : List AV} {vals : Array Value} {W : World} (hK : K W.heap.size W) (ha : ArgsRep (AllCells W) W [] args vals) {n : Nat} (he : callN F n f args [] = some (.v (.bool true), [])) :
    Calls Tryd.prog f vals W fun e W' => e = .returned (.bool true) ∧ Below W.heap.size W W' := by
  have hI : AE.Inv W.heap.size W (AllCells W) [] W [] := ⟨Below.refl _ _, Nat.le_refl _, rfl, fun id o L h => by simp at h, fun id L h => by simp at h, fun i j Li Lj h => by simp at h, fun b x h => h⟩
  refine ((callN_ok mixed hT hKs hF n W.heap.size W hK).calls f args [] _ _ he (AllCells W) [] W vals hI ha).mono fun e W' h => ?_
  obtain ⟨v, I', σ', rfl, hI', _, hr⟩ := h
  cases hr
  exact ⟨rfl, hI'.below⟩
end Go.Proofs.YtpgoibncgekflaaDoor
end

/-! SubstOrder holds at every input: the law returns true, and what was handed in reads as it did. -/
section
set_option linter.unusedVariables false
set_option linter.unusedSimpArgs false
namespace Go.AE.YtpgoibncgekflaaDoor
open Go Go.AE Go.Proofs.YtpgoibncgekflaaDoor

theorem t25 : T.ty 25 = some ti25 := rfl
theorem t23 : T.ty 23 = some ti23 := rfl
theorem t2 : T.ty 2 = some ti2 := rfl
theorem t3 : T.ty 3 = some ti3 := rfl
theorem t9 : T.ty 9 = some ti9 := rfl
theorem t22 : T.ty 22 = some ti22 := rfl
theorem t32 : T.ty 32 = some ti32 := rfl

theorem all2_of : ∀ {l : List AV}, (∀ el ∈ l, ∃ t, IsT el t) → ∃ ts, All2 l ts
  | [], _ => ⟨[], .nil⟩
  | a :: l, h => by
    obtain ⟨t, ht⟩ := h a (by simp)
    obtain ⟨ts, hts⟩ := all2_of (l := l) (fun el hm => h el (by simp [hm]))
    exact ⟨t :: ts, .cons a t l ts ht hts⟩
theorem allB_of : ∀ {l : List AV}, (∀ el ∈ l, ∃ v t, IsBd el v t) → ∃ ts, AllB l ts
  | [], _ => ⟨[], .nil⟩
  | a :: l, h => by
    obtain ⟨v, t, ht⟩ := h a (by simp)
    obtain ⟨ts, hts⟩ := allB_of (l := l) (fun el hm => h el (by simp [hm]))
    exact ⟨(v, t) :: ts, .cons a v t l ts ht hts⟩

def Good (t : TypeId) (cs : List AV) : Prop :=
  (t = 25 → ∃ x, IsT (.agg cs) x) ∧ (t = 23 → ∃ c l, cs = [c] ∧ IsL c l) ∧ (t = 2 → ∃ n, cs = [.v (.int .i64 n)]) ∧ (t = 3 → ∃ n, cs = [.v (.int .i64 n)]) ∧ (t = 9 → ∃ s, cs = [.v (.string s)]) ∧
  (t = 32 → ∃ v x, IsBd (.agg cs) v x) ∧ (t = 22 → ∃ c l, cs = [c] ∧ IsB c l)

theorem wt_good : ∀ {t : TypeId} {cs : List AV}, WT T t cs → Good t cs := by
  intro t cs h
  induction h with
  | bool t i b ht hd =>
    refine ⟨?_, ?_, ?_, ?_, ?_, ?_, ?_⟩ <;> (rintro rfl; first | (rw [t25] at ht; cases ht; cases hd) | (rw [t23] at ht; cases ht; cases hd) | (rw [t2] at ht; cases ht; cases hd) | (rw [t3] at ht; cases ht; cases hd) | (rw [t9] at ht; cases ht; cases hd) | (rw [t32] at ht; cases ht; cases hd) | (rw [t22] at ht; cases ht; cases hd))
  | int t i k n ht hd hw =>
    refine ⟨?_, ?_, ?_, ?_, ?_, ?_, ?_⟩ <;> (rintro rfl; first | (rw [t25] at ht; cases ht; cases hd; done) | (rw [t23] at ht; cases ht; cases hd; done) | (rw [t9] at ht; cases ht; cases hd; done) | (rw [t32] at ht; cases ht; cases hd; done) | (rw [t22] at ht; cases ht; cases hd; done) | (rw [t2] at ht; cases ht; cases hd; exact ⟨n, rfl⟩) | (rw [t3] at ht; cases ht; cases hd; exact ⟨n, rfl⟩))
  | str t i s ht hd hs =>
    refine ⟨?_, ?_, ?_, ?_, ?_, ?_, ?_⟩ <;> (rintro rfl; first | (rw [t25] at ht; cases ht; cases hd; done) | (rw [t23] at ht; cases ht; cases hd; done) | (rw [t2] at ht; cases ht; cases hd; done) | (rw [t3] at ht; cases ht; cases hd; done) | (rw [t32] at ht; cases ht; cases hd; done) | (rw [t22] at ht; cases ht; cases hd; done) | (rw [t9] at ht; cases ht; cases hd; exact ⟨s, rfl⟩))
  | nil t i e ht hd =>
    refine ⟨?_, ?_, ?_, ?_, ?_, ?_, ?_⟩ <;> (rintro rfl; first | (rw [t25] at ht; cases ht; cases hd; done) | (rw [t9] at ht; cases ht; cases hd; done) | (rw [t2] at ht; cases ht; cases hd; done) | (rw [t3] at ht; cases ht; cases hd; done) | (rw [t32] at ht; cases ht; cases hd; done) | exact ⟨_, [], rfl, .nil⟩)
  | slc t i e j l ht hd he hl hel has ih =>
    refine ⟨?_, ?_, ?_, ?_, ?_, ?_, ?_⟩
    · rintro rfl; rw [t25] at ht; cases ht; cases hd
    · rintro rfl
      rw [t23] at ht; cases ht; cases hd
      rw [t25] at he; cases he
      obtain ⟨ts, hts⟩ := all2_of (l := l) (fun el hm => by
        obtain ⟨x, hx⟩ := (ih el hm).1 rfl
        have : asEl true el.cells = some el := has el hm
        simp only [asEl, if_true, Option.some.injEq] at this
        rw [this] at hx
        exact ⟨x, hx⟩)
      exact ⟨_, ts, rfl, .slc _ _ _ _ hts hl⟩
    · rintro rfl; rw [t2] at ht; cases ht; cases hd
    · rintro rfl; rw [t3] at ht; cases ht; cases hd
    · rintro rfl; rw [t9] at ht; cases ht; cases hd
    · rintro rfl; rw [t32] at ht; cases ht; cases hd
    · rintro rfl
      rw [t22] at ht; cases ht; cases hd
      rw [t32] at he; cases he
      obtain ⟨ts, hts⟩ := allB_of (l := l) (fun el hm => by
        obtain ⟨v, x, hx⟩ := (ih el hm).2.2.2.2.2.1 rfl
        have : asEl true el.cells = some el := has el hm
        simp only [asEl, if_true, Option.some.injEq] at this
        rw [this] at hx
        exact ⟨v, x, hx⟩)
      exact ⟨_, ts, rfl, .slc _ _ _ _ hts hl⟩
  | struct t i fs pts ht hd hlen hf ih =>
    refine ⟨?_, ?_, ?_, ?_, ?_, ?_, ?_⟩
    · rintro rfl
      rw [t25] at ht; cases ht; cases hd
      match pts, hlen, ih with
      | [a, b, c, d], _, ih =>
        obtain ⟨k, rfl⟩ := (ih 0 _ a rfl rfl).2.2.2.1 rfl
        obtain ⟨s, rfl⟩ := (ih 1 _ b rfl rfl).2.2.2.2.1 rfl
        obtain ⟨n, rfl⟩ := (ih 2 _ c rfl rfl).2.2.1 rfl
        obtain ⟨x, l, rfl, hx⟩ := (ih 3 _ d rfl rfl).2.1 rfl
        exact ⟨_, .mk k s n x l hx⟩
    · rintro rfl; rw [t23] at ht; cases ht; cases hd
    · rintro rfl; rw [t2] at ht; cases ht; cases hd
    · rintro rfl; rw [t3] at ht; cases ht; cases hd
    · rintro rfl; rw [t9] at ht; cases ht; cases hd
    · rintro rfl
      rw [t32] at ht; cases ht; cases hd
      match pts, hlen, ih with
      | [a, b], _, ih =>
        obtain ⟨v, rfl⟩ := (ih 0 _ a rfl rfl).2.2.1 rfl
        obtain ⟨x, hx⟩ := (ih 1 _ b rfl rfl).1 rfl
        refine ⟨v, x, ?_⟩
        have : ([[AV.v (.int .i64 v)], b] : List (List AV)).flatten = .v (.int .i64 v) :: b := by simp
        rw [this]
        exact .mk v b x hx
    · rintro rfl; rw [t22] at ht; cases ht; cases hd

theorem one_cell {a c : AV} (h : asEl false a.cells = some a) (hc : a.cells = [c]) : a = c := by
  rw [hc] at h
  simpa [asEl] using h.symm
end Go.AE.YtpgoibncgekflaaDoor
end

/-! What the laws of Unify share. -/
section
set_option linter.unusedVariables false
set_option linter.unusedSimpArgs false
namespace Go.AE.YtpgoibncgekflaaDoor
open Go Go.AE Go.Proofs.YtpgoibncgekflaaDoor

theorem wt_nn {cs : List AV} (h : WT T 22 cs) : ∃ c l, cs = [c] ∧ IsN c l := by
  obtain ⟨c, l, h0, hb⟩ := (wt_good h).2.2.2.2.2.2 rfl
  refine ⟨c, l, h0, hb, ?_⟩
  have t22' := t22
  generalize (22 : TypeId) = t at h t22'
  cases h with
  | bool i b ht hd => cases h0; trivial
  | int i k n ht hd hw => cases h0; trivial
  | str i s ht hd hs => cases h0; trivial
  | nil i e ht hd => cases h0; trivial
  | slc i e j l ht hd he hl hel has => cases h0; exact .inl rfl
  | struct _ i fs pts ht hd hlen hf =>
    rw [t22'] at ht
    cases ht
    cases hd
theorem walkT_det {rs : List (Int × Tm)} : ∀ (m m' : Nat) (t : Tm), (walkT rs m t).2.1 = 0 → (walkT rs m' t).2.1 = 0 → (walkT rs m t).1 = (walkT rs m' t).1 := by
  intro m
  induction m with
  | zero =>
    intro m' t
    cases hb : bound rs t with
    | some u => simp [walkT, hb]
    | none => cases m' <;> simp [walkT, hb]
  | succ m ih =>
    intro m' t
    cases hb : bound rs t with
    | some u =>
      cases m' with
      | zero => simp [walkT, hb]
      | succ m' => simp only [walkT, hb]; exact ih m' u
    | none => cases m' <;> simp [walkT, hb]
theorem meetT_det {rs : List (Int × Tm)} {m m' : Nat} {t : Tm} (h : (meetT rs m t).2.1 = 0) (h' : (meetT rs m' t).2.1 = 0) : (meetT rs m t).1 = (meetT rs m' t).1 := by
  cases m with
  | zero => simp [meetT] at h
  | succ m =>
    cases m' with
    | zero => simp [meetT] at h'
    | succ m' => exact walkT_det m m' t h h'
theorem nextT_err (rs : List (Int × Tm)) (m : Nat) (x y : Tm) : (nextT rs m x y).2.2.1 = 0 ∨ (nextT rs m x y).2.2.1 = 140 := by
  by_cases h0 : (meetT rs m x).2.1 = 0
  · simp only [nextT, if_pos h0]
    rcases meetT_err rs (meetT rs m x).2.2 y with h | h
    · exact .inl h
    · exact .inr h.1
  · simp only [nextT, if_neg h0]
    rcases meetT_err rs m x with h | h
    · exact .inl h
    · exact .inr h.1
theorem nextT_self {rs : List (Int × Tm)} {m : Nat} {x : Tm} (h : (nextT rs m x x).2.2.1 = 0) : (nextT rs m x x).1 = (nextT rs m x x).2.1 := by
  by_cases h0 : (meetT rs m x).2.1 = 0
  · simp only [nextT, if_pos h0] at h ⊢
    exact meetT_det h0 h
  · simp only [nextT, if_neg h0] at h
    exact absurd h h0
theorem check_may {t : Tm} (h : checkT t = 0) : mayT t = true := by
  unfold checkT at h
  split at h
  · assumption
  · omega
theorem goodB_may {bs : List (Int × Tm)} (h : goodB bs = true) : ∀ p ∈ bs, mayT p.2 = true := by
  intro p hp
  simp only [goodB, List.all_eq_true, beq_iff_eq] at h
  exact check_may (h p hp)
theorem goodT_may {l : List Tm} (h : goodT l = true) : ∀ p ∈ l, mayT p = true := by
  intro p hp
  simp only [goodT, List.all_eq_true, beq_iff_eq] at h
  exact check_may (h p hp)
theorem sameBL_refl : ∀ l : List (Int × Tm), sameBL l l = true
  | [] => rfl
  | (v, t) :: l => by simp [sameBL, same_refl, sameBL_refl l]
theorem sameB_refl (l : List (Int × Tm)) : sameB l l = true := by simp [sameB, sameBL_refl]

theorem IsB.snap' {c : AV} {bs : List (Int × Tm)} (h : IsB c bs) (H : List AO) : c.snap1 H = some c := by cases h <;> rfl
end Go.AE.YtpgoibncgekflaaDoor
end

/-! A step of Unify, by its cases. -/
section
set_option linter.unusedVariables false
set_option linter.unusedSimpArgs false
namespace Go.AE.YtpgoibncgekflaaDoor
open Go Go.AE Go.Proofs.YtpgoibncgekflaaDoor

section
variable {k k' n n' : Int} {s s' : ByteArray} {l l' : List Tm}
theorem us1 (h1 : k = 1) (h2 : k' = 1) (h3 : n = n') : uStep (.mk k s n l) (.mk k' s' n' l') = .skip := by
  simp only [uStep, if_pos (show k = 1 ∧ k' = 1 ∧ n = n' from ⟨h1, h2, h3⟩)]
theorem us2 (h1 : k = 1) (h2 : k' ≠ 1 ∨ n > n') : uStep (.mk k s n l) (.mk k' s' n' l') = .bind n (.mk k' s' n' l') := by
  have : ¬ (k = 1 ∧ k' = 1 ∧ n = n') := fun h => h2.elim (fun g => g h.2.1) (fun g => by omega)
  simp only [uStep, if_neg this, if_pos (show k = 1 ∧ (k' ≠ 1 ∨ n > n') from ⟨h1, h2⟩)]
theorem us3 (h1 : k' = 1) (h2 : k ≠ 1 ∨ n < n') : uStep (.mk k s n l) (.mk k' s' n' l') = .bind n' (.mk k s n l) := by
  have a : ¬ (k = 1 ∧ k' = 1 ∧ n = n') := fun h => h2.elim (fun g => g h.1) (fun g => by omega)
  have b : ¬ (k = 1 ∧ (k' ≠ 1 ∨ n > n')) := fun h => h2.elim (fun g => g h.1) (fun g => h.2.elim (fun e => e h1) (fun e => by omega))
  simp only [uStep, if_neg a, if_neg b, if_pos h1]
theorem us4 (h1 : k ≠ 1) (h2 : k' ≠ 1) (h3 : k = k' ∧ s.toList = s'.toList ∧ n = n' ∧ l.length = l'.length) : uStep (.mk k s n l) (.mk k' s' n' l') = .into (l.zip l') := by
  have a : ¬ (k = 1 ∧ k' = 1 ∧ n = n') := fun h => h1 h.1
  have b : ¬ (k = 1 ∧ (k' ≠ 1 ∨ n > n')) := fun h => h1 h.1
  simp only [uStep, if_neg a, if_neg b, if_neg h2, if_pos h3]
theorem us5 (h1 : k ≠ 1) (h2 : k' ≠ 1) (h3 : ¬ (k = k' ∧ s.toList = s'.toList ∧ n = n' ∧ l.length = l'.length)) : uStep (.mk k s n l) (.mk k' s' n' l') = .fail := by
  have a : ¬ (k = 1 ∧ k' = 1 ∧ n = n') := fun h => h1 h.1
  have b : ¬ (k = 1 ∧ (k' ≠ 1 ∨ n > n')) := fun h => h1 h.1
  simp only [uStep, if_neg a, if_neg b, if_neg h2, if_neg h3]
end
end Go.AE.YtpgoibncgekflaaDoor
end

/-! Unify of what is shifted: the plain law. -/
section
set_option linter.unusedVariables false
set_option linter.unusedSimpArgs false
namespace Go.AE.YtpgoibncgekflaaDoor
open Go Go.AE Go.Proofs.YtpgoibncgekflaaDoor

def shiftB (x : Int) (rs : List (Int × Tm)) : List (Int × Tm) := rs.map fun p => (p.1 + x, shiftT x p.2)
def shiftP (x : Int) (p : Tm × Tm) : Tm × Tm := (shiftT x p.1, shiftT x p.2)
/-- all its Vars are small -/
def Bd (t : Tm) : Prop := ∀ n ∈ placesT t, 0 ≤ n ∧ n ≤ 1000000
def Sm (rs : List (Int × Tm)) : Prop := ∀ p ∈ rs, (-1000000 ≤ p.1 ∧ p.1 ≤ 1000000) ∧ Bd p.2
theorem bd_num {k n : Int} {s : ByteArray} {l : List Tm} (h : Bd (.mk k s n l)) (hk : k = 1) : 0 ≤ n ∧ n ≤ 1000000 := by
  refine h n ?_
  simp only [placesT, if_pos hk]
  simp
theorem placesL_mem : ∀ {l : List Tm} {t : Tm} {n : Int}, t ∈ l → n ∈ placesT t → n ∈ placesL l
  | [], _, _, h, _ => by simp at h
  | u :: l, t, n, h, hn => by
    simp only [placesL, List.mem_append]
    rcases List.mem_cons.1 h with e | e
    · subst e; exact .inl hn
    · exact .inr (placesL_mem e hn)
theorem bd_sub {k n : Int} {s : ByteArray} {l : List Tm} (h : Bd (.mk k s n l)) : ∀ t ∈ l, Bd t := by
  intro t ht a ha
  refine h a ?_
  simp only [placesT, List.mem_append]
  exact .inr (placesL_mem ht ha)
theorem bd_zero : Bd zeroT := by
  intro n hn
  simp [zeroT, placesT, placesL] at hn
section
variable {x : Int}
theorem sh_num (hx : 0 ≤ x ∧ x ≤ 1000000) {n : Int} (hn : 0 ≤ n ∧ n ≤ 1000000) : IntKind.i64.wrap (n + x) = n + x := by
  rw [IntWalk.i64_in] <;> omega
theorem look_sh (n : Int) : ∀ (rs : List (Int × Tm)), lookT (shiftB x rs) (n + x) = (lookT rs n).map (shiftT x)
  | [] => rfl
  | (v, t) :: rs => by
    have ih := look_sh n rs
    simp only [shiftB, List.map_cons, lookT] at ih ⊢
    by_cases h : v = n
    · rw [if_pos (by omega), if_pos h]; rfl
    · rw [if_neg (by omega), if_neg h]; exact ih
theorem bound_sh (hx : 0 ≤ x ∧ x ≤ 1000000) {rs : List (Int × Tm)} {t : Tm} (ht : Bd t) : bound (shiftB x rs) (shiftT x t) = (bound rs t).map (shiftT x) := by
  cases t with
  | mk k s n l =>
    simp only [shiftT, bound]
    by_cases hk : k = 1
    · rw [if_pos hk, if_pos hk, if_pos hk, sh_num hx (bd_num ht hk)]
      exact look_sh n rs
    · rw [if_neg hk, if_neg hk]; rfl
theorem zero_shift (x : Int) : shiftT x zeroT = zeroT := by simp [zeroT, shiftT, shiftL]
theorem walk_sh (hx : 0 ≤ x ∧ x ≤ 1000000) {rs : List (Int × Tm)} (hr : ∀ p ∈ rs, Bd p.2) : ∀ (m : Nat) (t : Tm), Bd t →
    walkT (shiftB x rs) m (shiftT x t) = (shiftT x (walkT rs m t).1, (walkT rs m t).2) ∧ Bd (walkT rs m t).1 := by
  intro m
  induction m with
  | zero =>
    intro t ht
    simp only [walkT, bound_sh hx ht]
    cases hb : bound rs t with
    | none => exact ⟨rfl, ht⟩
    | some u => exact ⟨by simp [zero_shift], bd_zero⟩
  | succ m ih =>
    intro t ht
    simp only [walkT, bound_sh hx ht]
    cases hb : bound rs t with
    | none => exact ⟨rfl, ht⟩
    | some u =>
      obtain ⟨p, hp, rfl⟩ := bound_mem hb
      exact ih p.2 (hr p hp)
theorem meet_sh (hx : 0 ≤ x ∧ x ≤ 1000000) {rs : List (Int × Tm)} (hr : ∀ p ∈ rs, Bd p.2) (m : Nat) (t : Tm) (ht : Bd t) :
    meetT (shiftB x rs) m (shiftT x t) = (shiftT x (meetT rs m t).1, (meetT rs m t).2) ∧ Bd (meetT rs m t).1 := by
  cases m with
  | zero => exact ⟨by simp [meetT, zero_shift], bd_zero⟩
  | succ m => exact walk_sh hx hr m t ht
theorem next_sh (hx : 0 ≤ x ∧ x ≤ 1000000) {rs : List (Int × Tm)} (hr : ∀ p ∈ rs, Bd p.2) (m : Nat) (t t' : Tm) (ht : Bd t) (ht' : Bd t') :
    nextT (shiftB x rs) m (shiftT x t) (shiftT x t') = (shiftT x (nextT rs m t t').1, shiftT x (nextT rs m t t').2.1, (nextT rs m t t').2.2) ∧ Bd (nextT rs m t t').1 ∧ Bd (nextT rs m t t').2.1 := by
  obtain ⟨a1, a2⟩ := meet_sh hx hr m t ht
  obtain ⟨b1, b2⟩ := meet_sh hx hr (meetT rs m t).2.2 t' ht'
  by_cases h0 : (meetT rs m t).2.1 = 0
  · simp only [nextT, a1, if_pos h0, b1]
    exact ⟨trivial, a2, b2⟩
  · simp only [nextT, a1, if_neg h0, zero_shift]
    exact ⟨trivial, a2, bd_zero⟩
theorem zip_sh (x : Int) : ∀ l l' : List Tm, (shiftL x l).zip (shiftL x l') = (l.zip l').map (shiftP x)
  | [], _ => rfl
  | _ :: _, [] => rfl
  | a :: l, b :: l' => by simp only [shiftL, List.zip_cons_cons, List.map_cons, shiftP, zip_sh x l l']
def US.sh (x : Int) : US → US
  | .skip => .skip
  | .bind v t => .bind (v + x) (shiftT x t)
  | .fail => .fail
  | .into l => .into (l.map (shiftP x))
theorem uStep_sh (hx : 0 ≤ x ∧ x ≤ 1000000) (t t' : Tm) (ht : Bd t) (ht' : Bd t') : uStep (shiftT x t) (shiftT x t') = (uStep t t').sh x := by
  cases t with
  | mk k s n l =>
  cases t' with
  | mk k' s' n' l' =>
  have sh : ∀ (k s n l), shiftT x (.mk k s n l) = .mk k s (if k = 1 then IntKind.i64.wrap (n + x) else n) (shiftL x l) := fun _ _ _ _ => by rw [shiftT]
  by_cases c1 : k = 1
  · have e1 := sh_num hx (bd_num ht c1)
    by_cases c2 : k' = 1
    · have e2 := sh_num hx (bd_num ht' c2)
      rw [sh k, sh k', if_pos c1, if_pos c2, e1, e2]
      by_cases c3 : n = n'
      · rw [us1 c1 c2 (by omega), us1 c1 c2 c3]; rfl
      · by_cases c4 : n > n'
        · rw [us2 c1 (.inr (by omega)), us2 c1 (.inr c4)]
          simp only [US.sh, shiftT, if_pos c2, e2]
        · rw [us3 c2 (.inr (by omega)), us3 c2 (.inr (by omega))]
          simp only [US.sh, shiftT, if_pos c1, e1]
    · rw [sh k, sh k', if_pos c1, if_neg c2, e1, us2 c1 (.inl c2), us2 c1 (.inl c2)]
      simp only [US.sh, shiftT, if_neg c2]
  · by_cases c2 : k' = 1
    · have e2 := sh_num hx (bd_num ht' c2)
      rw [sh k, sh k', if_neg c1, if_pos c2, e2, us3 c2 (.inl c1), us3 c2 (.inl c1)]
      simp only [US.sh, shiftT, if_neg c1]
    · rw [sh k, sh k', if_neg c1, if_neg c2]
      by_cases c3 : k = k' ∧ s.toList = s'.toList ∧ n = n' ∧ l.length = l'.length
      · rw [us4 c1 c2 ⟨c3.1, c3.2.1, c3.2.2.1, by rw [shiftL_len, shiftL_len]; exact c3.2.2.2⟩, us4 c1 c2 c3, zip_sh]; rfl
      · rw [us5 c1 c2 (fun h => c3 ⟨h.1, h.2.1, h.2.2.1, by have := h.2.2.2; rwa [shiftL_len, shiftL_len] at this⟩), us5 c1 c2 c3]; rfl
theorem uStep_bd {t t' : Tm} (ht : Bd t) (ht' : Bd t') : match uStep t t' with
    | .bind v u => (0 ≤ v ∧ v ≤ 1000000) ∧ Bd u
    | .into l => ∀ p ∈ l, Bd p.1 ∧ Bd p.2
    | _ => True := by
  cases t with
  | mk k s n l =>
  cases t' with
  | mk k' s' n' l' =>
  by_cases c1 : k = 1
  · by_cases c2 : k' = 1
    · by_cases c3 : n = n'
      · rw [us1 c1 c2 c3]; trivial
      · by_cases c4 : n > n'
        · rw [us2 c1 (.inr c4)]; exact ⟨bd_num ht c1, ht'⟩
        · rw [us3 c2 (.inr (by omega))]; exact ⟨bd_num ht' c2, ht⟩
    · rw [us2 c1 (.inl c2)]; exact ⟨bd_num ht c1, ht'⟩
  · by_cases c2 : k' = 1
    · rw [us3 c2 (.inl c1)]; exact ⟨bd_num ht' c2, ht⟩
    · by_cases c3 : k = k' ∧ s.toList = s'.toList ∧ n = n' ∧ l.length = l'.length
      · rw [us4 c1 c2 c3]
        intro p hp
        have := List.of_mem_zip (a := p.1) (b := p.2) hp
        exact ⟨bd_sub ht _ this.1, bd_sub ht' _ this.2⟩
      · rw [us5 c1 c2 c3]; trivial
theorem shiftB_rev (x : Int) (bs : List (Int × Tm)) : (shiftB x bs).reverse = shiftB x bs.reverse := by simp [shiftB]
theorem uRun_sh (hx : 0 ≤ x ∧ x ≤ 1000000) : ∀ (f : Nat) (bs : List (Int × Tm)) (m : Nat) (todo : List (Tm × Tm)), Sm bs → (∀ p ∈ todo, Bd p.1 ∧ Bd p.2) →
    uRun f (shiftB x bs) m (todo.map (shiftP x)) = (shiftB x (uRun f bs m todo).1, (uRun f bs m todo).2) ∧ Sm (uRun f bs m todo).1 := by
  intro f
  induction f with
  | zero =>
    intro bs m todo hb _
    cases todo with
    | nil => exact ⟨rfl, hb⟩
    | cons p r => exact ⟨rfl, fun p hp => by simp [uRun] at hp⟩
  | succ f ih =>
    intro bs m todo hb htd
    cases todo with
    | nil => exact ⟨rfl, hb⟩
    | cons p r =>
      obtain ⟨u, u'⟩ := p
      obtain ⟨h1, h2⟩ := htd (u, u') (by simp)
      have hr := fun p hp => htd p (List.mem_cons_of_mem _ hp)
      have hb' : ∀ p ∈ bs.reverse, Bd p.2 := fun p hp => (hb p (by simpa using hp)).2
      obtain ⟨n1, n2, n3⟩ := next_sh hx hb' m u u' h1 h2
      simp only [List.map_cons, shiftP, uRun, shiftB_rev, n1]
      generalize nextT bs.reverse m u u' = w at n2 n3 ⊢
      obtain ⟨w1, w2, e, m'⟩ := w
      dsimp only at n2 n3 ⊢
      by_cases he : e = 0
      · rw [if_pos he, if_pos he, uStep_sh hx w1 w2 n2 n3]
        have hbd := uStep_bd n2 n3
        cases hu : uStep w1 w2 with
        | skip => exact ih bs m' r hb hr
        | fail => exact ⟨rfl, fun p hp => by simp at hp⟩
        | bind v t =>
          rw [hu] at hbd
          simp only [US.sh]
          have hb2 : Sm (bs ++ [(v, t)]) := by
            intro p hp
            rcases List.mem_append.1 hp with hp | hp
            · exact hb p hp
            · simp only [List.mem_singleton] at hp
              subst hp
              exact ⟨⟨by omega, by omega⟩, hbd.2⟩
          have := ih (bs ++ [(v, t)]) m' r hb2 hr
          simpa [shiftB] using this
        | into l =>
          rw [hu] at hbd
          simp only [US.sh]
          have := ih bs m' (l ++ r) hb (fun p hp => (List.mem_append.1 hp).elim (hbd p) (hr p))
          rw [List.map_append] at this
          exact this
      · rw [if_neg he, if_neg he]
        exact ⟨rfl, fun p hp => by simp at hp⟩
theorem uni_sh (hx : 0 ≤ x ∧ x ≤ 1000000) {bs : List (Int × Tm)} (hb : Sm bs) {t t' : Tm} (ht : Bd t) (ht' : Bd t') : uniT (shiftB x bs) (shiftT x t) (shiftT x t') = (shiftB x (uniT bs t t').1, (uniT bs t t').2) ∧ Sm (uniT bs t t').1 :=
  uRun_sh hx 2001 bs 2000 [(t, t')] hb (by intro p hp; simp only [List.mem_singleton] at hp; subst hp; exact ⟨ht, ht'⟩)
theorem uRun_len : ∀ (f : Nat) (bs : List (Int × Tm)) (m : Nat) (todo : List (Tm × Tm)), (uRun f bs m todo).1.length ≤ bs.length + f := by
  intro f
  induction f with
  | zero => intro bs m todo; cases todo <;> simp [uRun]
  | succ f ih =>
    intro bs m todo
    cases todo with
    | nil => simp [uRun]
    | cons p r =>
      obtain ⟨u, u'⟩ := p
      simp only [uRun]
      split
      · split
        · have := ih bs (nextT bs.reverse m u u').2.2.2 r; omega
        · rename_i v t _
          have := ih (bs ++ [(v, t)]) (nextT bs.reverse m u u').2.2.2 r
          simp only [List.length_append, List.length_cons, List.length_nil] at this
          omega
        · simp
        · rename_i l _
          have := ih bs (nextT bs.reverse m u u').2.2.2 (l ++ r); omega
      · simp
theorem shift_size (x : Int) : ∀ t : Tm, size (shiftT x t) = size t
  | .mk k s n l => by
    have := shiftL_size x l
    simp only [shiftT, size, this]
where shiftL_size (x : Int) : ∀ l : List Tm, sizeL (shiftL x l) = sizeL l
  | [] => rfl
  | t :: l => by simp only [shiftL, sizeL, shift_size x t, shiftL_size x l]
theorem uRun_size {M : Nat} (hM : 1 ≤ M) : ∀ (f : Nat) (bs : List (Int × Tm)) (m : Nat) (todo : List (Tm × Tm)), (∀ p ∈ bs, size p.2 ≤ M) → (∀ p ∈ todo, size p.1 ≤ M ∧ size p.2 ≤ M) → ∀ p ∈ (uRun f bs m todo).1, size p.2 ≤ M := by
  intro f
  induction f with
  | zero => intro bs m todo hb _; cases todo <;> simp [uRun]; exact fun a b h => hb (a, b) h
  | succ f ih =>
    intro bs m todo hb htd
    cases todo with
    | nil => simpa [uRun] using hb
    | cons p r =>
      obtain ⟨u, u'⟩ := p
      obtain ⟨h1, h2⟩ := htd (u, u') (by simp)
      have hr := fun p hp => htd p (List.mem_cons_of_mem _ hp)
      have hb' : ∀ p ∈ bs.reverse, size p.2 ≤ M := fun p hp => hb p (by simpa using hp)
      obtain ⟨n1, n2⟩ := nextT_size hM hb' (m := m) h1 h2
      simp only [uRun]
      generalize nextT bs.reverse m u u' = w at n1 n2 ⊢
      obtain ⟨⟨k, s, n, l⟩, ⟨k', s', n', l'⟩, e, m'⟩ := w
      dsimp only at n1 n2 ⊢
      have hadd : ∀ v t, size t ≤ M → ∀ p ∈ bs ++ [(v, t)], size p.2 ≤ M := by
        intro v t ht p hp
        rcases List.mem_append.1 hp with hp | hp
        · exact hb p hp
        · simp only [List.mem_singleton] at hp; subst hp; exact ht
      split
      · by_cases c1 : k = 1
        · by_cases c2 : k' = 1
          · by_cases c3 : n = n'
            · rw [us1 c1 c2 c3]; exact ih _ _ _ hb hr
            · by_cases c4 : n > n'
              · rw [us2 c1 (.inr c4)]; exact ih _ _ _ (hadd _ _ n2) hr
              · rw [us3 c2 (.inr (by omega))]; exact ih _ _ _ (hadd _ _ n1) hr
          · rw [us2 c1 (.inl c2)]; exact ih _ _ _ (hadd _ _ n2) hr
        · by_cases c2 : k' = 1
          · rw [us3 c2 (.inl c1)]; exact ih _ _ _ (hadd _ _ n1) hr
          · by_cases c3 : k = k' ∧ s.toList = s'.toList ∧ n = n' ∧ l.length = l'.length
            · rw [us4 c1 c2 c3]
              refine ih _ _ _ hb (fun p hp => ?_)
              rcases List.mem_append.1 hp with hp | hp
              · have := List.of_mem_zip (a := p.1) (b := p.2) hp
                have a1 := size_mem this.1
                have a2 := size_mem this.2
                simp only [size] at n1 n2
                omega
              · exact hr p hp
            · rw [us5 c1 c2 c3]; simp
      · simp
end
end Go.AE.YtpgoibncgekflaaDoor
end

/-! What was unified is the same: the plain law. -/
section
set_option linter.unusedVariables false
set_option linter.unusedSimpArgs false
namespace Go.AE.YtpgoibncgekflaaDoor
open Go Go.AE Go.Proofs.YtpgoibncgekflaaDoor

def Heads (P : Tm → Tm → Prop) : Tm → Tm → Prop
  | .mk k s n l, .mk k' s' n' l' => k = k' ∧ s.toList = s'.toList ∧ n = n' ∧ l.length = l'.length ∧ ∀ p ∈ l.zip l', P p.1 p.2
/-- two terms are the same under these bindings, n levels deep -/
def Un (rs : List (Int × Tm)) : Nat → Tm → Tm → Prop
  | 0, _, _ => True
  | n + 1, t, t' => ∀ m m', (walkT rs m t).2.1 = 0 → (walkT rs m' t').2.1 = 0 → Heads (Un rs n) (walkT rs m t).1 (walkT rs m' t').1
theorem zip_self {l : List Tm} {p : Tm × Tm} (hp : p ∈ l.zip l) : p.1 = p.2 := by
  obtain ⟨i, hi, he⟩ := List.mem_iff_getElem.1 hp
  have : (l.zip l)[i] = (l[i]'(by simp at hi; exact hi), l[i]'(by simp at hi; exact hi)) := by simp
  rw [this] at he
  rw [← he]
theorem heads_self {P : Tm → Tm → Prop} (hP : ∀ t, P t t) (u : Tm) : Heads P u u := by
  cases u with
  | mk k s n l =>
    refine ⟨rfl, rfl, rfl, rfl, fun p hp => ?_⟩
    rw [zip_self hp]; exact hP _
theorem un_refl (rs : List (Int × Tm)) : ∀ (n : Nat) (t : Tm), Un rs n t t
  | 0, _ => trivial
  | n + 1, t => fun m m' h h' => by
    rw [walkT_det m m' t h h']
    exact heads_self (un_refl rs n) _
def Ext (bs lb : List (Int × Tm)) : Prop := ∀ v u, lookT bs.reverse v = some u → lookT lb.reverse v = some u
theorem walk_end {rs : List (Int × Tm)} : ∀ (m : Nat) (t : Tm), (walkT rs m t).2.1 = 0 → bound rs (walkT rs m t).1 = none := by
  intro m
  induction m with
  | zero =>
    intro t h
    cases hb : bound rs t with
    | some u => simp [walkT, hb] at h
    | none => simp [walkT, hb]
  | succ m ih =>
    intro t h
    cases hb : bound rs t with
    | some u => simp only [walkT, hb] at h ⊢; exact ih u h
    | none => simp [walkT, hb]
theorem meet_walk {rs : List (Int × Tm)} {m : Nat} {t : Tm} (h : (meetT rs m t).2.1 = 0) : ∃ m', (walkT rs m' t).2.1 = 0 ∧ (walkT rs m' t).1 = (meetT rs m t).1 := by
  cases m with
  | zero => simp [meetT] at h
  | succ m => exact ⟨m, h, rfl⟩
theorem next_walk {rs : List (Int × Tm)} {m : Nat} {x y : Tm} (h : (nextT rs m x y).2.2.1 = 0) : (∃ m', (walkT rs m' x).2.1 = 0 ∧ (walkT rs m' x).1 = (nextT rs m x y).1) ∧ (∃ m', (walkT rs m' y).2.1 = 0 ∧ (walkT rs m' y).1 = (nextT rs m x y).2.1) := by
  by_cases h0 : (meetT rs m x).2.1 = 0
  · simp only [nextT, if_pos h0] at h ⊢
    exact ⟨meet_walk h0, meet_walk h⟩
  · simp only [nextT, if_neg h0] at h
    exact absurd h h0
theorem bound_ext {bs lb : List (Int × Tm)} (he : Ext bs lb) {t u : Tm} (h : bound bs.reverse t = some u) : bound lb.reverse t = some u := by
  cases t with
  | mk k s n l =>
    simp only [bound] at h ⊢
    split at h
    · rename_i hk; rw [if_pos hk]; exact he _ _ h
    · cases h
/-- under more bindings a way goes through where it ended under fewer -/
theorem walk_ext {bs lb : List (Int × Tm)} (he : Ext bs lb) : ∀ (m : Nat) (t : Tm), (walkT bs.reverse m t).2.1 = 0 → ∀ M, (walkT lb.reverse M t).2.1 = 0 → ∃ M2, (walkT lb.reverse M2 (walkT bs.reverse m t).1).2.1 = 0 ∧ (walkT lb.reverse M2 (walkT bs.reverse m t).1).1 = (walkT lb.reverse M t).1 := by
  intro m
  induction m with
  | zero =>
    intro t h M hM
    cases hb : bound bs.reverse t with
    | some u => simp [walkT, hb] at h
    | none => simp only [walkT, hb]; exact ⟨M, hM, rfl⟩
  | succ m ih =>
    intro t h M hM
    cases hb : bound bs.reverse t with
    | none => simp only [walkT, hb]; exact ⟨M, hM, rfl⟩
    | some u =>
      have hb2 := bound_ext he hb
      simp only [walkT, hb] at h ⊢
      cases M with
      | zero => simp [walkT, hb2] at hM
      | succ M =>
        simp only [walkT, hb2] at hM ⊢
        exact ih u h M hM
theorem uStep_may {t t' : Tm} (ht : mayT t = true) (ht' : mayT t' = true) : match uStep t t' with
    | .bind v u => mayT u = true
    | .into l => ∀ p ∈ l, mayT p.1 = true ∧ mayT p.2 = true
    | _ => True := by
  cases t with
  | mk k s n l =>
  cases t' with
  | mk k' s' n' l' =>
  by_cases c1 : k = 1
  · by_cases c2 : k' = 1
    · by_cases c3 : n = n'
      · rw [us1 c1 c2 c3]; trivial
      · by_cases c4 : n > n'
        · rw [us2 c1 (.inr c4)]; exact ht'
        · rw [us3 c2 (.inr (by omega))]; exact ht
    · rw [us2 c1 (.inl c2)]; exact ht'
  · by_cases c2 : k' = 1
    · rw [us3 c2 (.inl c1)]; exact ht
    · by_cases c3 : k = k' ∧ s.toList = s'.toList ∧ n = n' ∧ l.length = l'.length
      · rw [us4 c1 c2 c3]
        intro p hp
        have := List.of_mem_zip (a := p.1) (b := p.2) hp
        exact ⟨mayL_mem (may_sub ht) this.1, mayL_mem (may_sub ht') this.2⟩
      · rw [us5 c1 c2 c3]; trivial
theorem may_var {s : ByteArray} {n : Int} {l : List Tm} (h : mayT (.mk 1 s n l) = true) : s.toList = (⟨#[]⟩ : ByteArray).toList ∧ l = [] := by
  have h0 := (may_args h).2
  refine ⟨?_, h0.resolve_right (by decide)⟩
  simp only [mayT] at h
  simp at h
  simpa using h.1.2
theorem ext_add {bs : List (Int × Tm)} {v : Int} {t : Tm} (h : lookT bs.reverse v = none) : Ext bs (bs ++ [(v, t)]) := by
  intro w u hw
  simp only [List.reverse_append, List.reverse_cons, List.reverse_nil, List.nil_append, List.singleton_append, lookT]
  by_cases e : v = w
  · subst e; rw [h] at hw; cases hw
  · rw [if_neg e]; exact hw
/-- what is bound by a step was free -/
theorem uStep_free {rs : List (Int × Tm)} {t t' : Tm} (ht : bound rs t = none) (ht' : bound rs t' = none) {v : Int} {u : Tm} (h : uStep t t' = .bind v u) :
    lookT rs v = none ∧ ((∃ s l, t = .mk 1 s v l ∧ u = t') ∨ (∃ s l, t' = .mk 1 s v l ∧ u = t)) := by
  cases t with
  | mk k s n l =>
  cases t' with
  | mk k' s' n' l' =>
  simp only [bound] at ht ht'
  by_cases c1 : k = 1
  · subst c1
    rw [if_pos rfl] at ht
    by_cases c2 : k' = 1
    · subst c2
      rw [if_pos rfl] at ht'
      by_cases c3 : n = n'
      · rw [us1 rfl rfl c3] at h; cases h
      · by_cases c4 : n > n'
        · rw [us2 rfl (.inr c4)] at h; cases h; exact ⟨ht, .inl ⟨s, l, rfl, rfl⟩⟩
        · rw [us3 rfl (.inr (by omega))] at h; cases h; exact ⟨ht', .inr ⟨s', l', rfl, rfl⟩⟩
    · rw [us2 rfl (.inl c2)] at h; cases h; exact ⟨ht, .inl ⟨s, l, rfl, rfl⟩⟩
  · by_cases c2 : k' = 1
    · subst c2
      rw [if_pos rfl] at ht'
      rw [us3 rfl (.inl c1)] at h; cases h; exact ⟨ht', .inr ⟨s', l', rfl, rfl⟩⟩
    · by_cases c3 : k = k' ∧ s.toList = s'.toList ∧ n = n' ∧ l.length = l'.length
      · rw [us4 c1 c2 c3] at h; cases h
      · rw [us5 c1 c2 c3] at h; cases h
theorem uStep_into {t t' : Tm} {l : List (Tm × Tm)} (h : uStep t t' = .into l) : ∃ k s n a s' n' a', t = .mk k s n a ∧ t' = .mk k s' n' a' ∧ k ≠ 1 ∧ s.toList = s'.toList ∧ n = n' ∧ a.length = a'.length ∧ l = a.zip a' := by
  cases t with
  | mk k s n a =>
  cases t' with
  | mk k' s' n' a' =>
  by_cases c1 : k = 1
  · by_cases c2 : k' = 1
    · by_cases c3 : n = n'
      · rw [us1 c1 c2 c3] at h; cases h
      · by_cases c4 : n > n'
        · rw [us2 c1 (.inr c4)] at h; cases h
        · rw [us3 c2 (.inr (by omega))] at h; cases h
    · rw [us2 c1 (.inl c2)] at h; cases h
  · by_cases c2 : k' = 1
    · rw [us3 c2 (.inl c1)] at h; cases h
    · by_cases c3 : k = k' ∧ s.toList = s'.toList ∧ n = n' ∧ a.length = a'.length
      · rw [us4 c1 c2 c3] at h; cases h
        obtain ⟨rfl, e2, e3, e4⟩ := c3
        exact ⟨k, s, n, a, s', n', a', rfl, rfl, c1, e2, e3, e4, rfl⟩
      · rw [us5 c1 c2 c3] at h; cases h
theorem uStep_skip {t t' : Tm} (h : uStep t t' = .skip) : ∃ s n a s' a', t = .mk 1 s n a ∧ t' = .mk 1 s' n a' := by
  cases t with
  | mk k s n a =>
  cases t' with
  | mk k' s' n' a' =>
  by_cases c1 : k = 1
  · by_cases c2 : k' = 1
    · by_cases c3 : n = n'
      · subst c1 c2 c3; exact ⟨s, n, a, s', a', rfl, rfl⟩
      · by_cases c4 : n > n'
        · rw [us2 c1 (.inr c4)] at h; cases h
        · rw [us3 c2 (.inr (by omega))] at h; cases h
    · rw [us2 c1 (.inl c2)] at h; cases h
  · by_cases c2 : k' = 1
    · rw [us3 c2 (.inl c1)] at h; cases h
    · by_cases c3 : k = k' ∧ s.toList = s'.toList ∧ n = n' ∧ a.length = a'.length
      · rw [us4 c1 c2 c3] at h; cases h
      · rw [us5 c1 c2 c3] at h; cases h
/-- where a Var that is bound leads, under bindings -/
theorem walk_var {rs : List (Int × Tm)} {s : ByteArray} {v : Int} {l : List Tm} {u : Tm} (h : lookT rs v = some u) {M : Nat} (hM : (walkT rs M (.mk 1 s v l)).2.1 = 0) : ∃ M', (walkT rs M' u).2.1 = 0 ∧ (walkT rs M' u).1 = (walkT rs M (.mk 1 s v l)).1 := by
  have hb : bound rs (.mk 1 s v l) = some u := by simp [bound, h]
  cases M with
  | zero => simp [walkT, hb] at hM
  | succ M => simp only [walkT, hb] at hM ⊢; exact ⟨M, hM, rfl⟩
theorem walk_stay {rs : List (Int × Tm)} {t : Tm} (h : bound rs t = none) (M : Nat) : walkT rs M t = (t, 0, M) := by
  cases M <;> simp [walkT, h]

theorem uni_un : ∀ (f : Nat) (bs : List (Int × Tm)) (m : Nat) (todo : List (Tm × Tm)) (lb : List (Int × Tm)) (e : Int), (∀ p ∈ bs, mayT p.2 = true) → (∀ p ∈ todo, mayT p.1 = true ∧ mayT p.2 = true) → uRun f bs m todo = (lb, true, e) →
    Ext bs lb ∧ (∀ p ∈ lb, mayT p.2 = true) ∧ ∀ p ∈ todo, ∀ n, Un lb.reverse n p.1 p.2 := by
  intro f
  induction f with
  | zero =>
    intro bs m todo lb e hbm _ h
    cases todo with
    | nil => simp only [uRun] at h; cases h; exact ⟨fun v u h => h, hbm, fun p hp => by simp at hp⟩
    | cons p r => simp [uRun] at h
  | succ f ih =>
    intro bs m todo lb e hbm htd h
    cases todo with
    | nil => simp only [uRun] at h; cases h; exact ⟨fun v u h => h, hbm, fun p hp => by simp at hp⟩
    | cons p r =>
      obtain ⟨x, y⟩ := p
      obtain ⟨m1, m2⟩ := htd (x, y) (by simp)
      dsimp only at m1 m2
      have hr := fun p hp => htd p (List.mem_cons_of_mem _ hp)
      have hbm' : ∀ p ∈ bs.reverse, mayT p.2 = true := fun p hp => hbm p (by simpa using hp)
      simp only [uRun] at h
      by_cases he : (nextT bs.reverse m x y).2.2.1 = 0
      · rw [if_pos he] at h
        obtain ⟨⟨a1, a2, a3⟩, ⟨b1, b2, b3⟩⟩ := next_walk he
        obtain ⟨g1, g2⟩ := nextT_may hbm' m1 m2 he
        have f1 : bound bs.reverse (nextT bs.reverse m x y).1 = none := by rw [← a3]; exact walk_end _ _ a2
        have f2 : bound bs.reverse (nextT bs.reverse m x y).2.1 = none := by rw [← b3]; exact walk_end _ _ b2
        generalize (nextT bs.reverse m x y).1 = x' at h a3 g1 f1
        generalize (nextT bs.reverse m x y).2.1 = y' at h b3 g2 f2
        have hmy := uStep_may g1 g2
        -- what is to be shown of this pair
        have close : Ext bs lb → (∀ n M M', (walkT lb.reverse M x').2.1 = 0 → (walkT lb.reverse M' y').2.1 = 0 → Heads (Un lb.reverse n) (walkT lb.reverse M x').1 (walkT lb.reverse M' y').1) → ∀ n, Un lb.reverse n x y := by
          intro hx hh n
          cases n with
          | zero => trivial
          | succ n =>
            intro M M' h1 h2
            obtain ⟨M2, c1, c2⟩ := walk_ext hx a1 x a2 M h1
            obtain ⟨M3, d1, d2⟩ := walk_ext hx b1 y b2 M' h2
            rw [a3] at c1 c2
            rw [b3] at d1 d2
            rw [← c2, ← d2]
            exact hh n M2 M3 c1 d1
        cases hu : uStep x' y' with
        | fail => rw [hu] at h; simp at h
        | skip =>
          rw [hu] at h
          obtain ⟨i1, i2, i3⟩ := ih bs _ r lb e hbm hr h
          refine ⟨i1, i2, fun p hp => ?_⟩
          rcases List.mem_cons.1 hp with rfl | hp
          · refine close i1 (fun n M M' h1 h2 => ?_)
            obtain ⟨s, v, a, s', a', rfl, rfl⟩ := uStep_skip hu
            obtain ⟨p1, p2⟩ := may_var g1
            obtain ⟨p3, p4⟩ := may_var g2
            subst p2 p4
            cases hl : lookT lb.reverse v with
            | none =>
              have q1 : bound lb.reverse (.mk 1 s v []) = none := by simp [bound, hl]
              have q2 : bound lb.reverse (.mk 1 s' v []) = none := by simp [bound, hl]
              rw [walk_stay q1, walk_stay q2]
              exact ⟨rfl, by rw [p1, p3], rfl, rfl, fun p hp => by simp at hp⟩
            | some u =>
              obtain ⟨M2, c1, c2⟩ := walk_var hl h1
              obtain ⟨M3, d1, d2⟩ := walk_var hl h2
              rw [← c2, ← d2, walkT_det M2 M3 u c1 d1]
              exact heads_self (un_refl _ n) _
          · exact i3 p hp
        | bind v u =>
          rw [hu] at h hmy
          dsimp only at h hmy
          obtain ⟨w1, w2⟩ := uStep_free f1 f2 hu
          obtain ⟨i1, i2, i3⟩ := ih (bs ++ [(v, u)]) _ r lb e (fun p hp => by
            rcases List.mem_append.1 hp with hp | hp
            · exact hbm p hp
            · simp only [List.mem_singleton] at hp; subst hp; exact hmy) hr h
          have hx : Ext bs lb := fun a b hab => i1 a b (ext_add w1 a b hab)
          have hv : lookT lb.reverse v = some u := i1 v u (by simp [lookT])
          refine ⟨hx, i2, fun p hp => ?_⟩
          rcases List.mem_cons.1 hp with rfl | hp
          · refine close hx (fun n M M' h1 h2 => ?_)
            rcases w2 with ⟨s, l, rfl, rfl⟩ | ⟨s, l, rfl, rfl⟩
            · obtain ⟨M2, c1, c2⟩ := walk_var hv h1
              rw [← c2, walkT_det M2 M' u c1 h2]
              exact heads_self (un_refl _ n) _
            · obtain ⟨M2, c1, c2⟩ := walk_var hv h2
              rw [← c2, walkT_det M2 M u c1 h1]
              exact heads_self (un_refl _ n) _
          · exact i3 p hp
        | into l =>
          rw [hu] at h hmy
          dsimp only at h hmy
          obtain ⟨i1, i2, i3⟩ := ih bs _ (l ++ r) lb e hbm (fun p hp => (List.mem_append.1 hp).elim (hmy p) (hr p)) h
          refine ⟨i1, i2, fun p hp => ?_⟩
          rcases List.mem_cons.1 hp with rfl | hp
          · refine close i1 (fun n M M' h1 h2 => ?_)
            obtain ⟨k, s, n1, a, s', n2, a', rfl, rfl, k1, e2, e3, e4, rfl⟩ := uStep_into hu
            have q1 : bound lb.reverse (.mk k s n1 a) = none := by simp [bound, k1]
            have q2 : bound lb.reverse (.mk k s' n2 a') = none := by simp [bound, k1]
            rw [walk_stay q1, walk_stay q2]
            exact ⟨rfl, e2, e3, e4, fun p hp => i3 p (List.mem_append_left _ hp) n⟩
          · exact i3 p (List.mem_append_right _ hp)
      · rw [if_neg he] at h
        simp at h

/-- resolved, they are the same -/
theorem res_same {rs : List (Int × Tm)} : ∀ (d m m' : Nat) (t t' s s' : Tm) (q q' : Nat), (∀ n, Un rs n t t') → resT rs d m t = .ok (s, q) → resT rs d m' t' = .ok (s', q') → same s s' = true := by
  intro d
  induction d with
  | zero =>
    intro m m' t t' s s' q q' _ h
    simp only [resT] at h
    split at h <;> cases h
  | succ d ih =>
    have hL : ∀ (l l' : List Tm) (m m' : Nat) (xs xs' : List Tm) (q q' : Nat), l.length = l'.length → (∀ n, ∀ p ∈ l.zip l', Un rs n p.1 p.2) → resL (resT rs d) m l = .ok (xs, q) → resL (resT rs d) m' l' = .ok (xs', q') → xs.length = xs'.length ∧ sameL xs xs' = true := by
      intro l
      induction l with
      | nil =>
        intro l' m m' xs xs' q q' hlen _ h h'
        cases l' with
        | cons a l' => simp at hlen
        | nil =>
          simp only [resL] at h h'
          cases h; cases h'
          exact ⟨rfl, rfl⟩
      | cons a l ihl =>
        intro l' m m' xs xs' q q' hlen hp h h'
        cases l' with
        | nil => simp at hlen
        | cons a' l' =>
          simp only [resL] at h h'
          cases h1 : resT rs d m a with
          | error e => rw [h1] at h; cases h
          | ok w =>
          obtain ⟨u, mu⟩ := w
          rw [h1] at h
          cases h2 : resT rs d m' a' with
          | error e => rw [h2] at h'; cases h'
          | ok w' =>
          obtain ⟨u', mu'⟩ := w'
          rw [h2] at h'
          dsimp only at h h'
          cases h3 : resL (resT rs d) mu l with
          | error e => rw [h3] at h; cases h
          | ok w =>
          obtain ⟨ys, my⟩ := w
          rw [h3] at h
          cases h4 : resL (resT rs d) mu' l' with
          | error e => rw [h4] at h'; cases h'
          | ok w' =>
          obtain ⟨ys', my'⟩ := w'
          rw [h4] at h'
          dsimp only at h h'
          cases h; cases h'
          have k1 := ih m m' a a' u u' mu mu' (fun n => hp n (a, a') (by simp)) h1 h2
          have k2 := ihl l' mu mu' ys ys' q q' (by simpa using hlen) (fun n p hp' => hp n p (by simp [hp'])) h3 h4
          exact ⟨by simp [k2.1], by simp [sameL, k1, k2.2]⟩
    intro m m' t t' s s' q q' hU h h'
    simp only [resT] at h h'
    have hm := @meet_walk rs m t
    have hm' := @meet_walk rs m' t'
    generalize meetT rs m t = w at h hm
    generalize meetT rs m' t' = w' at h' hm'
    obtain ⟨⟨k, c, n, l⟩, e, mm⟩ := w
    obtain ⟨⟨k', c', n', l'⟩, e', mm'⟩ := w'
    dsimp only at h h' hm hm'
    by_cases he : e = 0
    · by_cases he' : e' = 0
      · rw [if_pos he] at h
        rw [if_pos he'] at h'
        obtain ⟨M, a1, a2⟩ := hm he
        obtain ⟨M', b1, b2⟩ := hm' he'
        have hh : ∀ j, Heads (Un rs j) (.mk k c n l) (.mk k' c' n' l') := fun j => by
          have := hU (j + 1) M M' a1 b1
          rw [a2, b2] at this
          exact this
        cases h1 : resL (resT rs d) mm l with
        | error e => rw [h1] at h; cases h
        | ok w =>
        obtain ⟨xs, m2⟩ := w
        rw [h1] at h
        cases h2 : resL (resT rs d) mm' l' with
        | error e => rw [h2] at h'; cases h'
        | ok w' =>
        obtain ⟨xs', m2'⟩ := w'
        rw [h2] at h'
        cases h; cases h'
        obtain ⟨p1, p2, p3, p4, _⟩ := hh 0
        obtain ⟨k1, k2⟩ := hL l l' mm mm' xs xs' _ _ p4 (fun j p hp => (hh j).2.2.2.2 p hp) h1 h2
        simp [same, p1, p2, p3, k1, k2]
      · rw [if_neg he'] at h'; cases h'
    · rw [if_neg he] at h; cases h
/-- unified again, nothing is bound -/
theorem again_run {lb : List (Int × Tm)} : ∀ (f m : Nat) (todo : List (Tm × Tm)), (∀ p ∈ todo, ∀ n, Un lb.reverse n p.1 p.2) → uRun f lb m todo = (lb, true, 0) ∨ uRun f lb m todo = ([], false, 140) := by
  intro f
  induction f with
  | zero =>
    intro m todo _
    cases todo with
    | nil => exact .inl rfl
    | cons p r => exact .inr rfl
  | succ f ih =>
    intro m todo htd
    cases todo with
    | nil => exact .inl rfl
    | cons p r =>
      obtain ⟨x, y⟩ := p
      have hU := htd (x, y) (by simp)
      dsimp only at hU
      have hr := fun p hp => htd p (List.mem_cons_of_mem _ hp)
      simp only [uRun]
      have hw := @next_walk lb.reverse m x y
      have hE := nextT_err lb.reverse m x y
      generalize nextT lb.reverse m x y = w at hw hE ⊢
      obtain ⟨⟨k, s, n, l⟩, ⟨k', s', n', l'⟩, e, m'⟩ := w
      dsimp only at hw hE ⊢
      by_cases he : e = 0
      · rw [if_pos he]
        obtain ⟨⟨M, a1, a2⟩, ⟨M', b1, b2⟩⟩ := hw he
        have hh : ∀ j, Heads (Un lb.reverse j) (.mk k s n l) (.mk k' s' n' l') := fun j => by
          have := hU (j + 1) M M' a1 b1
          rw [a2, b2] at this
          exact this
        obtain ⟨p1, p2, p3, p4, _⟩ := hh 0
        by_cases k1 : k = 1
        · rw [us1 k1 (by rw [← p1]; exact k1) p3]
          exact ih m' r hr
        · rw [us4 k1 (by rw [← p1]; exact k1) ⟨p1, p2, p3, p4⟩]
          refine ih m' _ (fun p hp j => ?_)
          rcases List.mem_append.1 hp with hp | hp
          · exact (hh j).2.2.2.2 p hp
          · exact hr p hp j
      · rw [if_neg he, hE.resolve_left he]
        exact .inr rfl
end Go.AE.YtpgoibncgekflaaDoor
end

/-! Meet of the document. -/
section
set_option linter.unusedVariables false
set_option linter.unusedSimpArgs false
namespace Go.AE.YtpgoibncgekflaaDoor
open Go Go.AE Go.Proofs.YtpgoibncgekflaaDoor

section
variable {h : List AO} {id off : Nat} {ms : List AV} {m : Int} {l : List AO}
theorem meet58 (c : Ctr h id off ms) {b a : AV} {es : List AV} {rs : List (Int × Tm)} (hes : AllB es rs) {b' : AV} (hbs : ∀ (m : Int) (l : List AO), b.snap1 (ctr h id off ms m ++ l) = some b') (hlook : ∀ n, callW F 72 [b', .v (.int .i64 n)] [] = some (lookA n es, []))
    (m : Nat) (hm : m ≤ 2000) {t : Tm} (ht : IsT a t) : ∃ rc, IsT (.agg rc) (meetT rs m t).1 ∧ callW F 58 [.ptr id off, b, a] (ctr h id off ms (2000 - (m : Int))) = some (.tup [.agg rc, .v (.int .i64 (meetT rs m t).2.1)], ctr h id off ms (spent (meetT rs m t).2.1 (meetT rs m t).2.2)) := by
  have hres : c58.res = [.cell 4 true 4, .var 5] := rfl
  have hbel := ht.bel
  have hl : ([.box a.cells, .box zeroC] : List AO).all (AO.below 0) = true := by
    have hz : (AO.box zeroC).below 0 = true := rfl
    simp only [List.all_cons, List.all_nil, hbel, hz, Bool.and_true]
  have hsp := spend_ok c (l := [.box a.cells, .box zeroC]) (all_below_mono (Nat.zero_le _) hl) (2000 - (m : Int)) (by omega)
  cases m with
  | zero =>
    refine ⟨zeroC, isT_zero, callW_own (c := c58) rfl rfl 0 ?_⟩
    have h0 : decide ((2000 : Int) - ((0 : Nat) : Int) + 1 ≤ 2000) = false := rfl
    rw [h0] at hsp
    have e1 : spent 140 0 = 2000 - ((0 : Nat) : Int) + 1 := rfl
    simp only [meetT, e1]
    have body : exec (callW F) 0 c58.body (start c58 [.ptr id off, b, a]) (ctr h id off ms (2000 - ((0 : Nat) : Int)) ++ []) = some (.ret, [.ptr id off, b, a, .ptr h.length 0, .ptr (h.length + 1) 0, .v (.int .i64 140), .v (.bool true)], ctr h id off ms (2000 - ((0 : Nat) : Int) + 1) ++ [.box a.cells, .box zeroC]) := by
      cases ht
      simp only [AV.cells, zeroC] at hsp
      simp only [c58, start, zeroC, List.replicate, c58_0, c58_1, c58_2, hsp, e_callh, q9z, AV.cells, evNil, c_ld, c_ld0, c_st, c_st0, c_bx, ldAt, stAt, preH_some, List.append_assoc, e_bslice1, e_bslice2, bs1, bs2, e_build, bdH_some, bd_nil, bd_cons, bd1, cl_agg, cl_int, toL, List.map_cons, List.map_nil, putAt, List.set_cons_zero, List.set_cons_succ, and_self, Nat.le_refl, app_get, app_set, g_agg, run_nil, run_cons, stp_plain, stp_guard, put_some, pass_eq, pick_tt, pick_ff, pick_tf, pick_ft, pick_u, reg_some, thn_normal, thn_exit, thn_ret, cnd_t, cnd_f, blk_normal, blk_ret, blk_exit, x_seq, x_region, x_cond, x_block, x_loop, x_ret, x_exit, x_skip, e_mov, e_pick, pk_t, pk_f, withH_some, e_box, e_load, e_store, stH_some, e_nil, e_bin, e_eqv, eqH_f, eqH_t, e_un, e_fa, e_ia, ia_eq, nat_eq, natV_nat, e_len, lnH_some, e_extract, ex_0, ex_1, e_call0, e_call1, e_call2, e_call3, pc0_eq, pc1_some, pc2_some, pc3_some, fin_some, g_var0, g_vars, g_loc0, g_locs, g_int, g_bool, g_str, g_sl, s_none, s_zero, s_succ, cl_nil, cl_str, cl_bool, cl_slc, cl_own, evFa, evNil, asEl, evBin, intBin, strBin, evUn, len_nil, len_slc, len_str, clr, List.length_nil, List.length_cons, List.getElem?_cons_zero, List.getElem?_cons_succ, Nat.reduceAdd, Nat.zero_add, Nat.add_zero, Nat.reduceLeDiff, Nat.reduceSub, ↓reduceIte, List.drop_succ_cons, List.drop_zero, List.take_succ_cons, List.take_zero, Bool.false_eq_true, List.nil_append, List.cons_append, Bool.not_true, Bool.not_false, cond_true, cond_false, bne, lv_ret, lv_normal, res1, res2, lv2_some, res_var, res_cell, lvf_v, lvf_slc, res1c, lvo1_some, e_mm, mm_max, mm_min]
    rw [body, ctr_len, leave_own ctr_len (c.all _), hres, own_res2 (x := .agg zeroC) (y := .v (.int .i64 140)) _ _]
    · exact lvo_two (isT_zero.frz _ _) rfl
    · simp only [res_cell, c_ld, ldAt, zeroC, e_bslice1, e_bslice2, bs1, bs2, e_build, bdH_some, bd_nil, bd_cons, bd1, cl_agg, cl_int, toL, List.map_cons, List.map_nil, putAt, List.set_cons_zero, List.set_cons_succ, and_self, Nat.le_refl, app_get, app_set, g_agg, run_nil, run_cons, stp_plain, stp_guard, put_some, pass_eq, pick_tt, pick_ff, pick_tf, pick_ft, pick_u, reg_some, thn_normal, thn_exit, thn_ret, cnd_t, cnd_f, blk_normal, blk_ret, blk_exit, x_seq, x_region, x_cond, x_block, x_loop, x_ret, x_exit, x_skip, e_mov, e_pick, pk_t, pk_f, withH_some, e_box, e_load, e_store, stH_some, e_nil, e_bin, e_eqv, eqH_f, eqH_t, e_un, e_fa, e_ia, ia_eq, nat_eq, natV_nat, e_len, lnH_some, e_extract, ex_0, ex_1, e_call0, e_call1, e_call2, e_call3, pc0_eq, pc1_some, pc2_some, pc3_some, fin_some, g_var0, g_vars, g_loc0, g_locs, g_int, g_bool, g_str, g_sl, s_none, s_zero, s_succ, cl_nil, cl_str, cl_bool, cl_slc, cl_own, evFa, evNil, asEl, evBin, intBin, strBin, evUn, len_nil, len_slc, len_str, clr, List.length_nil, List.length_cons, List.getElem?_cons_zero, List.getElem?_cons_succ, Nat.reduceAdd, Nat.zero_add, Nat.add_zero, Nat.reduceLeDiff, Nat.reduceSub, ↓reduceIte, List.drop_succ_cons, List.drop_zero, List.take_succ_cons, List.take_zero, Bool.false_eq_true, List.nil_append, List.cons_append, Bool.not_true, Bool.not_false, cond_true, cond_false, bne, lv_ret, lv_normal, res1, res2, lv2_some, res_var, res_cell, lvf_v, lvf_slc, res1c, lvo1_some, e_mm, mm_max, mm_min]
    · rfl
  | succ m =>
    obtain ⟨rc, hrc, hf⟩ := meter_ok (c.app0 hl) hes (b' := b') (fun m l => by rw [ctr_app c.lt, List.append_assoc]; exact hbs m _) hlook m (by omega) ht
    rw [ctr_app c.lt, ctr_app c.lt] at hf
    refine ⟨rc, hrc, callW_own (c := c58) rfl rfl 0 ?_⟩
    have h0 : decide ((2000 : Int) - ((m + 1 : Nat) : Int) + 1 ≤ 2000) = true := decide_eq_true (by omega)
    have e1 : (2000 : Int) - ((m + 1 : Nat) : Int) + 1 = 2000 - (m : Int) := by omega
    rw [h0, e1] at hsp
    simp only [meetT]
    generalize walkT rs m t = w at hrc hf ⊢
    obtain ⟨w1, w2, w3⟩ := w
    dsimp only at hrc hf ⊢
    generalize spent w2 w3 = N at hf ⊢
    have body : exec (callW F) 0 c58.body (start c58 [.ptr id off, b, a]) (ctr h id off ms (2000 - ((m + 1 : Nat) : Int)) ++ []) = some (.ret, [.ptr id off, b, a, .ptr h.length 0, .ptr (h.length + 1) 0, .v (.int .i64 w2), .v (.bool false)], ctr h id off ms N ++ [.box a.cells, .box rc]) := by
      cases hrc
      cases ht
      simp only [AV.cells, zeroC] at hf hsp
      simp only [c58, start, zeroC, List.replicate, c58_0, c58_1, c58_3, hsp, hf, e_callh, q9z, AV.cells, evNil, c_ld, c_ld0, c_st, c_st0, c_bx, ldAt, stAt, preH_some, List.append_assoc, e_bslice1, e_bslice2, bs1, bs2, e_build, bdH_some, bd_nil, bd_cons, bd1, cl_agg, cl_int, toL, List.map_cons, List.map_nil, putAt, List.set_cons_zero, List.set_cons_succ, and_self, Nat.le_refl, app_get, app_set, g_agg, run_nil, run_cons, stp_plain, stp_guard, put_some, pass_eq, pick_tt, pick_ff, pick_tf, pick_ft, pick_u, reg_some, thn_normal, thn_exit, thn_ret, cnd_t, cnd_f, blk_normal, blk_ret, blk_exit, x_seq, x_region, x_cond, x_block, x_loop, x_ret, x_exit, x_skip, e_mov, e_pick, pk_t, pk_f, withH_some, e_box, e_load, e_store, stH_some, e_nil, e_bin, e_eqv, eqH_f, eqH_t, e_un, e_fa, e_ia, ia_eq, nat_eq, natV_nat, e_len, lnH_some, e_extract, ex_0, ex_1, e_call0, e_call1, e_call2, e_call3, pc0_eq, pc1_some, pc2_some, pc3_some, fin_some, g_var0, g_vars, g_loc0, g_locs, g_int, g_bool, g_str, g_sl, s_none, s_zero, s_succ, cl_nil, cl_str, cl_bool, cl_slc, cl_own, evFa, evNil, asEl, evBin, intBin, strBin, evUn, len_nil, len_slc, len_str, clr, List.length_nil, List.length_cons, List.getElem?_cons_zero, List.getElem?_cons_succ, Nat.reduceAdd, Nat.zero_add, Nat.add_zero, Nat.reduceLeDiff, Nat.reduceSub, ↓reduceIte, List.drop_succ_cons, List.drop_zero, List.take_succ_cons, List.take_zero, Bool.false_eq_true, List.nil_append, List.cons_append, Bool.not_true, Bool.not_false, cond_true, cond_false, bne, lv_ret, lv_normal, res1, res2, lv2_some, res_var, res_cell, lvf_v, lvf_slc, res1c, lvo1_some, e_mm, mm_max, mm_min]
    rw [body, ctr_len, leave_own ctr_len (c.all _), hres, own_res2 (x := .agg rc) (y := .v (.int .i64 w2)) _ _]
    · exact lvo_two (hrc.frz _ _) rfl
    · cases hrc; simp only [res_cell, c_ld, ldAt, e_bslice1, e_bslice2, bs1, bs2, e_build, bdH_some, bd_nil, bd_cons, bd1, cl_agg, cl_int, toL, List.map_cons, List.map_nil, putAt, List.set_cons_zero, List.set_cons_succ, and_self, Nat.le_refl, app_get, app_set, g_agg, run_nil, run_cons, stp_plain, stp_guard, put_some, pass_eq, pick_tt, pick_ff, pick_tf, pick_ft, pick_u, reg_some, thn_normal, thn_exit, thn_ret, cnd_t, cnd_f, blk_normal, blk_ret, blk_exit, x_seq, x_region, x_cond, x_block, x_loop, x_ret, x_exit, x_skip, e_mov, e_pick, pk_t, pk_f, withH_some, e_box, e_load, e_store, stH_some, e_nil, e_bin, e_eqv, eqH_f, eqH_t, e_un, e_fa, e_ia, ia_eq, nat_eq, natV_nat, e_len, lnH_some, e_extract, ex_0, ex_1, e_call0, e_call1, e_call2, e_call3, pc0_eq, pc1_some, pc2_some, pc3_some, fin_some, g_var0, g_vars, g_loc0, g_locs, g_int, g_bool, g_str, g_sl, s_none, s_zero, s_succ, cl_nil, cl_str, cl_bool, cl_slc, cl_own, evFa, evNil, asEl, evBin, intBin, strBin, evUn, len_nil, len_slc, len_str, clr, List.length_nil, List.length_cons, List.getElem?_cons_zero, List.getElem?_cons_succ, Nat.reduceAdd, Nat.zero_add, Nat.add_zero, Nat.reduceLeDiff, Nat.reduceSub, ↓reduceIte, List.drop_succ_cons, List.drop_zero, List.take_succ_cons, List.take_zero, Bool.false_eq_true, List.nil_append, List.cons_append, Bool.not_true, Bool.not_false, cond_true, cond_false, bne, lv_ret, lv_normal, res1, res2, lv2_some, res_var, res_cell, lvf_v, lvf_slc, res1c, lvo1_some, e_mm, mm_max, mm_min]
    · rfl
end
end Go.AE.YtpgoibncgekflaaDoor
end

/-! Resolve of the document. -/
section
set_option linter.unusedVariables false
set_option linter.unusedSimpArgs false
namespace Go.AE.YtpgoibncgekflaaDoor
open Go Go.AE Go.Proofs.YtpgoibncgekflaaDoor

/-- a slice of terms that is being made, behind two variables -/
inductive Lc (tail : List AO) (B : Nat) : AV → List AV → Prop
  | nil : Lc tail B (.v (.slice none 0 0)) []
  | own (k ver : Nat) (ds : List AV) (hr : tail[k]? = some (.row 4 ver ds 0)) (hne : ds ≠ []) : Lc tail B (.own 4 (B + (k + 2)) ver 0 ds.length) ds
theorem Lc.app {tail : List AO} {B : Nat} {acc : AV} {ds : List AV} (a : Lc tail B acc ds) (x : List AO) : Lc (tail ++ x) B acc ds := by
  cases a with
  | nil => exact .nil
  | own k ver _ hr hne => exact .own k ver _ (his_get hr) hne
theorem Lc.add {tail : List AO} {B : Nat} {acc : AV} {ds : List AV} (a : Lc tail B acc ds) (hm : ds.length ≤ 1000000) (e : AV) :
    ∃ acc' tail', (∀ (H : List AO) (b0 b1 : AO), H.length = B → evAppend (H ++ (b0 :: b1 :: tail)) 4 56 acc (.slc 4 true true [e]) = some (acc', H ++ (b0 :: b1 :: tail'))) ∧ Lc tail' B acc' (ds ++ [e]) ∧ (tail.all (AO.below 0) = true → tail'.all (AO.below 0) = true) := by
  have ft : fits (ds.length + 1) 56 = true := by
    have : room = 140737488355328 := rfl
    simp only [fits, decide_eq_true_eq]; omega
  cases a with
  | nil =>
    refine ⟨.own 4 (B + (tail.length + 2)) 0 0 1, tail ++ [.row 4 0 [e] 0], fun H b0 b1 hB => ?_, ?_, fun ht => ?_⟩
    · subst hB
      simp only [List.length_nil] at ft
      simp only [evAppend, elemsOf, if_true, List.length_cons, List.length_nil, ft, Nat.zero_add, List.length_append, List.append_assoc, List.cons_append]
      rfl
    · exact Lc.own tail.length 0 [e] (by simp) (by simp)
    · simp only [List.all_append, ht, List.all_cons, List.all_nil, Bool.and_true, Bool.true_and]; rfl
  | own k ver _ hr hne =>
    have hlt : k < tail.length := (List.getElem?_eq_some_iff.1 hr).1
    refine ⟨.own 4 (B + (k + 2)) (ver + 1) 0 (ds.length + 1), tail.set k (.row 4 (ver + 1) (ds ++ [e]) 0), fun H b0 b1 hB => ?_, ?_, fun ht => ?_⟩
    · have h1 : (H ++ (b0 :: b1 :: tail))[B + (k + 2)]? = some (.row 4 ver ds 0) := by
        rw [obj_get hB]; exact hr
      have h2 : (H ++ (b0 :: b1 :: tail)).set (B + (k + 2)) (.row 4 (ver + 1) (ds ++ [e]) 0) = H ++ (b0 :: b1 :: tail.set k (.row 4 (ver + 1) (ds ++ [e]) 0)) := by
        rw [obj_set hB]; rfl
      simp only [evAppend, elemsOf, if_true, rowAt, h1, Nat.zero_add, and_self, true_and, Nat.le_refl, Nat.zero_le, List.length_cons, List.length_nil, ft, List.drop_zero, List.take_length, Nat.zero_sub, h2]
      rfl
    · have := Lc.own (tail := tail.set k (.row 4 (ver + 1) (ds ++ [e]) 0)) (B := B) k (ver + 1) (ds ++ [e]) (by simp [hlt]) (by simp)
      simpa using this
    · simp only [List.all_eq_true] at ht ⊢
      intro o ho
      rcases List.mem_or_eq_of_mem_set ho with h1 | h1
      · exact ht o h1
      · subst h1; rfl

/-- what f44 is to be shown to do, d levels above the deepest -/
def Res44 (rs : List (Int × Tm)) (b : AV) (d : Nat) : Prop := ∀ (h : List AO) (id off : Nat) (ms : List AV) (m : Nat) (t : Tm) (a : AV), Ctr h id off ms → m ≤ 2000 → size t ≤ 100000 → IsT a t →
  match resT rs d m t with
  | .ok (x, m2) => m2 ≤ m ∧ ∃ r, IsT r x ∧ callW F 44 [.ptr id off, b, a, .v (.int .i64 (60 - (d : Int)))] (ctr h id off ms (2000 - (m : Int))) = some (.tup [r, .v (.int .i64 0)], ctr h id off ms (2000 - (m2 : Int)))
  | .error e => e ≠ 0 ∧ ∃ l' : Int, callW F 44 [.ptr id off, b, a, .v (.int .i64 (60 - (d : Int)))] (ctr h id off ms (2000 - (m : Int))) = some (.tup [.agg zeroC, .v (.int .i64 e)], ctr h id off ms l')
def K44 : List Bool := [true, true, false, true, true, true, false, false, true, false, false, false, false, false, true, true, true, false, false]
def L44 (id off B : Nat) (b : AV) (dp : Int) (acc c : AV) (n i : Int) : List AV := [.ptr id off, b, .junk, .v (.int .i64 dp), .ptr B 0, .ptr (B + 1) 0, .junk, .junk, acc, .junk, .junk, .junk, .junk, .junk, c, .v (.int .i64 n), .v (.int .i64 i), .junk, .junk]

section
variable {h : List AO} {id off : Nat} {ms : List AV} {b : AV}
theorem r44_loop {K : Nat} {c : AV} {es : List AV} {cs0 : List AV} {rs : List (Int × Tm)} (hs : Sl 4 c es) (hm : es.length ≤ 100000) (d : Nat) (hd : d ≤ 59) (hb0 : (AO.box cs0).below 0 = true) (hR : Res44 rs b d) (C : Ctr h id off ms) :
    ∀ (l : List Tm) (i m : Nat) (acc : AV) (ds : List AV) (dl : List Tm) (tail : List AO) (vars : List AV), i + l.length = es.length → ds.length = i → m ≤ 2000 → All2 (es.drop i) l → All2 ds dl → (∀ t ∈ l, size t ≤ 100000) → tail.all (AO.below 0) = true → Lc tail h.length acc ds →
      clr K44 vars = L44 id off h.length b (60 - ((d + 1 : Nat) : Int)) acc c es.length i →
      match resL (resT rs d) m l with
      | .ok (xs, m2) => m2 ≤ m ∧ ∃ acc' ds' tail', loopN (exec (callW F) K c44_15) K44 (l.length + 1) vars (ctr h id off ms (2000 - (m : Int)) ++ (.box cs0 :: .box zeroC :: tail)) = some (.exit 0, [.ptr id off, b, .junk, .v (.int .i64 (60 - ((d + 1 : Nat) : Int))), .ptr h.length 0, .ptr (h.length + 1) 0, .junk, .junk, acc', .junk, .junk, .junk, .junk, .junk, c, .v (.int .i64 es.length), .v (.int .i64 es.length), .v (.bool false), .junk], ctr h id off ms (2000 - (m2 : Int)) ++ (.box cs0 :: .box zeroC :: tail')) ∧ Lc tail' h.length acc' ds' ∧ All2 ds' (dl ++ xs)
      | .error e => e ≠ 0 ∧ ∃ (l' : Int) (tail' : List AO) (vs : List AV), loopN (exec (callW F) K c44_15) K44 (l.length + 1) vars (ctr h id off ms (2000 - (m : Int)) ++ (.box cs0 :: .box zeroC :: tail)) = some (.ret, vs, ctr h id off ms l' ++ (.box cs0 :: .box zeroC :: tail')) ∧ getO vs [] (.var 5) = .ptr (h.length + 1) 0 ∧ getO vs [] (.var 6) = .v (.int .i64 e) := by
  intro l
  induction l with
  | nil =>
    intro i m acc ds dl tail vars hi hds hm5 _ hall hszs htl hlc hv
    have hil : i = es.length := by simpa using hi
    subst hil
    have hlt : decide ((es.length : Int) < (es.length : Int)) = false := by simp
    simp only [resL]
    refine ⟨Nat.le_refl _, acc, ds, tail, loop_exit ?_, hlc, by simpa using hall⟩
    rw [hv]
    simp only [L44, c44_15, c44_8, hlt, e_bslice1, e_bslice2, bs1, bs2, e_build, bdH_some, bd_nil, bd_cons, bd1, cl_agg, cl_int, toL, List.map_cons, List.map_nil, putAt, List.set_cons_zero, List.set_cons_succ, and_self, Nat.le_refl, app_get, app_set, g_agg, run_nil, run_cons, stp_plain, stp_guard, put_some, pass_eq, pick_tt, pick_ff, pick_tf, pick_ft, pick_u, reg_some, thn_normal, thn_exit, thn_ret, cnd_t, cnd_f, blk_normal, blk_ret, blk_exit, x_seq, x_region, x_cond, x_block, x_loop, x_ret, x_exit, x_skip, e_mov, e_pick, pk_t, pk_f, withH_some, e_box, e_load, e_store, stH_some, e_nil, e_bin, e_eqv, eqH_f, eqH_t, e_un, e_fa, e_ia, ia_eq, nat_eq, natV_nat, e_len, lnH_some, e_extract, ex_0, ex_1, e_call0, e_call1, e_call2, e_call3, pc0_eq, pc1_some, pc2_some, pc3_some, fin_some, g_var0, g_vars, g_loc0, g_locs, g_int, g_bool, g_str, g_sl, s_none, s_zero, s_succ, cl_nil, cl_str, cl_bool, cl_slc, cl_own, evFa, evNil, asEl, evBin, intBin, strBin, evUn, len_nil, len_slc, len_str, clr, List.length_nil, List.length_cons, List.getElem?_cons_zero, List.getElem?_cons_succ, Nat.reduceAdd, Nat.zero_add, Nat.add_zero, Nat.reduceLeDiff, Nat.reduceSub, ↓reduceIte, List.drop_succ_cons, List.drop_zero, List.take_succ_cons, List.take_zero, Bool.false_eq_true, List.nil_append, List.cons_append, Bool.not_true, Bool.not_false, cond_true, cond_false, bne, lv_ret, lv_normal, res1, res2, lv2_some, res_var, res_cell, lvf_v, lvf_slc, res1c, lvo1_some, e_mm, mm_max, mm_min]
  | cons t l ih =>
    intro i m acc ds dl tail vars hi hds hm5 hes hall hszs htl hlc hv
    have hil : i < es.length := by simp at hi; omega
    have he : es[i]? = some (es[i]'hil) := List.getElem?_eq_getElem _
    have hdr : es.drop i = es[i] :: es.drop (i + 1) := List.drop_eq_getElem_cons hil
    rw [hdr] at hes
    generalize es[i]'hil = e at hes he
    cases hes with
    | cons _ _ _ _ hT hs' =>
    have hlt : (decide ((i : Int) < (es.length : Int))) = true := by simp; omega
    have q1 := hs.ia he
    have q3 : ∀ h : List AO, evLoad h true 4 (.ip e.cells) = some e := fun h => hT.load
    have q4 : e.cl = some e.cells := hT.cl.1
    have q4b : e.cells.length = 4 := hT.cl.2
    have q5 := hT.asEl
    have tl2 : (tail ++ [AO.box e.cells]).all (AO.below 0) = true := by
      have := hT.bel
      simp only [List.all_append, List.all_cons, List.all_nil, htl, this, Bool.and_true]
    have hl2 : (.box cs0 :: .box zeroC :: (tail ++ [AO.box e.cells]) : List AO).all (AO.below 0) = true := by
      have hz : (AO.box zeroC).below 0 = true := rfl
      simp only [List.all_cons, hb0, hz, tl2, Bool.and_true]
    have hst : evStore (ctr h id off ms (2000 - (m : Int)) ++ (.box cs0 :: .box zeroC :: (tail ++ [AO.box zeroC]))) 4 (.ptr (h.length + (tail.length + 1 + 1)) 0) e = some (ctr h id off ms (2000 - (m : Int)) ++ (.box cs0 :: .box zeroC :: (tail ++ [AO.box e.cells]))) := by
      have hg := hT
      cases hg with
      | mk k s n c2 l2 hc2 =>
      simp only [c_st, stAt, zeroC, AV.cells, preH_some, e_bslice1, e_bslice2, bs1, bs2, e_build, bdH_some, bd_nil, bd_cons, bd1, cl_agg, cl_int, toL, List.map_cons, List.map_nil, putAt, List.set_cons_zero, List.set_cons_succ, and_self, Nat.le_refl, app_get, app_set, g_agg, run_nil, run_cons, stp_plain, stp_guard, put_some, pass_eq, pick_tt, pick_ff, pick_tf, pick_ft, pick_u, reg_some, thn_normal, thn_exit, thn_ret, cnd_t, cnd_f, blk_normal, blk_ret, blk_exit, x_seq, x_region, x_cond, x_block, x_loop, x_ret, x_exit, x_skip, e_mov, e_pick, pk_t, pk_f, withH_some, e_box, e_load, e_store, stH_some, e_nil, e_bin, e_eqv, eqH_f, eqH_t, e_un, e_fa, e_ia, ia_eq, nat_eq, natV_nat, e_len, lnH_some, e_extract, ex_0, ex_1, e_call0, e_call1, e_call2, e_call3, pc0_eq, pc1_some, pc2_some, pc3_some, fin_some, g_var0, g_vars, g_loc0, g_locs, g_int, g_bool, g_str, g_sl, s_none, s_zero, s_succ, cl_nil, cl_str, cl_bool, cl_slc, cl_own, evFa, evNil, asEl, evBin, intBin, strBin, evUn, len_nil, len_slc, len_str, clr, List.length_nil, List.length_cons, List.getElem?_cons_zero, List.getElem?_cons_succ, Nat.reduceAdd, Nat.zero_add, Nat.add_zero, Nat.reduceLeDiff, Nat.reduceSub, ↓reduceIte, List.drop_succ_cons, List.drop_zero, List.take_succ_cons, List.take_zero, Bool.false_eq_true, List.nil_append, List.cons_append, Bool.not_true, Bool.not_false, cond_true, cond_false, bne, lv_ret, lv_normal, res1, res2, lv2_some, res_var, res_cell, lvf_v, lvf_slc, res1c, lvo1_some, e_mm, mm_max, mm_min]
    have hld : evLoad (ctr h id off ms (2000 - (m : Int)) ++ (.box cs0 :: .box zeroC :: (tail ++ [AO.box e.cells]))) true 4 (.ptr (h.length + (tail.length + 1 + 1)) 0) = some e := by
      rw [c_ld]
      simp only [ldAt, List.getElem?_cons_succ, app_get, q4b, List.drop_zero, q5]
      rfl
    have hrec := hR (h ++ (.box cs0 :: .box zeroC :: (tail ++ [AO.box e.cells]))) id off ms m t e (C.app0 hl2) hm5 (hszs t (by simp)) hT
    simp only [ctr_app C.lt] at hrec
    generalize hp9 : h.length + (tail.length + 1 + 1) = p9 at hst hld
    generalize htl1 : tail ++ [AO.box e.cells] = tail1 at hst hld hrec tl2
    have hlc1 : Lc tail1 h.length acc ds := by rw [← htl1]; exact hlc.app _
    have hdd : IntKind.i64.wrap ((60 : Int) - ((d + 1 : Nat) : Int) + 1) = 60 - (d : Int) := by rw [IntWalk.i64_in] <;> omega
    have hw : IntKind.i64.wrap ((i : Int) + 1) = ((i + 1 : Nat) : Int) := by rw [wrap_ok (by omega) (by omega)]; omega
    have z0 : ((0 : Int) == 0) = true := rfl
    -- the first part of a round
    have e0 : c44_15 = (.seq (.region [] [] c44_8) (.seq (.cond (.var 17) .skip (.exit 0)) (.seq (.block 1 (.seq (.region [] [] c44_9) (.seq (.region [] [] c44_10) (.seq (.seq (.region [] [] c44_11) (.cond (.var 18) (.seq (.region [] [] c44_12) .ret) .skip)) (.region [] [] c44_13))))) (.region [] [] c44_14)))) := rfl
    have pre : exec (callW F) K c44_15 (L44 id off h.length b (60 - ((d + 1 : Nat) : Int)) acc c es.length i) (ctr h id off ms (2000 - (m : Int)) ++ (.box cs0 :: .box zeroC :: tail)) = thn (callW F) K (.region [] [] c44_14) (blk 1 (exec (callW F) K (.seq (.region [] [] c44_10) (.seq (.seq (.region [] [] c44_11) (.cond (.var 18) (.seq (.region [] [] c44_12) .ret) .skip)) (.region [] [] c44_13))) [.ptr id off, b, .junk, .v (.int .i64 (60 - ((d + 1 : Nat) : Int))), .ptr h.length 0, .ptr (h.length + 1) 0, .junk, .junk, acc, .ptr p9 0, .junk, .junk, .junk, .junk, c, .v (.int .i64 es.length), .v (.int .i64 i), .v (.bool true), .junk] (ctr h id off ms (2000 - (m : Int)) ++ (.box cs0 :: .box zeroC :: tail1)))) := by
      rw [e0]
      generalize (CC.seq (.region [] [] c44_10) (.seq (.seq (.region [] [] c44_11) (.cond (.var 18) (.seq (.region [] [] c44_12) .ret) .skip)) (.region [] [] c44_13))) = rest1
      generalize (CC.region [] [] c44_14) = rest2
      simp only [zeroC] at hst
      simp only [L44, zeroC, c44_8, c44_9, hlt, q1, q3, hst, hp9, q9z, c_bx, e_bslice1, e_bslice2, bs1, bs2, e_build, bdH_some, bd_nil, bd_cons, bd1, cl_agg, cl_int, toL, List.map_cons, List.map_nil, putAt, List.set_cons_zero, List.set_cons_succ, and_self, Nat.le_refl, app_get, app_set, g_agg, run_nil, run_cons, stp_plain, stp_guard, put_some, pass_eq, pick_tt, pick_ff, pick_tf, pick_ft, pick_u, reg_some, thn_normal, thn_exit, thn_ret, cnd_t, cnd_f, blk_normal, blk_ret, blk_exit, x_seq, x_region, x_cond, x_block, x_loop, x_ret, x_exit, x_skip, e_mov, e_pick, pk_t, pk_f, withH_some, e_box, e_load, e_store, stH_some, e_nil, e_bin, e_eqv, eqH_f, eqH_t, e_un, e_fa, e_ia, ia_eq, nat_eq, natV_nat, e_len, lnH_some, e_extract, ex_0, ex_1, e_call0, e_call1, e_call2, e_call3, pc0_eq, pc1_some, pc2_some, pc3_some, fin_some, g_var0, g_vars, g_loc0, g_locs, g_int, g_bool, g_str, g_sl, s_none, s_zero, s_succ, cl_nil, cl_str, cl_bool, cl_slc, cl_own, evFa, evNil, asEl, evBin, intBin, strBin, evUn, len_nil, len_slc, len_str, clr, List.length_nil, List.length_cons, List.getElem?_cons_zero, List.getElem?_cons_succ, Nat.reduceAdd, Nat.zero_add, Nat.add_zero, Nat.reduceLeDiff, Nat.reduceSub, ↓reduceIte, List.drop_succ_cons, List.drop_zero, List.take_succ_cons, List.take_zero, Bool.false_eq_true, List.nil_append, List.cons_append, Bool.not_true, Bool.not_false, cond_true, cond_false, bne, lv_ret, lv_normal, res1, res2, lv2_some, res_var, res_cell, lvf_v, lvf_slc, res1c, lvo1_some, e_mm, mm_max, mm_min]
    cases hr : resT rs d m t with
    | error er =>
      rw [hr] at hrec
      obtain ⟨hne, l', hc⟩ := hrec
      have z1 : (er == 0) = false := by simpa using hne
      simp only [resL, hr]
      refine ⟨hne, l', tail1 ++ [AO.box zeroC], [.ptr id off, b, .junk, .v (.int .i64 (60 - ((d + 1 : Nat) : Int))), .ptr h.length 0, .ptr (h.length + 1) 0, .v (.int .i64 er), .junk, acc, .ptr p9 0, .ptr (h.length + (tail1.length + 1 + 1)) 0, .v (.int .i64 er), .junk, .junk, c, .v (.int .i64 es.length), .v (.int .i64 i), .v (.bool true), .v (.bool true)], loop_ret ?_, rfl, rfl⟩
      rw [hv, pre]
      simp only [zeroC] at hld hc
      simp only [zeroC, c44_10, c44_11, c44_12, hld, hdd, hc, z1, e_callh, q9z, c_bx, c_ld, c_ld0, c_st, c_st0, ldAt, stAt, preH_some, List.append_assoc, e_bslice1, e_bslice2, bs1, bs2, e_build, bdH_some, bd_nil, bd_cons, bd1, cl_agg, cl_int, toL, List.map_cons, List.map_nil, putAt, List.set_cons_zero, List.set_cons_succ, and_self, Nat.le_refl, app_get, app_set, g_agg, run_nil, run_cons, stp_plain, stp_guard, put_some, pass_eq, pick_tt, pick_ff, pick_tf, pick_ft, pick_u, reg_some, thn_normal, thn_exit, thn_ret, cnd_t, cnd_f, blk_normal, blk_ret, blk_exit, x_seq, x_region, x_cond, x_block, x_loop, x_ret, x_exit, x_skip, e_mov, e_pick, pk_t, pk_f, withH_some, e_box, e_load, e_store, stH_some, e_nil, e_bin, e_eqv, eqH_f, eqH_t, e_un, e_fa, e_ia, ia_eq, nat_eq, natV_nat, e_len, lnH_some, e_extract, ex_0, ex_1, e_call0, e_call1, e_call2, e_call3, pc0_eq, pc1_some, pc2_some, pc3_some, fin_some, g_var0, g_vars, g_loc0, g_locs, g_int, g_bool, g_str, g_sl, s_none, s_zero, s_succ, cl_nil, cl_str, cl_bool, cl_slc, cl_own, evFa, evNil, asEl, evBin, intBin, strBin, evUn, len_nil, len_slc, len_str, clr, List.length_nil, List.length_cons, List.getElem?_cons_zero, List.getElem?_cons_succ, Nat.reduceAdd, Nat.zero_add, Nat.add_zero, Nat.reduceLeDiff, Nat.reduceSub, ↓reduceIte, List.drop_succ_cons, List.drop_zero, List.take_succ_cons, List.take_zero, Bool.false_eq_true, List.nil_append, List.cons_append, Bool.not_true, Bool.not_false, cond_true, cond_false, bne, lv_ret, lv_normal, res1, res2, lv2_some, res_var, res_cell, lvf_v, lvf_slc, res1c, lvo1_some, e_mm, mm_max, mm_min]
    | ok q =>
      obtain ⟨u, m2⟩ := q
      rw [hr] at hrec
      obtain ⟨hle, r, hrt, hc⟩ := hrec
      have tl3 : (tail1 ++ [AO.box r.cells]).all (AO.below 0) = true := by
        have := hrt.bel
        simp only [List.all_append, List.all_cons, List.all_nil, tl2, this, Bool.and_true]
      obtain ⟨acc', tail3, ap, hlc3, htl3⟩ := (hlc1.app [AO.box r.cells]).add (by omega) r
      have ap' := ap (ctr h id off ms (2000 - (m2 : Int))) (.box cs0) (.box zeroC) ctr_len
      have hst2 : evStore (ctr h id off ms (2000 - (m2 : Int)) ++ (.box cs0 :: .box zeroC :: (tail1 ++ [AO.box zeroC]))) 4 (.ptr (h.length + (tail1.length + 1 + 1)) 0) r = some (ctr h id off ms (2000 - (m2 : Int)) ++ (.box cs0 :: .box zeroC :: (tail1 ++ [AO.box r.cells]))) := by
        have hg := hrt
        generalize u = u' at hg
        cases hg with
        | mk k s n c2 l2 hc2 =>
        simp only [c_st, stAt, zeroC, AV.cells, preH_some, e_bslice1, e_bslice2, bs1, bs2, e_build, bdH_some, bd_nil, bd_cons, bd1, cl_agg, cl_int, toL, List.map_cons, List.map_nil, putAt, List.set_cons_zero, List.set_cons_succ, and_self, Nat.le_refl, app_get, app_set, g_agg, run_nil, run_cons, stp_plain, stp_guard, put_some, pass_eq, pick_tt, pick_ff, pick_tf, pick_ft, pick_u, reg_some, thn_normal, thn_exit, thn_ret, cnd_t, cnd_f, blk_normal, blk_ret, blk_exit, x_seq, x_region, x_cond, x_block, x_loop, x_ret, x_exit, x_skip, e_mov, e_pick, pk_t, pk_f, withH_some, e_box, e_load, e_store, stH_some, e_nil, e_bin, e_eqv, eqH_f, eqH_t, e_un, e_fa, e_ia, ia_eq, nat_eq, natV_nat, e_len, lnH_some, e_extract, ex_0, ex_1, e_call0, e_call1, e_call2, e_call3, pc0_eq, pc1_some, pc2_some, pc3_some, fin_some, g_var0, g_vars, g_loc0, g_locs, g_int, g_bool, g_str, g_sl, s_none, s_zero, s_succ, cl_nil, cl_str, cl_bool, cl_slc, cl_own, evFa, evNil, asEl, evBin, intBin, strBin, evUn, len_nil, len_slc, len_str, clr, List.length_nil, List.length_cons, List.getElem?_cons_zero, List.getElem?_cons_succ, Nat.reduceAdd, Nat.zero_add, Nat.add_zero, Nat.reduceLeDiff, Nat.reduceSub, ↓reduceIte, List.drop_succ_cons, List.drop_zero, List.take_succ_cons, List.take_zero, Bool.false_eq_true, List.nil_append, List.cons_append, Bool.not_true, Bool.not_false, cond_true, cond_false, bne, lv_ret, lv_normal, res1, res2, lv2_some, res_var, res_cell, lvf_v, lvf_slc, res1c, lvo1_some, e_mm, mm_max, mm_min]
      have hld2 : evLoad (ctr h id off ms (2000 - (m2 : Int)) ++ (.box cs0 :: .box zeroC :: (tail1 ++ [AO.box r.cells]))) true 4 (.ptr (h.length + (tail1.length + 1 + 1)) 0) = some r := by
        rw [c_ld]
        simp only [ldAt, List.getElem?_cons_succ, app_get, hrt.cl.2, List.drop_zero, hrt.asEl]
        rfl
      have sr : ∀ h : List AO, r.snap1 h = some r := fun h => hrt.snap
      have b1r : ∀ h : List AO, bs1 h 4 (some r) = some (.slc 4 true true [r], h) := fun h => bs1_some hrt.cl.1 hrt.cl.2
      have st : exec (callW F) K c44_15 (L44 id off h.length b (60 - ((d + 1 : Nat) : Int)) acc c es.length i) (ctr h id off ms (2000 - (m : Int)) ++ (.box cs0 :: .box zeroC :: tail)) = some (.normal, [.ptr id off, b, .junk, .v (.int .i64 (60 - ((d + 1 : Nat) : Int))), .ptr h.length 0, .ptr (h.length + 1) 0, .junk, .junk, acc', .ptr p9 0, .ptr (h.length + (tail1.length + 1 + 1)) 0, .v (.int .i64 0), .junk, .junk, c, .v (.int .i64 es.length), .v (.int .i64 ((i + 1 : Nat) : Int)), .v (.bool true), .v (.bool false)], ctr h id off ms (2000 - (m2 : Int)) ++ (.box cs0 :: .box zeroC :: tail3)) := by
        rw [pre]
        simp only [zeroC] at hld hc hst2 hld2 ap'
        simp only [zeroC, c44_10, c44_11, c44_13, c44_14, hld, hdd, hc, hst2, hld2, ap', sr, b1r, z0, hw, e_append, e_bslice1, e_callh, q9z, c_bx, g_agg, List.map_cons, List.map_nil, run_nil, run_cons, stp_plain, stp_guard, put_some, pass_eq, pick_tt, pick_ff, pick_tf, pick_ft, pick_u, reg_some, thn_normal, thn_exit, thn_ret, cnd_t, cnd_f, blk_normal, blk_ret, blk_exit, x_seq, x_region, x_cond, x_block, x_loop, x_ret, x_exit, x_skip, e_mov, e_pick, pk_t, pk_f, withH_some, e_box, e_load, e_store, stH_some, e_nil, e_bin, e_eqv, eqH_f, eqH_t, e_un, e_fa, e_ia, ia_eq, nat_eq, natV_nat, e_len, lnH_some, e_extract, ex_0, ex_1, e_call0, e_call1, e_call2, e_call3, pc0_eq, pc1_some, pc2_some, pc3_some, fin_some, g_var0, g_vars, g_loc0, g_locs, g_int, g_bool, g_str, g_sl, s_none, s_zero, s_succ, cl_nil, cl_str, cl_bool, cl_slc, cl_own, evFa, evNil, asEl, evBin, intBin, strBin, evUn, len_nil, len_slc, len_str, clr, List.length_nil, List.length_cons, List.getElem?_cons_zero, List.getElem?_cons_succ, Nat.reduceAdd, Nat.zero_add, Nat.add_zero, Nat.reduceLeDiff, Nat.reduceSub, ↓reduceIte, List.drop_succ_cons, List.drop_zero, List.take_succ_cons, List.take_zero, Bool.false_eq_true, List.nil_append, List.cons_append, Bool.not_true, Bool.not_false, cond_true, cond_false, bne, lv_ret, lv_normal, res1, res2, lv2_some, res_var, res_cell, lvf_v, lvf_slc, res1c, lvo1_some, e_mm, mm_max, mm_min]
      have hnext := ih (i + 1) m2 acc' (ds ++ [r]) (dl ++ [u]) tail3 [.ptr id off, b, .junk, .v (.int .i64 (60 - ((d + 1 : Nat) : Int))), .ptr h.length 0, .ptr (h.length + 1) 0, .junk, .junk, acc', .ptr p9 0, .ptr (h.length + (tail1.length + 1 + 1)) 0, .v (.int .i64 0), .junk, .junk, c, .v (.int .i64 es.length), .v (.int .i64 ((i + 1 : Nat) : Int)), .v (.bool true), .v (.bool false)] (by simp at hi; omega) (by simp [hds]) (by omega) hs' (hall.app (.one hrt)) (fun t ht => hszs t (by simp [ht])) (htl3 tl3) hlc3 rfl
      have hln := loop_normal (call := callW F) (fuel := K) (keep := K44) (b := c44_15) (n := l.length + 1) (vars := vars) (h := ctr h id off ms (2000 - (m : Int)) ++ (.box cs0 :: .box zeroC :: tail)) (by rw [hv]; exact st)
      simp only [resL, hr]
      rw [show (t :: l).length + 1 = (l.length + 1) + 1 from rfl, hln]
      cases hrl : resL (resT rs d) m2 l with
      | error e =>
        rw [hrl] at hnext
        exact hnext
      | ok q =>
        obtain ⟨xs, m3⟩ := q
        rw [hrl] at hnext
        obtain ⟨g0, acc'', ds', tail', g1, g2, g3⟩ := hnext
        exact ⟨by omega, acc'', ds', tail', g1, g2, by simpa using g3⟩
end
end Go.AE.YtpgoibncgekflaaDoor
end

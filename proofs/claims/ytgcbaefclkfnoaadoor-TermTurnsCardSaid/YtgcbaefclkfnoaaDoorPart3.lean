/- Texts of this claim, put together. -/
import Derived.Test.YtgcbaefclkfnoaaDoorPart2
import Derived.Test.YtgcbaefclkfnoaaDoorPart1
import Derived.Test.YtgcbaefclkfnoaaDoorRows
import Derived.WalkKit
import Derived.ProofKit
import Derived.OpenShut
import Derived.ShutString
import Derived.ChangeOld
import Derived.Below
import Derived.SizedLaws
import Derived.Test.YtgcbaefclkfnoaaDoorTie
import Derived.Test.YtgcbaefclkfnoaaDoorCards
import Derived.Lib.LaidIn
import Derived.Lib.LaidU8T
import Derived.KernelRfl
import Derived.Handed
import Derived.SevenTiedAt
/-! Vars, and whether a number is among some. -/
section
set_option linter.unusedVariables false
set_option linter.unusedSimpArgs false
namespace Go.AE.YtgcbaefclkfnoaaDoor
open Go Go.AE Go.Proofs.YtgcbaefclkfnoaaDoor

def iv (n : Int) : AV := .v (.int .i64 n)
mutual
def placesT : Tm → List Int
  | .mk k _ n l => (if k = 1 then [n] else []) ++ placesL l
def placesL : List Tm → List Int
  | [] => []
  | t :: l => placesT t ++ placesL l
end
mutual
theorem places_len : ∀ t : Tm, (placesT t).length ≤ size t
  | .mk k s n l => by
    have := placesL_len l
    simp only [placesT, size, List.length_append]
    split <;> simp <;> omega
theorem placesL_len : ∀ l : List Tm, (placesL l).length ≤ sizeL l
  | [] => by simp [placesL, sizeL]
  | t :: l => by
    have := places_len t
    have := placesL_len l
    simp only [placesL, sizeL, List.length_append]; omega
end

/-! ### Has -/
def K38 : List Bool := [false, true, false, false, true, true, true, false, false]
def L38 (n : Int) (c : AV) (len i : Int) : List AV := [.junk, .v (.int .i64 n), .junk, .junk, c, .v (.int .i64 len), .v (.int .i64 i), .junk, .junk]
theorem has_loop {K : Nat} {c : AV} {es : List AV} (hs : Sl 1 c es) (hm : es.length ≤ 1000000) (n : Int) :
    ∀ (l : List Int) (i : Nat) (h : List AO) (vars : List AV), i + l.length = es.length → es.drop i = l.map iv → clr K38 vars = L38 n c es.length i →
      (l.contains n = true ∧ ∃ vs, loopN (exec (callW F) K c59_7) K38 (l.length + 1) vars h = some (.ret, vs, h) ∧ getO vs [] (.var 2) = .v (.bool true)) ∨ (l.contains n = false ∧ ∃ vs, loopN (exec (callW F) K c59_7) K38 (l.length + 1) vars h = some (.exit 0, vs, h) ∧ vs.length = 9) := by
  intro l
  induction l with
  | nil =>
    intro i h vars hi _ hv
    have hil : i = es.length := by simpa using hi
    subst hil
    have hlt : decide ((es.length : Int) < (es.length : Int)) = false := by simp
    refine .inr ⟨rfl, [.junk, .v (.int .i64 n), .junk, .junk, c, .v (.int .i64 es.length), .v (.int .i64 es.length), .v (.bool false), .junk], loop_exit ?_, rfl⟩
    rw [hv]
    simp only [L38, c59_7, c59_2, hlt, e_bslice1, e_bslice2, bs1, bs2, e_build, bdH_some, bd_nil, bd_cons, bd1, cl_agg, cl_int, toL, List.map_cons, List.map_nil, putAt, List.set_cons_zero, List.set_cons_succ, and_self, Nat.le_refl, app_get, app_set, g_agg, run_nil, run_cons, stp_plain, stp_guard, put_some, pass_eq, pick_tt, pick_ff, pick_tf, pick_ft, pick_u, reg_some, thn_normal, thn_exit, thn_ret, cnd_t, cnd_f, blk_normal, blk_ret, blk_exit, x_seq, x_region, x_cond, x_block, x_loop, x_ret, x_exit, x_skip, e_mov, e_pick, pk_t, pk_f, withH_some, e_box, bx_some, e_load, e_store, stH_some, e_nil, e_bin, e_eqv, eqH_f, eqH_t, e_un, e_fa, e_ia, ia_eq, nat_eq, natV_nat, e_len, lnH_some, e_extract, ex_0, ex_1, e_call0, e_call1, e_call2, e_call3, pc0_eq, pc1_some, pc2_some, pc3_some, fin_some, g_var0, g_vars, g_loc0, g_locs, g_int, g_bool, g_str, g_sl, s_none, s_zero, s_succ, AV.cl, evFa, evNil, evLoad, asEl, evBin, intBin, strBin, evUn, len_nil, len_slc, len_str, clr, List.length_nil, List.length_cons, List.getElem?_cons_zero, List.getElem?_cons_succ, Nat.reduceAdd, Nat.zero_add, Nat.add_zero, Nat.reduceLeDiff, Nat.reduceSub, ↓reduceIte, List.drop_succ_cons, List.drop_zero, List.take_succ_cons, List.take_zero, Bool.false_eq_true, List.nil_append, List.cons_append, Bool.not_true, Bool.not_false, cond_true, cond_false, bne, lv_ret, lv_normal, res1, res2, lv2_some, res_var, res_cell, lvf_v, lvf_slc, res1c, lvo1_some, e_mm, mm_max, mm_min]
  | cons k l ih =>
    intro i h vars hi hes hv
    have hil : i < es.length := by simp at hi; omega
    have he : es[i]? = some (iv k) := by
      have : (es.drop i)[0]? = some (iv k) := by rw [hes]; rfl
      simpa using this
    have hd : es.drop (i + 1) = l.map iv := by
      have h2 := congrArg List.tail hes
      simpa using h2
    have hlt : (decide ((i : Int) < (es.length : Int))) = true := by simp; omega
    have q1 := hs.ia he
    by_cases hk : n = k
    · left
      subst hk
      have he : ((n == n) : Bool) = true := by simp
      refine ⟨by simp, [.junk, .v (.int .i64 n), .v (.bool true), .v (.int .i64 n), c, .v (.int .i64 es.length), .v (.int .i64 i), .v (.bool true), .v (.bool true)], loop_ret ?_, rfl⟩
      rw [hv]
      simp only [L38, iv, AV.cells, c59_7, c59_2, c59_3, c59_4, c59_5, hlt, he, q1, e_bslice1, e_bslice2, bs1, bs2, e_build, bdH_some, bd_nil, bd_cons, bd1, cl_agg, cl_int, toL, List.map_cons, List.map_nil, putAt, List.set_cons_zero, List.set_cons_succ, and_self, Nat.le_refl, app_get, app_set, g_agg, run_nil, run_cons, stp_plain, stp_guard, put_some, pass_eq, pick_tt, pick_ff, pick_tf, pick_ft, pick_u, reg_some, thn_normal, thn_exit, thn_ret, cnd_t, cnd_f, blk_normal, blk_ret, blk_exit, x_seq, x_region, x_cond, x_block, x_loop, x_ret, x_exit, x_skip, e_mov, e_pick, pk_t, pk_f, withH_some, e_box, bx_some, e_load, e_store, stH_some, e_nil, e_bin, e_eqv, eqH_f, eqH_t, e_un, e_fa, e_ia, ia_eq, nat_eq, natV_nat, e_len, lnH_some, e_extract, ex_0, ex_1, e_call0, e_call1, e_call2, e_call3, pc0_eq, pc1_some, pc2_some, pc3_some, fin_some, g_var0, g_vars, g_loc0, g_locs, g_int, g_bool, g_str, g_sl, s_none, s_zero, s_succ, AV.cl, evFa, evNil, evLoad, asEl, evBin, intBin, strBin, evUn, len_nil, len_slc, len_str, clr, List.length_nil, List.length_cons, List.getElem?_cons_zero, List.getElem?_cons_succ, Nat.reduceAdd, Nat.zero_add, Nat.add_zero, Nat.reduceLeDiff, Nat.reduceSub, ↓reduceIte, List.drop_succ_cons, List.drop_zero, List.take_succ_cons, List.take_zero, Bool.false_eq_true, List.nil_append, List.cons_append, Bool.not_true, Bool.not_false, cond_true, cond_false, bne, lv_ret, lv_normal, res1, res2, lv2_some, res_var, res_cell, lvf_v, lvf_slc, res1c, lvo1_some, e_mm, mm_max, mm_min]
    · have he : ((k == n) : Bool) = false := by simpa using fun e => hk e.symm
      have st : exec (callW F) K c59_7 (L38 n c es.length i) h = some (.normal, [.junk, .v (.int .i64 n), .junk, .v (.int .i64 k), c, .v (.int .i64 es.length), .v (.int .i64 ((i + 1 : Nat) : Int)), .v (.bool true), .v (.bool false)], h) := by
        have : maxLen = 9223372036854775807 := rfl
        simp only [L38, iv, AV.cells, c59_7, c59_2, c59_3, c59_4, c59_6, hlt, he, wrap_succ hil (by omega), q1, e_bslice1, e_bslice2, bs1, bs2, e_build, bdH_some, bd_nil, bd_cons, bd1, cl_agg, cl_int, toL, List.map_cons, List.map_nil, putAt, List.set_cons_zero, List.set_cons_succ, and_self, Nat.le_refl, app_get, app_set, g_agg, run_nil, run_cons, stp_plain, stp_guard, put_some, pass_eq, pick_tt, pick_ff, pick_tf, pick_ft, pick_u, reg_some, thn_normal, thn_exit, thn_ret, cnd_t, cnd_f, blk_normal, blk_ret, blk_exit, x_seq, x_region, x_cond, x_block, x_loop, x_ret, x_exit, x_skip, e_mov, e_pick, pk_t, pk_f, withH_some, e_box, bx_some, e_load, e_store, stH_some, e_nil, e_bin, e_eqv, eqH_f, eqH_t, e_un, e_fa, e_ia, ia_eq, nat_eq, natV_nat, e_len, lnH_some, e_extract, ex_0, ex_1, e_call0, e_call1, e_call2, e_call3, pc0_eq, pc1_some, pc2_some, pc3_some, fin_some, g_var0, g_vars, g_loc0, g_locs, g_int, g_bool, g_str, g_sl, s_none, s_zero, s_succ, AV.cl, evFa, evNil, evLoad, asEl, evBin, intBin, strBin, evUn, len_nil, len_slc, len_str, clr, List.length_nil, List.length_cons, List.getElem?_cons_zero, List.getElem?_cons_succ, Nat.reduceAdd, Nat.zero_add, Nat.add_zero, Nat.reduceLeDiff, Nat.reduceSub, ↓reduceIte, List.drop_succ_cons, List.drop_zero, List.take_succ_cons, List.take_zero, Bool.false_eq_true, List.nil_append, List.cons_append, Bool.not_true, Bool.not_false, cond_true, cond_false, bne, lv_ret, lv_normal, res1, res2, lv2_some, res_var, res_cell, lvf_v, lvf_slc, res1c, lvo1_some, e_mm, mm_max, mm_min]
      rw [show (k :: l).length + 1 = (l.length + 1) + 1 from rfl, loop_normal (by rw [hv]; exact st)]
      have hc : (k :: l).contains n = l.contains n := by
        have : (n == k) = false := by simpa using hk
        rw [List.contains_cons, this, Bool.false_or]
      rw [hc]
      exact ih (i + 1) h _ (by simp at hi; omega) hd rfl
theorem has_ok {c : AV} {ns : List Int} (hs : Sl 1 c (ns.map iv)) (hm : ns.length ≤ 1000000) (n : Int) : callW F 59 [c, .v (.int .i64 n)] [] = some (.v (.bool (ns.contains n)), []) := by
  refine callW_pure (c := c59) rfl rfl (ns.length + 1) ?_
  have key := has_loop (K := ns.length + 1) hs (by simpa using hm) n ns 0 [] (L38 n c (ns.map iv).length (0 : Nat)) (by simp) rfl rfl
  show lv [.var 2] (exec (callW F) (ns.length + 1) (.seq (.region [] [] c59_0) (.seq (.seq (.region [] [] c59_1) (.block 0 (.loop K38 [] c59_7))) (.seq (.region [] [] c59_8) .ret))) _ _) = _
  generalize hrest : (CC.seq (.region [] [] c59_8) .ret) = rest
  simp only [c59, start, List.replicate, c59_0, c59_1, hs.len, e_bslice1, e_bslice2, bs1, bs2, e_build, bdH_some, bd_nil, bd_cons, bd1, cl_agg, cl_int, toL, List.map_cons, List.map_nil, putAt, List.set_cons_zero, List.set_cons_succ, and_self, Nat.le_refl, app_get, app_set, g_agg, run_nil, run_cons, stp_plain, stp_guard, put_some, pass_eq, pick_tt, pick_ff, pick_tf, pick_ft, pick_u, reg_some, thn_normal, thn_exit, thn_ret, cnd_t, cnd_f, blk_normal, blk_ret, blk_exit, x_seq, x_region, x_cond, x_block, x_loop, x_ret, x_exit, x_skip, e_mov, e_pick, pk_t, pk_f, withH_some, e_box, bx_some, e_load, e_store, stH_some, e_nil, e_bin, e_eqv, eqH_f, eqH_t, e_un, e_fa, e_ia, ia_eq, nat_eq, natV_nat, e_len, lnH_some, e_extract, ex_0, ex_1, e_call0, e_call1, e_call2, e_call3, pc0_eq, pc1_some, pc2_some, pc3_some, fin_some, g_var0, g_vars, g_loc0, g_locs, g_int, g_bool, g_str, g_sl, s_none, s_zero, s_succ, AV.cl, evFa, evNil, evLoad, asEl, evBin, intBin, strBin, evUn, len_nil, len_slc, len_str, clr, List.length_nil, List.length_cons, List.getElem?_cons_zero, List.getElem?_cons_succ, Nat.reduceAdd, Nat.zero_add, Nat.add_zero, Nat.reduceLeDiff, Nat.reduceSub, ↓reduceIte, List.drop_succ_cons, List.drop_zero, List.take_succ_cons, List.take_zero, Bool.false_eq_true, List.nil_append, List.cons_append, Bool.not_true, Bool.not_false, cond_true, cond_false, bne, lv_ret, lv_normal, res1, res2, lv2_some, res_var, res_cell, lvf_v, lvf_slc, res1c, lvo1_some, e_mm, mm_max, mm_min]
  rw [loop_cong (v2 := L38 n c (ns.map iv).length ((0 : Nat) : Int)) (by rfl)]
  rcases key with ⟨h0, vs, h1, h2⟩ | ⟨h0, vs, h1, h2⟩
  · rw [h1, h0]
    simp only [blk_ret, thn_ret, h2, run_nil, run_cons, stp_plain, stp_guard, put_some, pass_eq, pick_tt, pick_ff, pick_tf, pick_ft, pick_u, reg_some, thn_normal, thn_exit, thn_ret, cnd_t, cnd_f, blk_normal, blk_ret, blk_exit, x_seq, x_region, x_cond, x_block, x_loop, x_ret, x_exit, x_skip, e_mov, e_pick, pk_t, pk_f, withH_some, e_box, bx_some, e_load, e_store, stH_some, e_nil, e_bin, e_eqv, eqH_f, eqH_t, e_un, e_fa, e_ia, ia_eq, nat_eq, natV_nat, e_len, lnH_some, e_extract, ex_0, ex_1, e_call0, e_call1, e_call2, e_call3, pc0_eq, pc1_some, pc2_some, pc3_some, fin_some, g_var0, g_vars, g_loc0, g_locs, g_int, g_bool, g_str, g_sl, s_none, s_zero, s_succ, AV.cl, evFa, evNil, evLoad, asEl, evBin, intBin, strBin, evUn, len_nil, len_slc, len_str, clr, List.length_nil, List.length_cons, List.getElem?_cons_zero, List.getElem?_cons_succ, Nat.reduceAdd, Nat.zero_add, Nat.add_zero, Nat.reduceLeDiff, Nat.reduceSub, ↓reduceIte, List.drop_succ_cons, List.drop_zero, List.take_succ_cons, List.take_zero, Bool.false_eq_true, List.nil_append, List.cons_append, Bool.not_true, Bool.not_false, cond_true, cond_false, bne, lv_ret, lv_normal, res1, res2, lv2_some, res_var, res_cell, lvf_v, lvf_slc, res1c, lvo1_some, e_mm, mm_max, mm_min]
  · rw [h1, h0, ← hrest]
    match vs, h2 with
    | [a0, a1, a2, a3, a4, a5, a6, a7, a8], _ => simp only [c59_8, run_nil, run_cons, stp_plain, stp_guard, put_some, pass_eq, pick_tt, pick_ff, pick_tf, pick_ft, pick_u, reg_some, thn_normal, thn_exit, thn_ret, cnd_t, cnd_f, blk_normal, blk_ret, blk_exit, x_seq, x_region, x_cond, x_block, x_loop, x_ret, x_exit, x_skip, e_mov, e_pick, pk_t, pk_f, withH_some, e_box, bx_some, e_load, e_store, stH_some, e_nil, e_bin, e_eqv, eqH_f, eqH_t, e_un, e_fa, e_ia, ia_eq, nat_eq, natV_nat, e_len, lnH_some, e_extract, ex_0, ex_1, e_call0, e_call1, e_call2, e_call3, pc0_eq, pc1_some, pc2_some, pc3_some, fin_some, g_var0, g_vars, g_loc0, g_locs, g_int, g_bool, g_str, g_sl, s_none, s_zero, s_succ, AV.cl, evFa, evNil, evLoad, asEl, evBin, intBin, strBin, evUn, len_nil, len_slc, len_str, clr, List.length_nil, List.length_cons, List.getElem?_cons_zero, List.getElem?_cons_succ, Nat.reduceAdd, Nat.zero_add, Nat.add_zero, Nat.reduceLeDiff, Nat.reduceSub, ↓reduceIte, List.drop_succ_cons, List.drop_zero, List.take_succ_cons, List.take_zero, Bool.false_eq_true, List.nil_append, List.cons_append, Bool.not_true, Bool.not_false, cond_true, cond_false, bne, lv_ret, lv_normal, res1, res2, lv2_some, res_var, res_cell, lvf_v, lvf_slc, res1c, lvo1_some, e_mm, mm_max, mm_min]

/-! ### The places -/
def K37 : List Bool := [false, false, false, true, false, false, true, true, true, false]
def L37 (acc c : AV) (len i : Int) : List AV := [.junk, .junk, .junk, acc, .junk, .junk, c, .v (.int .i64 len), .v (.int .i64 i), .junk]
theorem places_loop {K : Nat} {c : AV} {es : List AV} (hs : Sl 4 c es) (hm : es.length ≤ 100000) :
    ∀ (l : List Tm) (i : Nat) (acc : AV) (p : List Int) (h : List AO) (vars : List AV), i + l.length = es.length → p.length + sizeL l ≤ 1000000 → All2 (es.drop i) l → (∀ t ∈ l, ∀ (e : AV), IsT e t → ∃ r, Sl 1 r ((placesT t).map iv) ∧ callW F 42 [e] [] = some (r, [])) →
      Acc 2 1 h acc (p.map iv) → clr K37 vars = L37 acc c es.length i →
      ∃ acc' h' x4 x5 x9, loopN (exec (callW F) K c42_9) K37 (l.length + 1) vars h = some (.exit 0, [.junk, .junk, .junk, acc', x4, x5, c, .v (.int .i64 es.length), .v (.int .i64 es.length), x9], h') ∧ Acc 2 1 h' acc' ((p ++ placesL l).map iv) := by
  intro l
  induction l with
  | nil =>
    intro i acc p h vars hi hp _ _ ha hv
    have hil : i = es.length := by simpa using hi
    subst hil
    have hlt : decide ((es.length : Int) < (es.length : Int)) = false := by simp
    refine ⟨acc, h, .junk, .junk, .v (.bool false), loop_exit ?_, by simpa [placesL] using ha⟩
    rw [hv]
    simp only [L37, c42_9, c42_5, hlt, e_bslice1, e_bslice2, bs1, bs2, e_build, bdH_some, bd_nil, bd_cons, bd1, cl_agg, cl_int, toL, List.map_cons, List.map_nil, putAt, List.set_cons_zero, List.set_cons_succ, and_self, Nat.le_refl, app_get, app_set, g_agg, run_nil, run_cons, stp_plain, stp_guard, put_some, pass_eq, pick_tt, pick_ff, pick_tf, pick_ft, pick_u, reg_some, thn_normal, thn_exit, thn_ret, cnd_t, cnd_f, blk_normal, blk_ret, blk_exit, x_seq, x_region, x_cond, x_block, x_loop, x_ret, x_exit, x_skip, e_mov, e_pick, pk_t, pk_f, withH_some, e_box, bx_some, e_load, e_store, stH_some, e_nil, e_bin, e_eqv, eqH_f, eqH_t, e_un, e_fa, e_ia, ia_eq, nat_eq, natV_nat, e_len, lnH_some, e_extract, ex_0, ex_1, e_call0, e_call1, e_call2, e_call3, pc0_eq, pc1_some, pc2_some, pc3_some, fin_some, g_var0, g_vars, g_loc0, g_locs, g_int, g_bool, g_str, g_sl, s_none, s_zero, s_succ, cl_nil, cl_str, cl_bool, cl_slc, cl_own, evFa, evNil, asEl, evBin, intBin, strBin, evUn, len_nil, len_slc, len_str, clr, List.length_nil, List.length_cons, List.getElem?_cons_zero, List.getElem?_cons_succ, Nat.reduceAdd, Nat.zero_add, Nat.add_zero, Nat.reduceLeDiff, Nat.reduceSub, ↓reduceIte, List.drop_succ_cons, List.drop_zero, List.take_succ_cons, List.take_zero, Bool.false_eq_true, List.nil_append, List.cons_append, Bool.not_true, Bool.not_false, cond_true, cond_false, bne, lv_ret, lv_normal, res1, res2, lv2_some, res_var, res_cell, lvf_v, lvf_slc, res1c, lvo1_some, e_mm, mm_max, mm_min]
  | cons t l ih =>
    intro i acc p h vars hi hp hes hcall ha hv
    have hil : i < es.length := by simp at hi; omega
    have he : es[i]? = some (es[i]'hil) := List.getElem?_eq_getElem _
    have hd : es.drop i = es[i] :: es.drop (i + 1) := List.drop_eq_getElem_cons hil
    rw [hd] at hes
    generalize es[i]'hil = e at hes he
    cases hes with
    | cons _ _ _ _ hT hs' =>
    obtain ⟨r, hr, hc⟩ := hcall t (by simp) _ hT
    have hpl := places_len t
    simp only [sizeL] at hp
    obtain ⟨acc', h2, h3, h4, h5⟩ := (ha.app (.box 24 e.cells)).add (x := r) (bytes := 8) (hr.elems _) (by
      have : room = 140737488355328 := rfl
      simp only [fits, List.length_map, decide_eq_true_eq]; omega)
    have hlt : (decide ((i : Int) < (es.length : Int))) = true := by simp; omega
    have q1 := hs.ia he
    have q3 : ∀ h : List AO, evLoad h true 4 (.ip e.cells) = some e := fun h => hT.load
    have q5 : ∀ h : List AO, e.snap1 h = some e := fun h => hT.snap
    have st : exec (callW F) K c42_9 (L37 acc c es.length i) h = some (.normal, [.junk, .junk, .junk, acc', .ptr h.length 0, .junk, c, .v (.int .i64 es.length), .v (.int .i64 ((i + 1 : Nat) : Int)), .v (.bool true)], h2) := by
      have hz : ([.v (.int .i64 0), .v (.string ⟨#[]⟩), .v (.int .i64 0), .v (.slice none 0 0)] : List AV).length = 4 := rfl
      simp only [L37, c42_9, c42_5, c42_6, c42_7, c42_8, hlt, wrap_succ hil (small_max hm), q1, q3, q5, hc, h3, hT.st _ _ hz, hT.ld, q9z, e_append, e_bslice1, e_bslice2, bs1, bs2, e_build, bdH_some, bd_nil, bd_cons, bd1, cl_agg, cl_int, toL, List.map_cons, List.map_nil, putAt, List.set_cons_zero, List.set_cons_succ, and_self, Nat.le_refl, app_get, app_set, g_agg, run_nil, run_cons, stp_plain, stp_guard, put_some, pass_eq, pick_tt, pick_ff, pick_tf, pick_ft, pick_u, reg_some, thn_normal, thn_exit, thn_ret, cnd_t, cnd_f, blk_normal, blk_ret, blk_exit, x_seq, x_region, x_cond, x_block, x_loop, x_ret, x_exit, x_skip, e_mov, e_pick, pk_t, pk_f, withH_some, e_box, bx_some, e_load, e_store, stH_some, e_nil, e_bin, e_eqv, eqH_f, eqH_t, e_un, e_fa, e_ia, ia_eq, nat_eq, natV_nat, e_len, lnH_some, e_extract, ex_0, ex_1, e_call0, e_call1, e_call2, e_call3, pc0_eq, pc1_some, pc2_some, pc3_some, fin_some, g_var0, g_vars, g_loc0, g_locs, g_int, g_bool, g_str, g_sl, s_none, s_zero, s_succ, cl_nil, cl_str, cl_bool, cl_slc, cl_own, evFa, evNil, asEl, evBin, intBin, strBin, evUn, len_nil, len_slc, len_str, clr, List.length_nil, List.length_cons, List.getElem?_cons_zero, List.getElem?_cons_succ, Nat.reduceAdd, Nat.zero_add, Nat.add_zero, Nat.reduceLeDiff, Nat.reduceSub, ↓reduceIte, List.drop_succ_cons, List.drop_zero, List.take_succ_cons, List.take_zero, Bool.false_eq_true, List.nil_append, List.cons_append, Bool.not_true, Bool.not_false, cond_true, cond_false, bne, lv_ret, lv_normal, res1, res2, lv2_some, res_var, res_cell, lvf_v, lvf_slc, res1c, lvo1_some, e_mm, mm_max, mm_min]
    rw [show (t :: l).length + 1 = (l.length + 1) + 1 from rfl, loop_normal (by rw [hv]; exact st)]
    rw [← List.map_append] at h4
    obtain ⟨acc'', h', x4, x5, x9, g1, g2⟩ := ih (i + 1) acc' (p ++ placesT t) h2 [.junk, .junk, .junk, acc', .ptr h.length 0, .junk, c, .v (.int .i64 es.length), .v (.int .i64 ((i + 1 : Nat) : Int)), .v (.bool true)] (by simp at hi; omega) (by rw [List.length_append]; omega) hs' (fun t ht => hcall t (by simp [ht])) h4 rfl
    refine ⟨acc'', h', x4, x5, x9, g1, ?_⟩
    rw [placesL, ← List.append_assoc]
    exact g2

theorem places_ok : ∀ (N : Nat) (t : Tm) (a : AV), SizeOf.sizeOf t < N → size t ≤ 100000 → IsT a t → ∃ r, Sl 1 r ((placesT t).map iv) ∧ callW F 42 [a] [] = some (r, []) := by
  intro N
  induction N with
  | zero => intro t a h; omega
  | succ N ih =>
    intro t a hN hsz ha
    cases ha with
    | mk k s n c l hc =>
    have h5 := Tm.mk.sizeOf_spec k s n l
    simp only [size] at hsz
    have hll := sizeL_len l
    have hcall : ∀ t ∈ l, ∀ (e : AV), IsT e t → ∃ r, Sl 1 r ((placesT t).map iv) ∧ callW F 42 [e] [] = some (r, []) := by
      intro t ht e hT
      have h6 := List.sizeOf_lt_of_mem ht
      have h7 := size_mem ht
      exact ih t e (by omega) (by omega) hT
    obtain ⟨es, hs, hes, hm⟩ := hc.sl
    have e1 := hes.length
    have key : ∀ (p : List Int) (acc : AV) (h : List AO), p.length ≤ 10 → Acc 2 1 h acc (p.map iv) → ∃ acc' h' x4 x5 x9, loopN (exec (callW F) (l.length + 1) c42_9) K37 (l.length + 1) (L37 acc c es.length (0 : Nat)) h = some (.exit 0, [.junk, .junk, .junk, acc', x4, x5, c, .v (.int .i64 es.length), .v (.int .i64 es.length), x9], h') ∧ Acc 2 1 h' acc' ((p ++ placesL l).map iv) :=
      fun p acc h hp ha => places_loop (K := l.length + 1) hs (by omega) l 0 acc p h (L37 acc c es.length (0 : Nat)) (by omega) (by omega) (by simpa using hes) hcall ha rfl
    by_cases hk : k = 1
    · have h1 : (k == 1) = true := by simpa using hk
      have hap : evAppend [.box 24 [.v (.int .i64 k), .v (.string s), .v (.int .i64 n), c]] 2 1 8 (.v (.slice none 0 0)) (.slc 1 true true [.v (.int .i64 n)]) = some (.own 1 1 0 0 1, [.box 24 [.v (.int .i64 k), .v (.string s), .v (.int .i64 n), c], .row 2 1 0 [.v (.int .i64 n)] 0]) := ap_new (h := [.box 24 [.v (.int .i64 k), .v (.string s), .v (.int .i64 n), c]]) (by simp) (by simp only [List.length_cons, List.length_nil]; decide)
      obtain ⟨acc', h', x4, x5, x9, g1, g2⟩ := key [n] (.own 1 1 0 0 1) [.box 24 [.v (.int .i64 k), .v (.string s), .v (.int .i64 n), c], .row 2 1 0 [.v (.int .i64 n)] 0] (by simp) (.own 1 0 0 [.v (.int .i64 n)] rfl (by simp) (by simp))
      obtain ⟨r, g3, g4⟩ := g2.lvf
      refine ⟨r, by rw [placesT, if_pos hk]; exact g4, callW_pure (c := c42) rfl rfl (l.length + 1) ?_⟩
      show lv [.var 2] (exec (callW F) (l.length + 1) (.seq (.region [] [] c42_0) (.seq (.region [] [] c42_1) (.seq (.seq (.region [] [] c42_2) (.cond (.var 5) (.region [] [] c42_3) .skip)) (.seq (.seq (.region [] [] c42_4) (.block 0 (.loop K37 [] c42_9))) (.seq (.region [] [] c42_10) .ret))))) _ _) = _
      generalize hrest : (CC.seq (.region [] [] c42_10) .ret) = rest
      simp only [c42, start, List.replicate, c42_0, c42_1, c42_2, c42_3, c42_4, h1, hs.len, hap, snap_int, bs1_some (y := .v (.int .i64 n)) (sz := 1) cl_int rfl, e_append, q9z, evStore, e_bslice1, e_bslice2, bs1, bs2, e_build, bdH_some, bd_nil, bd_cons, bd1, cl_agg, cl_int, toL, List.map_cons, List.map_nil, putAt, List.set_cons_zero, List.set_cons_succ, and_self, Nat.le_refl, evStore, app_get, app_set, g_agg, run_nil, run_cons, stp_plain, stp_guard, put_some, pass_eq, pick_tt, pick_ff, pick_tf, pick_ft, pick_u, reg_some, thn_normal, thn_exit, thn_ret, cnd_t, cnd_f, blk_normal, blk_ret, blk_exit, x_seq, x_region, x_cond, x_block, x_loop, x_ret, x_exit, x_skip, e_mov, e_pick, pk_t, pk_f, withH_some, e_box, bx_some, e_load, e_store, stH_some, e_nil, e_bin, e_eqv, eqH_f, eqH_t, e_un, e_fa, e_ia, ia_eq, nat_eq, natV_nat, e_len, lnH_some, e_extract, ex_0, ex_1, e_call0, e_call1, e_call2, e_call3, pc0_eq, pc1_some, pc2_some, pc3_some, fin_some, g_var0, g_vars, g_loc0, g_locs, g_int, g_bool, g_str, g_sl, s_none, s_zero, s_succ, cl_nil, cl_str, cl_bool, cl_slc, cl_own, evFa, evNil, evLoad, asEl, evBin, intBin, strBin, evUn, len_nil, len_slc, len_str, clr, List.length_nil, List.length_cons, List.getElem?_cons_zero, List.getElem?_cons_succ, Nat.reduceAdd, Nat.zero_add, Nat.add_zero, Nat.reduceLeDiff, Nat.reduceSub, ↓reduceIte, List.drop_succ_cons, List.drop_zero, List.take_succ_cons, List.take_zero, Bool.false_eq_true, List.nil_append, List.cons_append, Bool.not_true, Bool.not_false, cond_true, cond_false, bne, lv_ret, lv_normal, res1, res2, lv2_some, res_var, res_cell, lvf_v, lvf_slc, res1c, lvo1_some, e_mm, mm_max, mm_min]
      rw [loop_cong (v2 := L37 (.own 1 1 0 0 1) c es.length ((0 : Nat) : Int)) (by rfl), g1, ← hrest]
      simp only [blk_exit, thn_normal, c42_10, g3, run_nil, run_cons, stp_plain, stp_guard, put_some, pass_eq, pick_tt, pick_ff, pick_tf, pick_ft, pick_u, reg_some, thn_normal, thn_exit, thn_ret, cnd_t, cnd_f, blk_normal, blk_ret, blk_exit, x_seq, x_region, x_cond, x_block, x_loop, x_ret, x_exit, x_skip, e_mov, e_pick, pk_t, pk_f, withH_some, e_box, bx_some, e_load, e_store, stH_some, e_nil, e_bin, e_eqv, eqH_f, eqH_t, e_un, e_fa, e_ia, ia_eq, nat_eq, natV_nat, e_len, lnH_some, e_extract, ex_0, ex_1, e_call0, e_call1, e_call2, e_call3, pc0_eq, pc1_some, pc2_some, pc3_some, fin_some, g_var0, g_vars, g_loc0, g_locs, g_int, g_bool, g_str, g_sl, s_none, s_zero, s_succ, cl_nil, cl_str, cl_bool, cl_slc, cl_own, evFa, evNil, asEl, evBin, intBin, strBin, evUn, len_nil, len_slc, len_str, clr, List.length_nil, List.length_cons, List.getElem?_cons_zero, List.getElem?_cons_succ, Nat.reduceAdd, Nat.zero_add, Nat.add_zero, Nat.reduceLeDiff, Nat.reduceSub, ↓reduceIte, List.drop_succ_cons, List.drop_zero, List.take_succ_cons, List.take_zero, Bool.false_eq_true, List.nil_append, List.cons_append, Bool.not_true, Bool.not_false, cond_true, cond_false, bne, lv_ret, lv_normal, res1, res2, lv2_some, res_var, res_cell, lvf_v, lvf_slc, res1c, lvo1_some, e_mm, mm_max, mm_min]
    · have h1 : (k == 1) = false := by simpa using hk
      obtain ⟨acc', h', x4, x5, x9, g1, g2⟩ := key [] (.v (.slice none 0 0)) [.box 24 [.v (.int .i64 k), .v (.string s), .v (.int .i64 n), c]] (by simp) .nil
      obtain ⟨r, g3, g4⟩ := g2.lvf
      refine ⟨r, by rw [placesT, if_neg hk]; exact g4, callW_pure (c := c42) rfl rfl (l.length + 1) ?_⟩
      show lv [.var 2] (exec (callW F) (l.length + 1) (.seq (.region [] [] c42_0) (.seq (.region [] [] c42_1) (.seq (.seq (.region [] [] c42_2) (.cond (.var 5) (.region [] [] c42_3) .skip)) (.seq (.seq (.region [] [] c42_4) (.block 0 (.loop K37 [] c42_9))) (.seq (.region [] [] c42_10) .ret))))) _ _) = _
      generalize hrest : (CC.seq (.region [] [] c42_10) .ret) = rest
      simp only [c42, start, List.replicate, c42_0, c42_1, c42_2, c42_4, h1, hs.len, evStore, e_bslice1, e_bslice2, bs1, bs2, e_build, bdH_some, bd_nil, bd_cons, bd1, cl_agg, cl_int, toL, List.map_cons, List.map_nil, putAt, List.set_cons_zero, List.set_cons_succ, and_self, Nat.le_refl, evStore, app_get, app_set, g_agg, run_nil, run_cons, stp_plain, stp_guard, put_some, pass_eq, pick_tt, pick_ff, pick_tf, pick_ft, pick_u, reg_some, thn_normal, thn_exit, thn_ret, cnd_t, cnd_f, blk_normal, blk_ret, blk_exit, x_seq, x_region, x_cond, x_block, x_loop, x_ret, x_exit, x_skip, e_mov, e_pick, pk_t, pk_f, withH_some, e_box, bx_some, e_load, e_store, stH_some, e_nil, e_bin, e_eqv, eqH_f, eqH_t, e_un, e_fa, e_ia, ia_eq, nat_eq, natV_nat, e_len, lnH_some, e_extract, ex_0, ex_1, e_call0, e_call1, e_call2, e_call3, pc0_eq, pc1_some, pc2_some, pc3_some, fin_some, g_var0, g_vars, g_loc0, g_locs, g_int, g_bool, g_str, g_sl, s_none, s_zero, s_succ, cl_nil, cl_str, cl_bool, cl_slc, cl_own, evFa, evNil, evLoad, asEl, evBin, intBin, strBin, evUn, len_nil, len_slc, len_str, clr, List.length_nil, List.length_cons, List.getElem?_cons_zero, List.getElem?_cons_succ, Nat.reduceAdd, Nat.zero_add, Nat.add_zero, Nat.reduceLeDiff, Nat.reduceSub, ↓reduceIte, List.drop_succ_cons, List.drop_zero, List.take_succ_cons, List.take_zero, Bool.false_eq_true, List.nil_append, List.cons_append, Bool.not_true, Bool.not_false, cond_true, cond_false, bne, lv_ret, lv_normal, res1, res2, lv2_some, res_var, res_cell, lvf_v, lvf_slc, res1c, lvo1_some, e_mm, mm_max, mm_min]
      rw [loop_cong (v2 := L37 (.v (.slice none 0 0)) c es.length ((0 : Nat) : Int)) (by rfl), g1, ← hrest]
      simp only [blk_exit, thn_normal, c42_10, g3, run_nil, run_cons, stp_plain, stp_guard, put_some, pass_eq, pick_tt, pick_ff, pick_tf, pick_ft, pick_u, reg_some, thn_normal, thn_exit, thn_ret, cnd_t, cnd_f, blk_normal, blk_ret, blk_exit, x_seq, x_region, x_cond, x_block, x_loop, x_ret, x_exit, x_skip, e_mov, e_pick, pk_t, pk_f, withH_some, e_box, bx_some, e_load, e_store, stH_some, e_nil, e_bin, e_eqv, eqH_f, eqH_t, e_un, e_fa, e_ia, ia_eq, nat_eq, natV_nat, e_len, lnH_some, e_extract, ex_0, ex_1, e_call0, e_call1, e_call2, e_call3, pc0_eq, pc1_some, pc2_some, pc3_some, fin_some, g_var0, g_vars, g_loc0, g_locs, g_int, g_bool, g_str, g_sl, s_none, s_zero, s_succ, cl_nil, cl_str, cl_bool, cl_slc, cl_own, evFa, evNil, asEl, evBin, intBin, strBin, evUn, len_nil, len_slc, len_str, clr, List.length_nil, List.length_cons, List.getElem?_cons_zero, List.getElem?_cons_succ, Nat.reduceAdd, Nat.zero_add, Nat.add_zero, Nat.reduceLeDiff, Nat.reduceSub, ↓reduceIte, List.drop_succ_cons, List.drop_zero, List.take_succ_cons, List.take_zero, Bool.false_eq_true, List.nil_append, List.cons_append, Bool.not_true, Bool.not_false, cond_true, cond_false, bne, lv_ret, lv_normal, res1, res2, lv2_some, res_var, res_cell, lvf_v, lvf_slc, res1c, lvo1_some, e_mm, mm_max, mm_min]

/-! ### Vars -/
def addNew (p : List Int) (n : Int) : List Int := if p.contains n then p else p ++ [n]
def varsT (t : Tm) : List Int := (placesT t).foldl addNew []
def K19v : List Bool := [false, false, false, true, false, true, true, true, false, false]
def L19v (acc c : AV) (len i : Int) : List AV := [.junk, .junk, .junk, acc, .junk, c, .v (.int .i64 len), .v (.int .i64 i), .junk, .junk]
end Go.AE.YtgcbaefclkfnoaaDoor
end

/-! bare: a term with 0 as all Vars' numbers. -/
section
set_option linter.unusedVariables false
set_option linter.unusedSimpArgs false
namespace Go.AE.YtgcbaefclkfnoaaDoor
open Go Go.AE Go.Proofs.YtgcbaefclkfnoaaDoor

mutual
def bareT : Tm → Tm
  | .mk k s n l => .mk k s (if k = 1 then 0 else n) (bareL l)
def bareL : List Tm → List Tm
  | [] => []
  | t :: l => bareT t :: bareL l
end
theorem bareL_len : ∀ l : List Tm, (bareL l).length = l.length
  | [] => rfl
  | t :: l => by simp [bareL, bareL_len l]
/-! ### bare -/
def K41 : List Bool := [false, true, true, true, false, false, true, true, true, false]
def L41 (acc c : AV) (len i : Int) : List AV := [.junk, .ptr 0 0, .ptr 1 0, acc, .junk, .junk, c, .v (.int .i64 len), .v (.int .i64 i), .junk]

theorem bare_loop {K : Nat} {c : AV} {es : List AV} (hs : Sl 4 c es) (hm : es.length ≤ 100000) :
    ∀ (l : List Tm) (i : Nat) (acc : AV) (ds : List AV) (dl : List Tm) (h : List AO) (vars : List AV), i + l.length = es.length → ds.length = i → All2 (es.drop i) l → All2 ds dl → (∀ t ∈ l, ∀ (e : AV), IsT e t → ∃ r, IsT r (bareT t) ∧ callW F 41 [e] [] = some (r, [])) →
      Acc 24 4 h acc ds → clr K41 vars = L41 acc c es.length i →
      ∃ acc' ds' h' x5 x6 x10, loopN (exec (callW F) K c41_9) K41 (l.length + 1) vars h = some (.exit 0, [.junk, .ptr 0 0, .ptr 1 0, acc', x5, x6, c, .v (.int .i64 es.length), .v (.int .i64 es.length), x10], h') ∧ Acc 24 4 h' acc' ds' ∧ All2 ds' (dl ++ bareL l) ∧ ds'.length = es.length ∧ Keeps h h' := by
  intro l
  induction l with
  | nil =>
    intro i acc ds dl h vars hi hds _ hall _ ha hv
    have hil : i = es.length := by simpa using hi
    subst hil
    have hlt : decide ((es.length : Int) < (es.length : Int)) = false := by simp
    refine ⟨acc, ds, h, .junk, .junk, .v (.bool false), loop_exit ?_, ha, by simpa [bareL] using hall, hds, .refl h⟩
    rw [hv]
    simp only [L41, c41_9, c41_5, hlt, e_bslice1, e_bslice2, bs1, bs2, e_build, bdH_some, bd_nil, bd_cons, bd1, cl_agg, cl_int, toL, List.map_cons, List.map_nil, putAt, List.set_cons_zero, List.set_cons_succ, and_self, Nat.le_refl, app_get, app_set, g_agg, run_nil, run_cons, stp_plain, stp_guard, put_some, pass_eq, pick_tt, pick_ff, pick_tf, pick_ft, pick_u, reg_some, thn_normal, thn_exit, thn_ret, cnd_t, cnd_f, blk_normal, blk_ret, blk_exit, x_seq, x_region, x_cond, x_block, x_loop, x_ret, x_exit, x_skip, e_mov, e_pick, pk_t, pk_f, withH_some, e_box, bx_some, e_load, e_store, stH_some, e_nil, e_bin, e_eqv, eqH_f, eqH_t, e_un, e_fa, e_ia, ia_eq, nat_eq, natV_nat, e_len, lnH_some, e_extract, ex_0, ex_1, e_call0, e_call1, e_call2, e_call3, pc0_eq, pc1_some, pc2_some, pc3_some, fin_some, g_var0, g_vars, g_loc0, g_locs, g_int, g_bool, g_str, g_sl, s_none, s_zero, s_succ, cl_nil, cl_str, cl_bool, cl_slc, cl_own, evFa, evNil, asEl, evBin, intBin, strBin, evUn, len_nil, len_slc, len_str, clr, List.length_nil, List.length_cons, List.getElem?_cons_zero, List.getElem?_cons_succ, Nat.reduceAdd, Nat.zero_add, Nat.add_zero, Nat.reduceLeDiff, Nat.reduceSub, ↓reduceIte, List.drop_succ_cons, List.drop_zero, List.take_succ_cons, List.take_zero, Bool.false_eq_true, List.nil_append, List.cons_append, Bool.not_true, Bool.not_false, cond_true, cond_false, bne, lv_ret, lv_normal, res1, res2, lv2_some, res_var, res_cell, lvf_v, lvf_slc, res1c, lvo1_some, e_mm, mm_max, mm_min]
  | cons t l ih =>
    intro i acc ds dl h vars hi hds hes hall hcall ha hv
    have hil : i < es.length := by simp at hi; omega
    have he : es[i]? = some (es[i]'hil) := List.getElem?_eq_getElem _
    have hd : es.drop i = es[i] :: es.drop (i + 1) := List.drop_eq_getElem_cons hil
    rw [hd] at hes
    cases hes with
    | cons _ _ _ _ hT hs' =>
    obtain ⟨r, hr, hc⟩ := hcall t (by simp) _ hT
    obtain ⟨acc', h2, h3, h4, h5⟩ := (ha.app (.box 24 (es[i]).cells)).add (x := .slc 4 true true [r]) (ys := [r]) (bytes := 56) elems_one (by
      have : room = 140737488355328 := rfl
      simp only [fits, List.length_cons, List.length_nil, decide_eq_true_eq]; omega)
    have hlt : (decide ((i : Int) < (es.length : Int))) = true := by simp; omega
    have q1 := hs.ia he
    have q3 : ∀ h : List AO, evLoad h true 4 (.ip (es[i]).cells) = some es[i] := fun h => hT.load
    have q5 : ∀ h : List AO, (es[i]).snap1 h = some es[i] := fun h => hT.snap
    have q6 : ∀ h : List AO, r.snap1 h = some r := fun h => hr.snap
    have q7 : r.cl = some r.cells := hr.cl.1
    have q8 : r.cells.length = 4 := hr.cl.2
    have st : exec (callW F) K c41_9 (L41 acc c es.length i) h = some (.normal, [.junk, .ptr 0 0, .ptr 1 0, acc', .ptr h.length 0, .junk, c, .v (.int .i64 es.length), .v (.int .i64 ((i + 1 : Nat) : Int)), .v (.bool true)], h2) := by
      have hz : ([.v (.int .i64 0), .v (.string ⟨#[]⟩), .v (.int .i64 0), .v (.slice none 0 0)] : List AV).length = 4 := rfl
      simp only [L41, c41_9, c41_5, c41_6, c41_7, c41_8, hlt, wrap_succ hil (small_max hm), q1, q3, q5, q6, q7, q8, hc, h3, hT.st _ _ hz, hT.ld, snap_int, q9z, e_append, bs1_some q7 q8, e_bslice1, e_bslice2, bs1, bs2, e_build, bdH_some, bd_nil, bd_cons, bd1, cl_agg, cl_int, toL, List.map_cons, List.map_nil, putAt, List.set_cons_zero, List.set_cons_succ, and_self, Nat.le_refl, app_get, app_set, g_agg, run_nil, run_cons, stp_plain, stp_guard, put_some, pass_eq, pick_tt, pick_ff, pick_tf, pick_ft, pick_u, reg_some, thn_normal, thn_exit, thn_ret, cnd_t, cnd_f, blk_normal, blk_ret, blk_exit, x_seq, x_region, x_cond, x_block, x_loop, x_ret, x_exit, x_skip, e_mov, e_pick, pk_t, pk_f, withH_some, e_box, bx_some, e_load, e_store, stH_some, e_nil, e_bin, e_eqv, eqH_f, eqH_t, e_un, e_fa, e_ia, ia_eq, nat_eq, natV_nat, e_len, lnH_some, e_extract, ex_0, ex_1, e_call0, e_call1, e_call2, e_call3, pc0_eq, pc1_some, pc2_some, pc3_some, fin_some, g_var0, g_vars, g_loc0, g_locs, g_int, g_bool, g_str, g_sl, s_none, s_zero, s_succ, cl_nil, cl_str, cl_bool, cl_slc, cl_own, evFa, evNil, asEl, evBin, intBin, strBin, evUn, len_nil, len_slc, len_str, clr, List.length_nil, List.length_cons, List.getElem?_cons_zero, List.getElem?_cons_succ, Nat.reduceAdd, Nat.zero_add, Nat.add_zero, Nat.reduceLeDiff, Nat.reduceSub, ↓reduceIte, List.drop_succ_cons, List.drop_zero, List.take_succ_cons, List.take_zero, Bool.false_eq_true, List.nil_append, List.cons_append, Bool.not_true, Bool.not_false, cond_true, cond_false, bne, lv_ret, lv_normal, res1, res2, lv2_some, res_var, res_cell, lvf_v, lvf_slc, res1c, lvo1_some, e_mm, mm_max, mm_min]
    rw [show (t :: l).length + 1 = (l.length + 1) + 1 from rfl, loop_normal (by rw [hv]; exact st)]
    obtain ⟨acc'', ds', h', x5, x6, x10, g1, g2, g3, g4, g5⟩ := ih (i + 1) acc' (ds ++ [r]) (dl ++ [bareT t]) h2 [.junk, .ptr 0 0, .ptr 1 0, acc', .ptr h.length 0, .junk, c, .v (.int .i64 es.length), .v (.int .i64 ((i + 1 : Nat) : Int)), .v (.bool true)] (by simp at hi; omega) (by simp [hds]) hs' (hall.app (.one hr)) (fun t ht => hcall t (by simp [ht])) h4 rfl
    refine ⟨acc'', ds', h', x5, x6, x10, g1, g2, ?_, g4, ((Keeps.app _ _).trans h5).trans g5⟩
    rw [bareL]
    simpa using g3

theorem bare_ok : ∀ (N : Nat) (t : Tm) (a : AV), SizeOf.sizeOf t < N → size t ≤ 100000 → IsT a t → ∃ r, IsT r (bareT t) ∧ callW F 41 [a] [] = some (r, []) := by
  intro N
  induction N with
  | zero => intro t a h; omega
  | succ N ih =>
    intro t a hN hsz ha
    cases ha with
    | mk k s n c l hc =>
    have h5 := Tm.mk.sizeOf_spec k s n l
    simp only [size] at hsz
    have hll := sizeL_len l
    have hcall : ∀ t ∈ l, ∀ (e : AV), IsT e t → ∃ r, IsT r (bareT t) ∧ callW F 41 [e] [] = some (r, []) := by
      intro t ht e hT
      have h6 := List.sizeOf_lt_of_mem ht
      have h7 := size_mem ht
      exact ih t e (by omega) (by omega) hT
    obtain ⟨es, hs, hes, hm⟩ := hc.sl
    have e1 := hes.length
    have key : ∀ n' : Int, ∃ acc' ds' h' x5 x6 x10, loopN (exec (callW F) (l.length + 1) c41_9) K41 (l.length + 1) (L41 (.v (.slice none 0 0)) c es.length 0) [.box 24 [.v (.int .i64 k), .v (.string s), .v (.int .i64 n'), c], .box 24 zeroC] = some (.exit 0, [.junk, .ptr 0 0, .ptr 1 0, acc', x5, x6, c, .v (.int .i64 es.length), .v (.int .i64 es.length), x10], h') ∧ Acc 24 4 h' acc' ds' ∧ All2 ds' (bareL l) ∧ ds'.length = es.length ∧ Keeps [.box 24 [.v (.int .i64 k), .v (.string s), .v (.int .i64 n'), c], .box 24 zeroC] h' := by
      intro n'
      exact bare_loop (K := l.length + 1) hs (by omega) l 0 (.v (.slice none 0 0)) [] [] _ (L41 (.v (.slice none 0 0)) c es.length 0) (by omega) rfl (by simpa using hes) .nil hcall .nil rfl
    have last : ∀ (n' : Int) (acc' x5 x6 x10 : AV) (ds' : List AV) (h' : List AO), Acc 24 4 h' acc' ds' → All2 ds' (bareL l) → ds'.length = es.length → Keeps [.box 24 [.v (.int .i64 k), .v (.string s), .v (.int .i64 n'), c], .box 24 zeroC] h' →
        ∃ r, IsT r (.mk k s n' (bareL l)) ∧ lv [.cell 2 true 4] (exec (callW F) (l.length + 1) (.seq (.region [] [] c41_10) (.seq (.region [] [] c41_11) .ret)) [.junk, .ptr 0 0, .ptr 1 0, acc', x5, x6, c, .v (.int .i64 es.length), .v (.int .i64 es.length), x10] h') = some (r, []) := by
      intro n' acc' x5 x6 x10 ds' h' ha hall hlen hk
      have b0 := hk.2 0 _ _ rfl
      have b1 := hk.2 1 _ _ rfl
      have hlt0 : 0 < h'.length := (List.getElem?_eq_some_iff.1 b0).1
      have hlt1 : 1 < h'.length := (List.getElem?_eq_some_iff.1 b1).1
      have s1 := bx_st (n := 1) (o := 3) (xs := [acc']) (x := acc') b0 ha.cl rfl (by simp)
      simp only [putAt, List.set_cons_succ, List.set_cons_zero] at s1
      have b0' : (h'.set 0 (.box 24 [.v (.int .i64 k), .v (.string s), .v (.int .i64 n'), acc']))[0]? = some (.box 24 [.v (.int .i64 k), .v (.string s), .v (.int .i64 n'), acc']) := by simp [hlt0]
      have b1' : (h'.set 0 (.box 24 [.v (.int .i64 k), .v (.string s), .v (.int .i64 n'), acc']))[1]? = some (.box 24 zeroC) := by simp [b1]
      have s2 := bx_st (n := 4) (o := 0) (x := .agg [.v (.int .i64 k), .v (.string s), .v (.int .i64 n'), acc']) b1' cl_agg rfl (by simp [zeroC])
      simp only [putAt, zeroC, List.set_cons_succ, List.set_cons_zero, Nat.zero_add, Nat.reduceAdd] at s2
      have b1'' : ((h'.set 0 (.box 24 [.v (.int .i64 k), .v (.string s), .v (.int .i64 n'), acc'])).set 1 (.box 24 [.v (.int .i64 k), .v (.string s), .v (.int .i64 n'), acc']))[1]? = some (.box 24 [.v (.int .i64 k), .v (.string s), .v (.int .i64 n'), acc']) := by simp [hlt1]
      have l1 := bx_ld b0' (a := true) (n := 4) (o := 0)
      have l2 := bx_ld b1'' (a := true) (n := 4) (o := 0)
      have ha' : Acc 24 4 ((h'.set 0 (.box 24 [.v (.int .i64 k), .v (.string s), .v (.int .i64 n'), acc'])).set 1 (.box 24 [.v (.int .i64 k), .v (.string s), .v (.int .i64 n'), acc'])) acc' ds' := by
        cases ha with
        | nil => exact .nil
        | own id ver k es hr hk hne =>
          refine .own id ver k ds' ?_ hk hne
          have n0 : 0 ≠ id := fun e => by subst e; rw [b0] at hr; cases hr
          have n1 : 1 ≠ id := fun e => by subst e; rw [b1] at hr; cases hr
          rw [List.getElem?_set_ne n1, List.getElem?_set_ne n0]; exact hr
      obtain ⟨c', f1, f2⟩ := ha'.frz0
      refine ⟨.agg [.v (.int .i64 k), .v (.string s), .v (.int .i64 n'), c'], .mk k s n' c' _ (Sl.isL f2 hall (by omega)), ?_⟩
      have lf : lvf ((h'.set 0 (.box 24 [.v (.int .i64 k), .v (.string s), .v (.int .i64 n'), acc'])).set 1 (.box 24 [.v (.int .i64 k), .v (.string s), .v (.int .i64 n'), acc'])) (.agg [.v (.int .i64 k), .v (.string s), .v (.int .i64 n'), acc']) = some (.agg [.v (.int .i64 k), .v (.string s), .v (.int .i64 n'), c'], []) := by
        have fz : ∀ (x : Value) (h : List AO), (AV.v x).frz0 0 h = some (.v x) := fun _ _ => rfl
        simp [lvf, AV.frz2, AV.frz1, fz, f1]
      simp only [c41_10, c41_11, s1, s2, l1, l2, lf, e_bslice1, e_bslice2, bs1, bs2, e_build, bdH_some, bd_nil, bd_cons, bd1, cl_agg, cl_int, toL, List.map_cons, List.map_nil, putAt, List.set_cons_zero, List.set_cons_succ, and_self, Nat.le_refl, app_get, app_set, g_agg, run_nil, run_cons, stp_plain, stp_guard, put_some, pass_eq, pick_tt, pick_ff, pick_tf, pick_ft, pick_u, reg_some, thn_normal, thn_exit, thn_ret, cnd_t, cnd_f, blk_normal, blk_ret, blk_exit, x_seq, x_region, x_cond, x_block, x_loop, x_ret, x_exit, x_skip, e_mov, e_pick, pk_t, pk_f, withH_some, e_box, bx_some, e_load, e_store, stH_some, e_nil, e_bin, e_eqv, eqH_f, eqH_t, e_un, e_fa, e_ia, ia_eq, nat_eq, natV_nat, e_len, lnH_some, e_extract, ex_0, ex_1, e_call0, e_call1, e_call2, e_call3, pc0_eq, pc1_some, pc2_some, pc3_some, fin_some, g_var0, g_vars, g_loc0, g_locs, g_int, g_bool, g_str, g_sl, s_none, s_zero, s_succ, cl_nil, cl_str, cl_bool, cl_slc, cl_own, evFa, evNil, asEl, evBin, intBin, strBin, evUn, len_nil, len_slc, len_str, clr, List.length_nil, List.length_cons, List.getElem?_cons_zero, List.getElem?_cons_succ, Nat.reduceAdd, Nat.zero_add, Nat.add_zero, Nat.reduceLeDiff, Nat.reduceSub, ↓reduceIte, List.drop_succ_cons, List.drop_zero, List.take_succ_cons, List.take_zero, Bool.false_eq_true, List.nil_append, List.cons_append, Bool.not_true, Bool.not_false, cond_true, cond_false, bne, lv_ret, lv_normal, res1, res2, lv2_some, res_var, res_cell, lvf_v, lvf_slc, res1c, lvo1_some, e_mm, mm_max, mm_min]
    by_cases hk : k = 1
    · have h1 : (k == 1) = true := by simpa using hk
      obtain ⟨acc', ds', h', x5, x6, x10, g1, g2, g3, g4, g5⟩ := key (0)
      obtain ⟨r, hr, hlv⟩ := last _ acc' x5 x6 x10 ds' h' g2 g3 g4 g5
      refine ⟨r, by rw [bareT, if_pos hk]; exact hr, callW_pure (c := c41) rfl rfl (l.length + 1) ?_⟩
      rw [← hlv]
      show lv [.cell 2 true 4] (exec (callW F) (l.length + 1) (.seq (.region [] [] c41_0) (.seq (.seq (.region [] [] c41_1) (.cond (.var 5) (.region [] [] c41_2) .skip)) (.seq (.region [] [] c41_3) (.seq (.seq (.region [] [] c41_4) (.block 0 (.loop K41 [] c41_9))) (.seq (.region [] [] c41_10) (.seq (.region [] [] c41_11) .ret)))))) _ _) = _
      generalize (CC.seq (.region [] [] c41_10) (.seq (.region [] [] c41_11) .ret)) = rest
      simp only [zeroC] at g1
      simp only [c41, start, List.replicate, c41_0, c41_1, c41_2, c41_3, c41_4, h1, hs.len, q9z, evStore, e_bslice1, e_bslice2, bs1, bs2, e_build, bdH_some, bd_nil, bd_cons, bd1, cl_agg, cl_int, toL, List.map_cons, List.map_nil, putAt, List.set_cons_zero, List.set_cons_succ, and_self, Nat.le_refl, evStore, app_get, app_set, g_agg, run_nil, run_cons, stp_plain, stp_guard, put_some, pass_eq, pick_tt, pick_ff, pick_tf, pick_ft, pick_u, reg_some, thn_normal, thn_exit, thn_ret, cnd_t, cnd_f, blk_normal, blk_ret, blk_exit, x_seq, x_region, x_cond, x_block, x_loop, x_ret, x_exit, x_skip, e_mov, e_pick, pk_t, pk_f, withH_some, e_box, bx_some, e_load, e_store, stH_some, e_nil, e_bin, e_eqv, eqH_f, eqH_t, e_un, e_fa, e_ia, ia_eq, nat_eq, natV_nat, e_len, lnH_some, e_extract, ex_0, ex_1, e_call0, e_call1, e_call2, e_call3, pc0_eq, pc1_some, pc2_some, pc3_some, fin_some, g_var0, g_vars, g_loc0, g_locs, g_int, g_bool, g_str, g_sl, s_none, s_zero, s_succ, cl_nil, cl_str, cl_bool, cl_slc, cl_own, evFa, evNil, evLoad, asEl, evBin, intBin, strBin, evUn, len_nil, len_slc, len_str, clr, List.length_nil, List.length_cons, List.getElem?_cons_zero, List.getElem?_cons_succ, Nat.reduceAdd, Nat.zero_add, Nat.add_zero, Nat.reduceLeDiff, Nat.reduceSub, ↓reduceIte, List.drop_succ_cons, List.drop_zero, List.take_succ_cons, List.take_zero, Bool.false_eq_true, List.nil_append, List.cons_append, Bool.not_true, Bool.not_false, cond_true, cond_false, bne, lv_ret, lv_normal, res1, res2, lv2_some, res_var, res_cell, lvf_v, lvf_slc, res1c, lvo1_some, e_mm, mm_max, mm_min]
      rw [loop_cong (v2 := L41 (.v (.slice none 0 0)) c es.length 0) (by rfl), g1]
      simp only [blk_exit, thn_normal]
    · have h1 : (k == 1) = false := by simpa using hk
      obtain ⟨acc', ds', h', x5, x6, x10, g1, g2, g3, g4, g5⟩ := key n
      obtain ⟨r, hr, hlv⟩ := last _ acc' x5 x6 x10 ds' h' g2 g3 g4 g5
      refine ⟨r, by rw [bareT, if_neg hk]; exact hr, callW_pure (c := c41) rfl rfl (l.length + 1) ?_⟩
      rw [← hlv]
      show lv [.cell 2 true 4] (exec (callW F) (l.length + 1) (.seq (.region [] [] c41_0) (.seq (.seq (.region [] [] c41_1) (.cond (.var 5) (.region [] [] c41_2) .skip)) (.seq (.region [] [] c41_3) (.seq (.seq (.region [] [] c41_4) (.block 0 (.loop K41 [] c41_9))) (.seq (.region [] [] c41_10) (.seq (.region [] [] c41_11) .ret)))))) _ _) = _
      generalize (CC.seq (.region [] [] c41_10) (.seq (.region [] [] c41_11) .ret)) = rest
      simp only [zeroC] at g1
      simp only [c41, start, List.replicate, c41_0, c41_1, c41_3, c41_4, h1, hs.len, q9z, evStore, e_bslice1, e_bslice2, bs1, bs2, e_build, bdH_some, bd_nil, bd_cons, bd1, cl_agg, cl_int, toL, List.map_cons, List.map_nil, putAt, List.set_cons_zero, List.set_cons_succ, and_self, Nat.le_refl, evStore, app_get, app_set, g_agg, run_nil, run_cons, stp_plain, stp_guard, put_some, pass_eq, pick_tt, pick_ff, pick_tf, pick_ft, pick_u, reg_some, thn_normal, thn_exit, thn_ret, cnd_t, cnd_f, blk_normal, blk_ret, blk_exit, x_seq, x_region, x_cond, x_block, x_loop, x_ret, x_exit, x_skip, e_mov, e_pick, pk_t, pk_f, withH_some, e_box, bx_some, e_load, e_store, stH_some, e_nil, e_bin, e_eqv, eqH_f, eqH_t, e_un, e_fa, e_ia, ia_eq, nat_eq, natV_nat, e_len, lnH_some, e_extract, ex_0, ex_1, e_call0, e_call1, e_call2, e_call3, pc0_eq, pc1_some, pc2_some, pc3_some, fin_some, g_var0, g_vars, g_loc0, g_locs, g_int, g_bool, g_str, g_sl, s_none, s_zero, s_succ, cl_nil, cl_str, cl_bool, cl_slc, cl_own, evFa, evNil, evLoad, asEl, evBin, intBin, strBin, evUn, len_nil, len_slc, len_str, clr, List.length_nil, List.length_cons, List.getElem?_cons_zero, List.getElem?_cons_succ, Nat.reduceAdd, Nat.zero_add, Nat.add_zero, Nat.reduceLeDiff, Nat.reduceSub, ↓reduceIte, List.drop_succ_cons, List.drop_zero, List.take_succ_cons, List.take_zero, Bool.false_eq_true, List.nil_append, List.cons_append, Bool.not_true, Bool.not_false, cond_true, cond_false, bne, lv_ret, lv_normal, res1, res2, lv2_some, res_var, res_cell, lvf_v, lvf_slc, res1c, lvo1_some, e_mm, mm_max, mm_min]
      rw [loop_cong (v2 := L41 (.v (.slice none 0 0)) c es.length 0) (by rfl), g1]
      simp only [blk_exit, thn_normal]
end Go.AE.YtgcbaefclkfnoaaDoor
end

/-! Variant: the document's; the program's from the start. -/
section
set_option linter.unusedVariables false
set_option linter.unusedSimpArgs false
namespace Go.AE.YtgcbaefclkfnoaaDoor
open Go Go.AE Go.Proofs.YtgcbaefclkfnoaaDoor

theorem cl_mp {n : Nat} : (AV.mp n).cl = some [.mp n] := rfl
theorem variant_ok {t u : Tm} {a b : AV} (ha : IsT a t) (hb : IsT b u) : callW F 16 [a, b] [] = some (.v (.bool (vrT t u []).isSome), []) := by
  have hba : AO.below 0 (.box 24 a.cells) = true := ha.bel
  have hbb : AO.below 0 (.box 24 b.cells) = true := hb.bel
  have hM : Mp 5 [.box 24 a.cells, .box 24 b.cells, .map (.int .i64) 0 [], .map (.int .i64) 0 [], .box 51 [.mp 2, .mp 3]] [] := by
    refine ⟨rfl, by decide, ?_, ⟨[], rfl, fun n => rfl⟩, ⟨[], rfl, fun n => rfl⟩, rfl⟩
    have h1 := below_mono (Nat.zero_le 5) _ hba
    have h2 := below_mono (Nat.zero_le 5) _ hbb
    simp only [List.all_cons, List.all_nil, h1, h2, Bool.true_and]
    rfl
  obtain ⟨H2, hU, hcase⟩ := var_ok _ t u a b _ 5 [] (Nat.lt_succ_self _) ha hb hM
  have hfa := ha.facts
  have hfb := hb.facts
  have bxa : bx [] 24 (some a.cells) = some (.ptr 0 0, [.box 24 a.cells]) := rfl
  have bxb : bx [.box 24 a.cells] 24 (some b.cells) = some (.ptr 1 0, [.box 24 a.cells, .box 24 b.cells]) := rfl
  have hcall : callW F 40 [.ptr 4 0, a, b] [.box 24 a.cells, .box 24 b.cells, .map (.int .i64) 0 [], .map (.int .i64) 0 [], .box 51 [.mp 2, .mp 3]] = some (.v (.bool (vrT t u []).isSome), H2) := by
    rcases hcase with ⟨Q, h1, _, h2⟩ | ⟨h1, h2⟩ <;> rw [h1] <;> exact h2
  have bm : bdH [.box 24 a.cells, .box 24 b.cells, .map (.int .i64) 0 [], .map (.int .i64) 0 []] (some [.mp 2, .mp 3]) = some (.agg [.mp 2, .mp 3], [.box 24 a.cells, .box 24 b.cells, .map (.int .i64) 0 [], .map (.int .i64) 0 []]) := rfl
  have e1 : evLoad [.box 24 a.cells, .box 24 b.cells, .map (.int .i64) 0 [], .map (.int .i64) 0 [], .box 51 [.mp 2, .mp 3]] true 4 (.ptr 0 0) = some a := by
    have h := hfa.2.2.2.1 [] 24
    simpa [evLoad] using h
  have e2 : evLoad [.box 24 a.cells, .box 24 b.cells, .map (.int .i64) 0 [], .map (.int .i64) 0 [], .box 51 [.mp 2, .mp 3]] true 4 (.ptr 1 0) = some b := by
    have h := hfb.2.2.2.1 [.box 24 a.cells] 24
    simpa [evLoad] using h
  generalize (vrT t u []).isSome = r at hcall ⊢
  refine callW_pure (c := c16) rfl rfl 0 ?_
  simp only [c16, start, List.replicate, c16_0, c16_1, c16_2, hfa, hfb, bxa, bxb, bm, e1, e2, e_mkmap, cl_mp, hcall, e_callh, List.length_cons, List.length_nil, e_bslice1, e_bslice2, bs1, bs2, e_build, bdH_some, bd_nil, bd_cons, bd1, cl_agg, cl_int, toL, List.map_cons, List.map_nil, putAt, List.set_cons_zero, List.set_cons_succ, and_self, Nat.le_refl, app_get, app_set, g_agg, run_nil, run_cons, stp_plain, stp_guard, put_some, pass_eq, pick_tt, pick_ff, pick_tf, pick_ft, pick_u, reg_some, thn_normal, thn_exit, thn_ret, cnd_t, cnd_f, blk_normal, blk_ret, blk_exit, x_seq, x_region, x_cond, x_block, x_loop, x_ret, x_exit, x_skip, e_mov, e_pick, pk_t, pk_f, withH_some, e_box, e_load, e_store, stH_some, e_nil, e_bin, e_eqv, eqH_f, eqH_t, e_un, e_fa, e_ia, ia_eq, nat_eq, natV_nat, e_len, lnH_some, e_extract, ex_0, ex_1, e_call0, e_call1, e_call2, e_call3, pc0_eq, pc1_some, pc2_some, pc3_some, fin_some, g_var0, g_vars, g_loc0, g_locs, g_int, g_bool, g_str, g_sl, s_none, s_zero, s_succ, cl_nil, cl_str, cl_bool, cl_slc, cl_own, evFa, evNil, asEl, evBin, intBin, strBin, evUn, len_nil, len_slc, len_str, clr, List.length_nil, List.length_cons, List.getElem?_cons_zero, List.getElem?_cons_succ, Nat.reduceAdd, Nat.zero_add, Nat.add_zero, Nat.reduceLeDiff, Nat.reduceSub, ↓reduceIte, List.drop_succ_cons, List.drop_zero, List.take_succ_cons, List.take_zero, Bool.false_eq_true, List.nil_append, List.cons_append, Bool.not_true, Bool.not_false, cond_true, cond_false, bne, lv_ret, lv_normal, res1, res2, lv2_some, res_var, res_cell, lvf_v, lvf_slc, res1c, lvo1_some, e_mm, mm_max, mm_min, cl_agg, cl_int, g_agg, e_callv1, cv1_fn, e_slice2, e_clrrow, e_callf2, pick_und, cells_agg, Option.map_some, Option.map_none, bx_some]

/-! ### The document's -/
def okP (xs ys : List Int) (i k : Nat) : Prop := (xs.getD i 0 == xs.getD k 0) = (ys.getD i 0 == ys.getD k 0)
def Vin (x y : AV) (n i k : Int) (x8 x15 : AV) : List AV := [.junk, .junk, .junk, .junk, .junk, x, y, .v (.int .i64 i), x8, .junk, .v (.int .i64 n), .v (.int .i64 i), .junk, .v (.int .i64 i), .v (.int .i64 k), x15, .junk]
def Kin : List Bool := [false, false, false, false, false, true, true, true, false, false, true, true, false, true, true, false, false]
def Vout (x y : AV) (n i : Int) (x7 x12 : AV) : List AV := [.junk, .junk, .junk, .junk, .junk, x, y, x7, .junk, .junk, .v (.int .i64 n), .v (.int .i64 i), x12, .junk, .junk, .junk, .junk]
def Kout : List Bool := [false, false, false, false, false, true, true, false, false, false, true, true, false, false, false, false, false]
theorem map_at {xs : List Int} {i : Nat} (h : i < xs.length) : (xs.map iv)[i]? = some (iv (xs.getD i 0)) := by
  simp [h]
section
variable {x y : AV} {xs ys : List Int}
theorem inner_ok {K : Nat} (hx : Sl 1 x (xs.map iv)) (hy : Sl 1 y (ys.map iv)) (hl : xs.length = ys.length) (hm : xs.length ≤ maxLen) {i : Nat} (hi : i < xs.length) (hK : i < K) (v : List AV) (h : List AO) (hv : clr Kin v = Vin x y xs.length i 0 .junk .junk) :
    ((∀ k, k < i → okP xs ys i k) ∧ loopN (exec (callW F) K c17_14) Kin K v h = some (.exit 2, Vin x y xs.length i i .junk (.v (.bool false)), h)) ∨
    ((∃ k, k < i ∧ ¬ okP xs ys i k) ∧ ∃ v', loopN (exec (callW F) K c17_14) Kin K v h = some (.ret, v', h) ∧ getO v' [] (.var 4) = .v (.bool false)) := by
  obtain ⟨e, v', h', g1, g2, g3⟩ := loop_rule0 (call := callW F) (K := K) (b := c17_14) (keep := Kin)
    (fun k v h' => h' = h ∧ v = Vin x y xs.length i k .junk .junk ∧ ∀ j, j < k → okP xs ys i j)
    (fun e v h' => h' = h ∧ ((e = .exit 2 ∧ (∀ k, k < i → okP xs ys i k) ∧ v = Vin x y xs.length i i .junk (.v (.bool false))) ∨ (e = .ret ∧ (∃ k, k < i ∧ ¬ okP xs ys i k) ∧ getO v [] (.var 4) = .v (.bool false))))
    i (m := K) (v := v) (h := h) hK ⟨rfl, hv, fun j hj => absurd hj (by omega)⟩ (by
      rintro k v h' hk ⟨rfl, rfl, hR⟩
      by_cases hki : k < i
      · have hlt := lt_t hki
        have q1 := fun h : List AO => hx.ia (map_at hi) h
        have q2 := fun h : List AO => hx.ia (map_at (show k < xs.length by omega)) h
        have q3 := fun h : List AO => hy.ia (map_at (show i < ys.length by omega)) h
        have q4 := fun h : List AO => hy.ia (map_at (show k < ys.length by omega)) h
        have q5 : ∀ (h : List AO) (n : Int), evLoad h false 1 (.ip (iv n).cells) = some (.v (.int .i64 n)) := fun _ _ => rfl
        have hw := wrap_succ (show k < xs.length by omega) hm
        by_cases hb : okP xs ys i k
        · refine ⟨.normal, Vin x y xs.length i ((k + 1 : Nat) : Int) (.v (.int .i64 k)) (.v (.bool true)) |>.set 16 (.v (.bool false)), h', ?_, hki, rfl, rfl, fun j hj => ?_⟩
          · unfold okP at hb
            cases h1 : (xs.getD i 0 == xs.getD k 0) <;> rw [h1] at hb <;>
              simp only [Vin, c17_14, c17_9, c17_10, c17_11, c17_13, hlt, q1, q2, q3, q4, q5, h1, ← hb, hw, eqb_ttt, eqb_tff, List.set_cons_succ, List.set_cons_zero, run_nil, run_cons, stp_plain, stp_guard, put_some, pass_eq, pick_tt, pick_ff, pick_tf, pick_ft, pick_u, reg_some, thn_normal, thn_exit, thn_ret, cnd_t, cnd_f, blk_normal, blk_ret, blk_exit, x_seq, x_region, x_cond, x_block, x_loop, x_ret, x_exit, x_skip, e_mov, e_pick, pk_t, pk_f, withH_some, e_box, e_load, e_store, stH_some, e_nil, e_bin, e_eqv, eqH_f, eqH_t, e_un, e_fa, e_ia, ia_eq, nat_eq, natV_nat, e_len, lnH_some, e_extract, ex_0, ex_1, e_call0, e_call1, e_call2, e_call3, pc0_eq, pc1_some, pc2_some, pc3_some, fin_some, g_var0, g_vars, g_loc0, g_locs, g_int, g_bool, g_str, g_sl, s_none, s_zero, s_succ, cl_nil, cl_str, cl_bool, cl_slc, cl_own, evFa, evNil, asEl, evBin, intBin, strBin, evUn, len_nil, len_slc, len_str, clr, List.length_nil, List.length_cons, List.getElem?_cons_zero, List.getElem?_cons_succ, Nat.reduceAdd, Nat.zero_add, Nat.add_zero, Nat.reduceLeDiff, Nat.reduceSub, ↓reduceIte, List.drop_succ_cons, List.drop_zero, List.take_succ_cons, List.take_zero, Bool.false_eq_true, List.nil_append, List.cons_append, Bool.not_true, Bool.not_false, cond_true, cond_false, bne, lv_ret, lv_normal, res1, res2, lv2_some, res_var, res_cell, lvf_v, lvf_slc, res1c, lvo1_some, e_mm, mm_max, mm_min, cl_agg, cl_int, g_agg, e_callv1, cv1_fn, e_slice2, e_clrrow, e_callf2, pick_und, cells_agg, Option.map_some, Option.map_none, bx_some]
          · by_cases e : j = k
            · subst e; exact hb
            · exact hR j (by omega)
        · refine ⟨.ret, [.junk, .junk, .junk, .junk, .v (.bool false), x, y, .v (.int .i64 i), .v (.int .i64 k), .junk, .v (.int .i64 xs.length), .v (.int .i64 i), .junk, .v (.int .i64 i), .v (.int .i64 k), .v (.bool true), .v (.bool true)], h', ?_, rfl, .inr ⟨rfl, ⟨k, hki, hb⟩, rfl⟩⟩
          unfold okP at hb
          cases h1 : (xs.getD i 0 == xs.getD k 0) <;> cases h2 : (ys.getD i 0 == ys.getD k 0) <;> rw [h1, h2] at hb <;>
            first
            | exact absurd rfl hb
            | simp only [Vin, c17_14, c17_9, c17_10, c17_11, c17_12, hlt, q1, q2, q3, q4, q5, h1, h2, eqb_ttf, eqb_tft, run_nil, run_cons, stp_plain, stp_guard, put_some, pass_eq, pick_tt, pick_ff, pick_tf, pick_ft, pick_u, reg_some, thn_normal, thn_exit, thn_ret, cnd_t, cnd_f, blk_normal, blk_ret, blk_exit, x_seq, x_region, x_cond, x_block, x_loop, x_ret, x_exit, x_skip, e_mov, e_pick, pk_t, pk_f, withH_some, e_box, e_load, e_store, stH_some, e_nil, e_bin, e_eqv, eqH_f, eqH_t, e_un, e_fa, e_ia, ia_eq, nat_eq, natV_nat, e_len, lnH_some, e_extract, ex_0, ex_1, e_call0, e_call1, e_call2, e_call3, pc0_eq, pc1_some, pc2_some, pc3_some, fin_some, g_var0, g_vars, g_loc0, g_locs, g_int, g_bool, g_str, g_sl, s_none, s_zero, s_succ, cl_nil, cl_str, cl_bool, cl_slc, cl_own, evFa, evNil, asEl, evBin, intBin, strBin, evUn, len_nil, len_slc, len_str, clr, List.length_nil, List.length_cons, List.getElem?_cons_zero, List.getElem?_cons_succ, Nat.reduceAdd, Nat.zero_add, Nat.add_zero, Nat.reduceLeDiff, Nat.reduceSub, ↓reduceIte, List.drop_succ_cons, List.drop_zero, List.take_succ_cons, List.take_zero, Bool.false_eq_true, List.nil_append, List.cons_append, Bool.not_true, Bool.not_false, cond_true, cond_false, bne, lv_ret, lv_normal, res1, res2, lv2_some, res_var, res_cell, lvf_v, lvf_slc, res1c, lvo1_some, e_mm, mm_max, mm_min, cl_agg, cl_int, g_agg, e_callv1, cv1_fn, e_slice2, e_clrrow, e_callf2, pick_und, cells_agg, Option.map_some, Option.map_none, bx_some]
      · have hie : k = i := by omega
        subst hie
        have hlt := lt_f (n := k)
        refine ⟨.exit 2, Vin x y xs.length k k .junk (.v (.bool false)), h', ?_, rfl, .inl ⟨rfl, hR, rfl⟩⟩
        simp only [Vin, c17_14, c17_9, hlt, run_nil, run_cons, stp_plain, stp_guard, put_some, pass_eq, pick_tt, pick_ff, pick_tf, pick_ft, pick_u, reg_some, thn_normal, thn_exit, thn_ret, cnd_t, cnd_f, blk_normal, blk_ret, blk_exit, x_seq, x_region, x_cond, x_block, x_loop, x_ret, x_exit, x_skip, e_mov, e_pick, pk_t, pk_f, withH_some, e_box, e_load, e_store, stH_some, e_nil, e_bin, e_eqv, eqH_f, eqH_t, e_un, e_fa, e_ia, ia_eq, nat_eq, natV_nat, e_len, lnH_some, e_extract, ex_0, ex_1, e_call0, e_call1, e_call2, e_call3, pc0_eq, pc1_some, pc2_some, pc3_some, fin_some, g_var0, g_vars, g_loc0, g_locs, g_int, g_bool, g_str, g_sl, s_none, s_zero, s_succ, cl_nil, cl_str, cl_bool, cl_slc, cl_own, evFa, evNil, asEl, evBin, intBin, strBin, evUn, len_nil, len_slc, len_str, clr, List.length_nil, List.length_cons, List.getElem?_cons_zero, List.getElem?_cons_succ, Nat.reduceAdd, Nat.zero_add, Nat.add_zero, Nat.reduceLeDiff, Nat.reduceSub, ↓reduceIte, List.drop_succ_cons, List.drop_zero, List.take_succ_cons, List.take_zero, Bool.false_eq_true, List.nil_append, List.cons_append, Bool.not_true, Bool.not_false, cond_true, cond_false, bne, lv_ret, lv_normal, res1, res2, lv2_some, res_var, res_cell, lvf_v, lvf_slc, res1c, lvo1_some, e_mm, mm_max, mm_min, cl_agg, cl_int, g_agg, e_callv1, cv1_fn, e_slice2, e_clrrow, e_callf2, pick_und, cells_agg, Option.map_some, Option.map_none, bx_some])
  obtain ⟨rfl, ⟨rfl, h1, rfl⟩ | ⟨rfl, h1, h2⟩⟩ := g3
  · exact .inl ⟨h1, g1⟩
  · exact .inr ⟨h1, v', g1, h2⟩
theorem sl_take (hx : Sl 1 x (xs.map iv)) {i : Nat} (hi : i < xs.length) : ∃ w, (∀ h, slV h 1 none (some (some i)) x = some w) ∧ ∀ h, evLen h .slice w = some i := by
  generalize hes : xs.map iv = es at hx
  have hel : es.length = xs.length := by rw [← hes]; simp
  cases hx with
  | nil => simp at hel; omega
  | slc ex nn es =>
    have hle : i ≤ es.length := by omega
    refine ⟨.slc 1 (ex && i == es.length) nn ((es.drop 0).take (i - 0)), fun h => ?_, fun h => ?_⟩
    · simp [slV, slo, hle]
    · simp [evLen, hle]
theorem outer_ok {K : Nat} (hx : Sl 1 x (xs.map iv)) (hy : Sl 1 y (ys.map iv)) (hl : xs.length = ys.length) (hm : xs.length ≤ maxLen) (hK : xs.length < K) (v : List AV) (h : List AO) (hv : clr Kout v = Vout x y xs.length 0 .junk .junk) :
    ((∀ i, i < xs.length → ∀ k, k < i → okP xs ys i k) ∧ loopN (exec (callW F) K c17_16) Kout K v h = some (.exit 0, Vout x y xs.length xs.length .junk (.v (.bool false)), h)) ∨
    ((∃ i, i < xs.length ∧ ∃ k, k < i ∧ ¬ okP xs ys i k) ∧ ∃ v', loopN (exec (callW F) K c17_16) Kout K v h = some (.ret, v', h) ∧ getO v' [] (.var 4) = .v (.bool false)) := by
  obtain ⟨e, v', h', g1, g2, g3⟩ := loop_rule0 (call := callW F) (K := K) (b := c17_16) (keep := Kout)
    (fun i v h' => h' = h ∧ v = Vout x y xs.length i .junk .junk ∧ ∀ j, j < i → ∀ k, k < j → okP xs ys j k)
    (fun e v h' => h' = h ∧ ((e = .exit 0 ∧ (∀ i, i < xs.length → ∀ k, k < i → okP xs ys i k) ∧ v = Vout x y xs.length xs.length .junk (.v (.bool false))) ∨ (e = .ret ∧ (∃ i, i < xs.length ∧ ∃ k, k < i ∧ ¬ okP xs ys i k) ∧ getO v [] (.var 4) = .v (.bool false))))
    xs.length (m := K) (v := v) (h := h) hK ⟨rfl, hv, fun j hj => absurd hj (by omega)⟩ (by
      rintro i v h' hi ⟨rfl, rfl, hR⟩
      by_cases hil : i < xs.length
      · have hlt := lt_t hil
        obtain ⟨w, w1, w2⟩ := sl_take hx hil
        have hw := wrap_succ hil hm
        have inn := inner_ok (K := K) hx hy hl hm hil (by omega) [.junk, .junk, .junk, .junk, .junk, x, y, .v (.int .i64 i), .junk, .junk, .v (.int .i64 xs.length), .v (.int .i64 i), .v (.bool true), .v (.int .i64 i), .v (.int .i64 0), .junk, .junk] h' rfl
        rw [show c17_16 = (.seq (.region [] [] c17_6) (.seq (.cond (.var 12) .skip (.exit 0)) (.seq (.block 1 (.seq (.region [] [] c17_7) (.seq (.region [] [] c17_8) (.block 2 (.loop Kin [] c17_14))))) (.region [] [] c17_15)))) from rfl]
        generalize c17_14 = bb at inn ⊢
        rcases inn with ⟨i1, i2⟩ | ⟨⟨k, i1, i3⟩, v', i2, i4⟩
        · refine ⟨.normal, [.junk, .junk, .junk, .junk, .junk, x, y, .v (.int .i64 i), .junk, .junk, .v (.int .i64 xs.length), .v (.int .i64 ((i + 1 : Nat) : Int)), .junk, .v (.int .i64 i), .v (.int .i64 i), .v (.bool false), .junk], h', ?_, hil, rfl, rfl, fun j hj => ?_⟩
          · simp only [Vout, Vin, c17_6, c17_7, c17_8, c17_15, hlt, w1, w2, hw, i2, run_nil, run_cons, stp_plain, stp_guard, put_some, pass_eq, pick_tt, pick_ff, pick_tf, pick_ft, pick_u, reg_some, thn_normal, thn_exit, thn_ret, cnd_t, cnd_f, blk_normal, blk_ret, blk_exit, x_seq, x_region, x_cond, x_block, x_loop, x_ret, x_exit, x_skip, e_mov, e_pick, pk_t, pk_f, withH_some, e_box, e_load, e_store, stH_some, e_nil, e_bin, e_eqv, eqH_f, eqH_t, e_un, e_fa, e_ia, ia_eq, nat_eq, natV_nat, e_len, lnH_some, e_extract, ex_0, ex_1, e_call0, e_call1, e_call2, e_call3, pc0_eq, pc1_some, pc2_some, pc3_some, fin_some, g_var0, g_vars, g_loc0, g_locs, g_int, g_bool, g_str, g_sl, s_none, s_zero, s_succ, cl_nil, cl_str, cl_bool, cl_slc, cl_own, evFa, evNil, asEl, evBin, intBin, strBin, evUn, len_nil, len_slc, len_str, clr, List.length_nil, List.length_cons, List.getElem?_cons_zero, List.getElem?_cons_succ, Nat.reduceAdd, Nat.zero_add, Nat.add_zero, Nat.reduceLeDiff, Nat.reduceSub, ↓reduceIte, List.drop_succ_cons, List.drop_zero, List.take_succ_cons, List.take_zero, Bool.false_eq_true, List.nil_append, List.cons_append, Bool.not_true, Bool.not_false, cond_true, cond_false, bne, lv_ret, lv_normal, res1, res2, lv2_some, res_var, res_cell, lvf_v, lvf_slc, res1c, lvo1_some, e_mm, mm_max, mm_min, cl_agg, cl_int, g_agg, e_callv1, cv1_fn, e_slice2, e_clrrow, e_callf2, pick_und, cells_agg, Option.map_some, Option.map_none, bx_some]
          · by_cases e : j = i
            · subst e; exact i1
            · exact hR j (by omega)
        · refine ⟨.ret, v', h', ?_, rfl, .inr ⟨rfl, ⟨i, hil, k, i1, i3⟩, i4⟩⟩
          simp only [Vout, c17_6, c17_7, c17_8, c17_15, hlt, w1, w2, hw, i2, run_nil, run_cons, stp_plain, stp_guard, put_some, pass_eq, pick_tt, pick_ff, pick_tf, pick_ft, pick_u, reg_some, thn_normal, thn_exit, thn_ret, cnd_t, cnd_f, blk_normal, blk_ret, blk_exit, x_seq, x_region, x_cond, x_block, x_loop, x_ret, x_exit, x_skip, e_mov, e_pick, pk_t, pk_f, withH_some, e_box, e_load, e_store, stH_some, e_nil, e_bin, e_eqv, eqH_f, eqH_t, e_un, e_fa, e_ia, ia_eq, nat_eq, natV_nat, e_len, lnH_some, e_extract, ex_0, ex_1, e_call0, e_call1, e_call2, e_call3, pc0_eq, pc1_some, pc2_some, pc3_some, fin_some, g_var0, g_vars, g_loc0, g_locs, g_int, g_bool, g_str, g_sl, s_none, s_zero, s_succ, cl_nil, cl_str, cl_bool, cl_slc, cl_own, evFa, evNil, asEl, evBin, intBin, strBin, evUn, len_nil, len_slc, len_str, clr, List.length_nil, List.length_cons, List.getElem?_cons_zero, List.getElem?_cons_succ, Nat.reduceAdd, Nat.zero_add, Nat.add_zero, Nat.reduceLeDiff, Nat.reduceSub, ↓reduceIte, List.drop_succ_cons, List.drop_zero, List.take_succ_cons, List.take_zero, Bool.false_eq_true, List.nil_append, List.cons_append, Bool.not_true, Bool.not_false, cond_true, cond_false, bne, lv_ret, lv_normal, res1, res2, lv2_some, res_var, res_cell, lvf_v, lvf_slc, res1c, lvo1_some, e_mm, mm_max, mm_min, cl_agg, cl_int, g_agg, e_callv1, cv1_fn, e_slice2, e_clrrow, e_callf2, pick_und, cells_agg, Option.map_some, Option.map_none, bx_some]
      · have hie : i = xs.length := by omega
        subst hie
        have hlt := lt_f (n := xs.length)
        refine ⟨.exit 0, Vout x y xs.length xs.length .junk (.v (.bool false)), h', ?_, rfl, .inl ⟨rfl, hR, rfl⟩⟩
        simp only [Vout, c17_16, c17_6, hlt, run_nil, run_cons, stp_plain, stp_guard, put_some, pass_eq, pick_tt, pick_ff, pick_tf, pick_ft, pick_u, reg_some, thn_normal, thn_exit, thn_ret, cnd_t, cnd_f, blk_normal, blk_ret, blk_exit, x_seq, x_region, x_cond, x_block, x_loop, x_ret, x_exit, x_skip, e_mov, e_pick, pk_t, pk_f, withH_some, e_box, e_load, e_store, stH_some, e_nil, e_bin, e_eqv, eqH_f, eqH_t, e_un, e_fa, e_ia, ia_eq, nat_eq, natV_nat, e_len, lnH_some, e_extract, ex_0, ex_1, e_call0, e_call1, e_call2, e_call3, pc0_eq, pc1_some, pc2_some, pc3_some, fin_some, g_var0, g_vars, g_loc0, g_locs, g_int, g_bool, g_str, g_sl, s_none, s_zero, s_succ, cl_nil, cl_str, cl_bool, cl_slc, cl_own, evFa, evNil, asEl, evBin, intBin, strBin, evUn, len_nil, len_slc, len_str, clr, List.length_nil, List.length_cons, List.getElem?_cons_zero, List.getElem?_cons_succ, Nat.reduceAdd, Nat.zero_add, Nat.add_zero, Nat.reduceLeDiff, Nat.reduceSub, ↓reduceIte, List.drop_succ_cons, List.drop_zero, List.take_succ_cons, List.take_zero, Bool.false_eq_true, List.nil_append, List.cons_append, Bool.not_true, Bool.not_false, cond_true, cond_false, bne, lv_ret, lv_normal, res1, res2, lv2_some, res_var, res_cell, lvf_v, lvf_slc, res1c, lvo1_some, e_mm, mm_max, mm_min, cl_agg, cl_int, g_agg, e_callv1, cv1_fn, e_slice2, e_clrrow, e_callf2, pick_und, cells_agg, Option.map_some, Option.map_none, bx_some])
  obtain ⟨rfl, ⟨rfl, h1, rfl⟩ | ⟨rfl, h1, h2⟩⟩ := g3
  · exact .inl ⟨h1, g1⟩
  · exact .inr ⟨h1, v', g1, h2⟩
end
theorem rvariant_ok {t u : Tm} {a b : AV} (ha : IsT a t) (hb : IsT b u) (hst : size t ≤ 100000) (hsu : size u ≤ 100000) (hlen : sameT (bareT t) (bareT u) = true → (placesT t).length = (placesT u).length) : ∃ r, callW F 17 [a, b] [] = some (.v (.bool r), []) ∧
    (r = true ↔ sameT (bareT t) (bareT u) = true ∧ ∀ i, i < (placesT t).length → ∀ k, k < i → okP (placesT t) (placesT u) i k) := by
  obtain ⟨ra, hra, ca⟩ := bare_ok _ t a (Nat.lt_succ_self _) hst ha
  obtain ⟨rb, hrb, cb⟩ := bare_ok _ u b (Nat.lt_succ_self _) hsu hb
  obtain ⟨x, hx, cx⟩ := places_ok _ t a (Nat.lt_succ_self _) hst ha
  obtain ⟨y, hy, cy⟩ := places_ok _ u b (Nat.lt_succ_self _) hsu hb
  have cs := rsame_ok _ _ _ ra rb (Nat.lt_succ_self _) hra hrb
  have hpl := places_len t
  have hm : (placesT t).length ≤ maxLen := by have : maxLen = 9223372036854775807 := rfl; omega
  have hfa := ha.facts
  have hfb := hb.facts
  have hfra := hra.facts
  have hfrb := hrb.facts
  have bxa : bx [] 24 (some a.cells) = some (.ptr 0 0, [.box 24 a.cells]) := rfl
  have bxb : bx [.box 24 a.cells] 24 (some b.cells) = some (.ptr 1 0, [.box 24 a.cells, .box 24 b.cells]) := rfl
  have e1 : evLoad [.box 24 a.cells, .box 24 b.cells] true 4 (.ptr 0 0) = some a := hfa.2.2.2.1 [] 24
  have e2 : evLoad [.box 24 a.cells, .box 24 b.cells] true 4 (.ptr 1 0) = some b := hfb.2.2.2.1 [.box 24 a.cells] 24
  have hlx := fun h : List AO => hx.len h
  rw [List.length_map] at hlx
  have hst : start c17 [a, b] = [a, b, .v undef, .v undef, .v undef, .v undef, .v undef, .v undef, .v undef, .v undef, .v undef, .v undef, .v undef, .v undef, .v undef, .v undef, .v undef] := rfl
  cases hs : sameT (bareT t) (bareT u) with
  | false =>
    rw [hs] at cs
    refine ⟨false, callW_pure (c := c17) rfl rfl ((placesT t).length + 1) ?_, by simp⟩
    simp only [c17, start, List.replicate, c17_0, c17_1, c17_2, hfa, hfb, hfra, hfrb, bxa, bxb, e1, e2, ca, cb, cs, run_nil, run_cons, stp_plain, stp_guard, put_some, pass_eq, pick_tt, pick_ff, pick_tf, pick_ft, pick_u, reg_some, thn_normal, thn_exit, thn_ret, cnd_t, cnd_f, blk_normal, blk_ret, blk_exit, x_seq, x_region, x_cond, x_block, x_loop, x_ret, x_exit, x_skip, e_mov, e_pick, pk_t, pk_f, withH_some, e_box, e_load, e_store, stH_some, e_nil, e_bin, e_eqv, eqH_f, eqH_t, e_un, e_fa, e_ia, ia_eq, nat_eq, natV_nat, e_len, lnH_some, e_extract, ex_0, ex_1, e_call0, e_call1, e_call2, e_call3, pc0_eq, pc1_some, pc2_some, pc3_some, fin_some, g_var0, g_vars, g_loc0, g_locs, g_int, g_bool, g_str, g_sl, s_none, s_zero, s_succ, cl_nil, cl_str, cl_bool, cl_slc, cl_own, evFa, evNil, asEl, evBin, intBin, strBin, evUn, len_nil, len_slc, len_str, clr, List.length_nil, List.length_cons, List.getElem?_cons_zero, List.getElem?_cons_succ, Nat.reduceAdd, Nat.zero_add, Nat.add_zero, Nat.reduceLeDiff, Nat.reduceSub, ↓reduceIte, List.drop_succ_cons, List.drop_zero, List.take_succ_cons, List.take_zero, Bool.false_eq_true, List.nil_append, List.cons_append, Bool.not_true, Bool.not_false, cond_true, cond_false, bne, lv_ret, lv_normal, res1, res2, lv2_some, res_var, res_cell, lvf_v, lvf_slc, res1c, lvo1_some, e_mm, mm_max, mm_min, cl_agg, cl_int, g_agg, e_callv1, cv1_fn, e_slice2, e_clrrow, e_callf2, pick_und, cells_agg, Option.map_some, Option.map_none]
  | true =>
    rw [hs] at cs
    have hl := hlen hs
    have out := outer_ok (K := (placesT t).length + 1) hx hy hl hm (by omega) [a, b, .ptr 0 0, .ptr 1 0, .v (.bool false), x, y, .v undef, .v undef, .v (.bool false), .v (.int .i64 (placesT t).length), .v (.int .i64 0), .v undef, .v undef, .v undef, .v undef, .v undef] [.box 24 a.cells, .box 24 b.cells] rfl
    have hbody : c17.body = (.seq (.region [] [] c17_0) (.seq (.seq (.region [] [] c17_1) (.cond (.var 9) (.seq (.region [] [] c17_2) .ret) .skip)) (.seq (.region [] [] c17_3) (.seq (.region [] [] c17_4) (.seq (.seq (.region [] [] c17_5) (.block 0 (.loop Kout [] c17_16))) (.seq (.region [] [] c17_17) .ret)))))) := rfl
    have hres : c17.res = [.var 4] := rfl
    generalize c17_16 = bb at out hbody
    rcases out with ⟨h1, h2⟩ | ⟨⟨i, h1, k, h3, h4⟩, v', h2, h5⟩
    · refine ⟨true, callW_pure (c := c17) rfl rfl ((placesT t).length + 1) ?_, by simpa using h1⟩
      rw [hbody, hres, hst]
      simp only [Vout, c17_0, c17_1, c17_3, c17_4, c17_5, c17_17, hfa, hfb, hfra, hfrb, bxa, bxb, e1, e2, ca, cb, cs, cx, cy, hlx, h2, Bool.not_true, run_nil, run_cons, stp_plain, stp_guard, put_some, pass_eq, pick_tt, pick_ff, pick_tf, pick_ft, pick_u, reg_some, thn_normal, thn_exit, thn_ret, cnd_t, cnd_f, blk_normal, blk_ret, blk_exit, x_seq, x_region, x_cond, x_block, x_loop, x_ret, x_exit, x_skip, e_mov, e_pick, pk_t, pk_f, withH_some, e_box, e_load, e_store, stH_some, e_nil, e_bin, e_eqv, eqH_f, eqH_t, e_un, e_fa, e_ia, ia_eq, nat_eq, natV_nat, e_len, lnH_some, e_extract, ex_0, ex_1, e_call0, e_call1, e_call2, e_call3, pc0_eq, pc1_some, pc2_some, pc3_some, fin_some, g_var0, g_vars, g_loc0, g_locs, g_int, g_bool, g_str, g_sl, s_none, s_zero, s_succ, cl_nil, cl_str, cl_bool, cl_slc, cl_own, evFa, evNil, asEl, evBin, intBin, strBin, evUn, len_nil, len_slc, len_str, clr, List.length_nil, List.length_cons, List.getElem?_cons_zero, List.getElem?_cons_succ, Nat.reduceAdd, Nat.zero_add, Nat.add_zero, Nat.reduceLeDiff, Nat.reduceSub, ↓reduceIte, List.drop_succ_cons, List.drop_zero, List.take_succ_cons, List.take_zero, Bool.false_eq_true, List.nil_append, List.cons_append, Bool.not_true, Bool.not_false, cond_true, cond_false, bne, lv_ret, lv_normal, res1, res2, lv2_some, res_var, res_cell, lvf_v, lvf_slc, res1c, lvo1_some, e_mm, mm_max, mm_min, cl_agg, cl_int, g_agg, e_callv1, cv1_fn, e_slice2, e_clrrow, e_callf2, pick_und, cells_agg, Option.map_some, Option.map_none]
    · refine ⟨false, callW_pure (c := c17) rfl rfl ((placesT t).length + 1) ?_, ?_⟩
      · rw [hbody, hres, hst]
        simp only [Vout, c17_0, c17_1, c17_3, c17_4, c17_5, c17_17, hfa, hfb, hfra, hfrb, bxa, bxb, e1, e2, ca, cb, cs, cx, cy, hlx, h2, h5, Bool.not_true, run_nil, run_cons, stp_plain, stp_guard, put_some, pass_eq, pick_tt, pick_ff, pick_tf, pick_ft, pick_u, reg_some, thn_normal, thn_exit, thn_ret, cnd_t, cnd_f, blk_normal, blk_ret, blk_exit, x_seq, x_region, x_cond, x_block, x_loop, x_ret, x_exit, x_skip, e_mov, e_pick, pk_t, pk_f, withH_some, e_box, e_load, e_store, stH_some, e_nil, e_bin, e_eqv, eqH_f, eqH_t, e_un, e_fa, e_ia, ia_eq, nat_eq, natV_nat, e_len, lnH_some, e_extract, ex_0, ex_1, e_call0, e_call1, e_call2, e_call3, pc0_eq, pc1_some, pc2_some, pc3_some, fin_some, g_var0, g_vars, g_loc0, g_locs, g_int, g_bool, g_str, g_sl, s_none, s_zero, s_succ, cl_nil, cl_str, cl_bool, cl_slc, cl_own, evFa, evNil, asEl, evBin, intBin, strBin, evUn, len_nil, len_slc, len_str, clr, List.length_nil, List.length_cons, List.getElem?_cons_zero, List.getElem?_cons_succ, Nat.reduceAdd, Nat.zero_add, Nat.add_zero, Nat.reduceLeDiff, Nat.reduceSub, ↓reduceIte, List.drop_succ_cons, List.drop_zero, List.take_succ_cons, List.take_zero, Bool.false_eq_true, List.nil_append, List.cons_append, Bool.not_true, Bool.not_false, cond_true, cond_false, bne, lv_ret, lv_normal, res1, res2, lv2_some, res_var, res_cell, lvf_v, lvf_slc, res1c, lvo1_some, e_mm, mm_max, mm_min, cl_agg, cl_int, g_agg, e_callv1, cv1_fn, e_slice2, e_clrrow, e_callf2, pick_und, cells_agg, Option.map_some, Option.map_none]
      · simp only [Bool.false_eq_true, true_and, false_iff]
        exact fun h => h4 (h i h1 k h3)
end Go.AE.YtgcbaefclkfnoaaDoor
end

/-! Variant, in plain Lean: what the program's answers is what the document's answers. -/
section
set_option linter.unusedVariables false
set_option linter.unusedSimpArgs false
namespace Go.AE.YtgcbaefclkfnoaaDoor
open Go Go.AE Go.Proofs.YtgcbaefclkfnoaaDoor

theorem wrap_pred {m : Int} (h0 : 0 ≤ m) (h1 : m ≤ 1000000) : IntKind.i64.wrap (m - 1) = m - 1 := by
  rw [IntWalk.i64_in]; omega
mutual
theorem left_size : ∀ (t : Tm) (m : Int), 0 ≤ m → m ≤ 1000000 → -1 ≤ fewT t m ∧ fewT t m ≤ m ∧ (0 ≤ fewT t m → fewT t m + size t = m)
  | .mk k s n l, m, h0, h1 => by
    rw [fewT, size, wrap_pred h0 h1]
    have := leftL_size l (m - 1) (by omega) (by omega)
    refine ⟨this.1, by omega, fun h => ?_⟩
    have := this.2.2 h
    omega
theorem leftL_size : ∀ (l : List Tm) (m : Int), -1 ≤ m → m ≤ 1000000 → -1 ≤ fewL l m ∧ fewL l m ≤ m ∧ (0 ≤ fewL l m → fewL l m + sizeL l = m)
  | [], m, h0, h1 => by simp only [fewL, sizeL]; omega
  | t :: l, m, h0, h1 => by
    simp only [fewL, sizeL]
    by_cases hm : m < 0
    · rw [if_pos hm]; omega
    · rw [if_neg hm]
      have a := left_size t m (by omega) h1
      have b := leftL_size l (fewT t m) (by omega) (by omega)
      refine ⟨b.1, by omega, fun h => ?_⟩
      have := b.2.2 h
      have := a.2.2 (by omega)
      omega
end
theorem big_size {ts : List Tm} (h : bigT ts = false) : ∀ t ∈ ts, size t ≤ 3000 := by
  intro t ht
  simp only [bigT, Bool.not_eq_false', List.all_eq_true] at h
  have h1 := h t ht
  simp only [fewB, decide_eq_true_eq, ge_iff_le] at h1
  have := (left_size t 3000 (by omega) (by omega)).2.2 h1
  omega

/-! ### Pairs, one behind the other -/
def runP : Prs → Prs → Option Prs
  | P, [] => some P
  | P, (x, y) :: zs => match stepP P x y with
    | some Q => runP Q zs
    | none => none
theorem runP_app : ∀ (zs ws P : Prs), runP P (zs ++ ws) = match runP P zs with
    | some Q => runP Q ws
    | none => none
  | [], ws, P => rfl
  | (x, y) :: zs, ws, P => by
    simp only [List.cons_append, runP]
    cases stepP P x y with
    | none => rfl
    | some Q => exact runP_app zs ws Q
theorem bareT_mk (k : Int) (s : ByteArray) (n : Int) (l : List Tm) : bareT (.mk k s n l) = .mk k s (if k = 1 then 0 else n) (bareL l) := by rw [bareT]
theorem placesT_mk (k : Int) (s : ByteArray) (n : Int) (l : List Tm) : placesT (.mk k s n l) = (if k = 1 then [n] else []) ++ placesL l := by rw [placesT]
theorem head_bare (k : Int) (s : ByteArray) (n : Int) (l : List Tm) (k' : Int) (s' : ByteArray) (n' : Int) (l' : List Tm) :
    headS k s (if k = 1 then 0 else n) (bareL l) k' s' (if k' = 1 then 0 else n') (bareL l') = (headV k s l k' s' l' && ((k == 1) || (n == n'))) := by
  simp only [headS, headV, bareL_len]
  by_cases hk : k = k'
  · subst hk
    by_cases h1 : k = 1
    · simp [h1]
    · have : (k == 1) = false := by simpa using h1
      simp only [if_neg h1, this, Bool.false_or, beq_self_eq_true, Bool.true_and]
      cases (n == n') <;> simp
  · have : (k == k') = false := by simpa using hk
    simp [this]
theorem places_same : ∀ (N : Nat) (t u : Tm), SizeOf.sizeOf t < N → sameT (bareT t) (bareT u) = true → (placesT t).length = (placesT u).length := by
  intro N
  induction N with
  | zero => intro t u h; omega
  | succ N ih =>
    have hl : ∀ (l m : List Tm), SizeOf.sizeOf l < N + 1 → l.length = m.length → sameL (bareL l) (bareL m) = true → (placesL l).length = (placesL m).length := by
      intro l
      induction l with
      | nil =>
        intro m _ h1 _
        cases m with
        | nil => rfl
        | cons => simp at h1
      | cons x l ihl =>
        intro m hs h1 h2
        cases m with
        | nil => simp at h1
        | cons y m =>
        simp only [List.length_cons, Nat.add_right_cancel_iff, List.cons.sizeOf_spec] at h1 hs
        rw [bareL, bareL, sameL, Bool.and_eq_true] at h2
        rw [placesL, placesL, List.length_append, List.length_append, ih x y (by omega) h2.1, ihl m (by omega) h1 h2.2]
    rintro ⟨k, s, n, l⟩ ⟨k', s', n', l'⟩ hs h
    simp only [Tm.mk.sizeOf_spec] at hs
    rw [bareT_mk, bareT_mk, sameT, head_bare, Bool.and_eq_true, Bool.and_eq_true] at h
    have h3 := headV_len h.1.1
    have hk : k = k' := by
      have := h.1.1
      simp only [headV, Bool.and_eq_true, beq_iff_eq] at this
      exact this.1
    rw [placesT_mk, placesT_mk, List.length_append, List.length_append, hl l l' (by omega) h3 h.2, hk]
    by_cases e : k' = 1 <;> simp [e]
theorem vr_run : ∀ (N : Nat) (t u : Tm) (P : Prs), SizeOf.sizeOf t < N → vrT t u P = if sameT (bareT t) (bareT u) = true then runP P ((placesT t).zip (placesT u)) else none := by
  intro N
  induction N with
  | zero => intro t u P h; omega
  | succ N ih =>
    have hl : ∀ (l m : List Tm) (P : Prs), SizeOf.sizeOf l < N + 1 → l.length = m.length → vrL l m P = if sameL (bareL l) (bareL m) = true then runP P ((placesL l).zip (placesL m)) else none := by
      intro l
      induction l with
      | nil =>
        intro m P _ h1
        cases m with
        | nil => simp [vrL, bareL, sameL, placesL, runP]
        | cons => simp at h1
      | cons x l ihl =>
        intro m P hs h1
        cases m with
        | nil => simp at h1
        | cons y m =>
        simp only [List.length_cons, Nat.add_right_cancel_iff, List.cons.sizeOf_spec] at h1 hs
        rw [vrL, ih x y P (by omega), bareL, bareL, sameL, placesL, placesL]
        cases hxy : sameT (bareT x) (bareT y) with
        | false => simp
        | true =>
          have hlen := places_same _ x y (Nat.lt_succ_self _) hxy
          simp only [if_true, Bool.true_and]
          rw [List.zip_append hlen, runP_app]
          cases runP P ((placesT x).zip (placesT y)) with
          | none => simp
          | some Q => exact ihl m Q (by omega) h1
    rintro ⟨k, s, n, l⟩ ⟨k', s', n', l'⟩ P hs
    simp only [Tm.mk.sizeOf_spec] at hs
    rw [bareT_mk, bareT_mk, sameT, head_bare, vrT, placesT_mk, placesT_mk]
    cases hh : headV k s l k' s' l' with
    | false => simp
    | true =>
      have h3 := headV_len hh
      have hk : k = k' := by
        have := hh
        simp only [headV, Bool.and_eq_true, beq_iff_eq] at this
        exact this.1
      subst hk
      simp only [if_true, Bool.true_and, ownV]
      by_cases h1 : k = 1
      · have e1 : (k == 1) = true := by simpa using h1
        simp only [e1, h1, if_true, Bool.true_or, Bool.true_and, List.singleton_append, List.zip_cons_cons, runP]
        cases stepP P n n' with
        | none => simp
        | some Q => exact hl l l' Q (by omega) h3
      · have e1 : (k == 1) = false := by simpa using h1
        simp only [e1, if_neg h1, Bool.false_or, List.nil_append]
        cases e2 : (n == n') with
        | false => simp
        | true => simp only [if_true, Bool.true_and, Bool.false_eq_true, if_false]; exact hl l l' P (by omega) h3

/-! ### Numbers that stand for one another -/
def Cp (L : Prs) : Prop := ∀ p ∈ L, ∀ q ∈ L, p.1 = q.1 ↔ p.2 = q.2
theorem Cp.of {L M : Prs} (h : ∀ p, p ∈ L ↔ p ∈ M) : Cp L ↔ Cp M := by
  constructor <;> intro c p hp q hq
  · exact c p ((h p).2 hp) q ((h q).2 hq)
  · exact c p ((h p).1 hp) q ((h q).1 hq)
theorem thr_none : ∀ {P : Prs} {x : Int}, thr P x = none → ∀ p ∈ P, p.1 ≠ x
  | (a, b) :: P, x, h, p, hp => by
    simp only [thr] at h
    by_cases e : a = x
    · rw [if_pos e] at h; cases h
    · rw [if_neg e] at h
      rcases List.mem_cons.1 hp with rfl | hp
      · exact e
      · exact thr_none h p hp
theorem thr_some : ∀ {P : Prs} {x b : Int}, thr P x = some b → (x, b) ∈ P
  | (a, c) :: P, x, b, h => by
    simp only [thr] at h
    by_cases e : a = x
    · rw [if_pos e] at h; cases h; subst e; exact List.mem_cons_self
    · rw [if_neg e] at h; exact List.mem_cons_of_mem _ (thr_some h)
theorem bak_none : ∀ {P : Prs} {y : Int}, bak P y = none → ∀ p ∈ P, p.2 ≠ y
  | (a, b) :: P, y, h, p, hp => by
    simp only [bak] at h
    by_cases e : b = y
    · rw [if_pos e] at h; cases h
    · rw [if_neg e] at h
      rcases List.mem_cons.1 hp with rfl | hp
      · exact e
      · exact bak_none h p hp
theorem bak_some : ∀ {P : Prs} {y a : Int}, bak P y = some a → (a, y) ∈ P
  | (c, b) :: P, y, a, h => by
    simp only [bak] at h
    by_cases e : b = y
    · rw [if_pos e] at h; cases h; subst e; exact List.mem_cons_self
    · rw [if_neg e] at h; exact List.mem_cons_of_mem _ (bak_some h)
theorem step_some {P Q : Prs} {x y : Int} (hc : Cp P) (h : stepP P x y = some Q) : Cp Q ∧ ∀ p, p ∈ Q ↔ p = (x, y) ∨ p ∈ P := by
  unfold stepP at h
  split at h
  · rename_i h1 h2
    cases h
    refine ⟨fun p hp q hq => ?_, fun p => by simp⟩
    rcases List.mem_cons.1 hp with rfl | hp <;> rcases List.mem_cons.1 hq with rfl | hq
    · simp
    · have a := thr_none h1 q hq
      have b := bak_none h2 q hq
      exact ⟨fun e => absurd e.symm a, fun e => absurd e.symm b⟩
    · have a := thr_none h1 p hp
      have b := bak_none h2 p hp
      exact ⟨fun e => absurd e a, fun e => absurd e b⟩
    · exact hc p hp q hq
  · rename_i b a h1 h2
    split at h
    · split at h
      · cases h
        rename_i e1 e2
        simp only [beq_iff_eq] at e1 e2
        subst e1 e2
        refine ⟨hc, fun p => ⟨fun h => .inr h, fun h => h.elim (fun e => e ▸ thr_some h1) id⟩⟩
      · cases h
    · cases h
  · cases h
theorem step_none {P : Prs} {x y : Int} (h : stepP P x y = none) : ¬ Cp ((x, y) :: P) := by
  intro hc
  have self : (x, y) ∈ (x, y) :: P := List.mem_cons_self
  have up : ∀ {p}, p ∈ P → p ∈ (x, y) :: P := fun h => List.mem_cons_of_mem _ h
  unfold stepP at h
  split at h
  · cases h
  · rename_i b a h1 h2
    have m1 := (hc _ (up (thr_some h1)) _ self).1 rfl
    have m2 := (hc _ (up (bak_some h2)) _ self).2 rfl
    simp only at m1 m2
    subst m1 m2
    simp at h
  · rename_i h1 h2
    cases e1 : thr P x with
    | none => cases e2 : bak P y with
      | none => exact h1 e1 e2
      | some a =>
        have m2 := (hc _ (up (bak_some e2)) _ self).2 rfl
        exact thr_none e1 _ (bak_some e2) m2
    | some b => cases e2 : bak P y with
      | none =>
        have m1 := (hc _ (up (thr_some e1)) _ self).1 rfl
        exact bak_none e2 _ (thr_some e1) m1
      | some a => exact h2 b a e1 e2
theorem run_cp : ∀ (zs P : Prs), Cp P → ((runP P zs).isSome = true ↔ Cp (P ++ zs))
  | [], P, hc => by simp [runP, hc]
  | (x, y) :: zs, P, hc => by
    simp only [runP]
    cases h : stepP P x y with
    | none =>
      have := step_none h
      simp only [Option.isSome_none, Bool.false_eq_true, false_iff]
      intro c
      exact this fun p hp q hq => c p (by simp at hp ⊢; rcases hp with h | h <;> simp [h]) q (by simp at hq ⊢; rcases hq with h | h <;> simp [h])
    | some Q =>
      obtain ⟨h1, h2⟩ := step_some hc h
      rw [run_cp zs Q h1]
      refine Cp.of fun p => ?_
      simp only [List.mem_append, List.mem_cons, h2 p]
      constructor
      · rintro ((h | h) | h)
        · exact .inr (.inl h)
        · exact .inl h
        · exact .inr (.inr h)
      · rintro (h | h | h)
        · exact .inl (.inr h)
        · exact .inl (.inl h)
        · exact .inr h
theorem cp_zip {xs ys : List Int} (hl : xs.length = ys.length) : Cp (xs.zip ys) ↔ ∀ i, i < xs.length → ∀ k, k < xs.length → (xs.getD i 0 = xs.getD k 0 ↔ ys.getD i 0 = ys.getD k 0) := by
  have mem : ∀ i, i < xs.length → (xs.getD i 0, ys.getD i 0) ∈ xs.zip ys := by
    intro i hi
    have h1 : (xs.zip ys)[i]? = some (xs.getD i 0, ys.getD i 0) := by
      rw [List.getElem?_zip_eq_some]
      simp [hi, show i < ys.length by omega]
    exact List.mem_of_getElem? h1
  constructor
  · intro c i hi k hk
    exact c _ (mem i hi) _ (mem k hk)
  · intro h p hp q hq
    have key : ∀ {p : Int × Int}, p ∈ xs.zip ys → ∃ i, i < xs.length ∧ p = (xs.getD i 0, ys.getD i 0) := by
      intro p hp
      obtain ⟨i, hi⟩ := List.getElem?_of_mem hp
      have hi2 := (List.getElem?_eq_some_iff.1 hi).1
      rw [List.length_zip] at hi2
      rw [List.getElem?_zip_eq_some] at hi
      refine ⟨i, by omega, ?_⟩
      simp [hi.1, hi.2]
    obtain ⟨i, hi, rfl⟩ := key hp
    obtain ⟨k, hk, rfl⟩ := key hq
    exact h i hi k hk
/-- what Variant answers -/
def Vr (t u : Tm) : Prop := sameT (bareT t) (bareT u) = true ∧ ∀ i, i < (placesT t).length → ∀ k, k < (placesT t).length → ((placesT t).getD i 0 = (placesT t).getD k 0 ↔ (placesT u).getD i 0 = (placesT u).getD k 0)
theorem vr_iff (t u : Tm) : (vrT t u []).isSome = true ↔ Vr t u := by
  rw [vr_run _ t u [] (Nat.lt_succ_self _)]
  unfold Vr
  cases h : sameT (bareT t) (bareT u) with
  | false => simp
  | true =>
    have hl := places_same _ t u (Nat.lt_succ_self _) h
    rw [if_pos rfl, run_cp _ [] (fun p hp => by simp at hp), List.nil_append, cp_zip hl]
    simp
theorem okP_iff {xs ys : List Int} {i k : Nat} : okP xs ys i k ↔ (xs.getD i 0 = xs.getD k 0 ↔ ys.getD i 0 = ys.getD k 0) := by
  unfold okP
  generalize xs.getD i 0 = a
  generalize xs.getD k 0 = b
  generalize ys.getD i 0 = c
  generalize ys.getD k 0 = d
  by_cases h1 : a = b <;> by_cases h2 : c = d
  · simp [h1, h2]
  · simp [h1, h2]
  · simp [h1, h2]
  · have e1 : (a == b) = false := by simpa using h1
    have e2 : (c == d) = false := by simpa using h2
    simp only [e1, e2, h1, h2]
theorem rvar_iff (t u : Tm) : (sameT (bareT t) (bareT u) = true ∧ ∀ i, i < (placesT t).length → ∀ k, k < i → okP (placesT t) (placesT u) i k) ↔ Vr t u := by
  unfold Vr
  refine and_congr_right fun _ => ?_
  constructor
  · intro h i hi k hk
    rcases Nat.lt_trichotomy k i with e | e | e
    · exact okP_iff.1 (h i hi k e)
    · subst e; simp
    · have := okP_iff.1 (h k hk i e)
      exact ⟨fun e => (this.1 e.symm).symm, fun e => (this.2 e.symm).symm⟩
  · intro h i hi k hk
    exact okP_iff.2 (h i hi k (by omega))
/-- both answer the same -/
theorem rvar_call {t u : Tm} {a b : AV} (ha : IsT a t) (hb : IsT b u) (hst : size t ≤ 100000) (hsu : size u ≤ 100000) : callW F 17 [a, b] [] = some (.v (.bool (vrT t u []).isSome), []) := by
  obtain ⟨r, h1, h2⟩ := rvariant_ok ha hb hst hsu (places_same _ t u (Nat.lt_succ_self _))
  rw [rvar_iff, ← vr_iff] at h2
  rw [h1]
  cases r <;> cases h : (vrT t u []).isSome <;> simp_all
end Go.AE.YtgcbaefclkfnoaaDoor
end

/-! Fresh of the program: it shifts the numbers of all Vars. -/
section
set_option linter.unusedVariables false
set_option linter.unusedSimpArgs false
namespace Go.AE.YtgcbaefclkfnoaaDoor
open Go Go.AE Go.Proofs.YtgcbaefclkfnoaaDoor

theorem turn_ok {H : List AO} {id : Nat} {x : Int} (hid : H[id]? = some (.box 2 [.v (.int .i64 x)])) (hb : H.all (AO.below H.length) = true) (n : Int) : callW F 56 [.v (.int .i64 n), .ptr id 0] H = some (.v (.int .i64 (IntKind.i64.wrap (n + x))), H) := by
  refine callW_own (c := c56) rfl rfl 0 ?_
  have l1 := bx_ld (h := H ++ []) (id := id) (by rw [List.append_nil]; exact hid) (a := false) (n := 1) (o := 0)
  have body : exec (callW F) 0 c56.body (start c56 [.v (.int .i64 n), .ptr id 0]) (H ++ []) = some (.ret, [.v (.int .i64 n), .ptr id 0, .v (.int .i64 (IntKind.i64.wrap (n + x)))], H ++ []) := by
    simp only [c56, start, List.replicate, c56_0, c56_1, l1, e_bslice1, e_bslice2, bs1, bs2, e_build, bdH_some, bd_nil, bd_cons, bd1, cl_agg, cl_int, toL, List.map_cons, List.map_nil, putAt, List.set_cons_zero, List.set_cons_succ, and_self, Nat.le_refl, app_get, app_set, g_agg, run_nil, run_cons, stp_plain, stp_guard, put_some, pass_eq, pick_tt, pick_ff, pick_tf, pick_ft, pick_u, reg_some, thn_normal, thn_exit, thn_ret, cnd_t, cnd_f, blk_normal, blk_ret, blk_exit, x_seq, x_region, x_cond, x_block, x_loop, x_ret, x_exit, x_skip, e_mov, e_pick, pk_t, pk_f, withH_some, e_box, e_load, e_store, stH_some, e_nil, e_bin, e_eqv, eqH_f, eqH_t, e_un, e_fa, e_ia, ia_eq, nat_eq, natV_nat, e_len, lnH_some, e_extract, ex_0, ex_1, e_call0, e_call1, e_call2, e_call3, pc0_eq, pc1_some, pc2_some, pc3_some, fin_some, g_var0, g_vars, g_loc0, g_locs, g_int, g_bool, g_str, g_sl, s_none, s_zero, s_succ, cl_nil, cl_str, cl_bool, cl_slc, cl_own, evFa, evNil, asEl, evBin, intBin, strBin, evUn, len_nil, len_slc, len_str, clr, List.length_nil, List.length_cons, List.getElem?_cons_zero, List.getElem?_cons_succ, Nat.reduceAdd, Nat.zero_add, Nat.add_zero, Nat.reduceLeDiff, Nat.reduceSub, ↓reduceIte, List.drop_succ_cons, List.drop_zero, List.take_succ_cons, List.take_zero, Bool.false_eq_true, List.nil_append, List.cons_append, Bool.not_true, Bool.not_false, cond_true, cond_false, bne, lv_ret, lv_normal, res1, res2, lv2_some, res_var, res_cell, lvf_v, lvf_slc, res1c, lvo1_some, e_mm, mm_max, mm_min]
  rw [body, leave_own rfl hb]
  exact lvo_one rfl

theorem e_mkfn {call : CallF} {vars env : List AV} {h : List AO} {f : Fn} {first cap : List Opd} : evOp call vars env h (.mkfn f first cap) = some (.fn f (first.map (getO vars env)) (cap.map (getO vars env)), h) := rfl
def cv (call : CallF) (h : List AO) (xs : List AV) : AV → Option (AV × List AO)
  | .fn (.func f) first cap => call f (first ++ xs ++ cap) h
  | _ => none
theorem e_callv {call : CallF} {vars env : List AV} {h : List AO} {x : Opd} {args : List Opd} : evOp call vars env h (.callv x args) = cv call h (args.map (getO vars env)) (getO vars env x) := by
  simp only [evOp, cv]
  rfl
theorem cv_fn {call : CallF} {h : List AO} {f : FuncId} {xs first cap : List AV} : cv call h xs (.fn (.func f) first cap) = call f (first ++ xs ++ cap) h := rfl

section
variable {H : List AO} {l : List AO}
theorem h_ld {a : Bool} {sz k o : Nat} : evLoad (H ++ l) a sz (.ptr (H.length + k) o) = ldAt l k a sz o := own_ld rfl
theorem h_ld0 {a : Bool} {sz o : Nat} : evLoad (H ++ l) a sz (.ptr H.length o) = ldAt l 0 a sz o := own_ld0 rfl
theorem h_st {sz k o : Nat} {x : AV} : evStore (H ++ l) sz (.ptr (H.length + k) o) x = preH H (stAt l sz k o x) := own_st rfl
theorem h_st0 {sz o : Nat} {x : AV} : evStore (H ++ l) sz (.ptr H.length o) x = preH H (stAt l sz 0 o x) := own_st0 rfl
theorem h_bx {bt : TypeId} {cs : List AV} : bx (H ++ l) bt (some cs) = some (.ptr (H.length + l.length) 0, H ++ (l ++ [.box bt cs])) := own_bx rfl

def K49 : List Bool := [false, true, true, true, true, false, false, false, false, true, true, true, false]
def fnV (id : Nat) : AV := .fn (.func 56) [] [.ptr id 0]
def L49 (id B n : Nat) (c : AV) (i : Int) : List AV := [.junk, fnV id, .ptr B 0, .ptr (B + 1) 0, .own 4 (B + 2) 0 0 n, .junk, .junk, .junk, .junk, c, .v (.int .i64 n), .v (.int .i64 i), .junk]

theorem zeroEl4 : zeroEl [(.int .i64 0), (.string ⟨#[]⟩), (.int .i64 0), (.slice none 0 0)] = .agg zeroC := rfl
theorem _root_.Go.AE.IsT.eta {a : AV} {t : Tm} (ht : IsT a t) : AV.agg a.cells = a := by
  cases ht; rfl
theorem _root_.Go.AE.IsT.cellB {a : AV} {t : Tm} (ht : IsT a t) : a.cells.all AV.isCell = true := by
  cases ht with
  | mk k s n c l hc => cases hc <;> rfl
theorem app_set_one {x : AO} {l : List AO} {k : Nat} (h : k < l.length) {y : AO} : (l ++ [x]).set k y = l.set k y ++ [x] := List.set_append_left _ _ h

theorem each_loop {K : Nat} {id : Nat} {c : AV} {es : List AV} {cs0 cs1 : List AV} (hs : Sl 4 c es) (hm : es.length ≤ 100000) (x : Int) (hid : H[id]? = some (.box 2 [.v (.int .i64 x)])) (hb : H.all (AO.below H.length) = true) (hb0 : (AO.box 24 cs0).below 0 = true) (hb1 : (AO.box 24 cs1).below 0 = true) :
    ∀ (l : List Tm) (i : Nat) (ds : List AV) (dl : List Tm) (tail : List AO) (vars : List AV), i + l.length = es.length → ds.length = i → All2 (es.drop i) l → All2 ds dl → tail.all (AO.below 0) = true →
      (∀ t ∈ l, ∀ (e : AV) (H' : List AO), IsT e t → H'[id]? = some (.box 2 [.v (.int .i64 x)]) → H'.all (AO.below H'.length) = true → ∃ r, IsT r (shiftT x t) ∧ callW F 55 [e, fnV id] H' = some (r, H')) →
      clr K49 vars = L49 id H.length es.length c i →
      ∃ ds' tail' x5 x6 x7 x8 x12, loopN (exec (callW F) K c55_12) K49 (l.length + 1) vars (H ++ (.box 24 cs0 :: .box 24 cs1 :: .row 24 4 0 (ds ++ List.replicate l.length (.agg zeroC)) 0 :: tail)) = some (.exit 0, [.junk, fnV id, .ptr H.length 0, .ptr (H.length + 1) 0, .own 4 (H.length + 2) 0 0 es.length, x5, x6, x7, x8, c, .v (.int .i64 es.length), .v (.int .i64 es.length), x12], H ++ (.box 24 cs0 :: .box 24 cs1 :: .row 24 4 0 ds' 0 :: tail')) ∧ All2 ds' (dl ++ shiftL x l) ∧ ds'.length = es.length := by
  intro l
  induction l with
  | nil =>
    intro i ds dl tail vars hi hds _ hall htl _ hv
    have hil : i = es.length := by simpa using hi
    subst hil
    have hlt : decide ((es.length : Int) < (es.length : Int)) = false := by simp
    refine ⟨ds, tail, .junk, .junk, .junk, .junk, .v (.bool false), loop_exit ?_, by simpa [shiftL] using hall, hds⟩
    rw [hv]
    simp only [L49, c55_12, c55_8, hlt, List.replicate, List.append_nil, e_bslice1, e_bslice2, bs1, bs2, e_build, bdH_some, bd_nil, bd_cons, bd1, cl_agg, cl_int, toL, List.map_cons, List.map_nil, putAt, List.set_cons_zero, List.set_cons_succ, and_self, Nat.le_refl, app_get, app_set, g_agg, run_nil, run_cons, stp_plain, stp_guard, put_some, pass_eq, pick_tt, pick_ff, pick_tf, pick_ft, pick_u, reg_some, thn_normal, thn_exit, thn_ret, cnd_t, cnd_f, blk_normal, blk_ret, blk_exit, x_seq, x_region, x_cond, x_block, x_loop, x_ret, x_exit, x_skip, e_mov, e_pick, pk_t, pk_f, withH_some, e_box, e_load, e_store, stH_some, e_nil, e_bin, e_eqv, eqH_f, eqH_t, e_un, e_fa, e_ia, ia_eq, nat_eq, natV_nat, e_len, lnH_some, e_extract, ex_0, ex_1, e_call0, e_call1, e_call2, e_call3, pc0_eq, pc1_some, pc2_some, pc3_some, fin_some, g_var0, g_vars, g_loc0, g_locs, g_int, g_bool, g_str, g_sl, s_none, s_zero, s_succ, cl_nil, cl_str, cl_bool, cl_slc, cl_own, evFa, evNil, asEl, evBin, intBin, strBin, evUn, len_nil, len_slc, len_str, clr, List.length_nil, List.length_cons, List.getElem?_cons_zero, List.getElem?_cons_succ, Nat.reduceAdd, Nat.zero_add, Nat.add_zero, Nat.reduceLeDiff, Nat.reduceSub, ↓reduceIte, List.drop_succ_cons, List.drop_zero, List.take_succ_cons, List.take_zero, Bool.false_eq_true, List.nil_append, List.cons_append, Bool.not_true, Bool.not_false, cond_true, cond_false, bne, lv_ret, lv_normal, res1, res2, lv2_some, res_var, res_cell, lvf_v, lvf_slc, res1c, lvo1_some, e_mm, mm_max, mm_min]
  | cons t l ih =>
    intro i ds dl tail vars hi hds hes hall htl hcall hv
    have hil : i < es.length := by simp at hi; omega
    have he : es[i]? = some (es[i]'hil) := List.getElem?_eq_getElem _
    have hd : es.drop i = es[i] :: es.drop (i + 1) := List.drop_eq_getElem_cons hil
    rw [hd] at hes
    generalize es[i]'hil = e at hes he
    cases hes with
    | cons _ _ _ _ hT hs' =>
    have hlt : (decide ((i : Int) < (es.length : Int))) = true := by simp; omega
    have hlen : (ds ++ List.replicate (t :: l).length (AV.agg zeroC)).length = es.length := by simp at hi ⊢; omega
    have tl2 : (tail ++ [AO.box 24 e.cells]).all (AO.below 0) = true := by
      have : AO.below 0 (.box 24 e.cells) = true := hT.bel
      simp only [List.all_append, List.all_cons, List.all_nil, htl, this, Bool.and_true]
    have hbl : (H ++ (.box 24 cs0 :: .box 24 cs1 :: .row 24 4 0 (ds ++ List.replicate (t :: l).length (.agg zeroC)) 0 :: (tail ++ [AO.box 24 e.cells])) : List AO).all (AO.below (H ++ (.box 24 cs0 :: .box 24 cs1 :: .row 24 4 0 (ds ++ List.replicate (t :: l).length (.agg zeroC)) 0 :: (tail ++ [AO.box 24 e.cells])) : List AO).length) = true := by
      rw [List.all_append, Bool.and_eq_true]
      refine ⟨all_below_mono (by simp) hb, all_below_mono (Nat.zero_le _) ?_⟩
      have hr : ∀ L : List AV, (AO.row 24 4 0 L 0).below 0 = true := fun _ => rfl
      simp only [List.all_cons, hb0, hb1, hr, tl2, Bool.and_true]
    obtain ⟨r, hr, hc⟩ := hcall t (by simp) _ _ hT (his_get hid) hbl
    have q1 := hs.ia he
    have q3 : ∀ h : List AO, evLoad h true 4 (.ip e.cells) = some e := fun h => hT.load
    have q4 : e.cl = some e.cells := hT.cl.1
    have q4b : e.cells.length = 4 := hT.cl.2
    have q5 := hT.asEl
    -- the row
    have row : ∀ tl : List AO, (AO.box 24 cs0 :: .box 24 cs1 :: .row 24 4 0 (ds ++ List.replicate (t :: l).length (.agg zeroC)) 0 :: tl : List AO)[2]? = some (.row 24 4 0 (ds ++ List.replicate (t :: l).length (.agg zeroC)) 0) := fun _ => rfl
    have q7 := own_ia (sz := 4) (H := H) rfl (row (tail ++ [AO.box 24 e.cells])) (n := es.length) (by omega) hil
    have hel : (ds ++ List.replicate (t :: l).length (AV.agg zeroC))[i]? = some (.agg zeroC) := by
      rw [List.getElem?_append_right (by omega)]
      simp [hds, List.replicate]
    have q8 := own_est (sz := 4) (H := H) rfl (row (tail ++ [AO.box 24 e.cells])) hel rfl (x := r) (hr.snap) hr.cl.1 hr.cl.2 hr.cellB
    have hset : (ds ++ List.replicate (t :: l).length (AV.agg zeroC)).set i (AV.agg r.cells) = (ds ++ [r]) ++ List.replicate l.length (AV.agg zeroC) := by
      rw [List.set_append_right _ _ (by omega)]
      have : AV.agg r.cells = r := hr.eta
      rw [this]
      simp [hds, List.replicate]
    rw [hset] at q8
    simp only [List.set_cons_succ, List.set_cons_zero] at q8
    have st : ∀ R R2, R = ds ++ List.replicate (t :: l).length (AV.agg zeroC) → R2 = (ds ++ [r]) ++ List.replicate l.length (AV.agg zeroC) → exec (callW F) K c55_12 (L49 id H.length es.length c i) (H ++ (.box 24 cs0 :: .box 24 cs1 :: .row 24 4 0 R 0 :: tail)) = some (.normal, [.junk, fnV id, .ptr H.length 0, .ptr (H.length + 1) 0, .own 4 (H.length + 2) 0 0 es.length, .v (.int .i64 i), .ptr (H.length + (tail.length + 1 + 1 + 1)) 0, .junk, .junk, c, .v (.int .i64 es.length), .v (.int .i64 ((i + 1 : Nat) : Int)), .v (.bool true)], H ++ (.box 24 cs0 :: .box 24 cs1 :: .row 24 4 0 R2 0 :: (tail ++ [AO.box 24 e.cells]))) := by
      intro R R2 hR hR2
      rw [← hR] at hc q7 q8
      rw [← hR2] at q8
      have hst : ∀ (q : AV), evStore (H ++ (.box 24 cs0 :: .box 24 cs1 :: .row 24 4 0 R 0 :: (tail ++ [AO.box 24 zeroC]))) 4 (.ptr (H.length + (tail.length + 1 + 1 + 1)) 0) e = some (H ++ (.box 24 cs0 :: .box 24 cs1 :: .row 24 4 0 R 0 :: (tail ++ [AO.box 24 e.cells]))) := by
        intro q
        have hg := hT
        cases hg with
        | mk k s n c2 l2 hc2 =>
        simp only [h_st, stAt, zeroC, AV.cells, e_bslice1, e_bslice2, bs1, bs2, e_build, bdH_some, bd_nil, bd_cons, bd1, cl_agg, cl_int, toL, List.map_cons, List.map_nil, putAt, List.set_cons_zero, List.set_cons_succ, and_self, Nat.le_refl, app_get, app_set, g_agg, run_nil, run_cons, stp_plain, stp_guard, put_some, pass_eq, pick_tt, pick_ff, pick_tf, pick_ft, pick_u, reg_some, thn_normal, thn_exit, thn_ret, cnd_t, cnd_f, blk_normal, blk_ret, blk_exit, x_seq, x_region, x_cond, x_block, x_loop, x_ret, x_exit, x_skip, e_mov, e_pick, pk_t, pk_f, withH_some, e_box, e_load, e_store, stH_some, e_nil, e_bin, e_eqv, eqH_f, eqH_t, e_un, e_fa, e_ia, ia_eq, nat_eq, natV_nat, e_len, lnH_some, e_extract, ex_0, ex_1, e_call0, e_call1, e_call2, e_call3, pc0_eq, pc1_some, pc2_some, pc3_some, fin_some, g_var0, g_vars, g_loc0, g_locs, g_int, g_bool, g_str, g_sl, s_none, s_zero, s_succ, cl_nil, cl_str, cl_bool, cl_slc, cl_own, evFa, evNil, asEl, evBin, intBin, strBin, evUn, len_nil, len_slc, len_str, clr, List.length_nil, List.length_cons, List.getElem?_cons_zero, List.getElem?_cons_succ, Nat.reduceAdd, Nat.zero_add, Nat.add_zero, Nat.reduceLeDiff, Nat.reduceSub, ↓reduceIte, List.drop_succ_cons, List.drop_zero, List.take_succ_cons, List.take_zero, Bool.false_eq_true, List.nil_append, List.cons_append, Bool.not_true, Bool.not_false, cond_true, cond_false, bne, lv_ret, lv_normal, res1, res2, lv2_some, res_var, res_cell, lvf_v, lvf_slc, res1c, lvo1_some, e_mm, mm_max, mm_min]
        rfl
      have hld : evLoad (H ++ (.box 24 cs0 :: .box 24 cs1 :: .row 24 4 0 R 0 :: (tail ++ [AO.box 24 e.cells]))) true 4 (.ptr (H.length + (tail.length + 1 + 1 + 1)) 0) = some e := by
        rw [h_ld]
        simp only [ldAt, List.getElem?_cons_succ, app_get, q4b, List.drop_zero, q5]
        rfl
      have hst' := hst .junk
      simp only [zeroC] at hst'
      simp only [L49, zeroC, c55_12, c55_8, c55_9, c55_10, c55_11, hlt, wrap_succ hil (small_max hm), q1, q3, q7, q8, hc, hst', hld, e_callh, q9z, h_bx, e_bslice1, e_bslice2, bs1, bs2, e_build, bdH_some, bd_nil, bd_cons, bd1, cl_agg, cl_int, toL, List.map_cons, List.map_nil, putAt, List.set_cons_zero, List.set_cons_succ, and_self, Nat.le_refl, app_get, app_set, g_agg, run_nil, run_cons, stp_plain, stp_guard, put_some, pass_eq, pick_tt, pick_ff, pick_tf, pick_ft, pick_u, reg_some, thn_normal, thn_exit, thn_ret, cnd_t, cnd_f, blk_normal, blk_ret, blk_exit, x_seq, x_region, x_cond, x_block, x_loop, x_ret, x_exit, x_skip, e_mov, e_pick, pk_t, pk_f, withH_some, e_box, e_load, e_store, stH_some, e_nil, e_bin, e_eqv, eqH_f, eqH_t, e_un, e_fa, e_ia, ia_eq, nat_eq, natV_nat, e_len, lnH_some, e_extract, ex_0, ex_1, e_call0, e_call1, e_call2, e_call3, pc0_eq, pc1_some, pc2_some, pc3_some, fin_some, g_var0, g_vars, g_loc0, g_locs, g_int, g_bool, g_str, g_sl, s_none, s_zero, s_succ, cl_nil, cl_str, cl_bool, cl_slc, cl_own, evFa, evNil, asEl, evBin, intBin, strBin, evUn, len_nil, len_slc, len_str, clr, List.length_nil, List.length_cons, List.getElem?_cons_zero, List.getElem?_cons_succ, Nat.reduceAdd, Nat.zero_add, Nat.add_zero, Nat.reduceLeDiff, Nat.reduceSub, ↓reduceIte, List.drop_succ_cons, List.drop_zero, List.take_succ_cons, List.take_zero, Bool.false_eq_true, List.nil_append, List.cons_append, Bool.not_true, Bool.not_false, cond_true, cond_false, bne, lv_ret, lv_normal, res1, res2, lv2_some, res_var, res_cell, lvf_v, lvf_slc, res1c, lvo1_some, e_mm, mm_max, mm_min]
    rw [show (t :: l).length + 1 = (l.length + 1) + 1 from rfl, loop_normal (by rw [hv]; exact st _ _ rfl rfl)]
    obtain ⟨ds', tail', x5, x6, x7, x8, x12, g1, g2, g3⟩ := ih (i + 1) (ds ++ [r]) (dl ++ [shiftT x t]) (tail ++ [AO.box 24 e.cells]) [.junk, fnV id, .ptr H.length 0, .ptr (H.length + 1) 0, .own 4 (H.length + 2) 0 0 es.length, .v (.int .i64 i), .ptr (H.length + (tail.length + 1 + 1 + 1)) 0, .junk, .junk, c, .v (.int .i64 es.length), .v (.int .i64 ((i + 1 : Nat) : Int)), .v (.bool true)] (by simp at hi; omega) (by simp [hds]) hs' (hall.app (.one hr)) tl2 (fun t ht => hcall t (by simp [ht])) rfl
    refine ⟨ds', tail', x5, x6, x7, x8, x12, g1, ?_, g3⟩
    rw [shiftL]
    simpa using g2

theorem start49 (a b : AV) : start c55 [a, b] = [a, b, .v undef, .v undef, .v undef, .v undef, .v undef, .v undef, .v undef, .v undef, .v undef, .v undef, .v undef] := rfl
theorem each49 (x : Int) (id : Nat) : ∀ (N : Nat) (t : Tm) (a : AV) (H : List AO), SizeOf.sizeOf t < N → size t ≤ 100000 → IsT a t → H[id]? = some (.box 2 [.v (.int .i64 x)]) → H.all (AO.below H.length) = true → ∃ r, IsT r (shiftT x t) ∧ callW F 55 [a, fnV id] H = some (r, H) := by
  intro N
  induction N with
  | zero => intro t a H h; omega
  | succ N ih =>
    intro t a H hN hsz ha hid hb
    have hbela := ha.bel
    cases ha with
    | mk k s n c l hc =>
    have h5 := Tm.mk.sizeOf_spec k s n l
    simp only [size] at hsz
    have hll := sizeL_len l
    have hcall : ∀ t ∈ l, ∀ (e : AV) (H' : List AO), IsT e t → H'[id]? = some (.box 2 [.v (.int .i64 x)]) → H'.all (AO.below H'.length) = true → ∃ r, IsT r (shiftT x t) ∧ callW F 55 [e, fnV id] H' = some (r, H') := by
      intro t ht e H' hT
      have h6 := List.sizeOf_lt_of_mem ht
      have h7 := size_mem ht
      exact ih t e H' (by omega) (by omega) hT
    obtain ⟨es, hs, hes, hm⟩ := hc.sl
    have e1 := hes.length
    -- behind the number
    have rest : ∀ (n' : Int) (y : AV) (m : Bool), ∃ r, IsT r (.mk k s n' (shiftL x l)) ∧ leave H.length c55 (exec (callW F) (l.length + 1) (.seq (.seq (.region [] [] c55_3) (.cond (.var 8) (.seq (.region [] [] c55_4) (.seq (.region [] [] c55_5) .ret)) .skip)) (.seq (.region [] [] c55_6) (.seq (.seq (.region [] [] c55_7) (.block 0 (.loop K49 [] c55_12))) (.seq (.region [] [] c55_13) (.seq (.region [] [] c55_14) .ret)))))
        [y, fnV id, .ptr H.length 0, .ptr (H.length + 1) 0, .v undef, .v undef, .v undef, .v (.bool m), .v undef, .v undef, .v undef, .v undef, .v undef] (H ++ [.box 24 [.v (.int .i64 k), .v (.string s), .v (.int .i64 n'), c], .box 24 zeroC])) = some (r, H) := by
      intro n' y m
      have hres : c55.res = [.cell 3 true 4] := rfl
      rcases Nat.eq_zero_or_pos l.length with h0 | h0
      · have hl0 : l = [] := List.length_eq_zero_iff.1 h0
        subst hl0
        have he0 : es = [] := List.length_eq_zero_iff.1 (by simpa using e1)
        subst he0
        have h1 : (((0 : Nat) : Int) == 0) = true := rfl
        refine ⟨.agg [.v (.int .i64 k), .v (.string s), .v (.int .i64 n'), .v (.slice none 0 0)], by rw [shiftL]; exact .mk _ _ _ _ _ .nil, ?_⟩
        simp only [zeroC, c55_3, c55_4, c55_5, h1, hs.len, h_ld, h_ld0, h_st, h_st0, h_bx, ldAt, stAt, preH_some, List.append_assoc, e_bslice1, e_bslice2, bs1, bs2, e_build, bdH_some, bd_nil, bd_cons, bd1, cl_agg, cl_int, toL, List.map_cons, List.map_nil, putAt, List.set_cons_zero, List.set_cons_succ, and_self, Nat.le_refl, app_get, app_set, g_agg, run_nil, run_cons, stp_plain, stp_guard, put_some, pass_eq, pick_tt, pick_ff, pick_tf, pick_ft, pick_u, reg_some, thn_normal, thn_exit, thn_ret, cnd_t, cnd_f, blk_normal, blk_ret, blk_exit, x_seq, x_region, x_cond, x_block, x_loop, x_ret, x_exit, x_skip, e_mov, e_pick, pk_t, pk_f, withH_some, e_box, e_load, e_store, stH_some, e_nil, e_bin, e_eqv, eqH_f, eqH_t, e_un, e_fa, e_ia, ia_eq, nat_eq, natV_nat, e_len, lnH_some, e_extract, ex_0, ex_1, e_call0, e_call1, e_call2, e_call3, pc0_eq, pc1_some, pc2_some, pc3_some, fin_some, g_var0, g_vars, g_loc0, g_locs, g_int, g_bool, g_str, g_sl, s_none, s_zero, s_succ, cl_nil, cl_str, cl_bool, cl_slc, cl_own, evFa, evNil, asEl, evBin, intBin, strBin, evUn, len_nil, len_slc, len_str, clr, List.length_nil, List.length_cons, List.getElem?_cons_zero, List.getElem?_cons_succ, Nat.reduceAdd, Nat.zero_add, Nat.add_zero, Nat.reduceLeDiff, Nat.reduceSub, ↓reduceIte, List.drop_succ_cons, List.drop_zero, List.take_succ_cons, List.take_zero, Bool.false_eq_true, List.nil_append, List.cons_append, Bool.not_true, Bool.not_false, cond_true, cond_false, bne, lv_ret, lv_normal, res1, res2, lv2_some, res_var, res_cell, lvf_v, lvf_slc, res1c, lvo1_some, e_mm, mm_max, mm_min]
        rw [leave_own rfl hb, hres, own_res1 (x := .agg [.v (.int .i64 k), .v (.string s), .v (.int .i64 n'), .v (.slice none 0 0)]) _]
        · exact lvo_one rfl
        · simp only [res_cell, h_ld, ldAt, e_bslice1, e_bslice2, bs1, bs2, e_build, bdH_some, bd_nil, bd_cons, bd1, cl_agg, cl_int, toL, List.map_cons, List.map_nil, putAt, List.set_cons_zero, List.set_cons_succ, and_self, Nat.le_refl, app_get, app_set, g_agg, run_nil, run_cons, stp_plain, stp_guard, put_some, pass_eq, pick_tt, pick_ff, pick_tf, pick_ft, pick_u, reg_some, thn_normal, thn_exit, thn_ret, cnd_t, cnd_f, blk_normal, blk_ret, blk_exit, x_seq, x_region, x_cond, x_block, x_loop, x_ret, x_exit, x_skip, e_mov, e_pick, pk_t, pk_f, withH_some, e_box, e_load, e_store, stH_some, e_nil, e_bin, e_eqv, eqH_f, eqH_t, e_un, e_fa, e_ia, ia_eq, nat_eq, natV_nat, e_len, lnH_some, e_extract, ex_0, ex_1, e_call0, e_call1, e_call2, e_call3, pc0_eq, pc1_some, pc2_some, pc3_some, fin_some, g_var0, g_vars, g_loc0, g_locs, g_int, g_bool, g_str, g_sl, s_none, s_zero, s_succ, cl_nil, cl_str, cl_bool, cl_slc, cl_own, evFa, evNil, asEl, evBin, intBin, strBin, evUn, len_nil, len_slc, len_str, clr, List.length_nil, List.length_cons, List.getElem?_cons_zero, List.getElem?_cons_succ, Nat.reduceAdd, Nat.zero_add, Nat.add_zero, Nat.reduceLeDiff, Nat.reduceSub, ↓reduceIte, List.drop_succ_cons, List.drop_zero, List.take_succ_cons, List.take_zero, Bool.false_eq_true, List.nil_append, List.cons_append, Bool.not_true, Bool.not_false, cond_true, cond_false, bne, lv_ret, lv_normal, res1, res2, lv2_some, res_var, res_cell, lvf_v, lvf_slc, res1c, lvo1_some, e_mm, mm_max, mm_min]
      · have h1 : ((es.length : Int) == 0) = false := by rw [beq_eq_false_iff_ne]; omega
        obtain ⟨ds', tail', x5, x6, x7, x8, x12, g1, g2, g3⟩ := each_loop (H := H) (K := l.length + 1) (id := id) (cs0 := [.v (.int .i64 k), .v (.string s), .v (.int .i64 n'), c]) (cs1 := zeroC) hs (by omega) x hid hb (by
            have : ∀ n', IsT (.agg [.v (.int .i64 k), .v (.string s), .v (.int .i64 n'), c]) (.mk k s n' l) := fun n' => .mk k s n' c l hc
            exact (this n').bel) rfl l 0 [] [] [] (L49 id H.length es.length c (0 : Nat)) (by omega) rfl (by simpa using hes) .nil rfl hcall rfl
        have hrow : (List.replicate es.length (AV.agg zeroC)) = [] ++ List.replicate l.length (AV.agg zeroC) := by rw [e1]; rfl
        have mk := mkS_own (rt := 24) (sz := 4) (H := H) (l := [.box 24 [.v (.int .i64 k), .v (.string s), .v (.int .i64 n'), c], .box 24 zeroC]) (B := H.length) rfl (bytes := 56) (zero := [(.int .i64 0), (.string ⟨#[]⟩), (.int .i64 0), (.slice none 0 0)]) (n := es.length) (by have : maxLen = 9223372036854775807 := rfl; omega) (by omega)
        rw [zeroEl4, hrow] at mk
        generalize hR : ([] ++ List.replicate l.length (AV.agg zeroC)) = R at mk g1
        have hz2 : ∀ c' : AV, (AV.own 4 (H.length + 2) 0 0 es.length).cl = some [.own 4 (H.length + 2) 0 0 es.length] := fun _ => rfl
        have hds : ∀ h0 : List AO, (H ++ (.box 24 [.v (.int .i64 k), .v (.string s), .v (.int .i64 n'), .own 4 (H.length + 2) 0 0 es.length] :: .box 24 [.v (.int .i64 k), .v (.string s), .v (.int .i64 n'), .own 4 (H.length + 2) 0 0 es.length] :: .row 24 4 0 ds' 0 :: tail'))[H.length + 2]? = some (.row 24 4 0 ds' 0) := fun _ => obj_get rfl
        refine ⟨.agg [.v (.int .i64 k), .v (.string s), .v (.int .i64 n'), .slc 4 false false ds'], .mk _ _ _ _ _ (.slc _ _ _ _ (by simpa using g2) (by omega)), ?_⟩
        generalize hrest : (CC.seq (.region [] [] c55_13) (.seq (.region [] [] c55_14) .ret)) = rest
        simp only [zeroC] at mk g1
        simp only [zeroC, c55_3, c55_6, c55_7, h1, hs.len, mk, e_mkslice, h_ld, h_ld0, h_st, h_st0, h_bx, ldAt, stAt, preH_some, List.append_assoc, e_bslice1, e_bslice2, bs1, bs2, e_build, bdH_some, bd_nil, bd_cons, bd1, cl_agg, cl_int, toL, List.map_cons, List.map_nil, putAt, List.set_cons_zero, List.set_cons_succ, and_self, Nat.le_refl, app_get, app_set, g_agg, run_nil, run_cons, stp_plain, stp_guard, put_some, pass_eq, pick_tt, pick_ff, pick_tf, pick_ft, pick_u, reg_some, thn_normal, thn_exit, thn_ret, cnd_t, cnd_f, blk_normal, blk_ret, blk_exit, x_seq, x_region, x_cond, x_block, x_loop, x_ret, x_exit, x_skip, e_mov, e_pick, pk_t, pk_f, withH_some, e_box, e_load, e_store, stH_some, e_nil, e_bin, e_eqv, eqH_f, eqH_t, e_un, e_fa, e_ia, ia_eq, nat_eq, natV_nat, e_len, lnH_some, e_extract, ex_0, ex_1, e_call0, e_call1, e_call2, e_call3, pc0_eq, pc1_some, pc2_some, pc3_some, fin_some, g_var0, g_vars, g_loc0, g_locs, g_int, g_bool, g_str, g_sl, s_none, s_zero, s_succ, cl_nil, cl_str, cl_bool, cl_slc, cl_own, evFa, evNil, asEl, evBin, intBin, strBin, evUn, len_nil, len_slc, len_str, clr, List.length_nil, List.length_cons, List.getElem?_cons_zero, List.getElem?_cons_succ, Nat.reduceAdd, Nat.zero_add, Nat.add_zero, Nat.reduceLeDiff, Nat.reduceSub, ↓reduceIte, List.drop_succ_cons, List.drop_zero, List.take_succ_cons, List.take_zero, Bool.false_eq_true, List.nil_append, List.cons_append, Bool.not_true, Bool.not_false, cond_true, cond_false, bne, lv_ret, lv_normal, res1, res2, lv2_some, res_var, res_cell, lvf_v, lvf_slc, res1c, lvo1_some, e_mm, mm_max, mm_min]
        rw [loop_cong (v2 := L49 id H.length es.length c ((0 : Nat) : Int)) (by rfl), g1, ← hrest]
        simp only [c55_13, c55_14, hz2 .junk, h_ld, h_ld0, h_st, h_st0, h_bx, ldAt, stAt, preH_some, List.append_assoc, e_bslice1, e_bslice2, bs1, bs2, e_build, bdH_some, bd_nil, bd_cons, bd1, cl_agg, cl_int, toL, List.map_cons, List.map_nil, putAt, List.set_cons_zero, List.set_cons_succ, and_self, Nat.le_refl, app_get, app_set, g_agg, run_nil, run_cons, stp_plain, stp_guard, put_some, pass_eq, pick_tt, pick_ff, pick_tf, pick_ft, pick_u, reg_some, thn_normal, thn_exit, thn_ret, cnd_t, cnd_f, blk_normal, blk_ret, blk_exit, x_seq, x_region, x_cond, x_block, x_loop, x_ret, x_exit, x_skip, e_mov, e_pick, pk_t, pk_f, withH_some, e_box, e_load, e_store, stH_some, e_nil, e_bin, e_eqv, eqH_f, eqH_t, e_un, e_fa, e_ia, ia_eq, nat_eq, natV_nat, e_len, lnH_some, e_extract, ex_0, ex_1, e_call0, e_call1, e_call2, e_call3, pc0_eq, pc1_some, pc2_some, pc3_some, fin_some, g_var0, g_vars, g_loc0, g_locs, g_int, g_bool, g_str, g_sl, s_none, s_zero, s_succ, cl_nil, cl_str, cl_bool, cl_slc, cl_own, evFa, evNil, asEl, evBin, intBin, strBin, evUn, len_nil, len_slc, len_str, clr, List.length_nil, List.length_cons, List.getElem?_cons_zero, List.getElem?_cons_succ, Nat.reduceAdd, Nat.zero_add, Nat.add_zero, Nat.reduceLeDiff, Nat.reduceSub, ↓reduceIte, List.drop_succ_cons, List.drop_zero, List.take_succ_cons, List.take_zero, Bool.false_eq_true, List.nil_append, List.cons_append, Bool.not_true, Bool.not_false, cond_true, cond_false, bne, lv_ret, lv_normal, res1, res2, lv2_some, res_var, res_cell, lvf_v, lvf_slc, res1c, lvo1_some, e_mm, mm_max, mm_min]
        rw [leave_own rfl hb, hres, own_res1 (x := .agg [.v (.int .i64 k), .v (.string s), .v (.int .i64 n'), .own 4 (H.length + 2) 0 0 es.length]) _]
        · refine lvo_one ?_
          have hn : ¬ (H.length + 2 < H.length) := by omega
          simp [AV.frz2, AV.frz1, AV.frz0, hn, rowAt, hds [], g3]
          rw [← g3]; simp
        · simp only [res_cell, h_ld, ldAt, e_bslice1, e_bslice2, bs1, bs2, e_build, bdH_some, bd_nil, bd_cons, bd1, cl_agg, cl_int, toL, List.map_cons, List.map_nil, putAt, List.set_cons_zero, List.set_cons_succ, and_self, Nat.le_refl, app_get, app_set, g_agg, run_nil, run_cons, stp_plain, stp_guard, put_some, pass_eq, pick_tt, pick_ff, pick_tf, pick_ft, pick_u, reg_some, thn_normal, thn_exit, thn_ret, cnd_t, cnd_f, blk_normal, blk_ret, blk_exit, x_seq, x_region, x_cond, x_block, x_loop, x_ret, x_exit, x_skip, e_mov, e_pick, pk_t, pk_f, withH_some, e_box, e_load, e_store, stH_some, e_nil, e_bin, e_eqv, eqH_f, eqH_t, e_un, e_fa, e_ia, ia_eq, nat_eq, natV_nat, e_len, lnH_some, e_extract, ex_0, ex_1, e_call0, e_call1, e_call2, e_call3, pc0_eq, pc1_some, pc2_some, pc3_some, fin_some, g_var0, g_vars, g_loc0, g_locs, g_int, g_bool, g_str, g_sl, s_none, s_zero, s_succ, cl_nil, cl_str, cl_bool, cl_slc, cl_own, evFa, evNil, asEl, evBin, intBin, strBin, evUn, len_nil, len_slc, len_str, clr, List.length_nil, List.length_cons, List.getElem?_cons_zero, List.getElem?_cons_succ, Nat.reduceAdd, Nat.zero_add, Nat.add_zero, Nat.reduceLeDiff, Nat.reduceSub, ↓reduceIte, List.drop_succ_cons, List.drop_zero, List.take_succ_cons, List.take_zero, Bool.false_eq_true, List.nil_append, List.cons_append, Bool.not_true, Bool.not_false, cond_true, cond_false, bne, lv_ret, lv_normal, res1, res2, lv2_some, res_var, res_cell, lvf_v, lvf_slc, res1c, lvo1_some, e_mm, mm_max, mm_min]
    have hstart : ∀ (r : AV) , leave H.length c55 (exec (callW F) (l.length + 1) (.seq (.region [] [] c55_0) (.seq (.seq (.region [] [] c55_1) (.cond (.var 7) (.region [] [] c55_2) .skip)) (.seq (.seq (.region [] [] c55_3) (.cond (.var 8) (.seq (.region [] [] c55_4) (.seq (.region [] [] c55_5) .ret)) .skip)) (.seq (.region [] [] c55_6) (.seq (.seq (.region [] [] c55_7) (.block 0 (.loop K49 [] c55_12))) (.seq (.region [] [] c55_13) (.seq (.region [] [] c55_14) .ret))))))) (start c55 [.agg [.v (.int .i64 k), .v (.string s), .v (.int .i64 n), c], fnV id]) (H ++ [])) = some (r, H) → callW F 55 [.agg [.v (.int .i64 k), .v (.string s), .v (.int .i64 n), c], fnV id] H = some (r, H) :=
      fun r hr => callW_own (c := c55) rfl rfl (l.length + 1) hr
    by_cases hk : k = 1
    · have h1 : (k == 1) = true := by simpa using hk
      obtain ⟨r, hr, hlv⟩ := rest (IntKind.i64.wrap (n + x)) (.agg [.v (.int .i64 k), .v (.string s), .v (.int .i64 n), c]) true
      refine ⟨r, by rw [shiftT, if_pos hk]; exact hr, hstart r ?_⟩
      rw [← hlv]
      generalize (CC.seq (.seq (.region [] [] c55_3) (.cond (.var 8) (.seq (.region [] [] c55_4) (.seq (.region [] [] c55_5) .ret)) .skip)) (.seq (.region [] [] c55_6) (.seq (.seq (.region [] [] c55_7) (.block 0 (.loop K49 [] c55_12))) (.seq (.region [] [] c55_13) (.seq (.region [] [] c55_14) .ret))))) = rest'
      have hb2 : (H ++ [.box 24 [.v (.int .i64 k), .v (.string s), .v (.int .i64 n), c], .box 24 zeroC] : List AO).all (AO.below (H ++ [.box 24 [.v (.int .i64 k), .v (.string s), .v (.int .i64 n), c], .box 24 zeroC] : List AO).length) = true := by
        rw [List.all_append, Bool.and_eq_true]
        refine ⟨all_below_mono (by simp) hb, all_below_mono (Nat.zero_le _) ?_⟩
        have hz : (AO.box 24 zeroC).below 0 = true := rfl
        simp only [AV.cells] at hbela
        have hbela : AO.below 0 (.box 24 [.v (.int .i64 k), .v (.string s), .v (.int .i64 n), c]) = true := hbela
        simp only [List.all_cons, List.all_nil, hbela, hz, Bool.and_true]
      have ht := turn_ok (x := x) (his_get hid) hb2 n
      simp only [zeroC] at ht
      simp only [start49, fnV, zeroC, c55_0, c55_1, c55_2, h1, ht, q9z, e_callv, cv_fn, h_ld, h_ld0, h_st, h_st0, h_bx, ldAt, stAt, preH_some, List.append_assoc, e_bslice1, e_bslice2, bs1, bs2, e_build, bdH_some, bd_nil, bd_cons, bd1, cl_agg, cl_int, toL, List.map_cons, List.map_nil, putAt, List.set_cons_zero, List.set_cons_succ, and_self, Nat.le_refl, app_get, app_set, g_agg, run_nil, run_cons, stp_plain, stp_guard, put_some, pass_eq, pick_tt, pick_ff, pick_tf, pick_ft, pick_u, reg_some, thn_normal, thn_exit, thn_ret, cnd_t, cnd_f, blk_normal, blk_ret, blk_exit, x_seq, x_region, x_cond, x_block, x_loop, x_ret, x_exit, x_skip, e_mov, e_pick, pk_t, pk_f, withH_some, e_box, e_load, e_store, stH_some, e_nil, e_bin, e_eqv, eqH_f, eqH_t, e_un, e_fa, e_ia, ia_eq, nat_eq, natV_nat, e_len, lnH_some, e_extract, ex_0, ex_1, e_call0, e_call1, e_call2, e_call3, pc0_eq, pc1_some, pc2_some, pc3_some, fin_some, g_var0, g_vars, g_loc0, g_locs, g_int, g_bool, g_str, g_sl, s_none, s_zero, s_succ, cl_nil, cl_str, cl_bool, cl_slc, cl_own, evFa, evNil, asEl, evBin, intBin, strBin, evUn, len_nil, len_slc, len_str, clr, List.length_nil, List.length_cons, List.getElem?_cons_zero, List.getElem?_cons_succ, Nat.reduceAdd, Nat.zero_add, Nat.add_zero, Nat.reduceLeDiff, Nat.reduceSub, ↓reduceIte, List.drop_succ_cons, List.drop_zero, List.take_succ_cons, List.take_zero, Bool.false_eq_true, List.nil_append, List.cons_append, Bool.not_true, Bool.not_false, cond_true, cond_false, bne, lv_ret, lv_normal, res1, res2, lv2_some, res_var, res_cell, lvf_v, lvf_slc, res1c, lvo1_some, e_mm, mm_max, mm_min]
    · have h1 : (k == 1) = false := by simpa using hk
      obtain ⟨r, hr, hlv⟩ := rest n (.agg [.v (.int .i64 k), .v (.string s), .v (.int .i64 n), c]) false
      refine ⟨r, by rw [shiftT, if_neg hk]; exact hr, hstart r ?_⟩
      rw [← hlv]
      generalize (CC.seq (.seq (.region [] [] c55_3) (.cond (.var 8) (.seq (.region [] [] c55_4) (.seq (.region [] [] c55_5) .ret)) .skip)) (.seq (.region [] [] c55_6) (.seq (.seq (.region [] [] c55_7) (.block 0 (.loop K49 [] c55_12))) (.seq (.region [] [] c55_13) (.seq (.region [] [] c55_14) .ret))))) = rest'
      simp only [start49, fnV, zeroC, c55_0, c55_1, h1, q9z, h_ld, h_ld0, h_st, h_st0, h_bx, ldAt, stAt, preH_some, List.append_assoc, e_bslice1, e_bslice2, bs1, bs2, e_build, bdH_some, bd_nil, bd_cons, bd1, cl_agg, cl_int, toL, List.map_cons, List.map_nil, putAt, List.set_cons_zero, List.set_cons_succ, and_self, Nat.le_refl, app_get, app_set, g_agg, run_nil, run_cons, stp_plain, stp_guard, put_some, pass_eq, pick_tt, pick_ff, pick_tf, pick_ft, pick_u, reg_some, thn_normal, thn_exit, thn_ret, cnd_t, cnd_f, blk_normal, blk_ret, blk_exit, x_seq, x_region, x_cond, x_block, x_loop, x_ret, x_exit, x_skip, e_mov, e_pick, pk_t, pk_f, withH_some, e_box, e_load, e_store, stH_some, e_nil, e_bin, e_eqv, eqH_f, eqH_t, e_un, e_fa, e_ia, ia_eq, nat_eq, natV_nat, e_len, lnH_some, e_extract, ex_0, ex_1, e_call0, e_call1, e_call2, e_call3, pc0_eq, pc1_some, pc2_some, pc3_some, fin_some, g_var0, g_vars, g_loc0, g_locs, g_int, g_bool, g_str, g_sl, s_none, s_zero, s_succ, cl_nil, cl_str, cl_bool, cl_slc, cl_own, evFa, evNil, asEl, evBin, intBin, strBin, evUn, len_nil, len_slc, len_str, clr, List.length_nil, List.length_cons, List.getElem?_cons_zero, List.getElem?_cons_succ, Nat.reduceAdd, Nat.zero_add, Nat.add_zero, Nat.reduceLeDiff, Nat.reduceSub, ↓reduceIte, List.drop_succ_cons, List.drop_zero, List.take_succ_cons, List.take_zero, Bool.false_eq_true, List.nil_append, List.cons_append, Bool.not_true, Bool.not_false, cond_true, cond_false, bne, lv_ret, lv_normal, res1, res2, lv2_some, res_var, res_cell, lvf_v, lvf_slc, res1c, lvo1_some, e_mm, mm_max, mm_min]

theorem shift34 (x : Int) {t : Tm} {a : AV} (hsz : size t ≤ 100000) (ha : IsT a t) : ∃ r, IsT r (shiftT x t) ∧ callW F 23 [a, .v (.int .i64 x)] [] = some (r, []) := by
  have hb : ([.box 24 a.cells, .box 2 [.v (.int .i64 x)], .box 24 zeroC] : List AO).all (AO.below 3) = true := by
    have : AO.below 3 (.box 24 a.cells) = true := below_mono (Nat.zero_le 3) _ ha.bel
    simp only [List.all_cons, List.all_nil, this, Bool.and_true]; rfl
  obtain ⟨r, hr, hc⟩ := each49 x 1 _ t a [.box 24 a.cells, .box 2 [.v (.int .i64 x)], .box 24 zeroC] (Nat.lt_succ_self _) hsz ha rfl hb
  refine ⟨r, hr, callW_pure (c := c23) rfl rfl 0 ?_⟩
  have g := lv1 hr
  generalize shiftT x t = u at hr
  cases hr
  cases ha
  simp only [AV.cells, zeroC, fnV] at hc
  simp only [c23, start, List.replicate, c23_0, c23_1, hc, g, e_mkfn, e_callh, q9z, e_bslice1, e_bslice2, bs1, bs2, e_build, bdH_some, bd_nil, bd_cons, bd1, cl_agg, cl_int, toL, List.map_cons, List.map_nil, putAt, List.set_cons_zero, List.set_cons_succ, and_self, Nat.le_refl, evStore, app_get, app_set, g_agg, run_nil, run_cons, stp_plain, stp_guard, put_some, pass_eq, pick_tt, pick_ff, pick_tf, pick_ft, pick_u, reg_some, thn_normal, thn_exit, thn_ret, cnd_t, cnd_f, blk_normal, blk_ret, blk_exit, x_seq, x_region, x_cond, x_block, x_loop, x_ret, x_exit, x_skip, e_mov, e_pick, pk_t, pk_f, withH_some, e_box, bx_some, e_load, e_store, stH_some, e_nil, e_bin, e_eqv, eqH_f, eqH_t, e_un, e_fa, e_ia, ia_eq, nat_eq, natV_nat, e_len, lnH_some, e_extract, ex_0, ex_1, e_call0, e_call1, e_call2, e_call3, pc0_eq, pc1_some, pc2_some, pc3_some, fin_some, g_var0, g_vars, g_loc0, g_locs, g_int, g_bool, g_str, g_sl, s_none, s_zero, s_succ, cl_nil, cl_str, cl_bool, cl_slc, cl_own, evFa, evNil, evLoad, asEl, evBin, intBin, strBin, evUn, len_nil, len_slc, len_str, clr, List.length_nil, List.length_cons, List.getElem?_cons_zero, List.getElem?_cons_succ, Nat.reduceAdd, Nat.zero_add, Nat.add_zero, Nat.reduceLeDiff, Nat.reduceSub, ↓reduceIte, List.drop_succ_cons, List.drop_zero, List.take_succ_cons, List.take_zero, Bool.false_eq_true, List.nil_append, List.cons_append, Bool.not_true, Bool.not_false, cond_true, cond_false, bne, lv_ret, lv_normal, res1, res2, lv2_some, res_var, res_cell, lvf_v, lvf_slc, res1c, lvo1_some, e_mm, mm_max, mm_min]
end
end Go.AE.YtgcbaefclkfnoaaDoor
end

/-! Copy of the program: the same term. -/
section
set_option linter.unusedVariables false
set_option linter.unusedSimpArgs false
namespace Go.AE.YtgcbaefclkfnoaaDoor
open Go Go.AE Go.Proofs.YtgcbaefclkfnoaaDoor

def fnC : AV := .fn (.func 57) [] []
theorem turnc_ok {H : List AO} (hb : H.all (AO.below H.length) = true) (n : Int) : callW F 57 [.v (.int .i64 n)] H = some (.v (.int .i64 n), H) := by
  refine callW_own (c := c57) rfl rfl 0 ?_
  have body : exec (callW F) 0 c57.body (start c57 [.v (.int .i64 n)]) (H ++ []) = some (.ret, [.v (.int .i64 n), .v (.int .i64 n)], H ++ []) := by
    simp only [c57, start, List.replicate, c57_0, c57_1, e_bslice1, e_bslice2, bs1, bs2, e_build, bdH_some, bd_nil, bd_cons, bd1, cl_agg, cl_int, toL, List.map_cons, List.map_nil, putAt, List.set_cons_zero, List.set_cons_succ, and_self, Nat.le_refl, app_get, app_set, g_agg, run_nil, run_cons, stp_plain, stp_guard, put_some, pass_eq, pick_tt, pick_ff, pick_tf, pick_ft, pick_u, reg_some, thn_normal, thn_exit, thn_ret, cnd_t, cnd_f, blk_normal, blk_ret, blk_exit, x_seq, x_region, x_cond, x_block, x_loop, x_ret, x_exit, x_skip, e_mov, e_pick, pk_t, pk_f, withH_some, e_box, bx_some, e_load, e_store, stH_some, e_nil, e_bin, e_eqv, eqH_f, eqH_t, e_un, e_fa, e_ia, ia_eq, nat_eq, natV_nat, e_len, lnH_some, e_extract, ex_0, ex_1, e_call0, e_call1, e_call2, e_call3, pc0_eq, pc1_some, pc2_some, pc3_some, fin_some, g_var0, g_vars, g_loc0, g_locs, g_int, g_bool, g_str, g_sl, s_none, s_zero, s_succ, cl_nil, cl_str, cl_bool, cl_slc, cl_own, evFa, evNil, asEl, evBin, intBin, strBin, evUn, len_nil, len_slc, len_str, clr, List.length_nil, List.length_cons, List.getElem?_cons_zero, List.getElem?_cons_succ, Nat.reduceAdd, Nat.zero_add, Nat.add_zero, Nat.reduceLeDiff, Nat.reduceSub, ↓reduceIte, List.drop_succ_cons, List.drop_zero, List.take_succ_cons, List.take_zero, Bool.false_eq_true, List.nil_append, List.cons_append, Bool.not_true, Bool.not_false, cond_true, cond_false, bne, lv_ret, lv_normal, res1, res2, lv2_some, res_var, res_cell, lvf_v, lvf_slc, res1c, lvo1_some, e_mm, mm_max, mm_min]
  rw [body, leave_own rfl hb]
  exact lvo_one rfl
section
variable {H : List AO} {l : List AO}
def L49c (B n : Nat) (c : AV) (i : Int) : List AV := [.junk, fnC, .ptr B 0, .ptr (B + 1) 0, .own 4 (B + 2) 0 0 n, .junk, .junk, .junk, .junk, c, .v (.int .i64 n), .v (.int .i64 i), .junk]
theorem eachc_loop {K : Nat} {c : AV} {es : List AV} {cs0 cs1 : List AV} (hs : Sl 4 c es) (hm : es.length ≤ 100000) (hb : H.all (AO.below H.length) = true) (hb0 : (AO.box 24 cs0).below 0 = true) (hb1 : (AO.box 24 cs1).below 0 = true) :
    ∀ (l : List Tm) (i : Nat) (ds : List AV) (dl : List Tm) (tail : List AO) (vars : List AV), i + l.length = es.length → ds.length = i → All2 (es.drop i) l → All2 ds dl → tail.all (AO.below 0) = true →
      (∀ t ∈ l, ∀ (e : AV) (H' : List AO), IsT e t → H'.all (AO.below H'.length) = true → ∃ r, IsT r (t) ∧ callW F 55 [e, fnC] H' = some (r, H')) →
      clr K49 vars = L49c H.length es.length c i →
      ∃ ds' tail' x5 x6 x7 x8 x12, loopN (exec (callW F) K c55_12) K49 (l.length + 1) vars (H ++ (.box 24 cs0 :: .box 24 cs1 :: .row 24 4 0 (ds ++ List.replicate l.length (.agg zeroC)) 0 :: tail)) = some (.exit 0, [.junk, fnC, .ptr H.length 0, .ptr (H.length + 1) 0, .own 4 (H.length + 2) 0 0 es.length, x5, x6, x7, x8, c, .v (.int .i64 es.length), .v (.int .i64 es.length), x12], H ++ (.box 24 cs0 :: .box 24 cs1 :: .row 24 4 0 ds' 0 :: tail')) ∧ All2 ds' (dl ++ l) ∧ ds'.length = es.length := by
  intro l
  induction l with
  | nil =>
    intro i ds dl tail vars hi hds _ hall htl _ hv
    have hil : i = es.length := by simpa using hi
    subst hil
    have hlt : decide ((es.length : Int) < (es.length : Int)) = false := by simp
    refine ⟨ds, tail, .junk, .junk, .junk, .junk, .v (.bool false), loop_exit ?_, by simpa using hall, hds⟩
    rw [hv]
    simp only [L49c, c55_12, c55_8, hlt, List.replicate, List.append_nil, e_bslice1, e_bslice2, bs1, bs2, e_build, bdH_some, bd_nil, bd_cons, bd1, cl_agg, cl_int, toL, List.map_cons, List.map_nil, putAt, List.set_cons_zero, List.set_cons_succ, and_self, Nat.le_refl, app_get, app_set, g_agg, run_nil, run_cons, stp_plain, stp_guard, put_some, pass_eq, pick_tt, pick_ff, pick_tf, pick_ft, pick_u, reg_some, thn_normal, thn_exit, thn_ret, cnd_t, cnd_f, blk_normal, blk_ret, blk_exit, x_seq, x_region, x_cond, x_block, x_loop, x_ret, x_exit, x_skip, e_mov, e_pick, pk_t, pk_f, withH_some, e_box, e_load, e_store, stH_some, e_nil, e_bin, e_eqv, eqH_f, eqH_t, e_un, e_fa, e_ia, ia_eq, nat_eq, natV_nat, e_len, lnH_some, e_extract, ex_0, ex_1, e_call0, e_call1, e_call2, e_call3, pc0_eq, pc1_some, pc2_some, pc3_some, fin_some, g_var0, g_vars, g_loc0, g_locs, g_int, g_bool, g_str, g_sl, s_none, s_zero, s_succ, cl_nil, cl_str, cl_bool, cl_slc, cl_own, evFa, evNil, asEl, evBin, intBin, strBin, evUn, len_nil, len_slc, len_str, clr, List.length_nil, List.length_cons, List.getElem?_cons_zero, List.getElem?_cons_succ, Nat.reduceAdd, Nat.zero_add, Nat.add_zero, Nat.reduceLeDiff, Nat.reduceSub, ↓reduceIte, List.drop_succ_cons, List.drop_zero, List.take_succ_cons, List.take_zero, Bool.false_eq_true, List.nil_append, List.cons_append, Bool.not_true, Bool.not_false, cond_true, cond_false, bne, lv_ret, lv_normal, res1, res2, lv2_some, res_var, res_cell, lvf_v, lvf_slc, res1c, lvo1_some, e_mm, mm_max, mm_min]
  | cons t l ih =>
    intro i ds dl tail vars hi hds hes hall htl hcall hv
    have hil : i < es.length := by simp at hi; omega
    have he : es[i]? = some (es[i]'hil) := List.getElem?_eq_getElem _
    have hd : es.drop i = es[i] :: es.drop (i + 1) := List.drop_eq_getElem_cons hil
    rw [hd] at hes
    generalize es[i]'hil = e at hes he
    cases hes with
    | cons _ _ _ _ hT hs' =>
    have hlt : (decide ((i : Int) < (es.length : Int))) = true := by simp; omega
    have hlen : (ds ++ List.replicate (t :: l).length (AV.agg zeroC)).length = es.length := by simp at hi ⊢; omega
    have tl2 : (tail ++ [AO.box 24 e.cells]).all (AO.below 0) = true := by
      have : AO.below 0 (.box 24 e.cells) = true := hT.bel
      simp only [List.all_append, List.all_cons, List.all_nil, htl, this, Bool.and_true]
    have hbl : (H ++ (.box 24 cs0 :: .box 24 cs1 :: .row 24 4 0 (ds ++ List.replicate (t :: l).length (.agg zeroC)) 0 :: (tail ++ [AO.box 24 e.cells])) : List AO).all (AO.below (H ++ (.box 24 cs0 :: .box 24 cs1 :: .row 24 4 0 (ds ++ List.replicate (t :: l).length (.agg zeroC)) 0 :: (tail ++ [AO.box 24 e.cells])) : List AO).length) = true := by
      rw [List.all_append, Bool.and_eq_true]
      refine ⟨all_below_mono (by simp) hb, all_below_mono (Nat.zero_le _) ?_⟩
      have hr : ∀ L : List AV, (AO.row 24 4 0 L 0).below 0 = true := fun _ => rfl
      simp only [List.all_cons, hb0, hb1, hr, tl2, Bool.and_true]
    obtain ⟨r, hr, hc⟩ := hcall t (by simp) _ _ hT hbl
    have q1 := hs.ia he
    have q3 : ∀ h : List AO, evLoad h true 4 (.ip e.cells) = some e := fun h => hT.load
    have q4 : e.cl = some e.cells := hT.cl.1
    have q4b : e.cells.length = 4 := hT.cl.2
    have q5 := hT.asEl
    -- the row
    have row : ∀ tl : List AO, (AO.box 24 cs0 :: .box 24 cs1 :: .row 24 4 0 (ds ++ List.replicate (t :: l).length (.agg zeroC)) 0 :: tl : List AO)[2]? = some (.row 24 4 0 (ds ++ List.replicate (t :: l).length (.agg zeroC)) 0) := fun _ => rfl
    have q7 := own_ia (sz := 4) (H := H) rfl (row (tail ++ [AO.box 24 e.cells])) (n := es.length) (by omega) hil
    have hel : (ds ++ List.replicate (t :: l).length (AV.agg zeroC))[i]? = some (.agg zeroC) := by
      rw [List.getElem?_append_right (by omega)]
      simp [hds, List.replicate]
    have q8 := own_est (sz := 4) (H := H) rfl (row (tail ++ [AO.box 24 e.cells])) hel rfl (x := r) (hr.snap) hr.cl.1 hr.cl.2 hr.cellB
    have hset : (ds ++ List.replicate (t :: l).length (AV.agg zeroC)).set i (AV.agg r.cells) = (ds ++ [r]) ++ List.replicate l.length (AV.agg zeroC) := by
      rw [List.set_append_right _ _ (by omega)]
      have : AV.agg r.cells = r := hr.eta
      rw [this]
      simp [hds, List.replicate]
    rw [hset] at q8
    simp only [List.set_cons_succ, List.set_cons_zero] at q8
    have st : ∀ R R2, R = ds ++ List.replicate (t :: l).length (AV.agg zeroC) → R2 = (ds ++ [r]) ++ List.replicate l.length (AV.agg zeroC) → exec (callW F) K c55_12 (L49c H.length es.length c i) (H ++ (.box 24 cs0 :: .box 24 cs1 :: .row 24 4 0 R 0 :: tail)) = some (.normal, [.junk, fnC, .ptr H.length 0, .ptr (H.length + 1) 0, .own 4 (H.length + 2) 0 0 es.length, .v (.int .i64 i), .ptr (H.length + (tail.length + 1 + 1 + 1)) 0, .junk, .junk, c, .v (.int .i64 es.length), .v (.int .i64 ((i + 1 : Nat) : Int)), .v (.bool true)], H ++ (.box 24 cs0 :: .box 24 cs1 :: .row 24 4 0 R2 0 :: (tail ++ [AO.box 24 e.cells]))) := by
      intro R R2 hR hR2
      rw [← hR] at hc q7 q8
      rw [← hR2] at q8
      have hst : ∀ (q : AV), evStore (H ++ (.box 24 cs0 :: .box 24 cs1 :: .row 24 4 0 R 0 :: (tail ++ [AO.box 24 zeroC]))) 4 (.ptr (H.length + (tail.length + 1 + 1 + 1)) 0) e = some (H ++ (.box 24 cs0 :: .box 24 cs1 :: .row 24 4 0 R 0 :: (tail ++ [AO.box 24 e.cells]))) := by
        intro q
        have hg := hT
        cases hg with
        | mk k s n c2 l2 hc2 =>
        simp only [h_st, stAt, zeroC, AV.cells, e_bslice1, e_bslice2, bs1, bs2, e_build, bdH_some, bd_nil, bd_cons, bd1, cl_agg, cl_int, toL, List.map_cons, List.map_nil, putAt, List.set_cons_zero, List.set_cons_succ, and_self, Nat.le_refl, app_get, app_set, g_agg, run_nil, run_cons, stp_plain, stp_guard, put_some, pass_eq, pick_tt, pick_ff, pick_tf, pick_ft, pick_u, reg_some, thn_normal, thn_exit, thn_ret, cnd_t, cnd_f, blk_normal, blk_ret, blk_exit, x_seq, x_region, x_cond, x_block, x_loop, x_ret, x_exit, x_skip, e_mov, e_pick, pk_t, pk_f, withH_some, e_box, e_load, e_store, stH_some, e_nil, e_bin, e_eqv, eqH_f, eqH_t, e_un, e_fa, e_ia, ia_eq, nat_eq, natV_nat, e_len, lnH_some, e_extract, ex_0, ex_1, e_call0, e_call1, e_call2, e_call3, pc0_eq, pc1_some, pc2_some, pc3_some, fin_some, g_var0, g_vars, g_loc0, g_locs, g_int, g_bool, g_str, g_sl, s_none, s_zero, s_succ, cl_nil, cl_str, cl_bool, cl_slc, cl_own, evFa, evNil, asEl, evBin, intBin, strBin, evUn, len_nil, len_slc, len_str, clr, List.length_nil, List.length_cons, List.getElem?_cons_zero, List.getElem?_cons_succ, Nat.reduceAdd, Nat.zero_add, Nat.add_zero, Nat.reduceLeDiff, Nat.reduceSub, ↓reduceIte, List.drop_succ_cons, List.drop_zero, List.take_succ_cons, List.take_zero, Bool.false_eq_true, List.nil_append, List.cons_append, Bool.not_true, Bool.not_false, cond_true, cond_false, bne, lv_ret, lv_normal, res1, res2, lv2_some, res_var, res_cell, lvf_v, lvf_slc, res1c, lvo1_some, e_mm, mm_max, mm_min]
        rfl
      have hld : evLoad (H ++ (.box 24 cs0 :: .box 24 cs1 :: .row 24 4 0 R 0 :: (tail ++ [AO.box 24 e.cells]))) true 4 (.ptr (H.length + (tail.length + 1 + 1 + 1)) 0) = some e := by
        rw [h_ld]
        simp only [ldAt, List.getElem?_cons_succ, app_get, q4b, List.drop_zero, q5]
        rfl
      have hst' := hst .junk
      simp only [zeroC] at hst'
      simp only [L49c, zeroC, c55_12, c55_8, c55_9, c55_10, c55_11, hlt, wrap_succ hil (small_max hm), q1, q3, q7, q8, hc, hst', hld, e_callh, q9z, h_bx, e_bslice1, e_bslice2, bs1, bs2, e_build, bdH_some, bd_nil, bd_cons, bd1, cl_agg, cl_int, toL, List.map_cons, List.map_nil, putAt, List.set_cons_zero, List.set_cons_succ, and_self, Nat.le_refl, app_get, app_set, g_agg, run_nil, run_cons, stp_plain, stp_guard, put_some, pass_eq, pick_tt, pick_ff, pick_tf, pick_ft, pick_u, reg_some, thn_normal, thn_exit, thn_ret, cnd_t, cnd_f, blk_normal, blk_ret, blk_exit, x_seq, x_region, x_cond, x_block, x_loop, x_ret, x_exit, x_skip, e_mov, e_pick, pk_t, pk_f, withH_some, e_box, e_load, e_store, stH_some, e_nil, e_bin, e_eqv, eqH_f, eqH_t, e_un, e_fa, e_ia, ia_eq, nat_eq, natV_nat, e_len, lnH_some, e_extract, ex_0, ex_1, e_call0, e_call1, e_call2, e_call3, pc0_eq, pc1_some, pc2_some, pc3_some, fin_some, g_var0, g_vars, g_loc0, g_locs, g_int, g_bool, g_str, g_sl, s_none, s_zero, s_succ, cl_nil, cl_str, cl_bool, cl_slc, cl_own, evFa, evNil, asEl, evBin, intBin, strBin, evUn, len_nil, len_slc, len_str, clr, List.length_nil, List.length_cons, List.getElem?_cons_zero, List.getElem?_cons_succ, Nat.reduceAdd, Nat.zero_add, Nat.add_zero, Nat.reduceLeDiff, Nat.reduceSub, ↓reduceIte, List.drop_succ_cons, List.drop_zero, List.take_succ_cons, List.take_zero, Bool.false_eq_true, List.nil_append, List.cons_append, Bool.not_true, Bool.not_false, cond_true, cond_false, bne, lv_ret, lv_normal, res1, res2, lv2_some, res_var, res_cell, lvf_v, lvf_slc, res1c, lvo1_some, e_mm, mm_max, mm_min]
    rw [show (t :: l).length + 1 = (l.length + 1) + 1 from rfl, loop_normal (by rw [hv]; exact st _ _ rfl rfl)]
    obtain ⟨ds', tail', x5, x6, x7, x8, x12, g1, g2, g3⟩ := ih (i + 1) (ds ++ [r]) (dl ++ [t]) (tail ++ [AO.box 24 e.cells]) [.junk, fnC, .ptr H.length 0, .ptr (H.length + 1) 0, .own 4 (H.length + 2) 0 0 es.length, .v (.int .i64 i), .ptr (H.length + (tail.length + 1 + 1 + 1)) 0, .junk, .junk, c, .v (.int .i64 es.length), .v (.int .i64 ((i + 1 : Nat) : Int)), .v (.bool true)] (by simp at hi; omega) (by simp [hds]) hs' (hall.app (.one hr)) tl2 (fun t ht => hcall t (by simp [ht])) rfl
    refine ⟨ds', tail', x5, x6, x7, x8, x12, g1, ?_, g3⟩
    simpa using g2

theorem eachc : ∀ (N : Nat) (t : Tm) (a : AV) (H : List AO), SizeOf.sizeOf t < N → size t ≤ 100000 → IsT a t → H.all (AO.below H.length) = true → ∃ r, IsT r (t) ∧ callW F 55 [a, fnC] H = some (r, H) := by
  intro N
  induction N with
  | zero => intro t a H h; omega
  | succ N ih =>
    intro t a H hN hsz ha hb
    have hbela := ha.bel
    cases ha with
    | mk k s n c l hc =>
    have h5 := Tm.mk.sizeOf_spec k s n l
    simp only [size] at hsz
    have hll := sizeL_len l
    have hcall : ∀ t ∈ l, ∀ (e : AV) (H' : List AO), IsT e t → H'.all (AO.below H'.length) = true → ∃ r, IsT r (t) ∧ callW F 55 [e, fnC] H' = some (r, H') := by
      intro t ht e H' hT
      have h6 := List.sizeOf_lt_of_mem ht
      have h7 := size_mem ht
      exact ih t e H' (by omega) (by omega) hT
    obtain ⟨es, hs, hes, hm⟩ := hc.sl
    have e1 := hes.length
    -- behind the number
    have rest : ∀ (n' : Int) (y : AV) (m : Bool), ∃ r, IsT r (.mk k s n' (l)) ∧ leave H.length c55 (exec (callW F) (l.length + 1) (.seq (.seq (.region [] [] c55_3) (.cond (.var 8) (.seq (.region [] [] c55_4) (.seq (.region [] [] c55_5) .ret)) .skip)) (.seq (.region [] [] c55_6) (.seq (.seq (.region [] [] c55_7) (.block 0 (.loop K49 [] c55_12))) (.seq (.region [] [] c55_13) (.seq (.region [] [] c55_14) .ret)))))
        [y, fnC, .ptr H.length 0, .ptr (H.length + 1) 0, .v undef, .v undef, .v undef, .v (.bool m), .v undef, .v undef, .v undef, .v undef, .v undef] (H ++ [.box 24 [.v (.int .i64 k), .v (.string s), .v (.int .i64 n'), c], .box 24 zeroC])) = some (r, H) := by
      intro n' y m
      have hres : c55.res = [.cell 3 true 4] := rfl
      rcases Nat.eq_zero_or_pos l.length with h0 | h0
      · have hl0 : l = [] := List.length_eq_zero_iff.1 h0
        subst hl0
        have he0 : es = [] := List.length_eq_zero_iff.1 (by simpa using e1)
        subst he0
        have h1 : (((0 : Nat) : Int) == 0) = true := rfl
        refine ⟨.agg [.v (.int .i64 k), .v (.string s), .v (.int .i64 n'), .v (.slice none 0 0)], .mk _ _ _ _ _ .nil, ?_⟩
        simp only [zeroC, c55_3, c55_4, c55_5, h1, hs.len, h_ld, h_ld0, h_st, h_st0, h_bx, ldAt, stAt, preH_some, List.append_assoc, e_bslice1, e_bslice2, bs1, bs2, e_build, bdH_some, bd_nil, bd_cons, bd1, cl_agg, cl_int, toL, List.map_cons, List.map_nil, putAt, List.set_cons_zero, List.set_cons_succ, and_self, Nat.le_refl, app_get, app_set, g_agg, run_nil, run_cons, stp_plain, stp_guard, put_some, pass_eq, pick_tt, pick_ff, pick_tf, pick_ft, pick_u, reg_some, thn_normal, thn_exit, thn_ret, cnd_t, cnd_f, blk_normal, blk_ret, blk_exit, x_seq, x_region, x_cond, x_block, x_loop, x_ret, x_exit, x_skip, e_mov, e_pick, pk_t, pk_f, withH_some, e_box, e_load, e_store, stH_some, e_nil, e_bin, e_eqv, eqH_f, eqH_t, e_un, e_fa, e_ia, ia_eq, nat_eq, natV_nat, e_len, lnH_some, e_extract, ex_0, ex_1, e_call0, e_call1, e_call2, e_call3, pc0_eq, pc1_some, pc2_some, pc3_some, fin_some, g_var0, g_vars, g_loc0, g_locs, g_int, g_bool, g_str, g_sl, s_none, s_zero, s_succ, cl_nil, cl_str, cl_bool, cl_slc, cl_own, evFa, evNil, asEl, evBin, intBin, strBin, evUn, len_nil, len_slc, len_str, clr, List.length_nil, List.length_cons, List.getElem?_cons_zero, List.getElem?_cons_succ, Nat.reduceAdd, Nat.zero_add, Nat.add_zero, Nat.reduceLeDiff, Nat.reduceSub, ↓reduceIte, List.drop_succ_cons, List.drop_zero, List.take_succ_cons, List.take_zero, Bool.false_eq_true, List.nil_append, List.cons_append, Bool.not_true, Bool.not_false, cond_true, cond_false, bne, lv_ret, lv_normal, res1, res2, lv2_some, res_var, res_cell, lvf_v, lvf_slc, res1c, lvo1_some, e_mm, mm_max, mm_min]
        rw [leave_own rfl hb, hres, own_res1 (x := .agg [.v (.int .i64 k), .v (.string s), .v (.int .i64 n'), .v (.slice none 0 0)]) _]
        · exact lvo_one rfl
        · simp only [res_cell, h_ld, ldAt, e_bslice1, e_bslice2, bs1, bs2, e_build, bdH_some, bd_nil, bd_cons, bd1, cl_agg, cl_int, toL, List.map_cons, List.map_nil, putAt, List.set_cons_zero, List.set_cons_succ, and_self, Nat.le_refl, app_get, app_set, g_agg, run_nil, run_cons, stp_plain, stp_guard, put_some, pass_eq, pick_tt, pick_ff, pick_tf, pick_ft, pick_u, reg_some, thn_normal, thn_exit, thn_ret, cnd_t, cnd_f, blk_normal, blk_ret, blk_exit, x_seq, x_region, x_cond, x_block, x_loop, x_ret, x_exit, x_skip, e_mov, e_pick, pk_t, pk_f, withH_some, e_box, e_load, e_store, stH_some, e_nil, e_bin, e_eqv, eqH_f, eqH_t, e_un, e_fa, e_ia, ia_eq, nat_eq, natV_nat, e_len, lnH_some, e_extract, ex_0, ex_1, e_call0, e_call1, e_call2, e_call3, pc0_eq, pc1_some, pc2_some, pc3_some, fin_some, g_var0, g_vars, g_loc0, g_locs, g_int, g_bool, g_str, g_sl, s_none, s_zero, s_succ, cl_nil, cl_str, cl_bool, cl_slc, cl_own, evFa, evNil, asEl, evBin, intBin, strBin, evUn, len_nil, len_slc, len_str, clr, List.length_nil, List.length_cons, List.getElem?_cons_zero, List.getElem?_cons_succ, Nat.reduceAdd, Nat.zero_add, Nat.add_zero, Nat.reduceLeDiff, Nat.reduceSub, ↓reduceIte, List.drop_succ_cons, List.drop_zero, List.take_succ_cons, List.take_zero, Bool.false_eq_true, List.nil_append, List.cons_append, Bool.not_true, Bool.not_false, cond_true, cond_false, bne, lv_ret, lv_normal, res1, res2, lv2_some, res_var, res_cell, lvf_v, lvf_slc, res1c, lvo1_some, e_mm, mm_max, mm_min]
      · have h1 : ((es.length : Int) == 0) = false := by rw [beq_eq_false_iff_ne]; omega
        obtain ⟨ds', tail', x5, x6, x7, x8, x12, g1, g2, g3⟩ := eachc_loop (H := H) (K := l.length + 1) (cs0 := [.v (.int .i64 k), .v (.string s), .v (.int .i64 n'), c]) (cs1 := zeroC) hs (by omega) hb (by
            have : ∀ n', IsT (.agg [.v (.int .i64 k), .v (.string s), .v (.int .i64 n'), c]) (.mk k s n' l) := fun n' => .mk k s n' c l hc
            exact (this n').bel) rfl l 0 [] [] [] (L49c H.length es.length c (0 : Nat)) (by omega) rfl (by simpa using hes) .nil rfl hcall rfl
        have hrow : (List.replicate es.length (AV.agg zeroC)) = [] ++ List.replicate l.length (AV.agg zeroC) := by rw [e1]; rfl
        have mk := mkS_own (rt := 24) (sz := 4) (H := H) (l := [.box 24 [.v (.int .i64 k), .v (.string s), .v (.int .i64 n'), c], .box 24 zeroC]) (B := H.length) rfl (bytes := 56) (zero := [(.int .i64 0), (.string ⟨#[]⟩), (.int .i64 0), (.slice none 0 0)]) (n := es.length) (by have : maxLen = 9223372036854775807 := rfl; omega) (by omega)
        rw [zeroEl4, hrow] at mk
        generalize hR : ([] ++ List.replicate l.length (AV.agg zeroC)) = R at mk g1
        have hz2 : ∀ c' : AV, (AV.own 4 (H.length + 2) 0 0 es.length).cl = some [.own 4 (H.length + 2) 0 0 es.length] := fun _ => rfl
        have hds : ∀ h0 : List AO, (H ++ (.box 24 [.v (.int .i64 k), .v (.string s), .v (.int .i64 n'), .own 4 (H.length + 2) 0 0 es.length] :: .box 24 [.v (.int .i64 k), .v (.string s), .v (.int .i64 n'), .own 4 (H.length + 2) 0 0 es.length] :: .row 24 4 0 ds' 0 :: tail'))[H.length + 2]? = some (.row 24 4 0 ds' 0) := fun _ => obj_get rfl
        refine ⟨.agg [.v (.int .i64 k), .v (.string s), .v (.int .i64 n'), .slc 4 false false ds'], .mk _ _ _ _ _ (.slc _ _ _ _ (by simpa using g2) (by omega)), ?_⟩
        generalize hrest : (CC.seq (.region [] [] c55_13) (.seq (.region [] [] c55_14) .ret)) = rest
        simp only [zeroC] at mk g1
        simp only [zeroC, c55_3, c55_6, c55_7, h1, hs.len, mk, e_mkslice, h_ld, h_ld0, h_st, h_st0, h_bx, ldAt, stAt, preH_some, List.append_assoc, e_bslice1, e_bslice2, bs1, bs2, e_build, bdH_some, bd_nil, bd_cons, bd1, cl_agg, cl_int, toL, List.map_cons, List.map_nil, putAt, List.set_cons_zero, List.set_cons_succ, and_self, Nat.le_refl, app_get, app_set, g_agg, run_nil, run_cons, stp_plain, stp_guard, put_some, pass_eq, pick_tt, pick_ff, pick_tf, pick_ft, pick_u, reg_some, thn_normal, thn_exit, thn_ret, cnd_t, cnd_f, blk_normal, blk_ret, blk_exit, x_seq, x_region, x_cond, x_block, x_loop, x_ret, x_exit, x_skip, e_mov, e_pick, pk_t, pk_f, withH_some, e_box, e_load, e_store, stH_some, e_nil, e_bin, e_eqv, eqH_f, eqH_t, e_un, e_fa, e_ia, ia_eq, nat_eq, natV_nat, e_len, lnH_some, e_extract, ex_0, ex_1, e_call0, e_call1, e_call2, e_call3, pc0_eq, pc1_some, pc2_some, pc3_some, fin_some, g_var0, g_vars, g_loc0, g_locs, g_int, g_bool, g_str, g_sl, s_none, s_zero, s_succ, cl_nil, cl_str, cl_bool, cl_slc, cl_own, evFa, evNil, asEl, evBin, intBin, strBin, evUn, len_nil, len_slc, len_str, clr, List.length_nil, List.length_cons, List.getElem?_cons_zero, List.getElem?_cons_succ, Nat.reduceAdd, Nat.zero_add, Nat.add_zero, Nat.reduceLeDiff, Nat.reduceSub, ↓reduceIte, List.drop_succ_cons, List.drop_zero, List.take_succ_cons, List.take_zero, Bool.false_eq_true, List.nil_append, List.cons_append, Bool.not_true, Bool.not_false, cond_true, cond_false, bne, lv_ret, lv_normal, res1, res2, lv2_some, res_var, res_cell, lvf_v, lvf_slc, res1c, lvo1_some, e_mm, mm_max, mm_min]
        rw [loop_cong (v2 := L49c H.length es.length c ((0 : Nat) : Int)) (by rfl), g1, ← hrest]
        simp only [c55_13, c55_14, hz2 .junk, h_ld, h_ld0, h_st, h_st0, h_bx, ldAt, stAt, preH_some, List.append_assoc, e_bslice1, e_bslice2, bs1, bs2, e_build, bdH_some, bd_nil, bd_cons, bd1, cl_agg, cl_int, toL, List.map_cons, List.map_nil, putAt, List.set_cons_zero, List.set_cons_succ, and_self, Nat.le_refl, app_get, app_set, g_agg, run_nil, run_cons, stp_plain, stp_guard, put_some, pass_eq, pick_tt, pick_ff, pick_tf, pick_ft, pick_u, reg_some, thn_normal, thn_exit, thn_ret, cnd_t, cnd_f, blk_normal, blk_ret, blk_exit, x_seq, x_region, x_cond, x_block, x_loop, x_ret, x_exit, x_skip, e_mov, e_pick, pk_t, pk_f, withH_some, e_box, e_load, e_store, stH_some, e_nil, e_bin, e_eqv, eqH_f, eqH_t, e_un, e_fa, e_ia, ia_eq, nat_eq, natV_nat, e_len, lnH_some, e_extract, ex_0, ex_1, e_call0, e_call1, e_call2, e_call3, pc0_eq, pc1_some, pc2_some, pc3_some, fin_some, g_var0, g_vars, g_loc0, g_locs, g_int, g_bool, g_str, g_sl, s_none, s_zero, s_succ, cl_nil, cl_str, cl_bool, cl_slc, cl_own, evFa, evNil, asEl, evBin, intBin, strBin, evUn, len_nil, len_slc, len_str, clr, List.length_nil, List.length_cons, List.getElem?_cons_zero, List.getElem?_cons_succ, Nat.reduceAdd, Nat.zero_add, Nat.add_zero, Nat.reduceLeDiff, Nat.reduceSub, ↓reduceIte, List.drop_succ_cons, List.drop_zero, List.take_succ_cons, List.take_zero, Bool.false_eq_true, List.nil_append, List.cons_append, Bool.not_true, Bool.not_false, cond_true, cond_false, bne, lv_ret, lv_normal, res1, res2, lv2_some, res_var, res_cell, lvf_v, lvf_slc, res1c, lvo1_some, e_mm, mm_max, mm_min]
        rw [leave_own rfl hb, hres, own_res1 (x := .agg [.v (.int .i64 k), .v (.string s), .v (.int .i64 n'), .own 4 (H.length + 2) 0 0 es.length]) _]
        · refine lvo_one ?_
          have hn : ¬ (H.length + 2 < H.length) := by omega
          simp [AV.frz2, AV.frz1, AV.frz0, hn, rowAt, hds [], g3]
          rw [← g3]; simp
        · simp only [res_cell, h_ld, ldAt, e_bslice1, e_bslice2, bs1, bs2, e_build, bdH_some, bd_nil, bd_cons, bd1, cl_agg, cl_int, toL, List.map_cons, List.map_nil, putAt, List.set_cons_zero, List.set_cons_succ, and_self, Nat.le_refl, app_get, app_set, g_agg, run_nil, run_cons, stp_plain, stp_guard, put_some, pass_eq, pick_tt, pick_ff, pick_tf, pick_ft, pick_u, reg_some, thn_normal, thn_exit, thn_ret, cnd_t, cnd_f, blk_normal, blk_ret, blk_exit, x_seq, x_region, x_cond, x_block, x_loop, x_ret, x_exit, x_skip, e_mov, e_pick, pk_t, pk_f, withH_some, e_box, e_load, e_store, stH_some, e_nil, e_bin, e_eqv, eqH_f, eqH_t, e_un, e_fa, e_ia, ia_eq, nat_eq, natV_nat, e_len, lnH_some, e_extract, ex_0, ex_1, e_call0, e_call1, e_call2, e_call3, pc0_eq, pc1_some, pc2_some, pc3_some, fin_some, g_var0, g_vars, g_loc0, g_locs, g_int, g_bool, g_str, g_sl, s_none, s_zero, s_succ, cl_nil, cl_str, cl_bool, cl_slc, cl_own, evFa, evNil, asEl, evBin, intBin, strBin, evUn, len_nil, len_slc, len_str, clr, List.length_nil, List.length_cons, List.getElem?_cons_zero, List.getElem?_cons_succ, Nat.reduceAdd, Nat.zero_add, Nat.add_zero, Nat.reduceLeDiff, Nat.reduceSub, ↓reduceIte, List.drop_succ_cons, List.drop_zero, List.take_succ_cons, List.take_zero, Bool.false_eq_true, List.nil_append, List.cons_append, Bool.not_true, Bool.not_false, cond_true, cond_false, bne, lv_ret, lv_normal, res1, res2, lv2_some, res_var, res_cell, lvf_v, lvf_slc, res1c, lvo1_some, e_mm, mm_max, mm_min]
    have hstart : ∀ (r : AV) , leave H.length c55 (exec (callW F) (l.length + 1) (.seq (.region [] [] c55_0) (.seq (.seq (.region [] [] c55_1) (.cond (.var 7) (.region [] [] c55_2) .skip)) (.seq (.seq (.region [] [] c55_3) (.cond (.var 8) (.seq (.region [] [] c55_4) (.seq (.region [] [] c55_5) .ret)) .skip)) (.seq (.region [] [] c55_6) (.seq (.seq (.region [] [] c55_7) (.block 0 (.loop K49 [] c55_12))) (.seq (.region [] [] c55_13) (.seq (.region [] [] c55_14) .ret))))))) (start c55 [.agg [.v (.int .i64 k), .v (.string s), .v (.int .i64 n), c], fnC]) (H ++ [])) = some (r, H) → callW F 55 [.agg [.v (.int .i64 k), .v (.string s), .v (.int .i64 n), c], fnC] H = some (r, H) :=
      fun r hr => callW_own (c := c55) rfl rfl (l.length + 1) hr
    by_cases hk : k = 1
    · have h1 : (k == 1) = true := by simpa using hk
      obtain ⟨r, hr, hlv⟩ := rest (n) (.agg [.v (.int .i64 k), .v (.string s), .v (.int .i64 n), c]) true
      refine ⟨r, hr, hstart r ?_⟩
      rw [← hlv]
      generalize (CC.seq (.seq (.region [] [] c55_3) (.cond (.var 8) (.seq (.region [] [] c55_4) (.seq (.region [] [] c55_5) .ret)) .skip)) (.seq (.region [] [] c55_6) (.seq (.seq (.region [] [] c55_7) (.block 0 (.loop K49 [] c55_12))) (.seq (.region [] [] c55_13) (.seq (.region [] [] c55_14) .ret))))) = rest'
      have hb2 : (H ++ [.box 24 [.v (.int .i64 k), .v (.string s), .v (.int .i64 n), c], .box 24 zeroC] : List AO).all (AO.below (H ++ [.box 24 [.v (.int .i64 k), .v (.string s), .v (.int .i64 n), c], .box 24 zeroC] : List AO).length) = true := by
        rw [List.all_append, Bool.and_eq_true]
        refine ⟨all_below_mono (by simp) hb, all_below_mono (Nat.zero_le _) ?_⟩
        have hz : (AO.box 24 zeroC).below 0 = true := rfl
        simp only [AV.cells] at hbela
        have hbela : AO.below 0 (.box 24 [.v (.int .i64 k), .v (.string s), .v (.int .i64 n), c]) = true := hbela
        simp only [List.all_cons, List.all_nil, hbela, hz, Bool.and_true]
      have ht := turnc_ok hb2 n
      simp only [zeroC] at ht
      simp only [start49, fnC, zeroC, c55_0, c55_1, c55_2, h1, ht, q9z, e_callv, cv_fn, h_ld, h_ld0, h_st, h_st0, h_bx, ldAt, stAt, preH_some, List.append_assoc, e_bslice1, e_bslice2, bs1, bs2, e_build, bdH_some, bd_nil, bd_cons, bd1, cl_agg, cl_int, toL, List.map_cons, List.map_nil, putAt, List.set_cons_zero, List.set_cons_succ, and_self, Nat.le_refl, app_get, app_set, g_agg, run_nil, run_cons, stp_plain, stp_guard, put_some, pass_eq, pick_tt, pick_ff, pick_tf, pick_ft, pick_u, reg_some, thn_normal, thn_exit, thn_ret, cnd_t, cnd_f, blk_normal, blk_ret, blk_exit, x_seq, x_region, x_cond, x_block, x_loop, x_ret, x_exit, x_skip, e_mov, e_pick, pk_t, pk_f, withH_some, e_box, e_load, e_store, stH_some, e_nil, e_bin, e_eqv, eqH_f, eqH_t, e_un, e_fa, e_ia, ia_eq, nat_eq, natV_nat, e_len, lnH_some, e_extract, ex_0, ex_1, e_call0, e_call1, e_call2, e_call3, pc0_eq, pc1_some, pc2_some, pc3_some, fin_some, g_var0, g_vars, g_loc0, g_locs, g_int, g_bool, g_str, g_sl, s_none, s_zero, s_succ, cl_nil, cl_str, cl_bool, cl_slc, cl_own, evFa, evNil, asEl, evBin, intBin, strBin, evUn, len_nil, len_slc, len_str, clr, List.length_nil, List.length_cons, List.getElem?_cons_zero, List.getElem?_cons_succ, Nat.reduceAdd, Nat.zero_add, Nat.add_zero, Nat.reduceLeDiff, Nat.reduceSub, ↓reduceIte, List.drop_succ_cons, List.drop_zero, List.take_succ_cons, List.take_zero, Bool.false_eq_true, List.nil_append, List.cons_append, Bool.not_true, Bool.not_false, cond_true, cond_false, bne, lv_ret, lv_normal, res1, res2, lv2_some, res_var, res_cell, lvf_v, lvf_slc, res1c, lvo1_some, e_mm, mm_max, mm_min]
    · have h1 : (k == 1) = false := by simpa using hk
      obtain ⟨r, hr, hlv⟩ := rest n (.agg [.v (.int .i64 k), .v (.string s), .v (.int .i64 n), c]) false
      refine ⟨r, hr, hstart r ?_⟩
      rw [← hlv]
      generalize (CC.seq (.seq (.region [] [] c55_3) (.cond (.var 8) (.seq (.region [] [] c55_4) (.seq (.region [] [] c55_5) .ret)) .skip)) (.seq (.region [] [] c55_6) (.seq (.seq (.region [] [] c55_7) (.block 0 (.loop K49 [] c55_12))) (.seq (.region [] [] c55_13) (.seq (.region [] [] c55_14) .ret))))) = rest'
      simp only [start49, fnC, zeroC, c55_0, c55_1, h1, q9z, h_ld, h_ld0, h_st, h_st0, h_bx, ldAt, stAt, preH_some, List.append_assoc, e_bslice1, e_bslice2, bs1, bs2, e_build, bdH_some, bd_nil, bd_cons, bd1, cl_agg, cl_int, toL, List.map_cons, List.map_nil, putAt, List.set_cons_zero, List.set_cons_succ, and_self, Nat.le_refl, app_get, app_set, g_agg, run_nil, run_cons, stp_plain, stp_guard, put_some, pass_eq, pick_tt, pick_ff, pick_tf, pick_ft, pick_u, reg_some, thn_normal, thn_exit, thn_ret, cnd_t, cnd_f, blk_normal, blk_ret, blk_exit, x_seq, x_region, x_cond, x_block, x_loop, x_ret, x_exit, x_skip, e_mov, e_pick, pk_t, pk_f, withH_some, e_box, e_load, e_store, stH_some, e_nil, e_bin, e_eqv, eqH_f, eqH_t, e_un, e_fa, e_ia, ia_eq, nat_eq, natV_nat, e_len, lnH_some, e_extract, ex_0, ex_1, e_call0, e_call1, e_call2, e_call3, pc0_eq, pc1_some, pc2_some, pc3_some, fin_some, g_var0, g_vars, g_loc0, g_locs, g_int, g_bool, g_str, g_sl, s_none, s_zero, s_succ, cl_nil, cl_str, cl_bool, cl_slc, cl_own, evFa, evNil, asEl, evBin, intBin, strBin, evUn, len_nil, len_slc, len_str, clr, List.length_nil, List.length_cons, List.getElem?_cons_zero, List.getElem?_cons_succ, Nat.reduceAdd, Nat.zero_add, Nat.add_zero, Nat.reduceLeDiff, Nat.reduceSub, ↓reduceIte, List.drop_succ_cons, List.drop_zero, List.take_succ_cons, List.take_zero, Bool.false_eq_true, List.nil_append, List.cons_append, Bool.not_true, Bool.not_false, cond_true, cond_false, bne, lv_ret, lv_normal, res1, res2, lv2_some, res_var, res_cell, lvf_v, lvf_slc, res1c, lvo1_some, e_mm, mm_max, mm_min]


theorem copy_ok {t : Tm} {a : AV} (hsz : size t ≤ 100000) (ha : IsT a t) : ∃ r, IsT r t ∧ callW F 24 [a] [] = some (r, []) := by
  have hb : ([.box 24 a.cells, .box 24 zeroC] : List AO).all (AO.below 2) = true := by
    have : AO.below 2 (.box 24 a.cells) = true := below_mono (Nat.zero_le 2) _ ha.bel
    simp only [List.all_cons, List.all_nil, this, Bool.and_true]; rfl
  obtain ⟨r, hr, hc⟩ := eachc _ t a [.box 24 a.cells, .box 24 zeroC] (Nat.lt_succ_self _) hsz ha hb
  refine ⟨r, hr, callW_pure (c := c24) rfl rfl 0 ?_⟩
  have g := lv1 hr
  have ha2 := ha
  cases ha
  cases hr
  simp only [AV.cells, zeroC, fnC] at hc
  have gf : ∀ vars env : List AV, getO vars env (.fn 57) = .fn (.func 57) [] [] := fun _ _ => rfl
  simp only [c24, start, List.replicate, c24_0, c24_1, gf, hc, g, e_mkfn, e_callh, q9z, e_bslice1, e_bslice2, bs1, bs2, e_build, bdH_some, bd_nil, bd_cons, bd1, cl_agg, cl_int, toL, List.map_cons, List.map_nil, putAt, List.set_cons_zero, List.set_cons_succ, and_self, Nat.le_refl, evStore, app_get, app_set, g_agg, run_nil, run_cons, stp_plain, stp_guard, put_some, pass_eq, pick_tt, pick_ff, pick_tf, pick_ft, pick_u, reg_some, thn_normal, thn_exit, thn_ret, cnd_t, cnd_f, blk_normal, blk_ret, blk_exit, x_seq, x_region, x_cond, x_block, x_loop, x_ret, x_exit, x_skip, e_mov, e_pick, pk_t, pk_f, withH_some, e_box, bx_some, e_load, e_store, stH_some, e_nil, e_bin, e_eqv, eqH_f, eqH_t, e_un, e_fa, e_ia, ia_eq, nat_eq, natV_nat, e_len, lnH_some, e_extract, ex_0, ex_1, e_call0, e_call1, e_call2, e_call3, pc0_eq, pc1_some, pc2_some, pc3_some, fin_some, g_var0, g_vars, g_loc0, g_locs, g_int, g_bool, g_str, g_sl, s_none, s_zero, s_succ, cl_nil, cl_str, cl_bool, cl_slc, cl_own, evFa, evNil, evLoad, asEl, evBin, intBin, strBin, evUn, len_nil, len_slc, len_str, clr, List.length_nil, List.length_cons, List.getElem?_cons_zero, List.getElem?_cons_succ, Nat.reduceAdd, Nat.zero_add, Nat.add_zero, Nat.reduceLeDiff, Nat.reduceSub, ↓reduceIte, List.drop_succ_cons, List.drop_zero, List.take_succ_cons, List.take_zero, Bool.false_eq_true, List.nil_append, List.cons_append, Bool.not_true, Bool.not_false, cond_true, cond_false, bne, lv_ret, lv_normal, res1, res2, lv2_some, res_var, res_cell, lvf_v, lvf_slc, res1c, lvo1_some, e_mm, mm_max, mm_min]
end
end Go.AE.YtgcbaefclkfnoaaDoor
end

/-! Compare's plain law: an order. TermOrders in plain Lean. -/
section
set_option linter.unusedVariables false
set_option linter.unusedSimpArgs false
namespace Go.AE.YtgcbaefclkfnoaaDoor
open Go Go.AE Go.Proofs.YtgcbaefclkfnoaaDoor

/-- from two to three -/
def T3 (p q r : Int) : Prop := p ≤ 0 → q ≤ 0 → r ≤ 0 ∧ (r = 0 ↔ p = 0 ∧ q = 0)
theorem t3_or {p q r p' q' r' : Int} (h : T3 p q r) (h' : p = 0 → q = 0 → T3 p' q' r') : T3 (if (p == 0) = true then p' else p) (if (q == 0) = true then q' else q) (if (r == 0) = true then r' else r) := by
  intro a b
  simp only [beq_iff_eq] at a b ⊢
  unfold T3 at h h'
  by_cases e1 : p = 0 <;> by_cases e2 : q = 0 <;> by_cases e3 : r = 0 <;> simp only [e1, e2, e3, if_true, if_false] at a b ⊢ <;> simp_all <;> omega
theorem t3_cmpI (a b c : Int) : T3 (cmpI a b) (cmpI b c) (cmpI a c) := by
  unfold cmpI T3
  simp only [decide_eq_true_eq]
  repeat' split
  all_goals omega
theorem cb_cons (x y : UInt8) (xs ys : List UInt8) : Lib.compareBytes (x :: xs) (y :: ys) = if x.toNat < y.toNat then -1 else if y.toNat < x.toNat then 1 else Lib.compareBytes xs ys := by
  rw [Lib.compareBytes]; rfl
theorem t3_bytes : ∀ (a b c : List UInt8), T3 (Lib.compareBytes a b) (Lib.compareBytes b c) (Lib.compareBytes a c)
  | [], [], [] => by simp [Lib.compareBytes, T3]
  | [], [], z :: zs => by simp [Lib.compareBytes, T3]
  | [], y :: ys, [] => by simp [Lib.compareBytes, T3]
  | [], y :: ys, z :: zs => by simp [Lib.compareBytes, T3]
  | x :: xs, [], c => by simp [Lib.compareBytes, T3]
  | x :: xs, y :: ys, [] => by simp [Lib.compareBytes, T3]
  | x :: xs, y :: ys, z :: zs => by
    have ih := t3_bytes xs ys zs
    rw [cb_cons, cb_cons, cb_cons]
    unfold T3 at *
    repeat' split
    all_goals first
      | exact ih
      | omega
def A2 (p q : Int) : Prop := q = -p ∧ -1 ≤ p ∧ p ≤ 1
theorem a2_or {p q p' q' : Int} (h : A2 p q) (h' : p = 0 → A2 p' q') : A2 (if (p == 0) = true then p' else p) (if (q == 0) = true then q' else q) := by
  unfold A2 at *
  simp only [beq_iff_eq]
  by_cases e1 : p = 0
  · have := h' e1
    rw [if_pos e1, if_pos (by omega)]
    exact this
  · rw [if_neg e1, if_neg (by omega)]
    exact h
theorem a2_cmpI (a b : Int) : A2 (cmpI a b) (cmpI b a) := by
  unfold cmpI A2
  simp only [decide_eq_true_eq]
  repeat' split
  all_goals omega
theorem a2_bytes : ∀ (a b : List UInt8), A2 (Lib.compareBytes a b) (Lib.compareBytes b a)
  | [], [] => by simp [Lib.compareBytes, A2]
  | [], y :: ys => by simp [Lib.compareBytes, A2]
  | x :: xs, [] => by simp [Lib.compareBytes, A2]
  | x :: xs, y :: ys => by
    have ih := a2_bytes xs ys
    rw [cb_cons, cb_cons]
    unfold A2 at *
    repeat' split
    all_goals first
      | exact ih
      | omega
theorem bytes_zero : ∀ (a b : List UInt8), Lib.compareBytes a b = 0 ↔ a = b
  | [], [] => by simp [Lib.compareBytes]
  | [], y :: ys => by simp [Lib.compareBytes]
  | x :: xs, [] => by simp [Lib.compareBytes]
  | x :: xs, y :: ys => by
    have ih := bytes_zero xs ys
    unfold Lib.compareBytes
    simp only [UInt8.lt_iff_toNat_lt, List.cons.injEq, ← UInt8.toNat_inj] at *
    split
    · constructor <;> intro h
      · omega
      · omega
    · split
      · constructor <;> intro h <;> omega
      · rw [ih]; constructor
        · intro h; exact ⟨by omega, h⟩
        · exact fun h => h.2

theorem t3_head (k : Int) (s : ByteArray) (n : Int) (l : List Tm) (k' : Int) (s' : ByteArray) (n' : Int) (l' : List Tm) (k'' : Int) (s'' : ByteArray) (n'' : Int) (l'' : List Tm) :
    T3 (headC k s n l k' s' n' l') (headC k' s' n' l' k'' s'' n'' l'') (headC k s n l k'' s'' n'' l'') := by
  unfold headC
  simp only [orL]
  exact t3_or (t3_cmpI _ _ _) fun _ _ => t3_or (t3_cmpI _ _ _) fun _ _ => t3_or (t3_bytes _ _ _) fun _ _ => t3_or (t3_cmpI _ _ _) fun _ _ => by simp [T3]
theorem a2_head (k : Int) (s : ByteArray) (n : Int) (l : List Tm) (k' : Int) (s' : ByteArray) (n' : Int) (l' : List Tm) :
    A2 (headC k s n l k' s' n' l') (headC k' s' n' l' k s n l) := by
  unfold headC
  simp only [orL]
  exact a2_or (a2_cmpI _ _) fun _ => a2_or (a2_cmpI _ _) fun _ => a2_or (a2_bytes _ _) fun _ => a2_or (a2_cmpI _ _) fun _ => by simp [A2]
theorem comp_swap (k : Int) (s : ByteArray) (n : Int) (l : List Tm) (k' : Int) (s' : ByteArray) (n' : Int) (l' : List Tm) :
    compT (.mk k s n l) (.mk k' s' n' l') = if (headC k s n l k' s' n' l' == 0) = true then compL l l' else headC k s n l k' s' n' l' := by rw [compT]
theorem t3_compT : ∀ (N : Nat) (a b c : Tm), SizeOf.sizeOf a < N → T3 (compT a b) (compT b c) (compT a c) := by
  intro N
  induction N with
  | zero => intro a b c h; omega
  | succ N ih =>
    have hl : ∀ (l m n : List Tm), SizeOf.sizeOf l < N + 1 → l.length = m.length → m.length = n.length → T3 (compL l m) (compL m n) (compL l n) := by
      intro l
      induction l with
      | nil =>
        intro m n _ h1 h2
        cases m with
        | nil => cases n with
          | nil => simp [compL, T3]
          | cons => simp at h2
        | cons => simp at h1
      | cons x l ihl =>
        intro m n hs h1 h2
        cases m with
        | nil => simp at h1
        | cons y m =>
        cases n with
        | nil => simp at h2
        | cons z n =>
        simp only [List.length_cons, Nat.add_right_cancel_iff, List.cons.sizeOf_spec] at h1 h2 hs
        rw [compL, compL, compL]
        exact t3_or (ih x y z (by omega)) fun _ _ => ihl m n (by omega) h1 h2
    rintro ⟨k, s, n, l⟩ ⟨k', s', n', l'⟩ ⟨k'', s'', n'', l''⟩ hs
    rw [comp_swap, comp_swap, comp_swap]
    simp only [Tm.mk.sizeOf_spec] at hs
    exact t3_or (t3_head k s n l k' s' n' l' k'' s'' n'' l'') fun h1 h2 => hl _ _ _ (by omega) (headC_len h1) (headC_len h2)
theorem a2_compT : ∀ (N : Nat) (a b : Tm), SizeOf.sizeOf a < N → A2 (compT a b) (compT b a) := by
  intro N
  induction N with
  | zero => intro a b h; omega
  | succ N ih =>
    have hl : ∀ (l m : List Tm), SizeOf.sizeOf l < N + 1 → l.length = m.length → A2 (compL l m) (compL m l) := by
      intro l
      induction l with
      | nil =>
        intro m _ h1
        cases m with
        | nil => simp [compL, A2]
        | cons => simp at h1
      | cons x l ihl =>
        intro m hs h1
        cases m with
        | nil => simp at h1
        | cons y m =>
        simp only [List.length_cons, Nat.add_right_cancel_iff, List.cons.sizeOf_spec] at h1 hs
        rw [compL, compL]
        exact a2_or (ih x y (by omega)) fun _ => ihl m (by omega) h1
    rintro ⟨k, s, n, l⟩ ⟨k', s', n', l'⟩ hs
    rw [comp_swap, comp_swap]
    simp only [Tm.mk.sizeOf_spec] at hs
    exact a2_or (a2_head ..) fun h1 => hl _ _ (by omega) (headC_len h1)

def bs3 (h : List AO) (x y z : Option AV) : Option (AV × List AO) := x.bind fun x => y.bind fun y => z.bind fun z => match x.cl, y.cl, z.cl with
  | some xs, some ys, some zs => if xs.length = 4 ∧ ys.length = 4 ∧ zs.length = 4 then some (.slc 4 true true [x, y, z], h) else none
  | _, _, _ => none
theorem e_bslice3 {call : CallF} {vars env : List AV} {h : List AO} {zero : List Value} {x y z : Opd} : evOp call vars env h (.bslice 4 zero 3 [(0, x), (1, y), (2, z)]) = bs3 h ((getO vars env x).snap1 h) ((getO vars env y).snap1 h) ((getO vars env z).snap1 h) := by
  simp only [evOp, evElems, bs3]
  cases (getO vars env x).snap1 h with
  | none => rfl
  | some x =>
    simp only [Option.bind_some]
    cases x.cl with
    | none => cases (getO vars env y).snap1 h with
      | none => rfl
      | some y => cases (getO vars env z).snap1 h <;> rfl
    | some xs =>
      simp only [Option.map_some]
      cases (getO vars env y).snap1 h with
      | none => simp; try rfl
      | some y =>
        simp only [Option.bind_some]
        cases y.cl with
        | none => cases (getO vars env z).snap1 h <;> simp
        | some ys =>
          cases (getO vars env z).snap1 h with
          | none => simp
          | some z =>
            simp only [Option.map_some, Option.bind_some]
            cases z.cl with
            | none => simp
            | some zs =>
              by_cases e1 : xs.length = 4 <;> by_cases e2 : ys.length = 4 <;> by_cases e3 : zs.length = 4 <;> simp [e1, e2, e3, List.replicate]
theorem orders_ok {a b c : AV} {t u v : Tm} (ha : IsT a t) (hb : IsT b u) (hc : IsT c v) : callW F 5 [a, b, c] [] = some (.v (.bool true), []) := by
  refine callW_pure (c := c5) rfl rfl 0 ?_
  have hlive := live_ok
  have hfa := ha.facts
  have hfb := hb.facts
  have hfc := hc.facts
  have hbig := big_ok (isL3 ha hb hc)
  have bxa : bx [] 24 (some a.cells) = some (.ptr 0 0, [.box 24 a.cells]) := rfl
  have bxb : bx [.box 24 a.cells] 24 (some b.cells) = some (.ptr 1 0, [.box 24 a.cells, .box 24 b.cells]) := rfl
  have bxc : bx [.box 24 a.cells, .box 24 b.cells] 24 (some c.cells) = some (.ptr 2 0, [.box 24 a.cells, .box 24 b.cells, .box 24 c.cells]) := rfl
  have e1 : evLoad [.box 24 a.cells, .box 24 b.cells, .box 24 c.cells] true 4 (.ptr 0 0) = some a := hfa.2.2.2.1 [] 24
  have e2 : evLoad [.box 24 a.cells, .box 24 b.cells, .box 24 c.cells] true 4 (.ptr 1 0) = some b := hfb.2.2.2.1 [.box 24 a.cells] 24
  have e3 : evLoad [.box 24 a.cells, .box 24 b.cells, .box 24 c.cells] true 4 (.ptr 2 0) = some c := hfc.2.2.2.1 [.box 24 a.cells, .box 24 b.cells] 24
  have p1 := check_ok t a ha
  have p2 := check_ok u b hb
  have p3 := check_ok v c hc
  have c1 := comp_ok _ t u a b (Nat.lt_succ_self _) ha hb
  have c2 := comp_ok _ u v b c (Nat.lt_succ_self _) hb hc
  have c3 := comp_ok _ t v a c (Nat.lt_succ_self _) ha hc
  have tr := t3_compT _ t u v (Nat.lt_succ_self _)
  unfold T3 at tr
  have b3 : ∀ h : List AO, bs3 h (some a) (some b) (some c) = some (.slc 4 true true [a, b, c], h) := by
    intro h
    obtain ⟨x1, x2⟩ := ha.cl
    obtain ⟨y1, y2⟩ := hb.cl
    obtain ⟨z1, z2⟩ := hc.cl
    simp [bs3, x1, y1, z1, x2, y2, z2]
  have sl : ∀ h : List AO, (AV.slc 4 true true [a, b, c]).snap1 h = some (.slc 4 true true [a, b, c]) := fun _ => rfl
  cases hB : bigT [t, u, v] with
  | true => rw [hB] at hbig; simp only [c5, start, List.replicate, c5_0, c5_1, c5_2, c5_3, hlive, hfa, hfb, hfc, bxa, bxb, bxc, e1, e2, e3, b3, sl, hbig, e_bslice3, run_nil, run_cons, stp_plain, stp_guard, put_some, pass_eq, pick_tt, pick_ff, pick_tf, pick_ft, pick_u, reg_some, thn_normal, thn_exit, thn_ret, cnd_t, cnd_f, blk_normal, blk_ret, blk_exit, x_seq, x_region, x_cond, x_block, x_loop, x_ret, x_exit, x_skip, e_mov, e_pick, pk_t, pk_f, withH_some, e_box, e_load, e_store, stH_some, e_nil, e_bin, e_eqv, eqH_f, eqH_t, e_un, e_fa, e_ia, ia_eq, nat_eq, natV_nat, e_len, lnH_some, e_extract, ex_0, ex_1, e_call0, e_call1, e_call2, e_call3, pc0_eq, pc1_some, pc2_some, pc3_some, fin_some, g_var0, g_vars, g_loc0, g_locs, g_int, g_bool, g_str, g_sl, s_none, s_zero, s_succ, cl_nil, cl_str, cl_bool, cl_slc, cl_own, evFa, evNil, asEl, evBin, intBin, strBin, evUn, len_nil, len_slc, len_str, clr, List.length_nil, List.length_cons, List.getElem?_cons_zero, List.getElem?_cons_succ, Nat.reduceAdd, Nat.zero_add, Nat.add_zero, Nat.reduceLeDiff, Nat.reduceSub, ↓reduceIte, List.drop_succ_cons, List.drop_zero, List.take_succ_cons, List.take_zero, Bool.false_eq_true, List.nil_append, List.cons_append, Bool.not_true, Bool.not_false, cond_true, cond_false, bne, lv_ret, lv_normal, res1, res2, lv2_some, res_var, res_cell, lvf_v, lvf_slc, res1c, lvo1_some, e_mm, mm_max, mm_min, cl_agg, cl_int, g_agg, e_callv1, cv1_fn, e_slice2, e_clrrow, e_callf2, pick_und, cells_agg, Option.map_some, Option.map_none]
  | false =>
  rw [hB] at hbig
  generalize checkT t = k1 at p1
  generalize checkT u = k2 at p2
  generalize checkT v = k3 at p3
  generalize compT t u = x1 at c1 tr
  generalize compT u v = x2 at c2 tr
  generalize compT t v = x3 at c3 tr
  have fin : decide (x1 > 0) = false → decide (x2 > 0) = false → decide (x3 ≤ 0) = true := by
    simp only [decide_eq_false_iff_not, decide_eq_true_eq]
    intro h1 h2
    exact (tr (by omega) (by omega)).1
  cases g1 : (k1 == 0) <;> cases g2 : (k2 == 0) <;> cases g3 : (k3 == 0) <;>
  cases q1 : decide (x1 > 0) <;> cases q2 : decide (x2 > 0) <;> cases q3 : decide (x3 ≤ 0) <;>
  first
  | exact Bool.noConfusion ((fin q1 q2).symm.trans q3)
  | simp only [c5, start, List.replicate, c5_0, c5_1, c5_2, c5_3, c5_4, hlive, hfa, hfb, hfc, bxa, bxb, bxc, e1, e2, e3, b3, sl, hbig, e_bslice3, p1, p2, p3, c1, c2, c3, g1, g2, g3, q1, q2, q3, Bool.not_true, Bool.not_false, run_nil, run_cons, stp_plain, stp_guard, put_some, pass_eq, pick_tt, pick_ff, pick_tf, pick_ft, pick_u, reg_some, thn_normal, thn_exit, thn_ret, cnd_t, cnd_f, blk_normal, blk_ret, blk_exit, x_seq, x_region, x_cond, x_block, x_loop, x_ret, x_exit, x_skip, e_mov, e_pick, pk_t, pk_f, withH_some, e_box, e_load, e_store, stH_some, e_nil, e_bin, e_eqv, eqH_f, eqH_t, e_un, e_fa, e_ia, ia_eq, nat_eq, natV_nat, e_len, lnH_some, e_extract, ex_0, ex_1, e_call0, e_call1, e_call2, e_call3, pc0_eq, pc1_some, pc2_some, pc3_some, fin_some, g_var0, g_vars, g_loc0, g_locs, g_int, g_bool, g_str, g_sl, s_none, s_zero, s_succ, cl_nil, cl_str, cl_bool, cl_slc, cl_own, evFa, evNil, asEl, evBin, intBin, strBin, evUn, len_nil, len_slc, len_str, clr, List.length_nil, List.length_cons, List.getElem?_cons_zero, List.getElem?_cons_succ, Nat.reduceAdd, Nat.zero_add, Nat.add_zero, Nat.reduceLeDiff, Nat.reduceSub, ↓reduceIte, List.drop_succ_cons, List.drop_zero, List.take_succ_cons, List.take_zero, Bool.false_eq_true, List.nil_append, List.cons_append, Bool.not_true, Bool.not_false, cond_true, cond_false, bne, lv_ret, lv_normal, res1, res2, lv2_some, res_var, res_cell, lvf_v, lvf_slc, res1c, lvo1_some, e_mm, mm_max, mm_min, cl_agg, cl_int, g_agg, e_callv1, cv1_fn, e_slice2, e_clrrow, e_callf2, pick_und, cells_agg, Option.map_some, Option.map_none]
end Go.AE.YtgcbaefclkfnoaaDoor
end

/-! TermTurns in plain Lean. -/
section
set_option linter.unusedVariables false
set_option linter.unusedSimpArgs false
namespace Go.AE.YtgcbaefclkfnoaaDoor
open Go Go.AE Go.Proofs.YtgcbaefclkfnoaaDoor

/-! ### Numbers that are int64 -/
def rg (n : Int) : Prop := -9223372036854775808 ≤ n ∧ n ≤ 9223372036854775807
mutual
def rgT : Tm → Prop
  | .mk _ _ n l => rg n ∧ rgL l
def rgL : List Tm → Prop
  | [] => True
  | t :: l => rgT t ∧ rgL l
end
theorem rg_of {n : Int} (h : (Lit.int .i64 n).wf = true) : rg n := by
  simp only [Lit.wf, Bool.and_eq_true, decide_eq_true_eq] at h
  exact h
theorem all2_rg : ∀ {l : List AV}, (∀ el ∈ l, ∃ t, IsT el t ∧ rgT t) → ∃ ts, All2 l ts ∧ rgL ts
  | [], _ => ⟨[], .nil, by simp [rgL]⟩
  | a :: l, h => by
    obtain ⟨t, ht, h1⟩ := h a (by simp)
    obtain ⟨ts, hts, h2⟩ := all2_rg (l := l) (fun el hm => h el (by simp [hm]))
    exact ⟨t :: ts, .cons a t l ts ht hts, by rw [rgL]; exact ⟨h1, h2⟩⟩
theorem good_rg : ∀ {t : TypeId} {cs : List AV}, WT T t cs → (t = 24 → ∃ x, IsT (.agg cs) x ∧ rgT x) ∧ (t = 22 → ∃ c l, cs = [c] ∧ IsL c l ∧ rgL l) := by
  obtain ⟨xt, f0, f1, f2, f3, ht1, ht2, e0, e1, e2, e3, hsz, hag⟩ := tmTy.t
  obtain ⟨xl, hl1, hl2⟩ := tmTy.l
  obtain ⟨xi, hi1, hi2⟩ := tmTy.i
  obtain ⟨xs, hs1, hs2⟩ := tmTy.s
  obtain ⟨xn, hn1, hn2⟩ := tmTy.n
  intro t cs w
  induction w with
  | bool t i b ht hd => exact ⟨(by rintro rfl; rw [ht1] at ht; cases ht; rw [ht2] at hd; cases hd), (by rintro rfl; rw [hl1] at ht; cases ht; rw [hl2] at hd; cases hd)⟩
  | int t i k n ht hd hw => exact ⟨(by rintro rfl; rw [ht1] at ht; cases ht; rw [ht2] at hd; cases hd), (by rintro rfl; rw [hl1] at ht; cases ht; rw [hl2] at hd; cases hd)⟩
  | str t i s ht hd hs => exact ⟨(by rintro rfl; rw [ht1] at ht; cases ht; rw [ht2] at hd; cases hd), (by rintro rfl; rw [hl1] at ht; cases ht; rw [hl2] at hd; cases hd)⟩
  | nil t i e ht hd => exact ⟨(by rintro rfl; rw [ht1] at ht; cases ht; rw [ht2] at hd; cases hd), fun _ => ⟨_, [], rfl, .nil, by simp [rgL]⟩⟩
  | slc t i e j l ht hd he hl hel has ih =>
    refine ⟨(by rintro rfl; rw [ht1] at ht; cases ht; rw [ht2] at hd; cases hd), ?_⟩
    rintro rfl
    rw [hl1] at ht; cases ht; rw [hl2] at hd; cases hd
    rw [ht1] at he; cases he
    obtain ⟨ts, hts, hr⟩ := all2_rg (l := l) (fun el hm => by
      obtain ⟨x, hx, hr⟩ := (ih el hm).1 rfl
      have := has el hm
      rw [hag] at this
      rw [← agg_cells this] at hx
      exact ⟨x, hx, hr⟩)
    rw [hsz]
    exact ⟨_, ts, rfl, .slc _ _ _ _ hts hl, hr⟩
  | struct t i fs pts ht hd hlen hf ih =>
    refine ⟨?_, (by rintro rfl; rw [hl1] at ht; cases ht; rw [hl2] at hd; cases hd)⟩
    rintro rfl
    rw [ht1] at ht; cases ht; rw [ht2] at hd; cases hd
    match pts, hlen, hf, ih with
    | [a, b, c, d], _, hf, ih =>
      have w0 := hf 0 f0 a rfl rfl
      have w1 := hf 1 f1 b rfl rfl
      have w2 := hf 2 f2 c rfl rfl
      have w3 := (ih 3 f3 d rfl rfl).2 e3
      rw [e0] at w0; rw [e1] at w1; rw [e2] at w2
      obtain ⟨k, rfl, _⟩ := wt_int_of hi1 hi2 w0
      obtain ⟨s, rfl, _⟩ := wt_str_of hs1 hs2 w1
      obtain ⟨n, rfl, hn⟩ := wt_int_of hn1 hn2 w2
      obtain ⟨x, l, rfl, hx, hr⟩ := w3
      exact ⟨_, .mk k s n x l hx, by rw [rgT]; exact ⟨rg_of hn, hr⟩⟩
theorem term_rg {a : AV} (w : WT T 24 a.cells) (e : asEl ti24.agg a.cells = some a) : ∃ p, IsT a p ∧ rgT p := by
  obtain ⟨x, hx⟩ := (good_rg w).1 rfl
  rw [agg_cells e]; exact ⟨x, hx⟩

/-! ### Shifted terms -/
theorem wrap_eq (n : Int) : IntKind.i64.wrap n = if n % 18446744073709551616 ≥ 9223372036854775808 then n % 18446744073709551616 - 18446744073709551616 else n % 18446744073709551616 := by
  simp [IntKind.wrap, IntKind.bits, IntKind.signed]
theorem wrap_inj {a b x : Int} (ha : rg a) (hb : rg b) : IntKind.i64.wrap (a + x) = IntKind.i64.wrap (b + x) ↔ a = b := by
  unfold rg at ha hb
  rw [wrap_eq, wrap_eq]
  constructor
  · intro h
    split at h <;> split at h <;> omega
  · rintro rfl; rfl
theorem wrap_back {n x : Int} (h : rg n) : IntKind.i64.wrap (IntKind.i64.wrap (n + x) + IntKind.i64.wrap (0 - x)) = n := by
  unfold rg at h
  rw [wrap_eq (n + x), wrap_eq (0 - x)]
  rw [wrap_eq]
  split <;> split <;> split <;> omega
mutual
theorem shift_back (x : Int) : ∀ t : Tm, rgT t → shiftT (IntKind.i64.wrap (0 - x)) (shiftT x t) = t
  | .mk k s n l, h => by
    rw [rgT] at h
    rw [shiftT, shiftT, shiftL_back x l h.2]
    by_cases e : k = 1
    · simp only [e, if_true, wrap_back h.1]
    · simp only [if_neg e]
theorem shiftL_back (x : Int) : ∀ l : List Tm, rgL l → shiftL (IntKind.i64.wrap (0 - x)) (shiftL x l) = l
  | [], _ => by rw [shiftL, shiftL]
  | t :: l, h => by
    rw [rgL] at h
    rw [shiftL, shiftL, shift_back x t h.1, shiftL_back x l h.2]
end
mutual
theorem bare_shift (x : Int) : ∀ t : Tm, bareT (shiftT x t) = bareT t
  | .mk k s n l => by
    rw [shiftT, bareT, bareT, bareL_shift x l]
    by_cases e : k = 1
    · simp only [e, if_true]
    · simp only [if_neg e]
theorem bareL_shift (x : Int) : ∀ l : List Tm, bareL (shiftL x l) = bareL l
  | [] => by rw [shiftL]
  | t :: l => by rw [shiftL, bareL, bareL, bare_shift x t, bareL_shift x l]
end
mutual
theorem places_shift (x : Int) : ∀ t : Tm, placesT (shiftT x t) = (placesT t).map fun n => IntKind.i64.wrap (n + x)
  | .mk k s n l => by
    rw [shiftT, placesT, placesT, List.map_append, placesL_shift x l]
    by_cases e : k = 1
    · simp [e]
    · simp [e]
theorem placesL_shift (x : Int) : ∀ l : List Tm, placesL (shiftL x l) = (placesL l).map fun n => IntKind.i64.wrap (n + x)
  | [] => by rw [shiftL, placesL, List.map_nil]
  | t :: l => by rw [shiftL, placesL, placesL, List.map_append, places_shift x t, placesL_shift x l]
end
mutual
theorem size_shift (x : Int) : ∀ t : Tm, size (shiftT x t) = size t
  | .mk k s n l => by rw [shiftT, size, size, sizeL_shift x l]
theorem sizeL_shift (x : Int) : ∀ l : List Tm, sizeL (shiftL x l) = sizeL l
  | [] => by rw [shiftL]
  | t :: l => by rw [shiftL, sizeL, sizeL, size_shift x t, sizeL_shift x l]
end
mutual
theorem places_rg : ∀ t : Tm, rgT t → ∀ n ∈ placesT t, rg n
  | .mk k s n l, h, m, hm => by
    rw [rgT] at h
    rw [placesT, List.mem_append] at hm
    rcases hm with hm | hm
    · split at hm
      · simp at hm; rw [hm]; exact h.1
      · simp at hm
    · exact placesL_rg l h.2 m hm
theorem placesL_rg : ∀ l : List Tm, rgL l → ∀ n ∈ placesL l, rg n
  | [], _, m, hm => by simp [placesL] at hm
  | t :: l, h, m, hm => by
    rw [rgL] at h
    rw [placesL, List.mem_append] at hm
    rcases hm with hm | hm
    · exact places_rg t h.1 m hm
    · exact placesL_rg l h.2 m hm
end
theorem same_self (t : Tm) : sameT t t = true := (same_iff _ t t (Nat.lt_succ_self _)).2 rfl
theorem getD_mem {l : List Int} {i : Nat} (h : i < l.length) : l.getD i 0 ∈ l := by
  rw [List.getD_eq_getElem?_getD, List.getElem?_eq_getElem h]; simp
theorem vr_shift {t : Tm} (x : Int) (h : rgT t) : Vr t (shiftT x t) := by
  refine ⟨by rw [bare_shift]; exact same_self _, fun i hi k hk => ?_⟩
  have e : ∀ j, j < (placesT t).length → (placesT (shiftT x t)).getD j 0 = IntKind.i64.wrap ((placesT t).getD j 0 + x) := by
    intro j hj
    rw [places_shift]
    simp [hj]
  rw [e i hi, e k hk, wrap_inj (places_rg t h _ (getD_mem hi)) (places_rg t h _ (getD_mem hk))]
theorem vr_symm {t u : Tm} (h : Vr t u) : Vr u t := by
  obtain ⟨h1, h2⟩ := h
  have hl := places_same _ t u (Nat.lt_succ_self _) h1
  have e := (same_iff _ _ _ (Nat.lt_succ_self _)).1 h1
  refine ⟨by rw [e]; exact same_self _, fun i hi k hk => (h2 i (by omega) k (by omega)).symm⟩
theorem vr_trans {t u v : Tm} (h : Vr t u) (g : Vr u v) : Vr t v := by
  obtain ⟨h1, h2⟩ := h
  obtain ⟨g1, g2⟩ := g
  have hl := places_same _ t u (Nat.lt_succ_self _) h1
  have e := (same_iff _ _ _ (Nat.lt_succ_self _)).1 h1
  refine ⟨by rw [e]; exact g1, fun i hi k hk => (h2 i hi k hk).trans (g2 i (by omega) k (by omega))⟩
theorem vr_sw (t u : Tm) : (vrT t u []).isSome = (vrT u t []).isSome := by
  have h1 := vr_iff t u
  have h2 := vr_iff u t
  cases e1 : (vrT t u []).isSome <;> cases e2 : (vrT u t []).isSome
  · rfl
  · exact absurd (h1.2 (vr_symm (h2.1 e2))) (by rw [e1]; simp)
  · exact absurd (h2.2 (vr_symm (h1.1 e1))) (by rw [e2]; simp)
  · rfl

theorem turns_ok {a b c : AV} {t u v : Tm} {x : Int} (ha : IsT a t) (hb : IsT b u) (hc : IsT c v) (hr : rgT t) : callW F 6 [a, b, c, .v (.int .i64 x)] [] = some (.v (.bool true), []) := by
  refine callW_pure (c := c6) rfl rfl 0 ?_
  have hlive := live_ok
  have hfa := ha.facts
  have hfb := hb.facts
  have hfc := hc.facts
  have hbig := big_ok (isL3 ha hb hc)
  have bxa : bx [] 24 (some a.cells) = some (.ptr 0 0, [.box 24 a.cells]) := rfl
  have bxb : bx [.box 24 a.cells] 24 (some b.cells) = some (.ptr 1 0, [.box 24 a.cells, .box 24 b.cells]) := rfl
  have bxc : bx [.box 24 a.cells, .box 24 b.cells] 24 (some c.cells) = some (.ptr 2 0, [.box 24 a.cells, .box 24 b.cells, .box 24 c.cells]) := rfl
  have e1 : evLoad [.box 24 a.cells, .box 24 b.cells, .box 24 c.cells] true 4 (.ptr 0 0) = some a := hfa.2.2.2.1 [] 24
  have e2 : evLoad [.box 24 a.cells, .box 24 b.cells, .box 24 c.cells] true 4 (.ptr 1 0) = some b := hfb.2.2.2.1 [.box 24 a.cells] 24
  have e3 : evLoad [.box 24 a.cells, .box 24 b.cells, .box 24 c.cells] true 4 (.ptr 2 0) = some c := hfc.2.2.2.1 [.box 24 a.cells, .box 24 b.cells] 24
  have b3 : ∀ h : List AO, bs3 h (some a) (some b) (some c) = some (.slc 4 true true [a, b, c], h) := by
    intro h
    obtain ⟨x1, x2⟩ := ha.cl
    obtain ⟨y1, y2⟩ := hb.cl
    obtain ⟨z1, z2⟩ := hc.cl
    simp [bs3, x1, y1, z1, x2, y2, z2]
  have sl : ∀ h : List AO, (AV.slc 4 true true [a, b, c]).snap1 h = some (.slc 4 true true [a, b, c]) := fun _ => rfl
  cases hB : bigT [t, u, v] with
  | true => rw [hB] at hbig; simp only [c6, start, List.replicate, c6_0, c6_1, c6_2, c6_3, hlive, hfa, hfb, hfc, bxa, bxb, bxc, e1, e2, e3, b3, sl, hbig, e_bslice3, run_nil, run_cons, stp_plain, stp_guard, put_some, pass_eq, pick_tt, pick_ff, pick_tf, pick_ft, pick_u, reg_some, thn_normal, thn_exit, thn_ret, cnd_t, cnd_f, blk_normal, blk_ret, blk_exit, x_seq, x_region, x_cond, x_block, x_loop, x_ret, x_exit, x_skip, e_mov, e_pick, pk_t, pk_f, withH_some, e_box, e_load, e_store, stH_some, e_nil, e_bin, e_eqv, eqH_f, eqH_t, e_un, e_fa, e_ia, ia_eq, nat_eq, natV_nat, e_len, lnH_some, e_extract, ex_0, ex_1, e_call0, e_call1, e_call2, e_call3, pc0_eq, pc1_some, pc2_some, pc3_some, fin_some, g_var0, g_vars, g_loc0, g_locs, g_int, g_bool, g_str, g_sl, s_none, s_zero, s_succ, cl_nil, cl_str, cl_bool, cl_slc, cl_own, evFa, evNil, asEl, evBin, intBin, strBin, evUn, len_nil, len_slc, len_str, clr, List.length_nil, List.length_cons, List.getElem?_cons_zero, List.getElem?_cons_succ, Nat.reduceAdd, Nat.zero_add, Nat.add_zero, Nat.reduceLeDiff, Nat.reduceSub, ↓reduceIte, List.drop_succ_cons, List.drop_zero, List.take_succ_cons, List.take_zero, Bool.false_eq_true, List.nil_append, List.cons_append, Bool.not_true, Bool.not_false, cond_true, cond_false, bne, lv_ret, lv_normal, res1, res2, lv2_some, res_var, res_cell, lvf_v, lvf_slc, res1c, lvo1_some, e_mm, mm_max, mm_min, cl_agg, cl_int, g_agg, e_callv1, cv1_fn, e_slice2, e_clrrow, e_callf2, pick_und, cells_agg, Option.map_some, Option.map_none]
  | false =>
  rw [hB] at hbig
  have hsz := big_size hB t (by simp)
  obtain ⟨s, hs, s1⟩ := shift34 x (by omega) ha
  obtain ⟨s', hs', s2⟩ := shift34 (IntKind.i64.wrap (0 - x)) (by rw [size_shift]; omega) hs
  obtain ⟨d, hd, s3⟩ := copy_ok (by omega) ha
  rw [shift_back x t hr] at hs'
  have hfs := hs.facts
  have hfs' := hs'.facts
  have hfd := hd.facts
  have v1 := variant_ok ha hs
  rw [(vr_iff _ _).2 (vr_shift x hr)] at v1
  have v2 := same_ok _ t t s' d (Nat.lt_succ_self _) hs' hd
  rw [same_self] at v2
  have w1 := variant_ok ha hb
  have w2 := variant_ok hb ha
  have w3 := variant_ok hb hc
  have w4 := variant_ok ha hc
  rw [← vr_sw t u] at w2
  have tr : (vrT t u []).isSome = true → (vrT u v []).isSome = true → (vrT t v []).isSome = true := fun h1 h2 => (vr_iff _ _).2 (vr_trans ((vr_iff _ _).1 h1) ((vr_iff _ _).1 h2))
  generalize (vrT t u []).isSome = p1 at w1 w2 tr
  generalize (vrT u v []).isSome = p2 at w3 tr
  generalize (vrT t v []).isSome = p3 at w4 tr
  have bxz : bx [.box 24 a.cells, .box 24 b.cells, .box 24 c.cells] 24 (some [.v (.int .i64 0), .v (.string ⟨#[]⟩), .v (.int .i64 0), .v (.slice none 0 0)]) = some (.ptr 3 0, [.box 24 a.cells, .box 24 b.cells, .box 24 c.cells, .box 24 [.v (.int .i64 0), .v (.string ⟨#[]⟩), .v (.int .i64 0), .v (.slice none 0 0)]]) := rfl
  have stz : evStore [.box 24 a.cells, .box 24 b.cells, .box 24 c.cells, .box 24 [.v (.int .i64 0), .v (.string ⟨#[]⟩), .v (.int .i64 0), .v (.slice none 0 0)]] 4 (.ptr 3 0) s = some [.box 24 a.cells, .box 24 b.cells, .box 24 c.cells, .box 24 s.cells] := hfs.2.2.1 [.box 24 a.cells, .box 24 b.cells, .box 24 c.cells] 24 _ _ _ _
  have f0 : evLoad [.box 24 a.cells, .box 24 b.cells, .box 24 c.cells, .box 24 s.cells] true 4 (.ptr 3 0) = some s := hfs.2.2.2.1 [.box 24 a.cells, .box 24 b.cells, .box 24 c.cells] 24
  have f1 : evLoad [.box 24 a.cells, .box 24 b.cells, .box 24 c.cells, .box 24 s.cells] true 4 (.ptr 0 0) = some a := by have h := hfa.2.2.2.1 [] 24; simpa [evLoad] using h
  have f2 : evLoad [.box 24 a.cells, .box 24 b.cells, .box 24 c.cells, .box 24 s.cells] true 4 (.ptr 1 0) = some b := by have h := hfb.2.2.2.1 [] 24; simpa [evLoad] using h
  have f3 : evLoad [.box 24 a.cells, .box 24 b.cells, .box 24 c.cells, .box 24 s.cells] true 4 (.ptr 2 0) = some c := by have h := hfc.2.2.2.1 [] 24; simpa [evLoad] using h
  cases p1 with
  | false => simp only [c6, start, List.replicate, c6_0, c6_1, c6_2, c6_4, c6_5, c6_7, hlive, hfa, hfb, hfc, bxa, bxb, bxc, e1, e2, e3, b3, sl, hbig, e_bslice3, s1, s2, s3, hfs, hfs', hfd, v1, v2, w1, w2, w3, w4, bxz, stz, f0, f1, f2, f3, snap_int, q9z, eqb_ttt, eqb_tff, Bool.not_true, Bool.not_false, run_nil, run_cons, stp_plain, stp_guard, put_some, pass_eq, pick_tt, pick_ff, pick_tf, pick_ft, pick_u, reg_some, thn_normal, thn_exit, thn_ret, cnd_t, cnd_f, blk_normal, blk_ret, blk_exit, x_seq, x_region, x_cond, x_block, x_loop, x_ret, x_exit, x_skip, e_mov, e_pick, pk_t, pk_f, withH_some, e_box, e_load, e_store, stH_some, e_nil, e_bin, e_eqv, eqH_f, eqH_t, e_un, e_fa, e_ia, ia_eq, nat_eq, natV_nat, e_len, lnH_some, e_extract, ex_0, ex_1, e_call0, e_call1, e_call2, e_call3, pc0_eq, pc1_some, pc2_some, pc3_some, fin_some, g_var0, g_vars, g_loc0, g_locs, g_int, g_bool, g_str, g_sl, s_none, s_zero, s_succ, cl_nil, cl_str, cl_bool, cl_slc, cl_own, evFa, evNil, asEl, evBin, intBin, strBin, evUn, len_nil, len_slc, len_str, clr, List.length_nil, List.length_cons, List.getElem?_cons_zero, List.getElem?_cons_succ, Nat.reduceAdd, Nat.zero_add, Nat.add_zero, Nat.reduceLeDiff, Nat.reduceSub, ↓reduceIte, List.drop_succ_cons, List.drop_zero, List.take_succ_cons, List.take_zero, Bool.false_eq_true, List.nil_append, List.cons_append, Bool.not_true, Bool.not_false, cond_true, cond_false, bne, lv_ret, lv_normal, res1, res2, lv2_some, res_var, res_cell, lvf_v, lvf_slc, res1c, lvo1_some, e_mm, mm_max, mm_min, cl_agg, cl_int, g_agg, e_callv1, cv1_fn, e_slice2, e_clrrow, e_callf2, pick_und, cells_agg, Option.map_some, Option.map_none]
  | true =>
  cases p2 with
  | false => simp only [c6, start, List.replicate, c6_0, c6_1, c6_2, c6_4, c6_5, c6_7, hlive, hfa, hfb, hfc, bxa, bxb, bxc, e1, e2, e3, b3, sl, hbig, e_bslice3, s1, s2, s3, hfs, hfs', hfd, v1, v2, w1, w2, w3, w4, bxz, stz, f0, f1, f2, f3, snap_int, q9z, eqb_ttt, eqb_tff, Bool.not_true, Bool.not_false, run_nil, run_cons, stp_plain, stp_guard, put_some, pass_eq, pick_tt, pick_ff, pick_tf, pick_ft, pick_u, reg_some, thn_normal, thn_exit, thn_ret, cnd_t, cnd_f, blk_normal, blk_ret, blk_exit, x_seq, x_region, x_cond, x_block, x_loop, x_ret, x_exit, x_skip, e_mov, e_pick, pk_t, pk_f, withH_some, e_box, e_load, e_store, stH_some, e_nil, e_bin, e_eqv, eqH_f, eqH_t, e_un, e_fa, e_ia, ia_eq, nat_eq, natV_nat, e_len, lnH_some, e_extract, ex_0, ex_1, e_call0, e_call1, e_call2, e_call3, pc0_eq, pc1_some, pc2_some, pc3_some, fin_some, g_var0, g_vars, g_loc0, g_locs, g_int, g_bool, g_str, g_sl, s_none, s_zero, s_succ, cl_nil, cl_str, cl_bool, cl_slc, cl_own, evFa, evNil, asEl, evBin, intBin, strBin, evUn, len_nil, len_slc, len_str, clr, List.length_nil, List.length_cons, List.getElem?_cons_zero, List.getElem?_cons_succ, Nat.reduceAdd, Nat.zero_add, Nat.add_zero, Nat.reduceLeDiff, Nat.reduceSub, ↓reduceIte, List.drop_succ_cons, List.drop_zero, List.take_succ_cons, List.take_zero, Bool.false_eq_true, List.nil_append, List.cons_append, Bool.not_true, Bool.not_false, cond_true, cond_false, bne, lv_ret, lv_normal, res1, res2, lv2_some, res_var, res_cell, lvf_v, lvf_slc, res1c, lvo1_some, e_mm, mm_max, mm_min, cl_agg, cl_int, g_agg, e_callv1, cv1_fn, e_slice2, e_clrrow, e_callf2, pick_und, cells_agg, Option.map_some, Option.map_none]
  | true =>
    obtain rfl := tr rfl rfl
    simp only [c6, start, List.replicate, c6_0, c6_1, c6_2, c6_4, c6_5, c6_7, hlive, hfa, hfb, hfc, bxa, bxb, bxc, e1, e2, e3, b3, sl, hbig, e_bslice3, s1, s2, s3, hfs, hfs', hfd, v1, v2, w1, w2, w3, w4, bxz, stz, f0, f1, f2, f3, snap_int, q9z, eqb_ttt, eqb_tff, Bool.not_true, Bool.not_false, run_nil, run_cons, stp_plain, stp_guard, put_some, pass_eq, pick_tt, pick_ff, pick_tf, pick_ft, pick_u, reg_some, thn_normal, thn_exit, thn_ret, cnd_t, cnd_f, blk_normal, blk_ret, blk_exit, x_seq, x_region, x_cond, x_block, x_loop, x_ret, x_exit, x_skip, e_mov, e_pick, pk_t, pk_f, withH_some, e_box, e_load, e_store, stH_some, e_nil, e_bin, e_eqv, eqH_f, eqH_t, e_un, e_fa, e_ia, ia_eq, nat_eq, natV_nat, e_len, lnH_some, e_extract, ex_0, ex_1, e_call0, e_call1, e_call2, e_call3, pc0_eq, pc1_some, pc2_some, pc3_some, fin_some, g_var0, g_vars, g_loc0, g_locs, g_int, g_bool, g_str, g_sl, s_none, s_zero, s_succ, cl_nil, cl_str, cl_bool, cl_slc, cl_own, evFa, evNil, asEl, evBin, intBin, strBin, evUn, len_nil, len_slc, len_str, clr, List.length_nil, List.length_cons, List.getElem?_cons_zero, List.getElem?_cons_succ, Nat.reduceAdd, Nat.zero_add, Nat.add_zero, Nat.reduceLeDiff, Nat.reduceSub, ↓reduceIte, List.drop_succ_cons, List.drop_zero, List.take_succ_cons, List.take_zero, Bool.false_eq_true, List.nil_append, List.cons_append, Bool.not_true, Bool.not_false, cond_true, cond_false, bne, lv_ret, lv_normal, res1, res2, lv2_some, res_var, res_cell, lvf_v, lvf_slc, res1c, lvo1_some, e_mm, mm_max, mm_min, cl_agg, cl_int, g_agg, e_callv1, cv1_fn, e_slice2, e_clrrow, e_callf2, pick_und, cells_agg, Option.map_some, Option.map_none]
end Go.AE.YtgcbaefclkfnoaaDoor
end

/-! What all rows of this program need. -/
section
set_option linter.unusedVariables false
namespace Go.Proofs.YtgcbaefclkfnoaaDoor
open Go Go.AE Go.Proofs Go.ChangeShapes Go.WideShapes Go.ChangeAt Go.RowKit
open Go.ChangeMaps (open_string shut_string)

theorem own : ownKnob Tryd.prog.godebug = none := by kernel_rfl
theorem laidOut : laidOutB Tryd.prog = true := by kernel_rfl
theorem mixed : Tryd.prog.follows .mixedOrders = true := by kernel_rfl
def G : List TypeId := [2, 3, 9, 22, 24]
theorem hG : goodB T G = true := by kernel_rfl

/-- What a call comes to that is handed what came in. -/
theorem law_calls {f : FuncId} {args : List AV} {vals : Array Value} {W : World} (hK : K W.heap.size W) (ha : ArgsRep (AllCells W) W [] args vals) {n : Nat} (he : callN F n f args [] = some (.v (.bool true), [])) :
    Calls Tryd.prog f vals W fun e W' => e = .returned (.bool true) ∧ Below W.heap.size W W' := by
  have hI : AE.Inv W.heap.size W (AllCells W) [] W [] := ⟨Below.refl _ _, Nat.le_refl _, rfl, fun id o L h => by simp at h, fun id L h => by simp at h, fun i j Li Lj h => by simp at h, fun b x h => h⟩
  refine ((callN_ok mixed hT hKs hF n W.heap.size W hK).calls f args [] _ _ he (AllCells W) [] W vals hI ha).mono fun e W' h => ?_
  obtain ⟨v, I', σ', rfl, hI', _, hr⟩ := h
  cases hr
  exact ⟨rfl, hI'.below⟩
end Go.Proofs.YtgcbaefclkfnoaaDoor
end

/-! What all rows of this seat need: the world in which the library's two tables lie. -/
section
set_option linter.unusedVariables false
namespace Go.Proofs.YtgcbaefclkfnoaaDoor
open Go Go.AE Go.Proofs Go.RowKit Go.Lib Go.Shelf

def d32 : List Value := [0, 1, 28, 2, 29, 14, 24, 3, 30, 22, 20, 15, 25, 17, 4, 8, 31, 27, 13, 23, 21, 19, 16, 7, 26, 12, 18, 6, 11, 5, 10, 9].map fun z : Int => Value.int .u8 z
def d64 : List Value := [0, 1, 56, 2, 57, 49, 28, 3, 61, 58, 42, 50, 38, 29, 17, 4, 62, 47, 59, 36, 45, 43, 51, 22, 53, 39, 33, 30, 24, 18, 12, 5, 63, 55, 48, 27, 60, 41, 37, 16, 46, 35, 44, 21, 52, 32, 23, 11, 54, 26, 40, 15, 34, 20, 31, 10, 25, 14, 19, 9, 13, 8, 7, 6].map fun z : Int => Value.int .u8 z
def p10 : List Value := [1, 10, 100, 1000, 10000, 100000, 1000000, 10000000, 100000000, 1000000000, 10000000000, 100000000000, 1000000000000, 10000000000000, 100000000000000, 1000000000000000, 10000000000000000, 100000000000000000, 1000000000000000000, 10000000000000000000].map fun z : Int => Value.int .u64 z
/-- a world in which the variables hold what their initialisers lay -/
noncomputable def laidWorld (os : Os) : World :=
  let w0 := World.holding Tryd.prog os ⟨#[], #[], []⟩
  let put (h : Array Obj) (g : Nat) (cs : Array Value) : Array Obj := h.modify g fun
    | .cells _ t frozen => .cells cs t frozen
    | o => o
  let h1 := put w0.heap (Tryd.lays196_ren.g 3) (Lib.firstTab.map fun z => Value.int .u8 z).toArray
  let h2 := put h1 (Tryd.lays196_ren.g 4) ((List.range 16).flatMap fun i => [Value.int .u8 (Lib.accLo i), Value.int .u8 (Lib.accHi i)]).toArray
  let h3 := put h2 4 d32.toArray
  let h4 := put h3 5 d64.toArray
  let h5 := put h4 3 p10.toArray
  { w0 with heap := h5 }
set_option maxRecDepth 1000000 in
theorem laid_met (os : Os) (args : Array Value) : laidMetH Tryd.prog Rows.termSizesRow.laid ((laidWorld os).forCall (fun _ _ => 0) ⟨#[], args, []⟩).memory :=
  (LaidIn.of_run (l := [("math/bits.deBruijn32tab", Rows.laid_math_bits_deBruijn32tab), ("math/bits.deBruijn64tab", Rows.laid_math_bits_deBruijn64tab), ("internal/strconv.uint64pow10", Rows.laid_internal_strconv_uint64pow10), ("unicode/utf8.acceptRanges", Rows.laid_unicode_utf8_acceptRanges), ("unicode/utf8.first", Rows.laid_unicode_utf8_first)]) [0, 1, 2, 3, 4, 5] 8 (by kernel_rfl) (by kernel_rfl) (by kernel_rfl) (by kernel_rfl)).met
set_option maxRecDepth 1000000 in
theorem tabs_of {W : World} (hL : laidMetH Tryd.prog Rows.termSizesRow.laid W) : Lib.Utf8Tabs (Tryd.lays196_ren.g 3) (Tryd.lays196_ren.g 4) W :=
  utf8Tabs_of_readsT (U8Types.of196 Tryd.lays196) ⟨by kernel_rfl, by kernel_rfl, by kernel_rfl, by kernel_rfl, by kernel_rfl, by kernel_rfl, by kernel_rfl⟩ (Lib.laidMet.reads (l := Rows.termSizesRow.laid) hL (.tail _ (.tail _ (.tail _ (.tail _ (.head _)))))) (Lib.laidMet.reads (l := Rows.termSizesRow.laid) hL (.tail _ (.tail _ (.tail _ (.head _)))))
end Go.Proofs.YtgcbaefclkfnoaaDoor
end

/-! The row and the card of TermTurns, out of its plain law. -/
section
set_option linter.unusedVariables false
namespace Go.Proofs.YtgcbaefclkfnoaaDoor
open Go Go.AE Go.Proofs Go.ChangeShapes Go.WideShapes Go.ChangeAt Go.RowKit
open Go.ChangeMaps (open_string shut_string)
namespace termTurns
theorem args {I : Cells} {W : World} {a0 a1 a2 a3 : AV} {v0 v1 v2 v3 : Value} (r0 : Rep I W [] a0 v0) (r1 : Rep I W [] a1 v1) (r2 : Rep I W [] a2 v2) (r3 : Rep I W [] a3 v3) : ArgsRep I W [] [a0, a1, a2, a3] #[v0, v1, v2, v3] := by
  refine ⟨rfl, fun i a h => ?_⟩
  match i, h with
  | 0, h => cases h; exact r0
  | 1, h => cases h; exact r1
  | 2, h => cases h; exact r2
  | 3, h => cases h; exact r3
def Plain : Prop := ∀ a0 a1 a2 a3 : AV, WT T 24 a0.cells → asEl ti24.agg a0.cells = some a0 → WT T 24 a1.cells → asEl ti24.agg a1.cells = some a1 → WT T 24 a2.cells → asEl ti24.agg a2.cells = some a2 → WT T 2 a3.cells → asEl ti2.agg a3.cells = some a3 →
  ∃ n, callN F n 6 [a0, a1, a2, a3] [] = some (.v (.bool true), [])

set_option maxRecDepth 100000 in
theorem lifted (plain : Plain) (os : Os) (started : os.Started) (H : Type) (enc : TypeId × Value → H) :
    ReturnsInHanded {} Tryd.checked os 6 .any (fun w args => (Rows.termTurnsSpec.pre enc Tryd.prog Tryd.f6 [] false w args ∧ laidMetH Tryd.prog Rows.termTurnsRow.laid w) ∧ sizedMet enc Tryd.prog Tryd.f6 (OpenSpec.ofChange Rows.termTurnsSpec) false w args)
      (Rows.termTurnsSpec.post enc Tryd.prog Tryd.f6 false true false false) := by
  refine returnsInHanded_of_change_and (C := Tryd.checked) (X := fun w _ => laidMetH Tryd.prog Rows.termTurnsRow.laid w) (fun _ _ _ hh h => h.of_heap hh) own started (by kernel_rfl) Tryd.func6
    (ChangeSpec.witness_at (enc := enc) (C := Tryd.checked) (os := os) (X := fun w _ => laidMetH Tryd.prog Rows.termTurnsRow.laid w) false (laidWorld os) #[ti24.zero, ti24.zero, ti24.zero, ti2.zero] 8 rfl (by kernel_rfl) (by kernel_rfl) (by kernel_rfl) (by kernel_rfl) (by kernel_rfl) (laid_met os _)) ?_
  intro W base args' ds gs before hval0 hW _ _ hL _
  have hval : ∀ (j : Nat) t v, Tryd.f6.params[j]? = some t → args'[j]? = some v → Value.okWide Tryd.prog W .any base t v := hval0
  have hW' := hW
  obtain ⟨p, q, hA0, hV, rfl, hfz, hnd⟩ := hW
  have hA : DataW.TrodAll enc Tryd.prog W 0 (fun _ => true) true Tryd.f6.params.toList args'.toList ds p := hA0
  rw [Tryd.params6] at hA hval
  obtain ⟨v0, vs0, d0, ds0, p0, q0, hargs, rfl, rfl, h0, r0⟩ := trodAll_cons hA
  obtain ⟨v1, vs1, d1, ds1, p1, q1, rfl, rfl, rfl, h1, r1⟩ := trodAll_cons r0
  obtain ⟨v2, vs2, d2, ds2, p2, q2, rfl, rfl, rfl, h2, r2⟩ := trodAll_cons r1
  obtain ⟨v3, vs3, d3, ds3, p3, q3, rfl, rfl, rfl, h3, r3⟩ := trodAll_cons r2
  obtain ⟨rfl, rfl, rfl⟩ := trodAll_nil r3
  obtain rfl : args' = #[v0, v1, v2, v3] := by cases args'; simp_all
  obtain ⟨rfl, rfl⟩ := trodVars_none hV
  obtain ⟨a0, w0, e0, x0⟩ := trod_arg hT hG (t := 24) (i := ti24) (by decide) rfl (hval 0 24 v0 rfl rfl) h0
  obtain ⟨a1, w1, e1, x1⟩ := trod_arg hT hG (t := 24) (i := ti24) (by decide) rfl (hval 1 24 v1 rfl rfl) h1
  obtain ⟨a2, w2, e2, x2⟩ := trod_arg hT hG (t := 24) (i := ti24) (by decide) rfl (hval 2 24 v2 rfl rfl) h2
  obtain ⟨a3, w3, e3, x3⟩ := trod_arg hT hG (t := 2) (i := ti2) (by decide) rfl (hval 3 2 v3 rfl rfl) h3
  have l0 : ∀ x ∈ p0, x.block < W.heap.size := by obtain ⟨m, hm⟩ := h0; exact DataW.trod_lt m _ _ _ hm
  have l1 : ∀ x ∈ p1, x.block < W.heap.size := by obtain ⟨m, hm⟩ := h1; exact DataW.trod_lt m _ _ _ hm
  have l2 : ∀ x ∈ p2, x.block < W.heap.size := by obtain ⟨m, hm⟩ := h2; exact DataW.trod_lt m _ _ _ hm
  have l3 : ∀ x ∈ p3, x.block < W.heap.size := by obtain ⟨m, hm⟩ := h3; exact DataW.trod_lt m _ _ _ hm
  obtain ⟨n, hn⟩ := plain a0 a1 a2 a3 w0 e0 w1 e1 w2 e2 w3 e3
  refine (law_calls ⟨rfl, tabs_of hL⟩ (args x0 x1 x2 x3) hn).mono fun e W' ⟨he, bel⟩ => ?_
  subst he
  exact ⟨_, rfl, _, _, _, [], _, [], hW', trodAll_mk1 (shut_bool Tryd.underlying4 _),
    (trodAll_cons_mk (Below.trod laidOut (by kernel_rfl) (of_decide_eq_true (by kernel_rfl)) h0 bel l0) (trodAll_cons_mk (Below.trod laidOut (by kernel_rfl) (of_decide_eq_true (by kernel_rfl)) h1 bel l1) (trodAll_cons_mk (Below.trod laidOut (by kernel_rfl) (of_decide_eq_true (by kernel_rfl)) h2 bel l2) (trodAll_cons_mk (Below.trod laidOut (by kernel_rfl) (of_decide_eq_true (by kernel_rfl)) h3 bel l3) trodAll_mk0)))), rfl, bel.frame _, fun h => by cases h⟩
theorem over (plain : Plain) : Rows.termTurnsRow.holds Tryd.pinned (OpenSpec.ofChange Rows.termTurnsSpec) :=
  OpenClaim.holds_of_wide 6 Tryd.f6 rfl rfl rfl rfl rfl rfl rfl ⟨rfl, rfl, rfl, rfl, rfl⟩ rfl rfl rfl rfl rfl (by kernel_rfl) Tryd.func6 (by kernel_rfl)
    (of_decide_eq_true (by kernel_rfl)) (by unfold Func.isWrapper; first | (rw [if_pos (by decide +kernel)]; kernel_rfl) | (rw [if_neg (by decide +kernel)]; exact ⟨rfl, rfl⟩))
    (fun os started H enc _ => lifted plain os started H enc)
theorem proved (plain : Plain) : Rows.TermTurnsCardSaid :=
  Claim7.holds_tied_plain_at .later [] Rows.termTurnsCard.laidKinds true Rows.termTurnsCard.stood.harness Rows.termTurnsCard.stood.looks
    (over plain) (fun _ h => by cases h) (by kernel_rfl) (fun _ h => by cases h) termTurns_row_tie rfl ⟨rfl, rfl⟩ (by kernel_rfl) rfl
    (fun f fn hf hfn => by
      obtain rfl : f = 6 := Option.some.inj ((show Tryd.prog.funcNamed Rows.termTurnsRow.func = some 6 by kernel_rfl).symm.trans hf) |>.symm
      obtain rfl : fn = Tryd.f6 := (Option.some.inj (Tryd.func6.symm.trans hfn)).symm
      refine ⟨by kernel_rfl, fun j t ht => ?_⟩
      rw [Tryd.params6] at ht
      match j, ht with
      | 0, ht => cases ht; exact (show Tryd.prog.wantsStandIn 24 = false by kernel_rfl)
      | 1, ht => cases ht; exact (show Tryd.prog.wantsStandIn 24 = false by kernel_rfl)
      | 2, ht => cases ht; exact (show Tryd.prog.wantsStandIn 24 = false by kernel_rfl)
      | 3, ht => cases ht; exact (show Tryd.prog.wantsStandIn 2 = false by kernel_rfl)
      | _ + 4, ht => simp at ht)
    (by kernel_rfl)
end termTurns
end Go.Proofs.YtgcbaefclkfnoaaDoor
end

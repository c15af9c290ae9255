/- Texts of this claim, put together. -/
import Derived.Test.YtpgoibncgekflaaDoorPart3
/-! Whether a term may be, and how deep it is: the document's Check. -/
section
set_option linter.unusedVariables false
set_option linter.unusedSimpArgs false
namespace Go.AE.YtpgoibncgekflaaDoor
open Go Go.AE Go.Proofs.YtpgoibncgekflaaDoor

/-- whether a text may be an atom's -/
def chk (s : ByteArray) : Bool := decide ((s.size : Int) ≤ 255) && Lib.validD s.data.toList
theorem snaps (h : List AO) (s : ByteArray) : (AV.v (.string s)).snap1 h = some (.v (.string s)) := rfl
theorem chk_ok (s : ByteArray) : callW F 47 [.v (.string s)] [] = some (.v (.bool (chk s)), []) := by
  refine callW_pure (c := c47) rfl rfl 0 ?_
  unfold chk
  cases h1 : decide ((s.size : Int) ≤ 255) with
  | false => simp only [c47, start, List.replicate, c47_0, c47_1, h1, Bool.false_and, run_nil, run_cons, stp_plain, stp_guard, put_some, pass_eq, pick_tt, pick_ff, pick_tf, pick_ft, pick_u, reg_some, thn_normal, thn_exit, thn_ret, cnd_t, cnd_f, blk_normal, blk_ret, blk_exit, x_seq, x_region, x_cond, x_block, x_loop, x_ret, x_exit, x_skip, e_mov, e_pick, pk_t, pk_f, withH_some, e_box, bx_some, e_load, e_store, stH_some, e_nil, e_bin, e_eqv, eqH_f, eqH_t, e_un, e_fa, e_ia, ia_eq, nat_eq, natV_nat, e_len, lnH_some, e_extract, ex_0, ex_1, e_call0, e_call1, e_call2, e_call3, pc0_eq, pc1_some, pc2_some, pc3_some, fin_some, g_var0, g_vars, g_loc0, g_locs, g_int, g_bool, g_str, g_sl, s_none, s_zero, s_succ, AV.cl, evFa, evNil, evLoad, asEl, evBin, intBin, strBin, evUn, len_nil, len_slc, len_str, clr, List.length_nil, List.length_cons, List.getElem?_cons_zero, List.getElem?_cons_succ, Nat.reduceAdd, Nat.zero_add, Nat.add_zero, Nat.reduceLeDiff, Nat.reduceSub, ↓reduceIte, List.drop_succ_cons, List.drop_zero, List.take_succ_cons, List.take_zero, Bool.false_eq_true, List.nil_append, List.cons_append, Bool.not_true, Bool.not_false, cond_true, cond_false, bne, lv_ret, lv_normal, res1, res2, lv2_some, res_var, res_cell, lvf_v, lvf_slc, res1c, lvo1_some, e_mm, mm_max, mm_min]
  | true =>
    have h2 : s.size ≤ 9223372036854775807 := by
      have : (s.size : Int) ≤ 255 := by simpa using h1
      omega
    have hv : callW F 61 [.v (.string s)] [] = some (.v (.bool (Lib.validD s.data.toList)), []) := callW_oracle (g := validG) rfl (by simp [validG, h2])
    simp only [c47, start, List.replicate, c47_0, c47_1, h1, hv, snaps, Bool.true_and, run_nil, run_cons, stp_plain, stp_guard, put_some, pass_eq, pick_tt, pick_ff, pick_tf, pick_ft, pick_u, reg_some, thn_normal, thn_exit, thn_ret, cnd_t, cnd_f, blk_normal, blk_ret, blk_exit, x_seq, x_region, x_cond, x_block, x_loop, x_ret, x_exit, x_skip, e_mov, e_pick, pk_t, pk_f, withH_some, e_box, bx_some, e_load, e_store, stH_some, e_nil, e_bin, e_eqv, eqH_f, eqH_t, e_un, e_fa, e_ia, ia_eq, nat_eq, natV_nat, e_len, lnH_some, e_extract, ex_0, ex_1, e_call0, e_call1, e_call2, e_call3, pc0_eq, pc1_some, pc2_some, pc3_some, fin_some, g_var0, g_vars, g_loc0, g_locs, g_int, g_bool, g_str, g_sl, s_none, s_zero, s_succ, AV.cl, evFa, evNil, evLoad, asEl, evBin, intBin, strBin, evUn, len_nil, len_slc, len_str, clr, List.length_nil, List.length_cons, List.getElem?_cons_zero, List.getElem?_cons_succ, Nat.reduceAdd, Nat.zero_add, Nat.add_zero, Nat.reduceLeDiff, Nat.reduceSub, ↓reduceIte, List.drop_succ_cons, List.drop_zero, List.take_succ_cons, List.take_zero, Bool.false_eq_true, List.nil_append, List.cons_append, Bool.not_true, Bool.not_false, cond_true, cond_false, bne, lv_ret, lv_normal, res1, res2, lv2_some, res_var, res_cell, lvf_v, lvf_slc, res1c, lvo1_some, e_mm, mm_max, mm_min]

/-! ### Deep -/
mutual
def deepT : Tm → Int
  | .mk _ _ _ l => deepL l 0 + 1
def deepL : List Tm → Int → Int
  | [], m => m
  | t :: l, m => deepL l (max m (deepT t))
end
mutual
theorem deepT_le : ∀ t : Tm, 1 ≤ deepT t ∧ deepT t ≤ size t
  | .mk k s n l => by
    have := deepL_le l 0
    simp only [deepT, size]; omega
theorem deepL_le : ∀ (l : List Tm) (m : Int), m ≤ deepL l m ∧ deepL l m ≤ max m (sizeL l)
  | [], m => by simp only [deepL, sizeL]; omega
  | t :: l, m => by
    have h1 := deepT_le t
    have h2 := deepL_le l (max m (deepT t))
    simp only [deepL, sizeL]; omega
end
def K33 : List Bool := [false, false, false, true, false, true, true, true, false]
def L33 (m : Int) (c : AV) (len i : Int) : List AV := [.junk, .junk, .junk, .v (.int .i64 m), .junk, c, .v (.int .i64 len), .v (.int .i64 i), .junk]
theorem deep_loop {K : Nat} {c : AV} {es : List AV} (hs : Sl 4 c es) (hm : es.length ≤ 100000) :
    ∀ (l : List Tm) (i : Nat) (m : Int) (h : List AO) (vars : List AV), i + l.length = es.length → All2 (es.drop i) l → (∀ t ∈ l, ∀ (e : AV), IsT e t → callW F 33 [e] [] = some (.v (.int .i64 (deepT t)), [])) →
      clr K33 vars = L33 m c es.length i →
      ∃ h' x4 x8, loopN (exec (callW F) K c33_7) K33 (l.length + 1) vars h = some (.exit 0, [.junk, .junk, .junk, .v (.int .i64 (deepL l m)), x4, c, .v (.int .i64 es.length), .v (.int .i64 es.length), x8], h') := by
  intro l
  induction l with
  | nil =>
    intro i m h vars hi _ _ hv
    have hil : i = es.length := by simpa using hi
    subst hil
    have hlt : decide ((es.length : Int) < (es.length : Int)) = false := by simp
    refine ⟨h, .junk, .v (.bool false), loop_exit ?_⟩
    rw [hv]
    simp only [L33, deepL, c33_7, c33_3, hlt, e_bslice1, e_bslice2, bs1, bs2, e_build, bdH_some, bd_nil, bd_cons, bd1, cl_agg, cl_int, toL, List.map_cons, List.map_nil, putAt, List.set_cons_zero, List.set_cons_succ, and_self, Nat.le_refl, app_get, app_set, g_agg, run_nil, run_cons, stp_plain, stp_guard, put_some, pass_eq, pick_tt, pick_ff, pick_tf, pick_ft, pick_u, reg_some, thn_normal, thn_exit, thn_ret, cnd_t, cnd_f, blk_normal, blk_ret, blk_exit, x_seq, x_region, x_cond, x_block, x_loop, x_ret, x_exit, x_skip, e_mov, e_pick, pk_t, pk_f, withH_some, e_box, bx_some, e_load, e_store, stH_some, e_nil, e_bin, e_eqv, eqH_f, eqH_t, e_un, e_fa, e_ia, ia_eq, nat_eq, natV_nat, e_len, lnH_some, e_extract, ex_0, ex_1, e_call0, e_call1, e_call2, e_call3, pc0_eq, pc1_some, pc2_some, pc3_some, fin_some, g_var0, g_vars, g_loc0, g_locs, g_int, g_bool, g_str, g_sl, s_none, s_zero, s_succ, cl_nil, cl_str, cl_bool, cl_slc, cl_own, evFa, evNil, asEl, evBin, intBin, strBin, evUn, len_nil, len_slc, len_str, clr, List.length_nil, List.length_cons, List.getElem?_cons_zero, List.getElem?_cons_succ, Nat.reduceAdd, Nat.zero_add, Nat.add_zero, Nat.reduceLeDiff, Nat.reduceSub, ↓reduceIte, List.drop_succ_cons, List.drop_zero, List.take_succ_cons, List.take_zero, Bool.false_eq_true, List.nil_append, List.cons_append, Bool.not_true, Bool.not_false, cond_true, cond_false, bne, lv_ret, lv_normal, res1, res2, lv2_some, res_var, res_cell, lvf_v, lvf_slc, res1c, lvo1_some, e_mm, mm_max, mm_min]
  | cons t l ih =>
    intro i m h vars hi hes hcall hv
    have hil : i < es.length := by simp at hi; omega
    have he : es[i]? = some (es[i]'hil) := List.getElem?_eq_getElem _
    have hd : es.drop i = es[i] :: es.drop (i + 1) := List.drop_eq_getElem_cons hil
    rw [hd] at hes
    generalize es[i]'hil = e at hes he
    cases hes with
    | cons _ _ _ _ hT hs' =>
    have hc := hcall t (by simp) _ hT
    have hlt : (decide ((i : Int) < (es.length : Int))) = true := by simp; omega
    have q1 := hs.ia he
    have q3 : ∀ h : List AO, evLoad h true 4 (.ip e.cells) = some e := fun h => hT.load
    have q5 : ∀ h : List AO, e.snap1 h = some e := fun h => hT.snap
    have st : exec (callW F) K c33_7 (L33 m c es.length i) h = some (.normal, [.junk, .junk, .junk, .v (.int .i64 (max m (deepT t))), .ptr h.length 0, c, .v (.int .i64 es.length), .v (.int .i64 ((i + 1 : Nat) : Int)), .v (.bool true)], h ++ [.box e.cells]) := by
      have hz : ([.v (.int .i64 0), .v (.string ⟨#[]⟩), .v (.int .i64 0), .v (.slice none 0 0)] : List AV).length = 4 := rfl
      simp only [L33, c33_7, c33_3, c33_4, c33_5, c33_6, hlt, wrap_succ hil (small_max hm), q1, q3, q5, hc, hT.st _ _ hz, hT.ld, q9z, e_bslice1, e_bslice2, bs1, bs2, e_build, bdH_some, bd_nil, bd_cons, bd1, cl_agg, cl_int, toL, List.map_cons, List.map_nil, putAt, List.set_cons_zero, List.set_cons_succ, and_self, Nat.le_refl, app_get, app_set, g_agg, run_nil, run_cons, stp_plain, stp_guard, put_some, pass_eq, pick_tt, pick_ff, pick_tf, pick_ft, pick_u, reg_some, thn_normal, thn_exit, thn_ret, cnd_t, cnd_f, blk_normal, blk_ret, blk_exit, x_seq, x_region, x_cond, x_block, x_loop, x_ret, x_exit, x_skip, e_mov, e_pick, pk_t, pk_f, withH_some, e_box, bx_some, e_load, e_store, stH_some, e_nil, e_bin, e_eqv, eqH_f, eqH_t, e_un, e_fa, e_ia, ia_eq, nat_eq, natV_nat, e_len, lnH_some, e_extract, ex_0, ex_1, e_call0, e_call1, e_call2, e_call3, pc0_eq, pc1_some, pc2_some, pc3_some, fin_some, g_var0, g_vars, g_loc0, g_locs, g_int, g_bool, g_str, g_sl, s_none, s_zero, s_succ, cl_nil, cl_str, cl_bool, cl_slc, cl_own, evFa, evNil, asEl, evBin, intBin, strBin, evUn, len_nil, len_slc, len_str, clr, List.length_nil, List.length_cons, List.getElem?_cons_zero, List.getElem?_cons_succ, Nat.reduceAdd, Nat.zero_add, Nat.add_zero, Nat.reduceLeDiff, Nat.reduceSub, ↓reduceIte, List.drop_succ_cons, List.drop_zero, List.take_succ_cons, List.take_zero, Bool.false_eq_true, List.nil_append, List.cons_append, Bool.not_true, Bool.not_false, cond_true, cond_false, bne, lv_ret, lv_normal, res1, res2, lv2_some, res_var, res_cell, lvf_v, lvf_slc, res1c, lvo1_some, e_mm, mm_max, mm_min]
    rw [show (t :: l).length + 1 = (l.length + 1) + 1 from rfl, loop_normal (by rw [hv]; exact st), deepL]
    exact ih (i + 1) (max m (deepT t)) _ _ (by simp at hi; omega) hs' (fun t ht => hcall t (by simp [ht])) rfl
theorem deep_ok : ∀ (N : Nat) (t : Tm) (a : AV), SizeOf.sizeOf t < N → size t ≤ 100000 → IsT a t → callW F 33 [a] [] = some (.v (.int .i64 (deepT t)), []) := by
  intro N
  induction N with
  | zero => intro t a h; omega
  | succ N ih =>
    intro t a hN hsz ha
    have hdt := deepT_le t
    cases ha with
    | mk k s n c l hc =>
    have h5 := Tm.mk.sizeOf_spec k s n l
    have hsz' := hsz
    simp only [size] at hsz
    have hll := sizeL_len l
    have hcall : ∀ t ∈ l, ∀ (e : AV), IsT e t → callW F 33 [e] [] = some (.v (.int .i64 (deepT t)), []) := by
      intro t ht e hT
      have h6 := List.sizeOf_lt_of_mem ht
      have h7 := size_mem ht
      exact ih t e (by omega) (by omega) hT
    obtain ⟨es, hs, hes, hm⟩ := hc.sl
    have e1 := hes.length
    obtain ⟨h', x4, x8, g1⟩ := deep_loop (K := l.length + 1) hs (by omega) l 0 0 [.box [.v (.int .i64 k), .v (.string s), .v (.int .i64 n), c]] (L33 0 c es.length (0 : Nat)) (by omega) (by simpa using hes) hcall rfl
    have hw : IntKind.i64.wrap (deepL l 0 + 1) = deepL l 0 + 1 := by
      simp only [deepT] at hdt
      rw [wrap_ok] <;> omega
    refine callW_pure (c := c33) rfl rfl (l.length + 1) ?_
    show lv [.var 2] (exec (callW F) (l.length + 1) (.seq (.region [] [] c33_0) (.seq (.region [] [] c33_1) (.seq (.seq (.region [] [] c33_2) (.block 0 (.loop K33 [] c33_7))) (.seq (.region [] [] c33_8) .ret)))) _ _) = _
    generalize hrest : (CC.seq (.region [] [] c33_8) .ret) = rest
    simp only [c33, start, List.replicate, c33_0, c33_1, c33_2, hs.len, e_bslice1, e_bslice2, bs1, bs2, e_build, bdH_some, bd_nil, bd_cons, bd1, cl_agg, cl_int, toL, List.map_cons, List.map_nil, putAt, List.set_cons_zero, List.set_cons_succ, and_self, Nat.le_refl, evStore, app_get, app_set, g_agg, run_nil, run_cons, stp_plain, stp_guard, put_some, pass_eq, pick_tt, pick_ff, pick_tf, pick_ft, pick_u, reg_some, thn_normal, thn_exit, thn_ret, cnd_t, cnd_f, blk_normal, blk_ret, blk_exit, x_seq, x_region, x_cond, x_block, x_loop, x_ret, x_exit, x_skip, e_mov, e_pick, pk_t, pk_f, withH_some, e_box, bx_some, e_load, e_store, stH_some, e_nil, e_bin, e_eqv, eqH_f, eqH_t, e_un, e_fa, e_ia, ia_eq, nat_eq, natV_nat, e_len, lnH_some, e_extract, ex_0, ex_1, e_call0, e_call1, e_call2, e_call3, pc0_eq, pc1_some, pc2_some, pc3_some, fin_some, g_var0, g_vars, g_loc0, g_locs, g_int, g_bool, g_str, g_sl, s_none, s_zero, s_succ, cl_nil, cl_str, cl_bool, cl_slc, cl_own, evFa, evNil, evLoad, asEl, evBin, intBin, strBin, evUn, len_nil, len_slc, len_str, clr, List.length_nil, List.length_cons, List.getElem?_cons_zero, List.getElem?_cons_succ, Nat.reduceAdd, Nat.zero_add, Nat.add_zero, Nat.reduceLeDiff, Nat.reduceSub, ↓reduceIte, List.drop_succ_cons, List.drop_zero, List.take_succ_cons, List.take_zero, Bool.false_eq_true, List.nil_append, List.cons_append, Bool.not_true, Bool.not_false, cond_true, cond_false, bne, lv_ret, lv_normal, res1, res2, lv2_some, res_var, res_cell, lvf_v, lvf_slc, res1c, lvo1_some, e_mm, mm_max, mm_min]
    rw [loop_cong (v2 := L33 0 c es.length ((0 : Nat) : Int)) (by rfl), g1, ← hrest]
    simp only [blk_exit, thn_normal, c33_8, deepT, hw, run_nil, run_cons, stp_plain, stp_guard, put_some, pass_eq, pick_tt, pick_ff, pick_tf, pick_ft, pick_u, reg_some, thn_normal, thn_exit, thn_ret, cnd_t, cnd_f, blk_normal, blk_ret, blk_exit, x_seq, x_region, x_cond, x_block, x_loop, x_ret, x_exit, x_skip, e_mov, e_pick, pk_t, pk_f, withH_some, e_box, bx_some, e_load, e_store, stH_some, e_nil, e_bin, e_eqv, eqH_f, eqH_t, e_un, e_fa, e_ia, ia_eq, nat_eq, natV_nat, e_len, lnH_some, e_extract, ex_0, ex_1, e_call0, e_call1, e_call2, e_call3, pc0_eq, pc1_some, pc2_some, pc3_some, fin_some, g_var0, g_vars, g_loc0, g_locs, g_int, g_bool, g_str, g_sl, s_none, s_zero, s_succ, cl_nil, cl_str, cl_bool, cl_slc, cl_own, evFa, evNil, asEl, evBin, intBin, strBin, evUn, len_nil, len_slc, len_str, clr, List.length_nil, List.length_cons, List.getElem?_cons_zero, List.getElem?_cons_succ, Nat.reduceAdd, Nat.zero_add, Nat.add_zero, Nat.reduceLeDiff, Nat.reduceSub, ↓reduceIte, List.drop_succ_cons, List.drop_zero, List.take_succ_cons, List.take_zero, Bool.false_eq_true, List.nil_append, List.cons_append, Bool.not_true, Bool.not_false, cond_true, cond_false, bne, lv_ret, lv_normal, res1, res2, lv2_some, res_var, res_cell, lvf_v, lvf_slc, res1c, lvo1_some, e_mm, mm_max, mm_min]

/-! ### may -/
mutual
def mayT : Tm → Bool
  | .mk k s n l =>
    if k == 1 then decide (n ≥ 0) && (s.toList == (⟨#[]⟩ : ByteArray).toList) && ((l.length : Int) == 0)
    else if k == 2 then (n == 0) && chk s && ((l.length : Int) == 0)
    else if k == 3 then (s.toList == (⟨#[]⟩ : ByteArray).toList) && ((l.length : Int) == 0)
    else if k == 4 then (n == 0) && chk s && !decide ((l.length : Int) < 1) && !decide ((l.length : Int) > 16) && mayL l
    else false
def mayL : List Tm → Bool
  | [] => true
  | t :: l => mayT t && mayL l
end
def K32' : List Bool := [false, false, false, false, false, false, false, false, false, false, true, true, true, false, false]
def L32' (c : AV) (len i : Int) : List AV := [.junk, .junk, .junk, .junk, .junk, .junk, .junk, .junk, .junk, .junk, c, .v (.int .i64 len), .v (.int .i64 i), .junk, .junk]
theorem may_loop {K : Nat} {c : AV} {es : List AV} (hs : Sl 4 c es) (hm : es.length ≤ 100000) :
    ∀ (l : List Tm) (i : Nat) (h : List AO) (vars : List AV), i + l.length = es.length → All2 (es.drop i) l → (∀ t ∈ l, ∀ (e : AV), IsT e t → callW F 32 [e] [] = some (.v (.bool (mayT t)), [])) →
      clr K32' vars = L32' c es.length i →
      (mayL l = false ∧ ∃ vs h', loopN (exec (callW F) K c32_17) K32' (l.length + 1) vars h = some (.ret, vs, h') ∧ getO vs [] (.var 2) = .v (.bool false)) ∨
      (mayL l = true ∧ ∃ vs h', loopN (exec (callW F) K c32_17) K32' (l.length + 1) vars h = some (.exit 1, vs, h') ∧ vs.length = 15) := by
  intro l
  induction l with
  | nil =>
    intro i h vars hi _ _ hv
    have hil : i = es.length := by simpa using hi
    subst hil
    have hlt : decide ((es.length : Int) < (es.length : Int)) = false := by simp
    refine .inr ⟨rfl, [.junk, .junk, .junk, .junk, .junk, .junk, .junk, .junk, .junk, .junk, c, .v (.int .i64 es.length), .v (.int .i64 es.length), .v (.bool false), .junk], h, loop_exit ?_, rfl⟩
    rw [hv]
    simp only [L32', c32_17, c32_12, hlt, e_bslice1, e_bslice2, bs1, bs2, e_build, bdH_some, bd_nil, bd_cons, bd1, cl_agg, cl_int, toL, List.map_cons, List.map_nil, putAt, List.set_cons_zero, List.set_cons_succ, and_self, Nat.le_refl, app_get, app_set, g_agg, run_nil, run_cons, stp_plain, stp_guard, put_some, pass_eq, pick_tt, pick_ff, pick_tf, pick_ft, pick_u, reg_some, thn_normal, thn_exit, thn_ret, cnd_t, cnd_f, blk_normal, blk_ret, blk_exit, x_seq, x_region, x_cond, x_block, x_loop, x_ret, x_exit, x_skip, e_mov, e_pick, pk_t, pk_f, withH_some, e_box, bx_some, e_load, e_store, stH_some, e_nil, e_bin, e_eqv, eqH_f, eqH_t, e_un, e_fa, e_ia, ia_eq, nat_eq, natV_nat, e_len, lnH_some, e_extract, ex_0, ex_1, e_call0, e_call1, e_call2, e_call3, pc0_eq, pc1_some, pc2_some, pc3_some, fin_some, g_var0, g_vars, g_loc0, g_locs, g_int, g_bool, g_str, g_sl, s_none, s_zero, s_succ, cl_nil, cl_str, cl_bool, cl_slc, cl_own, evFa, evNil, asEl, evBin, intBin, strBin, evUn, len_nil, len_slc, len_str, clr, List.length_nil, List.length_cons, List.getElem?_cons_zero, List.getElem?_cons_succ, Nat.reduceAdd, Nat.zero_add, Nat.add_zero, Nat.reduceLeDiff, Nat.reduceSub, ↓reduceIte, List.drop_succ_cons, List.drop_zero, List.take_succ_cons, List.take_zero, Bool.false_eq_true, List.nil_append, List.cons_append, Bool.not_true, Bool.not_false, cond_true, cond_false, bne, lv_ret, lv_normal, res1, res2, lv2_some, res_var, res_cell, lvf_v, lvf_slc, res1c, lvo1_some, e_mm, mm_max, mm_min]
  | cons t l ih =>
    intro i h vars hi hes hcall hv
    have hil : i < es.length := by simp at hi; omega
    have he : es[i]? = some (es[i]'hil) := List.getElem?_eq_getElem _
    have hd : es.drop i = es[i] :: es.drop (i + 1) := List.drop_eq_getElem_cons hil
    rw [hd] at hes
    generalize es[i]'hil = e at hes he
    cases hes with
    | cons _ _ _ _ hT hs' =>
    have hc := hcall t (by simp) _ hT
    have hlt : (decide ((i : Int) < (es.length : Int))) = true := by simp; omega
    have q1 := hs.ia he
    have q3 : ∀ h : List AO, evLoad h true 4 (.ip e.cells) = some e := fun h => hT.load
    have q5 : ∀ h : List AO, e.snap1 h = some e := fun h => hT.snap
    have hz : ([.v (.int .i64 0), .v (.string ⟨#[]⟩), .v (.int .i64 0), .v (.slice none 0 0)] : List AV).length = 4 := rfl
    cases hmt : mayT t with
    | false =>
      rw [hmt] at hc
      left
      refine ⟨by simp [mayL, hmt], [.junk, .junk, .v (.bool false), .ptr h.length 0, .junk, .junk, .junk, .junk, .junk, .junk, c, .v (.int .i64 es.length), .v (.int .i64 i), .v (.bool true), .v (.bool true)], h ++ [.box e.cells], loop_ret ?_, rfl⟩
      rw [hv]
      simp only [L32', c32_17, c32_12, c32_13, c32_14, c32_15, hlt, q1, q3, q5, hc, hT.st _ _ hz, hT.ld, q9z, e_bslice1, e_bslice2, bs1, bs2, e_build, bdH_some, bd_nil, bd_cons, bd1, cl_agg, cl_int, toL, List.map_cons, List.map_nil, putAt, List.set_cons_zero, List.set_cons_succ, and_self, Nat.le_refl, app_get, app_set, g_agg, run_nil, run_cons, stp_plain, stp_guard, put_some, pass_eq, pick_tt, pick_ff, pick_tf, pick_ft, pick_u, reg_some, thn_normal, thn_exit, thn_ret, cnd_t, cnd_f, blk_normal, blk_ret, blk_exit, x_seq, x_region, x_cond, x_block, x_loop, x_ret, x_exit, x_skip, e_mov, e_pick, pk_t, pk_f, withH_some, e_box, bx_some, e_load, e_store, stH_some, e_nil, e_bin, e_eqv, eqH_f, eqH_t, e_un, e_fa, e_ia, ia_eq, nat_eq, natV_nat, e_len, lnH_some, e_extract, ex_0, ex_1, e_call0, e_call1, e_call2, e_call3, pc0_eq, pc1_some, pc2_some, pc3_some, fin_some, g_var0, g_vars, g_loc0, g_locs, g_int, g_bool, g_str, g_sl, s_none, s_zero, s_succ, cl_nil, cl_str, cl_bool, cl_slc, cl_own, evFa, evNil, asEl, evBin, intBin, strBin, evUn, len_nil, len_slc, len_str, clr, List.length_nil, List.length_cons, List.getElem?_cons_zero, List.getElem?_cons_succ, Nat.reduceAdd, Nat.zero_add, Nat.add_zero, Nat.reduceLeDiff, Nat.reduceSub, ↓reduceIte, List.drop_succ_cons, List.drop_zero, List.take_succ_cons, List.take_zero, Bool.false_eq_true, List.nil_append, List.cons_append, Bool.not_true, Bool.not_false, cond_true, cond_false, bne, lv_ret, lv_normal, res1, res2, lv2_some, res_var, res_cell, lvf_v, lvf_slc, res1c, lvo1_some, e_mm, mm_max, mm_min]
    | true =>
      rw [hmt] at hc
      have st : exec (callW F) K c32_17 (L32' c es.length i) h = some (.normal, [.junk, .junk, .junk, .ptr h.length 0, .junk, .junk, .junk, .junk, .junk, .junk, c, .v (.int .i64 es.length), .v (.int .i64 ((i + 1 : Nat) : Int)), .v (.bool true), .v (.bool false)], h ++ [.box e.cells]) := by
        simp only [L32', c32_17, c32_12, c32_13, c32_14, c32_16, hlt, wrap_succ hil (small_max hm), q1, q3, q5, hc, hT.st _ _ hz, hT.ld, q9z, e_bslice1, e_bslice2, bs1, bs2, e_build, bdH_some, bd_nil, bd_cons, bd1, cl_agg, cl_int, toL, List.map_cons, List.map_nil, putAt, List.set_cons_zero, List.set_cons_succ, and_self, Nat.le_refl, app_get, app_set, g_agg, run_nil, run_cons, stp_plain, stp_guard, put_some, pass_eq, pick_tt, pick_ff, pick_tf, pick_ft, pick_u, reg_some, thn_normal, thn_exit, thn_ret, cnd_t, cnd_f, blk_normal, blk_ret, blk_exit, x_seq, x_region, x_cond, x_block, x_loop, x_ret, x_exit, x_skip, e_mov, e_pick, pk_t, pk_f, withH_some, e_box, bx_some, e_load, e_store, stH_some, e_nil, e_bin, e_eqv, eqH_f, eqH_t, e_un, e_fa, e_ia, ia_eq, nat_eq, natV_nat, e_len, lnH_some, e_extract, ex_0, ex_1, e_call0, e_call1, e_call2, e_call3, pc0_eq, pc1_some, pc2_some, pc3_some, fin_some, g_var0, g_vars, g_loc0, g_locs, g_int, g_bool, g_str, g_sl, s_none, s_zero, s_succ, cl_nil, cl_str, cl_bool, cl_slc, cl_own, evFa, evNil, asEl, evBin, intBin, strBin, evUn, len_nil, len_slc, len_str, clr, List.length_nil, List.length_cons, List.getElem?_cons_zero, List.getElem?_cons_succ, Nat.reduceAdd, Nat.zero_add, Nat.add_zero, Nat.reduceLeDiff, Nat.reduceSub, ↓reduceIte, List.drop_succ_cons, List.drop_zero, List.take_succ_cons, List.take_zero, Bool.false_eq_true, List.nil_append, List.cons_append, Bool.not_true, Bool.not_false, cond_true, cond_false, bne, lv_ret, lv_normal, res1, res2, lv2_some, res_var, res_cell, lvf_v, lvf_slc, res1c, lvo1_some, e_mm, mm_max, mm_min]
      rw [show (t :: l).length + 1 = (l.length + 1) + 1 from rfl, loop_normal (by rw [hv]; exact st)]
      have hml : mayL (t :: l) = mayL l := by simp [mayL, hmt]
      rw [hml]
      exact ih (i + 1) _ _ (by simp at hi; omega) hs' (fun t ht => hcall t (by simp [ht])) rfl

theorem may_ok : ∀ (N : Nat) (t : Tm) (a : AV), SizeOf.sizeOf t < N → size t ≤ 100000 → IsT a t → callW F 32 [a] [] = some (.v (.bool (mayT t)), []) := by
  intro N
  induction N with
  | zero => intro t a h; omega
  | succ N ih =>
    intro t a hN hsz ha
    cases ha with
    | mk k s n c l hc =>
    have h5 := Tm.mk.sizeOf_spec k s n l
    simp only [size] at hsz
    have hll := sizeL_len l
    have hcall : ∀ t ∈ l, ∀ (e : AV), IsT e t → callW F 32 [e] [] = some (.v (.bool (mayT t)), []) := by
      intro t ht e hT
      have h6 := List.sizeOf_lt_of_mem ht
      have h7 := size_mem ht
      exact ih t e (by omega) (by omega) hT
    obtain ⟨es, hs, hes, hm⟩ := hc.sl
    have e1 : (l.length : Int) = (es.length : Int) := by have := hes.length; omega
    have hck := chk_ok s
    have hl := hs.len
    rw [mayT, e1]
    cases k1 : (k == 1) with
    | true =>
      simp only [if_true]
      refine callW_pure (c := c32) rfl rfl 0 ?_
      cases b1 : decide (n ≥ 0) with
      | false => simp only [c32, start, List.replicate, c32_0, c32_1, c32_2, c32_3, k1, b1, hl, Bool.false_and, e_bslice1, e_bslice2, bs1, bs2, e_build, bdH_some, bd_nil, bd_cons, bd1, cl_agg, cl_int, toL, List.map_cons, List.map_nil, putAt, List.set_cons_zero, List.set_cons_succ, and_self, Nat.le_refl, evStore, app_get, app_set, g_agg, run_nil, run_cons, stp_plain, stp_guard, put_some, pass_eq, pick_tt, pick_ff, pick_tf, pick_ft, pick_u, reg_some, thn_normal, thn_exit, thn_ret, cnd_t, cnd_f, blk_normal, blk_ret, blk_exit, x_seq, x_region, x_cond, x_block, x_loop, x_ret, x_exit, x_skip, e_mov, e_pick, pk_t, pk_f, withH_some, e_box, bx_some, e_load, e_store, stH_some, e_nil, e_bin, e_eqv, eqH_f, eqH_t, e_un, e_fa, e_ia, ia_eq, nat_eq, natV_nat, e_len, lnH_some, e_extract, ex_0, ex_1, e_call0, e_call1, e_call2, e_call3, pc0_eq, pc1_some, pc2_some, pc3_some, fin_some, g_var0, g_vars, g_loc0, g_locs, g_int, g_bool, g_str, g_sl, s_none, s_zero, s_succ, cl_nil, cl_str, cl_bool, cl_slc, cl_own, evFa, evNil, evLoad, asEl, evBin, intBin, strBin, evUn, len_nil, len_slc, len_str, clr, List.length_nil, List.length_cons, List.getElem?_cons_zero, List.getElem?_cons_succ, Nat.reduceAdd, Nat.zero_add, Nat.add_zero, Nat.reduceLeDiff, Nat.reduceSub, ↓reduceIte, List.drop_succ_cons, List.drop_zero, List.take_succ_cons, List.take_zero, Bool.false_eq_true, List.nil_append, List.cons_append, Bool.not_true, Bool.not_false, cond_true, cond_false, bne, lv_ret, lv_normal, res1, res2, lv2_some, res_var, res_cell, lvf_v, lvf_slc, res1c, lvo1_some, e_mm, mm_max, mm_min]
      | true =>
        cases b2 : (s.toList == (⟨#[]⟩ : ByteArray).toList) with
        | false => simp only [c32, start, List.replicate, c32_0, c32_1, c32_2, c32_3, k1, b1, b2, hl, Bool.false_and, Bool.true_and, e_bslice1, e_bslice2, bs1, bs2, e_build, bdH_some, bd_nil, bd_cons, bd1, cl_agg, cl_int, toL, List.map_cons, List.map_nil, putAt, List.set_cons_zero, List.set_cons_succ, and_self, Nat.le_refl, evStore, app_get, app_set, g_agg, run_nil, run_cons, stp_plain, stp_guard, put_some, pass_eq, pick_tt, pick_ff, pick_tf, pick_ft, pick_u, reg_some, thn_normal, thn_exit, thn_ret, cnd_t, cnd_f, blk_normal, blk_ret, blk_exit, x_seq, x_region, x_cond, x_block, x_loop, x_ret, x_exit, x_skip, e_mov, e_pick, pk_t, pk_f, withH_some, e_box, bx_some, e_load, e_store, stH_some, e_nil, e_bin, e_eqv, eqH_f, eqH_t, e_un, e_fa, e_ia, ia_eq, nat_eq, natV_nat, e_len, lnH_some, e_extract, ex_0, ex_1, e_call0, e_call1, e_call2, e_call3, pc0_eq, pc1_some, pc2_some, pc3_some, fin_some, g_var0, g_vars, g_loc0, g_locs, g_int, g_bool, g_str, g_sl, s_none, s_zero, s_succ, cl_nil, cl_str, cl_bool, cl_slc, cl_own, evFa, evNil, evLoad, asEl, evBin, intBin, strBin, evUn, len_nil, len_slc, len_str, clr, List.length_nil, List.length_cons, List.getElem?_cons_zero, List.getElem?_cons_succ, Nat.reduceAdd, Nat.zero_add, Nat.add_zero, Nat.reduceLeDiff, Nat.reduceSub, ↓reduceIte, List.drop_succ_cons, List.drop_zero, List.take_succ_cons, List.take_zero, Bool.false_eq_true, List.nil_append, List.cons_append, Bool.not_true, Bool.not_false, cond_true, cond_false, bne, lv_ret, lv_normal, res1, res2, lv2_some, res_var, res_cell, lvf_v, lvf_slc, res1c, lvo1_some, e_mm, mm_max, mm_min]
        | true => simp only [c32, start, List.replicate, c32_0, c32_1, c32_2, c32_3, k1, b1, b2, hl, Bool.false_and, Bool.true_and, e_bslice1, e_bslice2, bs1, bs2, e_build, bdH_some, bd_nil, bd_cons, bd1, cl_agg, cl_int, toL, List.map_cons, List.map_nil, putAt, List.set_cons_zero, List.set_cons_succ, and_self, Nat.le_refl, evStore, app_get, app_set, g_agg, run_nil, run_cons, stp_plain, stp_guard, put_some, pass_eq, pick_tt, pick_ff, pick_tf, pick_ft, pick_u, reg_some, thn_normal, thn_exit, thn_ret, cnd_t, cnd_f, blk_normal, blk_ret, blk_exit, x_seq, x_region, x_cond, x_block, x_loop, x_ret, x_exit, x_skip, e_mov, e_pick, pk_t, pk_f, withH_some, e_box, bx_some, e_load, e_store, stH_some, e_nil, e_bin, e_eqv, eqH_f, eqH_t, e_un, e_fa, e_ia, ia_eq, nat_eq, natV_nat, e_len, lnH_some, e_extract, ex_0, ex_1, e_call0, e_call1, e_call2, e_call3, pc0_eq, pc1_some, pc2_some, pc3_some, fin_some, g_var0, g_vars, g_loc0, g_locs, g_int, g_bool, g_str, g_sl, s_none, s_zero, s_succ, cl_nil, cl_str, cl_bool, cl_slc, cl_own, evFa, evNil, evLoad, asEl, evBin, intBin, strBin, evUn, len_nil, len_slc, len_str, clr, List.length_nil, List.length_cons, List.getElem?_cons_zero, List.getElem?_cons_succ, Nat.reduceAdd, Nat.zero_add, Nat.add_zero, Nat.reduceLeDiff, Nat.reduceSub, ↓reduceIte, List.drop_succ_cons, List.drop_zero, List.take_succ_cons, List.take_zero, Bool.false_eq_true, List.nil_append, List.cons_append, Bool.not_true, Bool.not_false, cond_true, cond_false, bne, lv_ret, lv_normal, res1, res2, lv2_some, res_var, res_cell, lvf_v, lvf_slc, res1c, lvo1_some, e_mm, mm_max, mm_min]
    | false =>
    cases k2 : (k == 2) with
    | true =>
      simp only [if_true, Bool.false_eq_true, if_false]
      refine callW_pure (c := c32) rfl rfl 0 ?_
      cases b1 : (n == 0) with
      | false => simp only [c32, start, List.replicate, c32_0, c32_1, c32_2, c32_4, c32_5, k1, k2, b1, hl, hck, snaps, Bool.false_and, e_bslice1, e_bslice2, bs1, bs2, e_build, bdH_some, bd_nil, bd_cons, bd1, cl_agg, cl_int, toL, List.map_cons, List.map_nil, putAt, List.set_cons_zero, List.set_cons_succ, and_self, Nat.le_refl, evStore, app_get, app_set, g_agg, run_nil, run_cons, stp_plain, stp_guard, put_some, pass_eq, pick_tt, pick_ff, pick_tf, pick_ft, pick_u, reg_some, thn_normal, thn_exit, thn_ret, cnd_t, cnd_f, blk_normal, blk_ret, blk_exit, x_seq, x_region, x_cond, x_block, x_loop, x_ret, x_exit, x_skip, e_mov, e_pick, pk_t, pk_f, withH_some, e_box, bx_some, e_load, e_store, stH_some, e_nil, e_bin, e_eqv, eqH_f, eqH_t, e_un, e_fa, e_ia, ia_eq, nat_eq, natV_nat, e_len, lnH_some, e_extract, ex_0, ex_1, e_call0, e_call1, e_call2, e_call3, pc0_eq, pc1_some, pc2_some, pc3_some, fin_some, g_var0, g_vars, g_loc0, g_locs, g_int, g_bool, g_str, g_sl, s_none, s_zero, s_succ, cl_nil, cl_str, cl_bool, cl_slc, cl_own, evFa, evNil, evLoad, asEl, evBin, intBin, strBin, evUn, len_nil, len_slc, len_str, clr, List.length_nil, List.length_cons, List.getElem?_cons_zero, List.getElem?_cons_succ, Nat.reduceAdd, Nat.zero_add, Nat.add_zero, Nat.reduceLeDiff, Nat.reduceSub, ↓reduceIte, List.drop_succ_cons, List.drop_zero, List.take_succ_cons, List.take_zero, Bool.false_eq_true, List.nil_append, List.cons_append, Bool.not_true, Bool.not_false, cond_true, cond_false, bne, lv_ret, lv_normal, res1, res2, lv2_some, res_var, res_cell, lvf_v, lvf_slc, res1c, lvo1_some, e_mm, mm_max, mm_min]
      | true =>
        cases b2 : chk s with
        | false => rw [b2] at hck; simp only [c32, start, List.replicate, c32_0, c32_1, c32_2, c32_4, c32_5, k1, k2, b1, hl, hck, snaps, Bool.false_and, Bool.true_and, e_bslice1, e_bslice2, bs1, bs2, e_build, bdH_some, bd_nil, bd_cons, bd1, cl_agg, cl_int, toL, List.map_cons, List.map_nil, putAt, List.set_cons_zero, List.set_cons_succ, and_self, Nat.le_refl, evStore, app_get, app_set, g_agg, run_nil, run_cons, stp_plain, stp_guard, put_some, pass_eq, pick_tt, pick_ff, pick_tf, pick_ft, pick_u, reg_some, thn_normal, thn_exit, thn_ret, cnd_t, cnd_f, blk_normal, blk_ret, blk_exit, x_seq, x_region, x_cond, x_block, x_loop, x_ret, x_exit, x_skip, e_mov, e_pick, pk_t, pk_f, withH_some, e_box, bx_some, e_load, e_store, stH_some, e_nil, e_bin, e_eqv, eqH_f, eqH_t, e_un, e_fa, e_ia, ia_eq, nat_eq, natV_nat, e_len, lnH_some, e_extract, ex_0, ex_1, e_call0, e_call1, e_call2, e_call3, pc0_eq, pc1_some, pc2_some, pc3_some, fin_some, g_var0, g_vars, g_loc0, g_locs, g_int, g_bool, g_str, g_sl, s_none, s_zero, s_succ, cl_nil, cl_str, cl_bool, cl_slc, cl_own, evFa, evNil, evLoad, asEl, evBin, intBin, strBin, evUn, len_nil, len_slc, len_str, clr, List.length_nil, List.length_cons, List.getElem?_cons_zero, List.getElem?_cons_succ, Nat.reduceAdd, Nat.zero_add, Nat.add_zero, Nat.reduceLeDiff, Nat.reduceSub, ↓reduceIte, List.drop_succ_cons, List.drop_zero, List.take_succ_cons, List.take_zero, Bool.false_eq_true, List.nil_append, List.cons_append, Bool.not_true, Bool.not_false, cond_true, cond_false, bne, lv_ret, lv_normal, res1, res2, lv2_some, res_var, res_cell, lvf_v, lvf_slc, res1c, lvo1_some, e_mm, mm_max, mm_min]
        | true => rw [b2] at hck; simp only [c32, start, List.replicate, c32_0, c32_1, c32_2, c32_4, c32_5, k1, k2, b1, hl, hck, snaps, Bool.false_and, Bool.true_and, e_bslice1, e_bslice2, bs1, bs2, e_build, bdH_some, bd_nil, bd_cons, bd1, cl_agg, cl_int, toL, List.map_cons, List.map_nil, putAt, List.set_cons_zero, List.set_cons_succ, and_self, Nat.le_refl, evStore, app_get, app_set, g_agg, run_nil, run_cons, stp_plain, stp_guard, put_some, pass_eq, pick_tt, pick_ff, pick_tf, pick_ft, pick_u, reg_some, thn_normal, thn_exit, thn_ret, cnd_t, cnd_f, blk_normal, blk_ret, blk_exit, x_seq, x_region, x_cond, x_block, x_loop, x_ret, x_exit, x_skip, e_mov, e_pick, pk_t, pk_f, withH_some, e_box, bx_some, e_load, e_store, stH_some, e_nil, e_bin, e_eqv, eqH_f, eqH_t, e_un, e_fa, e_ia, ia_eq, nat_eq, natV_nat, e_len, lnH_some, e_extract, ex_0, ex_1, e_call0, e_call1, e_call2, e_call3, pc0_eq, pc1_some, pc2_some, pc3_some, fin_some, g_var0, g_vars, g_loc0, g_locs, g_int, g_bool, g_str, g_sl, s_none, s_zero, s_succ, cl_nil, cl_str, cl_bool, cl_slc, cl_own, evFa, evNil, evLoad, asEl, evBin, intBin, strBin, evUn, len_nil, len_slc, len_str, clr, List.length_nil, List.length_cons, List.getElem?_cons_zero, List.getElem?_cons_succ, Nat.reduceAdd, Nat.zero_add, Nat.add_zero, Nat.reduceLeDiff, Nat.reduceSub, ↓reduceIte, List.drop_succ_cons, List.drop_zero, List.take_succ_cons, List.take_zero, Bool.false_eq_true, List.nil_append, List.cons_append, Bool.not_true, Bool.not_false, cond_true, cond_false, bne, lv_ret, lv_normal, res1, res2, lv2_some, res_var, res_cell, lvf_v, lvf_slc, res1c, lvo1_some, e_mm, mm_max, mm_min]
    | false =>
    cases k3 : (k == 3) with
    | true =>
      simp only [if_true, Bool.false_eq_true, if_false]
      refine callW_pure (c := c32) rfl rfl 0 ?_
      cases b2 : (s.toList == (⟨#[]⟩ : ByteArray).toList) with
      | false => simp only [c32, start, List.replicate, c32_0, c32_1, c32_2, c32_4, c32_6, c32_7, k1, k2, k3, b2, hl, Bool.false_and, Bool.true_and, e_bslice1, e_bslice2, bs1, bs2, e_build, bdH_some, bd_nil, bd_cons, bd1, cl_agg, cl_int, toL, List.map_cons, List.map_nil, putAt, List.set_cons_zero, List.set_cons_succ, and_self, Nat.le_refl, evStore, app_get, app_set, g_agg, run_nil, run_cons, stp_plain, stp_guard, put_some, pass_eq, pick_tt, pick_ff, pick_tf, pick_ft, pick_u, reg_some, thn_normal, thn_exit, thn_ret, cnd_t, cnd_f, blk_normal, blk_ret, blk_exit, x_seq, x_region, x_cond, x_block, x_loop, x_ret, x_exit, x_skip, e_mov, e_pick, pk_t, pk_f, withH_some, e_box, bx_some, e_load, e_store, stH_some, e_nil, e_bin, e_eqv, eqH_f, eqH_t, e_un, e_fa, e_ia, ia_eq, nat_eq, natV_nat, e_len, lnH_some, e_extract, ex_0, ex_1, e_call0, e_call1, e_call2, e_call3, pc0_eq, pc1_some, pc2_some, pc3_some, fin_some, g_var0, g_vars, g_loc0, g_locs, g_int, g_bool, g_str, g_sl, s_none, s_zero, s_succ, cl_nil, cl_str, cl_bool, cl_slc, cl_own, evFa, evNil, evLoad, asEl, evBin, intBin, strBin, evUn, len_nil, len_slc, len_str, clr, List.length_nil, List.length_cons, List.getElem?_cons_zero, List.getElem?_cons_succ, Nat.reduceAdd, Nat.zero_add, Nat.add_zero, Nat.reduceLeDiff, Nat.reduceSub, ↓reduceIte, List.drop_succ_cons, List.drop_zero, List.take_succ_cons, List.take_zero, Bool.false_eq_true, List.nil_append, List.cons_append, Bool.not_true, Bool.not_false, cond_true, cond_false, bne, lv_ret, lv_normal, res1, res2, lv2_some, res_var, res_cell, lvf_v, lvf_slc, res1c, lvo1_some, e_mm, mm_max, mm_min]
      | true => simp only [c32, start, List.replicate, c32_0, c32_1, c32_2, c32_4, c32_6, c32_7, k1, k2, k3, b2, hl, Bool.false_and, Bool.true_and, e_bslice1, e_bslice2, bs1, bs2, e_build, bdH_some, bd_nil, bd_cons, bd1, cl_agg, cl_int, toL, List.map_cons, List.map_nil, putAt, List.set_cons_zero, List.set_cons_succ, and_self, Nat.le_refl, evStore, app_get, app_set, g_agg, run_nil, run_cons, stp_plain, stp_guard, put_some, pass_eq, pick_tt, pick_ff, pick_tf, pick_ft, pick_u, reg_some, thn_normal, thn_exit, thn_ret, cnd_t, cnd_f, blk_normal, blk_ret, blk_exit, x_seq, x_region, x_cond, x_block, x_loop, x_ret, x_exit, x_skip, e_mov, e_pick, pk_t, pk_f, withH_some, e_box, bx_some, e_load, e_store, stH_some, e_nil, e_bin, e_eqv, eqH_f, eqH_t, e_un, e_fa, e_ia, ia_eq, nat_eq, natV_nat, e_len, lnH_some, e_extract, ex_0, ex_1, e_call0, e_call1, e_call2, e_call3, pc0_eq, pc1_some, pc2_some, pc3_some, fin_some, g_var0, g_vars, g_loc0, g_locs, g_int, g_bool, g_str, g_sl, s_none, s_zero, s_succ, cl_nil, cl_str, cl_bool, cl_slc, cl_own, evFa, evNil, evLoad, asEl, evBin, intBin, strBin, evUn, len_nil, len_slc, len_str, clr, List.length_nil, List.length_cons, List.getElem?_cons_zero, List.getElem?_cons_succ, Nat.reduceAdd, Nat.zero_add, Nat.add_zero, Nat.reduceLeDiff, Nat.reduceSub, ↓reduceIte, List.drop_succ_cons, List.drop_zero, List.take_succ_cons, List.take_zero, Bool.false_eq_true, List.nil_append, List.cons_append, Bool.not_true, Bool.not_false, cond_true, cond_false, bne, lv_ret, lv_normal, res1, res2, lv2_some, res_var, res_cell, lvf_v, lvf_slc, res1c, lvo1_some, e_mm, mm_max, mm_min]
    | false =>
    cases k4 : (k == 4) with
    | false =>
      simp only [Bool.false_eq_true, if_false]
      refine callW_pure (c := c32) rfl rfl 0 ?_
      simp only [c32, start, List.replicate, c32_0, c32_1, c32_2, c32_4, c32_6, c32_8, c32_19, k1, k2, k3, k4, hl, e_bslice1, e_bslice2, bs1, bs2, e_build, bdH_some, bd_nil, bd_cons, bd1, cl_agg, cl_int, toL, List.map_cons, List.map_nil, putAt, List.set_cons_zero, List.set_cons_succ, and_self, Nat.le_refl, evStore, app_get, app_set, g_agg, run_nil, run_cons, stp_plain, stp_guard, put_some, pass_eq, pick_tt, pick_ff, pick_tf, pick_ft, pick_u, reg_some, thn_normal, thn_exit, thn_ret, cnd_t, cnd_f, blk_normal, blk_ret, blk_exit, x_seq, x_region, x_cond, x_block, x_loop, x_ret, x_exit, x_skip, e_mov, e_pick, pk_t, pk_f, withH_some, e_box, bx_some, e_load, e_store, stH_some, e_nil, e_bin, e_eqv, eqH_f, eqH_t, e_un, e_fa, e_ia, ia_eq, nat_eq, natV_nat, e_len, lnH_some, e_extract, ex_0, ex_1, e_call0, e_call1, e_call2, e_call3, pc0_eq, pc1_some, pc2_some, pc3_some, fin_some, g_var0, g_vars, g_loc0, g_locs, g_int, g_bool, g_str, g_sl, s_none, s_zero, s_succ, cl_nil, cl_str, cl_bool, cl_slc, cl_own, evFa, evNil, evLoad, asEl, evBin, intBin, strBin, evUn, len_nil, len_slc, len_str, clr, List.length_nil, List.length_cons, List.getElem?_cons_zero, List.getElem?_cons_succ, Nat.reduceAdd, Nat.zero_add, Nat.add_zero, Nat.reduceLeDiff, Nat.reduceSub, ↓reduceIte, List.drop_succ_cons, List.drop_zero, List.take_succ_cons, List.take_zero, Bool.false_eq_true, List.nil_append, List.cons_append, Bool.not_true, Bool.not_false, cond_true, cond_false, bne, lv_ret, lv_normal, res1, res2, lv2_some, res_var, res_cell, lvf_v, lvf_slc, res1c, lvo1_some, e_mm, mm_max, mm_min]
    | true =>
      simp only [if_true, Bool.false_eq_true, if_false]
      cases b1 : (n == 0) with
      | false =>
        refine callW_pure (c := c32) rfl rfl 0 ?_
        simp only [c32, start, List.replicate, c32_0, c32_1, c32_2, c32_4, c32_6, c32_8, c32_9, c32_10, k1, k2, k3, k4, b1, hl, hck, snaps, Bool.false_and, e_bslice1, e_bslice2, bs1, bs2, e_build, bdH_some, bd_nil, bd_cons, bd1, cl_agg, cl_int, toL, List.map_cons, List.map_nil, putAt, List.set_cons_zero, List.set_cons_succ, and_self, Nat.le_refl, evStore, app_get, app_set, g_agg, run_nil, run_cons, stp_plain, stp_guard, put_some, pass_eq, pick_tt, pick_ff, pick_tf, pick_ft, pick_u, reg_some, thn_normal, thn_exit, thn_ret, cnd_t, cnd_f, blk_normal, blk_ret, blk_exit, x_seq, x_region, x_cond, x_block, x_loop, x_ret, x_exit, x_skip, e_mov, e_pick, pk_t, pk_f, withH_some, e_box, bx_some, e_load, e_store, stH_some, e_nil, e_bin, e_eqv, eqH_f, eqH_t, e_un, e_fa, e_ia, ia_eq, nat_eq, natV_nat, e_len, lnH_some, e_extract, ex_0, ex_1, e_call0, e_call1, e_call2, e_call3, pc0_eq, pc1_some, pc2_some, pc3_some, fin_some, g_var0, g_vars, g_loc0, g_locs, g_int, g_bool, g_str, g_sl, s_none, s_zero, s_succ, cl_nil, cl_str, cl_bool, cl_slc, cl_own, evFa, evNil, evLoad, asEl, evBin, intBin, strBin, evUn, len_nil, len_slc, len_str, clr, List.length_nil, List.length_cons, List.getElem?_cons_zero, List.getElem?_cons_succ, Nat.reduceAdd, Nat.zero_add, Nat.add_zero, Nat.reduceLeDiff, Nat.reduceSub, ↓reduceIte, List.drop_succ_cons, List.drop_zero, List.take_succ_cons, List.take_zero, Bool.false_eq_true, List.nil_append, List.cons_append, Bool.not_true, Bool.not_false, cond_true, cond_false, bne, lv_ret, lv_normal, res1, res2, lv2_some, res_var, res_cell, lvf_v, lvf_slc, res1c, lvo1_some, e_mm, mm_max, mm_min]
      | true =>
      cases b2 : chk s with
      | false =>
        rw [b2] at hck
        refine callW_pure (c := c32) rfl rfl 0 ?_
        simp only [c32, start, List.replicate, c32_0, c32_1, c32_2, c32_4, c32_6, c32_8, c32_9, c32_10, k1, k2, k3, k4, b1, hl, hck, snaps, Bool.false_and, Bool.true_and, e_bslice1, e_bslice2, bs1, bs2, e_build, bdH_some, bd_nil, bd_cons, bd1, cl_agg, cl_int, toL, List.map_cons, List.map_nil, putAt, List.set_cons_zero, List.set_cons_succ, and_self, Nat.le_refl, evStore, app_get, app_set, g_agg, run_nil, run_cons, stp_plain, stp_guard, put_some, pass_eq, pick_tt, pick_ff, pick_tf, pick_ft, pick_u, reg_some, thn_normal, thn_exit, thn_ret, cnd_t, cnd_f, blk_normal, blk_ret, blk_exit, x_seq, x_region, x_cond, x_block, x_loop, x_ret, x_exit, x_skip, e_mov, e_pick, pk_t, pk_f, withH_some, e_box, bx_some, e_load, e_store, stH_some, e_nil, e_bin, e_eqv, eqH_f, eqH_t, e_un, e_fa, e_ia, ia_eq, nat_eq, natV_nat, e_len, lnH_some, e_extract, ex_0, ex_1, e_call0, e_call1, e_call2, e_call3, pc0_eq, pc1_some, pc2_some, pc3_some, fin_some, g_var0, g_vars, g_loc0, g_locs, g_int, g_bool, g_str, g_sl, s_none, s_zero, s_succ, cl_nil, cl_str, cl_bool, cl_slc, cl_own, evFa, evNil, evLoad, asEl, evBin, intBin, strBin, evUn, len_nil, len_slc, len_str, clr, List.length_nil, List.length_cons, List.getElem?_cons_zero, List.getElem?_cons_succ, Nat.reduceAdd, Nat.zero_add, Nat.add_zero, Nat.reduceLeDiff, Nat.reduceSub, ↓reduceIte, List.drop_succ_cons, List.drop_zero, List.take_succ_cons, List.take_zero, Bool.false_eq_true, List.nil_append, List.cons_append, Bool.not_true, Bool.not_false, cond_true, cond_false, bne, lv_ret, lv_normal, res1, res2, lv2_some, res_var, res_cell, lvf_v, lvf_slc, res1c, lvo1_some, e_mm, mm_max, mm_min]
      | true =>
      rw [b2] at hck
      cases b3 : decide ((es.length : Int) < 1) with
      | true =>
        refine callW_pure (c := c32) rfl rfl 0 ?_
        simp only [c32, start, List.replicate, c32_0, c32_1, c32_2, c32_4, c32_6, c32_8, c32_9, c32_10, k1, k2, k3, k4, b1, b3, hl, hck, snaps, Bool.false_and, Bool.true_and, e_bslice1, e_bslice2, bs1, bs2, e_build, bdH_some, bd_nil, bd_cons, bd1, cl_agg, cl_int, toL, List.map_cons, List.map_nil, putAt, List.set_cons_zero, List.set_cons_succ, and_self, Nat.le_refl, evStore, app_get, app_set, g_agg, run_nil, run_cons, stp_plain, stp_guard, put_some, pass_eq, pick_tt, pick_ff, pick_tf, pick_ft, pick_u, reg_some, thn_normal, thn_exit, thn_ret, cnd_t, cnd_f, blk_normal, blk_ret, blk_exit, x_seq, x_region, x_cond, x_block, x_loop, x_ret, x_exit, x_skip, e_mov, e_pick, pk_t, pk_f, withH_some, e_box, bx_some, e_load, e_store, stH_some, e_nil, e_bin, e_eqv, eqH_f, eqH_t, e_un, e_fa, e_ia, ia_eq, nat_eq, natV_nat, e_len, lnH_some, e_extract, ex_0, ex_1, e_call0, e_call1, e_call2, e_call3, pc0_eq, pc1_some, pc2_some, pc3_some, fin_some, g_var0, g_vars, g_loc0, g_locs, g_int, g_bool, g_str, g_sl, s_none, s_zero, s_succ, cl_nil, cl_str, cl_bool, cl_slc, cl_own, evFa, evNil, evLoad, asEl, evBin, intBin, strBin, evUn, len_nil, len_slc, len_str, clr, List.length_nil, List.length_cons, List.getElem?_cons_zero, List.getElem?_cons_succ, Nat.reduceAdd, Nat.zero_add, Nat.add_zero, Nat.reduceLeDiff, Nat.reduceSub, ↓reduceIte, List.drop_succ_cons, List.drop_zero, List.take_succ_cons, List.take_zero, Bool.false_eq_true, List.nil_append, List.cons_append, Bool.not_true, Bool.not_false, cond_true, cond_false, bne, lv_ret, lv_normal, res1, res2, lv2_some, res_var, res_cell, lvf_v, lvf_slc, res1c, lvo1_some, e_mm, mm_max, mm_min]
      | false =>
      cases b4 : decide ((es.length : Int) > 16) with
      | true =>
        refine callW_pure (c := c32) rfl rfl 0 ?_
        simp only [c32, start, List.replicate, c32_0, c32_1, c32_2, c32_4, c32_6, c32_8, c32_9, c32_10, k1, k2, k3, k4, b1, b3, b4, hl, hck, snaps, Bool.false_and, Bool.true_and, Bool.and_false, e_bslice1, e_bslice2, bs1, bs2, e_build, bdH_some, bd_nil, bd_cons, bd1, cl_agg, cl_int, toL, List.map_cons, List.map_nil, putAt, List.set_cons_zero, List.set_cons_succ, and_self, Nat.le_refl, evStore, app_get, app_set, g_agg, run_nil, run_cons, stp_plain, stp_guard, put_some, pass_eq, pick_tt, pick_ff, pick_tf, pick_ft, pick_u, reg_some, thn_normal, thn_exit, thn_ret, cnd_t, cnd_f, blk_normal, blk_ret, blk_exit, x_seq, x_region, x_cond, x_block, x_loop, x_ret, x_exit, x_skip, e_mov, e_pick, pk_t, pk_f, withH_some, e_box, bx_some, e_load, e_store, stH_some, e_nil, e_bin, e_eqv, eqH_f, eqH_t, e_un, e_fa, e_ia, ia_eq, nat_eq, natV_nat, e_len, lnH_some, e_extract, ex_0, ex_1, e_call0, e_call1, e_call2, e_call3, pc0_eq, pc1_some, pc2_some, pc3_some, fin_some, g_var0, g_vars, g_loc0, g_locs, g_int, g_bool, g_str, g_sl, s_none, s_zero, s_succ, cl_nil, cl_str, cl_bool, cl_slc, cl_own, evFa, evNil, evLoad, asEl, evBin, intBin, strBin, evUn, len_nil, len_slc, len_str, clr, List.length_nil, List.length_cons, List.getElem?_cons_zero, List.getElem?_cons_succ, Nat.reduceAdd, Nat.zero_add, Nat.add_zero, Nat.reduceLeDiff, Nat.reduceSub, ↓reduceIte, List.drop_succ_cons, List.drop_zero, List.take_succ_cons, List.take_zero, Bool.false_eq_true, List.nil_append, List.cons_append, Bool.not_true, Bool.not_false, cond_true, cond_false, bne, lv_ret, lv_normal, res1, res2, lv2_some, res_var, res_cell, lvf_v, lvf_slc, res1c, lvo1_some, e_mm, mm_max, mm_min]
      | false =>
      have key := may_loop (K := l.length + 1) hs (by omega) l 0 [.box [.v (.int .i64 k), .v (.string s), .v (.int .i64 n), c]] (L32' c es.length (0 : Nat)) (by omega) (by simpa using hes) hcall rfl
      refine callW_pure (c := c32) rfl rfl (l.length + 1) ?_
      generalize hlp : (CC.loop [false, false, false, false, false, false, false, false, false, false, true, true, true, false, false] [] c32_17) = lp
      have hx : ∀ (vars : List AV) (h : List AO), exec (callW F) (l.length + 1) lp vars h = loopN (exec (callW F) (l.length + 1) c32_17) K32' (l.length + 1) vars h := fun _ _ => by rw [← hlp]; rfl
      simp only [c32, hlp, hx, start, List.replicate, c32_0, c32_1, c32_2, c32_4, c32_6, c32_8, c32_9, c32_11, k1, k2, k3, k4, b1, b3, b4, hl, hck, snaps, Bool.false_and, Bool.true_and, e_bslice1, e_bslice2, bs1, bs2, e_build, bdH_some, bd_nil, bd_cons, bd1, cl_agg, cl_int, toL, List.map_cons, List.map_nil, putAt, List.set_cons_zero, List.set_cons_succ, and_self, Nat.le_refl, evStore, app_get, app_set, g_agg, run_nil, run_cons, stp_plain, stp_guard, put_some, pass_eq, pick_tt, pick_ff, pick_tf, pick_ft, pick_u, reg_some, thn_normal, thn_exit, thn_ret, cnd_t, cnd_f, blk_normal, blk_ret, blk_exit, x_seq, x_region, x_cond, x_block, x_loop, x_ret, x_exit, x_skip, e_mov, e_pick, pk_t, pk_f, withH_some, e_box, bx_some, e_load, e_store, stH_some, e_nil, e_bin, e_eqv, eqH_f, eqH_t, e_un, e_fa, e_ia, ia_eq, nat_eq, natV_nat, e_len, lnH_some, e_extract, ex_0, ex_1, e_call0, e_call1, e_call2, e_call3, pc0_eq, pc1_some, pc2_some, pc3_some, fin_some, g_var0, g_vars, g_loc0, g_locs, g_int, g_bool, g_str, g_sl, s_none, s_zero, s_succ, cl_nil, cl_str, cl_bool, cl_slc, cl_own, evFa, evNil, evLoad, asEl, evBin, intBin, strBin, evUn, len_nil, len_slc, len_str, clr, List.length_nil, List.length_cons, List.getElem?_cons_zero, List.getElem?_cons_succ, Nat.reduceAdd, Nat.zero_add, Nat.add_zero, Nat.reduceLeDiff, Nat.reduceSub, ↓reduceIte, List.drop_succ_cons, List.drop_zero, List.take_succ_cons, List.take_zero, Bool.false_eq_true, List.nil_append, List.cons_append, Bool.not_true, Bool.not_false, cond_true, cond_false, bne, lv_ret, lv_normal, res1, res2, lv2_some, res_var, res_cell, lvf_v, lvf_slc, res1c, lvo1_some, e_mm, mm_max, mm_min]
      rw [loop_cong (v2 := L32' c es.length ((0 : Nat) : Int)) (by rfl)]
      rcases key with ⟨h0, vs, h', g1, g2⟩ | ⟨h0, vs, h', g1, g2⟩
      · rw [g1, h0]
        simp only [blk_ret, thn_ret, g2, run_nil, run_cons, stp_plain, stp_guard, put_some, pass_eq, pick_tt, pick_ff, pick_tf, pick_ft, pick_u, reg_some, thn_normal, thn_exit, thn_ret, cnd_t, cnd_f, blk_normal, blk_ret, blk_exit, x_seq, x_region, x_cond, x_block, x_loop, x_ret, x_exit, x_skip, e_mov, e_pick, pk_t, pk_f, withH_some, e_box, bx_some, e_load, e_store, stH_some, e_nil, e_bin, e_eqv, eqH_f, eqH_t, e_un, e_fa, e_ia, ia_eq, nat_eq, natV_nat, e_len, lnH_some, e_extract, ex_0, ex_1, e_call0, e_call1, e_call2, e_call3, pc0_eq, pc1_some, pc2_some, pc3_some, fin_some, g_var0, g_vars, g_loc0, g_locs, g_int, g_bool, g_str, g_sl, s_none, s_zero, s_succ, cl_nil, cl_str, cl_bool, cl_slc, cl_own, evFa, evNil, evLoad, asEl, evBin, intBin, strBin, evUn, len_nil, len_slc, len_str, clr, List.length_nil, List.length_cons, List.getElem?_cons_zero, List.getElem?_cons_succ, Nat.reduceAdd, Nat.zero_add, Nat.add_zero, Nat.reduceLeDiff, Nat.reduceSub, ↓reduceIte, List.drop_succ_cons, List.drop_zero, List.take_succ_cons, List.take_zero, Bool.false_eq_true, List.nil_append, List.cons_append, Bool.not_true, Bool.not_false, cond_true, cond_false, bne, lv_ret, lv_normal, res1, res2, lv2_some, res_var, res_cell, lvf_v, lvf_slc, res1c, lvo1_some, e_mm, mm_max, mm_min]
      · rw [g1, h0]
        match vs, g2 with
        | [a0, a1, a2, a3, a4, a5, a6, a7, a8, a9, a10, a11, a12, a13, a14], _ => simp only [blk_exit, thn_normal, blk_ret, thn_ret, c32_18, run_nil, run_cons, stp_plain, stp_guard, put_some, pass_eq, pick_tt, pick_ff, pick_tf, pick_ft, pick_u, reg_some, thn_normal, thn_exit, thn_ret, cnd_t, cnd_f, blk_normal, blk_ret, blk_exit, x_seq, x_region, x_cond, x_block, x_loop, x_ret, x_exit, x_skip, e_mov, e_pick, pk_t, pk_f, withH_some, e_box, bx_some, e_load, e_store, stH_some, e_nil, e_bin, e_eqv, eqH_f, eqH_t, e_un, e_fa, e_ia, ia_eq, nat_eq, natV_nat, e_len, lnH_some, e_extract, ex_0, ex_1, e_call0, e_call1, e_call2, e_call3, pc0_eq, pc1_some, pc2_some, pc3_some, fin_some, g_var0, g_vars, g_loc0, g_locs, g_int, g_bool, g_str, g_sl, s_none, s_zero, s_succ, cl_nil, cl_str, cl_bool, cl_slc, cl_own, evFa, evNil, evLoad, asEl, evBin, intBin, strBin, evUn, len_nil, len_slc, len_str, clr, List.length_nil, List.length_cons, List.getElem?_cons_zero, List.getElem?_cons_succ, Nat.reduceAdd, Nat.zero_add, Nat.add_zero, Nat.reduceLeDiff, Nat.reduceSub, ↓reduceIte, List.drop_succ_cons, List.drop_zero, List.take_succ_cons, List.take_zero, Bool.false_eq_true, List.nil_append, List.cons_append, Bool.not_true, Bool.not_false, cond_true, cond_false, bne, lv_ret, lv_normal, res1, res2, lv2_some, res_var, res_cell, lvf_v, lvf_slc, res1c, lvo1_some, e_mm, mm_max, mm_min]

/-- the document's Check -/
def checkT (t : Tm) : Int := if mayT t then (if deepT t > 60 then 3 else 0) else 30
theorem check_ok {t : Tm} {a : AV} (hsz : size t ≤ 100000) (ha : IsT a t) : callW F 12 [a] [] = some (.v (.int .i64 (checkT t)), []) := by
  have h1 := may_ok _ t a (Nat.lt_succ_self _) hsz ha
  have h2 := deep_ok _ t a (Nat.lt_succ_self _) hsz ha
  have q5 : ∀ h : List AO, a.snap1 h = some a := fun h => ha.snap
  refine callW_pure (c := c12) rfl rfl 0 ?_
  unfold checkT
  cases hm : mayT t with
  | false =>
    rw [hm] at h1
    cases ha
    simp only [c12, start, List.replicate, c12_0, c12_1, c12_2, h1, q5, Bool.false_eq_true, if_false, e_bslice1, e_bslice2, bs1, bs2, e_build, bdH_some, bd_nil, bd_cons, bd1, cl_agg, cl_int, toL, List.map_cons, List.map_nil, putAt, List.set_cons_zero, List.set_cons_succ, and_self, Nat.le_refl, evStore, app_get, app_set, g_agg, run_nil, run_cons, stp_plain, stp_guard, put_some, pass_eq, pick_tt, pick_ff, pick_tf, pick_ft, pick_u, reg_some, thn_normal, thn_exit, thn_ret, cnd_t, cnd_f, blk_normal, blk_ret, blk_exit, x_seq, x_region, x_cond, x_block, x_loop, x_ret, x_exit, x_skip, e_mov, e_pick, pk_t, pk_f, withH_some, e_box, bx_some, e_load, e_store, stH_some, e_nil, e_bin, e_eqv, eqH_f, eqH_t, e_un, e_fa, e_ia, ia_eq, nat_eq, natV_nat, e_len, lnH_some, e_extract, ex_0, ex_1, e_call0, e_call1, e_call2, e_call3, pc0_eq, pc1_some, pc2_some, pc3_some, fin_some, g_var0, g_vars, g_loc0, g_locs, g_int, g_bool, g_str, g_sl, s_none, s_zero, s_succ, cl_nil, cl_str, cl_bool, cl_slc, cl_own, evFa, evNil, evLoad, asEl, evBin, intBin, strBin, evUn, len_nil, len_slc, len_str, clr, List.length_nil, List.length_cons, List.getElem?_cons_zero, List.getElem?_cons_succ, Nat.reduceAdd, Nat.zero_add, Nat.add_zero, Nat.reduceLeDiff, Nat.reduceSub, ↓reduceIte, List.drop_succ_cons, List.drop_zero, List.take_succ_cons, List.take_zero, Bool.false_eq_true, List.nil_append, List.cons_append, Bool.not_true, Bool.not_false, cond_true, cond_false, bne, lv_ret, lv_normal, res1, res2, lv2_some, res_var, res_cell, lvf_v, lvf_slc, res1c, lvo1_some, e_mm, mm_max, mm_min]
  | true =>
    rw [hm] at h1
    by_cases hd : deepT t > 60
    · have d1 : decide (deepT t > 60) = true := by simpa using hd
      rw [if_pos rfl, if_pos hd]
      generalize deepT t = D at h2 d1
      cases ha
      simp only [c12, start, List.replicate, c12_0, c12_1, c12_3, c12_4, h1, h2, d1, q5, e_bslice1, e_bslice2, bs1, bs2, e_build, bdH_some, bd_nil, bd_cons, bd1, cl_agg, cl_int, toL, List.map_cons, List.map_nil, putAt, List.set_cons_zero, List.set_cons_succ, and_self, Nat.le_refl, evStore, app_get, app_set, g_agg, run_nil, run_cons, stp_plain, stp_guard, put_some, pass_eq, pick_tt, pick_ff, pick_tf, pick_ft, pick_u, reg_some, thn_normal, thn_exit, thn_ret, cnd_t, cnd_f, blk_normal, blk_ret, blk_exit, x_seq, x_region, x_cond, x_block, x_loop, x_ret, x_exit, x_skip, e_mov, e_pick, pk_t, pk_f, withH_some, e_box, bx_some, e_load, e_store, stH_some, e_nil, e_bin, e_eqv, eqH_f, eqH_t, e_un, e_fa, e_ia, ia_eq, nat_eq, natV_nat, e_len, lnH_some, e_extract, ex_0, ex_1, e_call0, e_call1, e_call2, e_call3, pc0_eq, pc1_some, pc2_some, pc3_some, fin_some, g_var0, g_vars, g_loc0, g_locs, g_int, g_bool, g_str, g_sl, s_none, s_zero, s_succ, cl_nil, cl_str, cl_bool, cl_slc, cl_own, evFa, evNil, evLoad, asEl, evBin, intBin, strBin, evUn, len_nil, len_slc, len_str, clr, List.length_nil, List.length_cons, List.getElem?_cons_zero, List.getElem?_cons_succ, Nat.reduceAdd, Nat.zero_add, Nat.add_zero, Nat.reduceLeDiff, Nat.reduceSub, ↓reduceIte, List.drop_succ_cons, List.drop_zero, List.take_succ_cons, List.take_zero, Bool.false_eq_true, List.nil_append, List.cons_append, Bool.not_true, Bool.not_false, cond_true, cond_false, bne, lv_ret, lv_normal, res1, res2, lv2_some, res_var, res_cell, lvf_v, lvf_slc, res1c, lvo1_some, e_mm, mm_max, mm_min]
    · have d1 : decide (deepT t > 60) = false := by simpa using hd
      rw [if_pos rfl, if_neg hd]
      generalize deepT t = D at h2 d1
      cases ha
      simp only [c12, start, List.replicate, c12_0, c12_1, c12_3, c12_5, h1, h2, d1, q5, e_bslice1, e_bslice2, bs1, bs2, e_build, bdH_some, bd_nil, bd_cons, bd1, cl_agg, cl_int, toL, List.map_cons, List.map_nil, putAt, List.set_cons_zero, List.set_cons_succ, and_self, Nat.le_refl, evStore, app_get, app_set, g_agg, run_nil, run_cons, stp_plain, stp_guard, put_some, pass_eq, pick_tt, pick_ff, pick_tf, pick_ft, pick_u, reg_some, thn_normal, thn_exit, thn_ret, cnd_t, cnd_f, blk_normal, blk_ret, blk_exit, x_seq, x_region, x_cond, x_block, x_loop, x_ret, x_exit, x_skip, e_mov, e_pick, pk_t, pk_f, withH_some, e_box, bx_some, e_load, e_store, stH_some, e_nil, e_bin, e_eqv, eqH_f, eqH_t, e_un, e_fa, e_ia, ia_eq, nat_eq, natV_nat, e_len, lnH_some, e_extract, ex_0, ex_1, e_call0, e_call1, e_call2, e_call3, pc0_eq, pc1_some, pc2_some, pc3_some, fin_some, g_var0, g_vars, g_loc0, g_locs, g_int, g_bool, g_str, g_sl, s_none, s_zero, s_succ, cl_nil, cl_str, cl_bool, cl_slc, cl_own, evFa, evNil, evLoad, asEl, evBin, intBin, strBin, evUn, len_nil, len_slc, len_str, clr, List.length_nil, List.length_cons, List.getElem?_cons_zero, List.getElem?_cons_succ, Nat.reduceAdd, Nat.zero_add, Nat.add_zero, Nat.reduceLeDiff, Nat.reduceSub, ↓reduceIte, List.drop_succ_cons, List.drop_zero, List.take_succ_cons, List.take_zero, Bool.false_eq_true, List.nil_append, List.cons_append, Bool.not_true, Bool.not_false, cond_true, cond_false, bne, lv_ret, lv_normal, res1, res2, lv2_some, res_var, res_cell, lvf_v, lvf_slc, res1c, lvo1_some, e_mm, mm_max, mm_min]
end Go.AE.YtpgoibncgekflaaDoor
end

/-! The standard order, as far as the heads of two terms go. -/
section
set_option linter.unusedVariables false
set_option linter.unusedSimpArgs false
namespace Go.AE.YtpgoibncgekflaaDoor
open Go Go.AE Go.Proofs.YtpgoibncgekflaaDoor

def cmp3 (a b : Int) : Int := if a < b then -1 else if a > b then 1 else 0
def ordK (k : Int) : Int := if k = 1 then -2 else if k = 3 then -1 else if k = 2 then 0 else 1
def firstNZ : List Int → Int
  | [] => 0
  | a :: l => if a = 0 then firstNZ l else a
def headC : Tm → Tm → Int
  | .mk k s n l, .mk k' s' n' l' => firstNZ [cmp3 (ordK k) (ordK k'), cmp3 l.length l'.length, Lib.compareBytes s.data.toList s'.data.toList, cmp3 n n']
theorem cmp3_self (a : Int) : cmp3 a a = 0 := by simp [cmp3]
theorem cmp3_zero {a b : Int} (h : cmp3 a b = 0) : a = b := by
  unfold cmp3 at h
  split at h
  · cases h
  · split at h
    · cases h
    · omega
theorem cmp3_neg (a b : Int) : cmp3 b a = - cmp3 a b := by
  unfold cmp3
  split <;> split <;> (try split) <;> (try split) <;> omega
theorem cb_self : ∀ a : List UInt8, Lib.compareBytes a a = 0
  | [] => rfl
  | a :: l => by simp [Lib.compareBytes, cb_self l]
theorem cb_zero : ∀ {a b : List UInt8}, Lib.compareBytes a b = 0 → a = b
  | [], [], _ => rfl
  | [], b :: l, h => by simp [Lib.compareBytes] at h
  | a :: l, [], h => by simp [Lib.compareBytes] at h
  | a :: l, b :: l', h => by
    simp only [Lib.compareBytes] at h
    split at h
    · cases h
    · split at h
      · cases h
      · rename_i h1 h2
        have : a = b := by
          have h1 : ¬ a.toNat < b.toNat := h1
          have h2 : ¬ b.toNat < a.toNat := h2
          exact UInt8.toNat_inj.1 (by omega)
        rw [this, cb_zero h]
theorem cb_neg : ∀ (a b : List UInt8), Lib.compareBytes b a = - Lib.compareBytes a b
  | [], [] => rfl
  | [], b :: l => rfl
  | a :: l, [] => rfl
  | a :: l, b :: l' => by
    simp only [Lib.compareBytes]
    have := cb_neg l l'
    by_cases h1 : a < b
    · have h2 : ¬ b < a := fun h => by
        have h1 : a.toNat < b.toNat := h1
        have h : b.toNat < a.toNat := h
        omega
      simp [h1, h2]
    · by_cases h2 : b < a
      · simp [h1, h2]
      · simp [h1, h2, this]

theorem nan_ok (n : Int) : callW F 49 [.v (.int .i64 n)] [] = some (.v (.bool false), []) ∧ callW F 63 [.v (.int .i64 n)] [] = some (.v (.bool false), []) := by
  have h1 : (n == n) = true := by simp
  refine ⟨callW_pure (c := c49) rfl rfl 0 ?_, callW_pure (c := c63) rfl rfl 0 ?_⟩
  · simp only [c49, start, List.replicate, c49_0, c49_1, h1, e_bslice1, e_bslice2, bs1, bs2, e_build, bdH_some, bd_nil, bd_cons, bd1, cl_agg, cl_int, toL, List.map_cons, List.map_nil, putAt, List.set_cons_zero, List.set_cons_succ, and_self, Nat.le_refl, evStore, app_get, app_set, g_agg, run_nil, run_cons, stp_plain, stp_guard, put_some, pass_eq, pick_tt, pick_ff, pick_tf, pick_ft, pick_u, reg_some, thn_normal, thn_exit, thn_ret, cnd_t, cnd_f, blk_normal, blk_ret, blk_exit, x_seq, x_region, x_cond, x_block, x_loop, x_ret, x_exit, x_skip, e_mov, e_pick, pk_t, pk_f, withH_some, e_box, bx_some, e_load, e_store, stH_some, e_nil, e_bin, e_eqv, eqH_f, eqH_t, e_un, e_fa, e_ia, ia_eq, nat_eq, natV_nat, e_len, lnH_some, e_extract, ex_0, ex_1, e_call0, e_call1, e_call2, e_call3, pc0_eq, pc1_some, pc2_some, pc3_some, fin_some, g_var0, g_vars, g_loc0, g_locs, g_int, g_bool, g_str, g_sl, s_none, s_zero, s_succ, cl_nil, cl_str, cl_bool, cl_slc, cl_own, evFa, evNil, evLoad, asEl, evBin, intBin, strBin, evUn, len_nil, len_slc, len_str, clr, List.length_nil, List.length_cons, List.getElem?_cons_zero, List.getElem?_cons_succ, Nat.reduceAdd, Nat.zero_add, Nat.add_zero, Nat.reduceLeDiff, Nat.reduceSub, ↓reduceIte, List.drop_succ_cons, List.drop_zero, List.take_succ_cons, List.take_zero, Bool.false_eq_true, List.nil_append, List.cons_append, Bool.not_true, Bool.not_false, cond_true, cond_false, bne, lv_ret, lv_normal, res1, res2, lv2_some, res_var, res_cell, lvf_v, lvf_slc, res1c, lvo1_some, e_mm, mm_max, mm_min]
  · simp only [c63, start, List.replicate, c63_0, c63_1, h1, e_bslice1, e_bslice2, bs1, bs2, e_build, bdH_some, bd_nil, bd_cons, bd1, cl_agg, cl_int, toL, List.map_cons, List.map_nil, putAt, List.set_cons_zero, List.set_cons_succ, and_self, Nat.le_refl, evStore, app_get, app_set, g_agg, run_nil, run_cons, stp_plain, stp_guard, put_some, pass_eq, pick_tt, pick_ff, pick_tf, pick_ft, pick_u, reg_some, thn_normal, thn_exit, thn_ret, cnd_t, cnd_f, blk_normal, blk_ret, blk_exit, x_seq, x_region, x_cond, x_block, x_loop, x_ret, x_exit, x_skip, e_mov, e_pick, pk_t, pk_f, withH_some, e_box, bx_some, e_load, e_store, stH_some, e_nil, e_bin, e_eqv, eqH_f, eqH_t, e_un, e_fa, e_ia, ia_eq, nat_eq, natV_nat, e_len, lnH_some, e_extract, ex_0, ex_1, e_call0, e_call1, e_call2, e_call3, pc0_eq, pc1_some, pc2_some, pc3_some, fin_some, g_var0, g_vars, g_loc0, g_locs, g_int, g_bool, g_str, g_sl, s_none, s_zero, s_succ, cl_nil, cl_str, cl_bool, cl_slc, cl_own, evFa, evNil, evLoad, asEl, evBin, intBin, strBin, evUn, len_nil, len_slc, len_str, clr, List.length_nil, List.length_cons, List.getElem?_cons_zero, List.getElem?_cons_succ, Nat.reduceAdd, Nat.zero_add, Nat.add_zero, Nat.reduceLeDiff, Nat.reduceSub, ↓reduceIte, List.drop_succ_cons, List.drop_zero, List.take_succ_cons, List.take_zero, Bool.false_eq_true, List.nil_append, List.cons_append, Bool.not_true, Bool.not_false, cond_true, cond_false, bne, lv_ret, lv_normal, res1, res2, lv2_some, res_var, res_cell, lvf_v, lvf_slc, res1c, lvo1_some, e_mm, mm_max, mm_min]
theorem cmp_ints (a b : Int) : callW F 38 [.v (.int .i64 a), .v (.int .i64 b)] [] = some (.v (.int .i64 (cmp3 a b)), []) ∧ callW F 53 [.v (.int .i64 a), .v (.int .i64 b)] [] = some (.v (.int .i64 (cmp3 a b)), []) := by
  have n1 := (nan_ok a).1
  have n2 := (nan_ok b).1
  have n3 := (nan_ok a).2
  have n4 := (nan_ok b).2
  unfold cmp3
  cases h1 : decide (a < b) with
  | true =>
    have g1 : a < b := by simpa using h1
    rw [if_pos g1]
    refine ⟨callW_pure (c := c38) rfl rfl 0 ?_, callW_pure (c := c53) rfl rfl 0 ?_⟩
    · simp only [c38, start, List.replicate, c38_0, c38_1, c38_2, c38_3, c38_7, c38_9, c38_10, n1, n2, h1, snapv, e_bslice1, e_bslice2, bs1, bs2, e_build, bdH_some, bd_nil, bd_cons, bd1, cl_agg, cl_int, toL, List.map_cons, List.map_nil, putAt, List.set_cons_zero, List.set_cons_succ, and_self, Nat.le_refl, evStore, app_get, app_set, g_agg, run_nil, run_cons, stp_plain, stp_guard, put_some, pass_eq, pick_tt, pick_ff, pick_tf, pick_ft, pick_u, reg_some, thn_normal, thn_exit, thn_ret, cnd_t, cnd_f, blk_normal, blk_ret, blk_exit, x_seq, x_region, x_cond, x_block, x_loop, x_ret, x_exit, x_skip, e_mov, e_pick, pk_t, pk_f, withH_some, e_box, bx_some, e_load, e_store, stH_some, e_nil, e_bin, e_eqv, eqH_f, eqH_t, e_un, e_fa, e_ia, ia_eq, nat_eq, natV_nat, e_len, lnH_some, e_extract, ex_0, ex_1, e_call0, e_call1, e_call2, e_call3, pc0_eq, pc1_some, pc2_some, pc3_some, fin_some, g_var0, g_vars, g_loc0, g_locs, g_int, g_bool, g_str, g_sl, s_none, s_zero, s_succ, cl_nil, cl_str, cl_bool, cl_slc, cl_own, evFa, evNil, evLoad, asEl, evBin, intBin, strBin, evUn, len_nil, len_slc, len_str, clr, List.length_nil, List.length_cons, List.getElem?_cons_zero, List.getElem?_cons_succ, Nat.reduceAdd, Nat.zero_add, Nat.add_zero, Nat.reduceLeDiff, Nat.reduceSub, ↓reduceIte, List.drop_succ_cons, List.drop_zero, List.take_succ_cons, List.take_zero, Bool.false_eq_true, List.nil_append, List.cons_append, Bool.not_true, Bool.not_false, cond_true, cond_false, bne, lv_ret, lv_normal, res1, res2, lv2_some, res_var, res_cell, lvf_v, lvf_slc, res1c, lvo1_some, e_mm, mm_max, mm_min]
    · simp only [c53, start, List.replicate, c53_0, c53_1, c53_2, c53_3, c53_7, c53_9, c53_10, n3, n4, h1, snapv, e_bslice1, e_bslice2, bs1, bs2, e_build, bdH_some, bd_nil, bd_cons, bd1, cl_agg, cl_int, toL, List.map_cons, List.map_nil, putAt, List.set_cons_zero, List.set_cons_succ, and_self, Nat.le_refl, evStore, app_get, app_set, g_agg, run_nil, run_cons, stp_plain, stp_guard, put_some, pass_eq, pick_tt, pick_ff, pick_tf, pick_ft, pick_u, reg_some, thn_normal, thn_exit, thn_ret, cnd_t, cnd_f, blk_normal, blk_ret, blk_exit, x_seq, x_region, x_cond, x_block, x_loop, x_ret, x_exit, x_skip, e_mov, e_pick, pk_t, pk_f, withH_some, e_box, bx_some, e_load, e_store, stH_some, e_nil, e_bin, e_eqv, eqH_f, eqH_t, e_un, e_fa, e_ia, ia_eq, nat_eq, natV_nat, e_len, lnH_some, e_extract, ex_0, ex_1, e_call0, e_call1, e_call2, e_call3, pc0_eq, pc1_some, pc2_some, pc3_some, fin_some, g_var0, g_vars, g_loc0, g_locs, g_int, g_bool, g_str, g_sl, s_none, s_zero, s_succ, cl_nil, cl_str, cl_bool, cl_slc, cl_own, evFa, evNil, evLoad, asEl, evBin, intBin, strBin, evUn, len_nil, len_slc, len_str, clr, List.length_nil, List.length_cons, List.getElem?_cons_zero, List.getElem?_cons_succ, Nat.reduceAdd, Nat.zero_add, Nat.add_zero, Nat.reduceLeDiff, Nat.reduceSub, ↓reduceIte, List.drop_succ_cons, List.drop_zero, List.take_succ_cons, List.take_zero, Bool.false_eq_true, List.nil_append, List.cons_append, Bool.not_true, Bool.not_false, cond_true, cond_false, bne, lv_ret, lv_normal, res1, res2, lv2_some, res_var, res_cell, lvf_v, lvf_slc, res1c, lvo1_some, e_mm, mm_max, mm_min]
  | false =>
  have g1 : ¬ a < b := by simpa using h1
  rw [if_neg g1]
  cases h2 : decide (a > b) with
  | true =>
    have g2 : a > b := by simpa using h2
    rw [if_pos g2]
    refine ⟨callW_pure (c := c38) rfl rfl 0 ?_, callW_pure (c := c53) rfl rfl 0 ?_⟩
    · simp only [c38, start, List.replicate, c38_0, c38_1, c38_2, c38_3, c38_7, c38_9, c38_11, c38_12, n1, n2, h1, h2, snapv, e_bslice1, e_bslice2, bs1, bs2, e_build, bdH_some, bd_nil, bd_cons, bd1, cl_agg, cl_int, toL, List.map_cons, List.map_nil, putAt, List.set_cons_zero, List.set_cons_succ, and_self, Nat.le_refl, evStore, app_get, app_set, g_agg, run_nil, run_cons, stp_plain, stp_guard, put_some, pass_eq, pick_tt, pick_ff, pick_tf, pick_ft, pick_u, reg_some, thn_normal, thn_exit, thn_ret, cnd_t, cnd_f, blk_normal, blk_ret, blk_exit, x_seq, x_region, x_cond, x_block, x_loop, x_ret, x_exit, x_skip, e_mov, e_pick, pk_t, pk_f, withH_some, e_box, bx_some, e_load, e_store, stH_some, e_nil, e_bin, e_eqv, eqH_f, eqH_t, e_un, e_fa, e_ia, ia_eq, nat_eq, natV_nat, e_len, lnH_some, e_extract, ex_0, ex_1, e_call0, e_call1, e_call2, e_call3, pc0_eq, pc1_some, pc2_some, pc3_some, fin_some, g_var0, g_vars, g_loc0, g_locs, g_int, g_bool, g_str, g_sl, s_none, s_zero, s_succ, cl_nil, cl_str, cl_bool, cl_slc, cl_own, evFa, evNil, evLoad, asEl, evBin, intBin, strBin, evUn, len_nil, len_slc, len_str, clr, List.length_nil, List.length_cons, List.getElem?_cons_zero, List.getElem?_cons_succ, Nat.reduceAdd, Nat.zero_add, Nat.add_zero, Nat.reduceLeDiff, Nat.reduceSub, ↓reduceIte, List.drop_succ_cons, List.drop_zero, List.take_succ_cons, List.take_zero, Bool.false_eq_true, List.nil_append, List.cons_append, Bool.not_true, Bool.not_false, cond_true, cond_false, bne, lv_ret, lv_normal, res1, res2, lv2_some, res_var, res_cell, lvf_v, lvf_slc, res1c, lvo1_some, e_mm, mm_max, mm_min]
    · simp only [c53, start, List.replicate, c53_0, c53_1, c53_2, c53_3, c53_7, c53_9, c53_11, c53_12, n3, n4, h1, h2, snapv, e_bslice1, e_bslice2, bs1, bs2, e_build, bdH_some, bd_nil, bd_cons, bd1, cl_agg, cl_int, toL, List.map_cons, List.map_nil, putAt, List.set_cons_zero, List.set_cons_succ, and_self, Nat.le_refl, evStore, app_get, app_set, g_agg, run_nil, run_cons, stp_plain, stp_guard, put_some, pass_eq, pick_tt, pick_ff, pick_tf, pick_ft, pick_u, reg_some, thn_normal, thn_exit, thn_ret, cnd_t, cnd_f, blk_normal, blk_ret, blk_exit, x_seq, x_region, x_cond, x_block, x_loop, x_ret, x_exit, x_skip, e_mov, e_pick, pk_t, pk_f, withH_some, e_box, bx_some, e_load, e_store, stH_some, e_nil, e_bin, e_eqv, eqH_f, eqH_t, e_un, e_fa, e_ia, ia_eq, nat_eq, natV_nat, e_len, lnH_some, e_extract, ex_0, ex_1, e_call0, e_call1, e_call2, e_call3, pc0_eq, pc1_some, pc2_some, pc3_some, fin_some, g_var0, g_vars, g_loc0, g_locs, g_int, g_bool, g_str, g_sl, s_none, s_zero, s_succ, cl_nil, cl_str, cl_bool, cl_slc, cl_own, evFa, evNil, evLoad, asEl, evBin, intBin, strBin, evUn, len_nil, len_slc, len_str, clr, List.length_nil, List.length_cons, List.getElem?_cons_zero, List.getElem?_cons_succ, Nat.reduceAdd, Nat.zero_add, Nat.add_zero, Nat.reduceLeDiff, Nat.reduceSub, ↓reduceIte, List.drop_succ_cons, List.drop_zero, List.take_succ_cons, List.take_zero, Bool.false_eq_true, List.nil_append, List.cons_append, Bool.not_true, Bool.not_false, cond_true, cond_false, bne, lv_ret, lv_normal, res1, res2, lv2_some, res_var, res_cell, lvf_v, lvf_slc, res1c, lvo1_some, e_mm, mm_max, mm_min]
  | false =>
    have g2 : ¬ a > b := by simpa using h2
    rw [if_neg g2]
    refine ⟨callW_pure (c := c38) rfl rfl 0 ?_, callW_pure (c := c53) rfl rfl 0 ?_⟩
    · simp only [c38, start, List.replicate, c38_0, c38_1, c38_2, c38_3, c38_7, c38_9, c38_11, c38_13, n1, n2, h1, h2, snapv, e_bslice1, e_bslice2, bs1, bs2, e_build, bdH_some, bd_nil, bd_cons, bd1, cl_agg, cl_int, toL, List.map_cons, List.map_nil, putAt, List.set_cons_zero, List.set_cons_succ, and_self, Nat.le_refl, evStore, app_get, app_set, g_agg, run_nil, run_cons, stp_plain, stp_guard, put_some, pass_eq, pick_tt, pick_ff, pick_tf, pick_ft, pick_u, reg_some, thn_normal, thn_exit, thn_ret, cnd_t, cnd_f, blk_normal, blk_ret, blk_exit, x_seq, x_region, x_cond, x_block, x_loop, x_ret, x_exit, x_skip, e_mov, e_pick, pk_t, pk_f, withH_some, e_box, bx_some, e_load, e_store, stH_some, e_nil, e_bin, e_eqv, eqH_f, eqH_t, e_un, e_fa, e_ia, ia_eq, nat_eq, natV_nat, e_len, lnH_some, e_extract, ex_0, ex_1, e_call0, e_call1, e_call2, e_call3, pc0_eq, pc1_some, pc2_some, pc3_some, fin_some, g_var0, g_vars, g_loc0, g_locs, g_int, g_bool, g_str, g_sl, s_none, s_zero, s_succ, cl_nil, cl_str, cl_bool, cl_slc, cl_own, evFa, evNil, evLoad, asEl, evBin, intBin, strBin, evUn, len_nil, len_slc, len_str, clr, List.length_nil, List.length_cons, List.getElem?_cons_zero, List.getElem?_cons_succ, Nat.reduceAdd, Nat.zero_add, Nat.add_zero, Nat.reduceLeDiff, Nat.reduceSub, ↓reduceIte, List.drop_succ_cons, List.drop_zero, List.take_succ_cons, List.take_zero, Bool.false_eq_true, List.nil_append, List.cons_append, Bool.not_true, Bool.not_false, cond_true, cond_false, bne, lv_ret, lv_normal, res1, res2, lv2_some, res_var, res_cell, lvf_v, lvf_slc, res1c, lvo1_some, e_mm, mm_max, mm_min]
    · simp only [c53, start, List.replicate, c53_0, c53_1, c53_2, c53_3, c53_7, c53_9, c53_11, c53_13, n3, n4, h1, h2, snapv, e_bslice1, e_bslice2, bs1, bs2, e_build, bdH_some, bd_nil, bd_cons, bd1, cl_agg, cl_int, toL, List.map_cons, List.map_nil, putAt, List.set_cons_zero, List.set_cons_succ, and_self, Nat.le_refl, evStore, app_get, app_set, g_agg, run_nil, run_cons, stp_plain, stp_guard, put_some, pass_eq, pick_tt, pick_ff, pick_tf, pick_ft, pick_u, reg_some, thn_normal, thn_exit, thn_ret, cnd_t, cnd_f, blk_normal, blk_ret, blk_exit, x_seq, x_region, x_cond, x_block, x_loop, x_ret, x_exit, x_skip, e_mov, e_pick, pk_t, pk_f, withH_some, e_box, bx_some, e_load, e_store, stH_some, e_nil, e_bin, e_eqv, eqH_f, eqH_t, e_un, e_fa, e_ia, ia_eq, nat_eq, natV_nat, e_len, lnH_some, e_extract, ex_0, ex_1, e_call0, e_call1, e_call2, e_call3, pc0_eq, pc1_some, pc2_some, pc3_some, fin_some, g_var0, g_vars, g_loc0, g_locs, g_int, g_bool, g_str, g_sl, s_none, s_zero, s_succ, cl_nil, cl_str, cl_bool, cl_slc, cl_own, evFa, evNil, evLoad, asEl, evBin, intBin, strBin, evUn, len_nil, len_slc, len_str, clr, List.length_nil, List.length_cons, List.getElem?_cons_zero, List.getElem?_cons_succ, Nat.reduceAdd, Nat.zero_add, Nat.add_zero, Nat.reduceLeDiff, Nat.reduceSub, ↓reduceIte, List.drop_succ_cons, List.drop_zero, List.take_succ_cons, List.take_zero, Bool.false_eq_true, List.nil_append, List.cons_append, Bool.not_true, Bool.not_false, cond_true, cond_false, bne, lv_ret, lv_normal, res1, res2, lv2_some, res_var, res_cell, lvf_v, lvf_slc, res1c, lvo1_some, e_mm, mm_max, mm_min]
theorem order_ok' (k : Int) : callW F 51 [.v (.int .i64 k)] [] = some (.v (.int .i64 (ordK k)), []) := by
  refine callW_pure (c := c51) rfl rfl 0 ?_
  unfold ordK
  cases h1 : (k == 1) with
  | true => have g1 : k = 1 := by simpa using h1
            rw [if_pos g1]; simp only [c51, start, List.replicate, c51_0, c51_1, c51_2, c51_3, h1, e_bslice1, e_bslice2, bs1, bs2, e_build, bdH_some, bd_nil, bd_cons, bd1, cl_agg, cl_int, toL, List.map_cons, List.map_nil, putAt, List.set_cons_zero, List.set_cons_succ, and_self, Nat.le_refl, evStore, app_get, app_set, g_agg, run_nil, run_cons, stp_plain, stp_guard, put_some, pass_eq, pick_tt, pick_ff, pick_tf, pick_ft, pick_u, reg_some, thn_normal, thn_exit, thn_ret, cnd_t, cnd_f, blk_normal, blk_ret, blk_exit, x_seq, x_region, x_cond, x_block, x_loop, x_ret, x_exit, x_skip, e_mov, e_pick, pk_t, pk_f, withH_some, e_box, bx_some, e_load, e_store, stH_some, e_nil, e_bin, e_eqv, eqH_f, eqH_t, e_un, e_fa, e_ia, ia_eq, nat_eq, natV_nat, e_len, lnH_some, e_extract, ex_0, ex_1, e_call0, e_call1, e_call2, e_call3, pc0_eq, pc1_some, pc2_some, pc3_some, fin_some, g_var0, g_vars, g_loc0, g_locs, g_int, g_bool, g_str, g_sl, s_none, s_zero, s_succ, cl_nil, cl_str, cl_bool, cl_slc, cl_own, evFa, evNil, evLoad, asEl, evBin, intBin, strBin, evUn, len_nil, len_slc, len_str, clr, List.length_nil, List.length_cons, List.getElem?_cons_zero, List.getElem?_cons_succ, Nat.reduceAdd, Nat.zero_add, Nat.add_zero, Nat.reduceLeDiff, Nat.reduceSub, ↓reduceIte, List.drop_succ_cons, List.drop_zero, List.take_succ_cons, List.take_zero, Bool.false_eq_true, List.nil_append, List.cons_append, Bool.not_true, Bool.not_false, cond_true, cond_false, bne, lv_ret, lv_normal, res1, res2, lv2_some, res_var, res_cell, lvf_v, lvf_slc, res1c, lvo1_some, e_mm, mm_max, mm_min]
  | false =>
  have g1 : ¬ k = 1 := by simpa using h1
  rw [if_neg g1]
  cases h2 : (k == 3) with
  | true => have g1 : k = 3 := by simpa using h2
            rw [if_pos g1]; simp only [c51, start, List.replicate, c51_0, c51_1, c51_2, c51_4, c51_5, h1, h2, e_bslice1, e_bslice2, bs1, bs2, e_build, bdH_some, bd_nil, bd_cons, bd1, cl_agg, cl_int, toL, List.map_cons, List.map_nil, putAt, List.set_cons_zero, List.set_cons_succ, and_self, Nat.le_refl, evStore, app_get, app_set, g_agg, run_nil, run_cons, stp_plain, stp_guard, put_some, pass_eq, pick_tt, pick_ff, pick_tf, pick_ft, pick_u, reg_some, thn_normal, thn_exit, thn_ret, cnd_t, cnd_f, blk_normal, blk_ret, blk_exit, x_seq, x_region, x_cond, x_block, x_loop, x_ret, x_exit, x_skip, e_mov, e_pick, pk_t, pk_f, withH_some, e_box, bx_some, e_load, e_store, stH_some, e_nil, e_bin, e_eqv, eqH_f, eqH_t, e_un, e_fa, e_ia, ia_eq, nat_eq, natV_nat, e_len, lnH_some, e_extract, ex_0, ex_1, e_call0, e_call1, e_call2, e_call3, pc0_eq, pc1_some, pc2_some, pc3_some, fin_some, g_var0, g_vars, g_loc0, g_locs, g_int, g_bool, g_str, g_sl, s_none, s_zero, s_succ, cl_nil, cl_str, cl_bool, cl_slc, cl_own, evFa, evNil, evLoad, asEl, evBin, intBin, strBin, evUn, len_nil, len_slc, len_str, clr, List.length_nil, List.length_cons, List.getElem?_cons_zero, List.getElem?_cons_succ, Nat.reduceAdd, Nat.zero_add, Nat.add_zero, Nat.reduceLeDiff, Nat.reduceSub, ↓reduceIte, List.drop_succ_cons, List.drop_zero, List.take_succ_cons, List.take_zero, Bool.false_eq_true, List.nil_append, List.cons_append, Bool.not_true, Bool.not_false, cond_true, cond_false, bne, lv_ret, lv_normal, res1, res2, lv2_some, res_var, res_cell, lvf_v, lvf_slc, res1c, lvo1_some, e_mm, mm_max, mm_min]
  | false =>
  have g1 : ¬ k = 3 := by simpa using h2
  rw [if_neg g1]
  cases h3 : (k == 2) with
  | true => have g1 : k = 2 := by simpa using h3
            rw [if_pos g1]; simp only [c51, start, List.replicate, c51_0, c51_1, c51_2, c51_4, c51_6, c51_7, h1, h2, h3, e_bslice1, e_bslice2, bs1, bs2, e_build, bdH_some, bd_nil, bd_cons, bd1, cl_agg, cl_int, toL, List.map_cons, List.map_nil, putAt, List.set_cons_zero, List.set_cons_succ, and_self, Nat.le_refl, evStore, app_get, app_set, g_agg, run_nil, run_cons, stp_plain, stp_guard, put_some, pass_eq, pick_tt, pick_ff, pick_tf, pick_ft, pick_u, reg_some, thn_normal, thn_exit, thn_ret, cnd_t, cnd_f, blk_normal, blk_ret, blk_exit, x_seq, x_region, x_cond, x_block, x_loop, x_ret, x_exit, x_skip, e_mov, e_pick, pk_t, pk_f, withH_some, e_box, bx_some, e_load, e_store, stH_some, e_nil, e_bin, e_eqv, eqH_f, eqH_t, e_un, e_fa, e_ia, ia_eq, nat_eq, natV_nat, e_len, lnH_some, e_extract, ex_0, ex_1, e_call0, e_call1, e_call2, e_call3, pc0_eq, pc1_some, pc2_some, pc3_some, fin_some, g_var0, g_vars, g_loc0, g_locs, g_int, g_bool, g_str, g_sl, s_none, s_zero, s_succ, cl_nil, cl_str, cl_bool, cl_slc, cl_own, evFa, evNil, evLoad, asEl, evBin, intBin, strBin, evUn, len_nil, len_slc, len_str, clr, List.length_nil, List.length_cons, List.getElem?_cons_zero, List.getElem?_cons_succ, Nat.reduceAdd, Nat.zero_add, Nat.add_zero, Nat.reduceLeDiff, Nat.reduceSub, ↓reduceIte, List.drop_succ_cons, List.drop_zero, List.take_succ_cons, List.take_zero, Bool.false_eq_true, List.nil_append, List.cons_append, Bool.not_true, Bool.not_false, cond_true, cond_false, bne, lv_ret, lv_normal, res1, res2, lv2_some, res_var, res_cell, lvf_v, lvf_slc, res1c, lvo1_some, e_mm, mm_max, mm_min]
  | false =>
    have g1 : ¬ k = 2 := by simpa using h3
    rw [if_neg g1]; simp only [c51, start, List.replicate, c51_0, c51_1, c51_2, c51_4, c51_6, c51_8, h1, h2, h3, e_bslice1, e_bslice2, bs1, bs2, e_build, bdH_some, bd_nil, bd_cons, bd1, cl_agg, cl_int, toL, List.map_cons, List.map_nil, putAt, List.set_cons_zero, List.set_cons_succ, and_self, Nat.le_refl, evStore, app_get, app_set, g_agg, run_nil, run_cons, stp_plain, stp_guard, put_some, pass_eq, pick_tt, pick_ff, pick_tf, pick_ft, pick_u, reg_some, thn_normal, thn_exit, thn_ret, cnd_t, cnd_f, blk_normal, blk_ret, blk_exit, x_seq, x_region, x_cond, x_block, x_loop, x_ret, x_exit, x_skip, e_mov, e_pick, pk_t, pk_f, withH_some, e_box, bx_some, e_load, e_store, stH_some, e_nil, e_bin, e_eqv, eqH_f, eqH_t, e_un, e_fa, e_ia, ia_eq, nat_eq, natV_nat, e_len, lnH_some, e_extract, ex_0, ex_1, e_call0, e_call1, e_call2, e_call3, pc0_eq, pc1_some, pc2_some, pc3_some, fin_some, g_var0, g_vars, g_loc0, g_locs, g_int, g_bool, g_str, g_sl, s_none, s_zero, s_succ, cl_nil, cl_str, cl_bool, cl_slc, cl_own, evFa, evNil, evLoad, asEl, evBin, intBin, strBin, evUn, len_nil, len_slc, len_str, clr, List.length_nil, List.length_cons, List.getElem?_cons_zero, List.getElem?_cons_succ, Nat.reduceAdd, Nat.zero_add, Nat.add_zero, Nat.reduceLeDiff, Nat.reduceSub, ↓reduceIte, List.drop_succ_cons, List.drop_zero, List.take_succ_cons, List.take_zero, Bool.false_eq_true, List.nil_append, List.cons_append, Bool.not_true, Bool.not_false, cond_true, cond_false, bne, lv_ret, lv_normal, res1, res2, lv2_some, res_var, res_cell, lvf_v, lvf_slc, res1c, lvo1_some, e_mm, mm_max, mm_min]

def K50 : List Bool := [false, false, true, false, true, true, true, false, false]
def L50 (c : AV) (len i : Int) : List AV := [.junk, .junk, .v (.int .i64 0), .junk, c, .v (.int .i64 len), .v (.int .i64 i), .junk, .junk]
def ints (l : List Int) : List AV := l.map fun n => .v (.int .i64 n)
theorem or_loop {K : Nat} {c : AV} {es : List AV} (hs : Sl 1 c es) (hm : es.length ≤ 100000) :
    ∀ (l : List Int) (i : Nat) (h : List AO) (vars : List AV), i + l.length = es.length → es.drop i = ints l → clr K50 vars = L50 c es.length i →
      (firstNZ l = 0 ∧ loopN (exec (callW F) K c50_8) K50 (l.length + 1) vars h = some (.exit 0, [.junk, .junk, .v (.int .i64 0), .junk, c, .v (.int .i64 es.length), .v (.int .i64 es.length), .v (.bool false), .junk], h)) ∨
      ∃ vs h', loopN (exec (callW F) K c50_8) K50 (l.length + 1) vars h = some (.ret, vs, h') ∧ getO vs [] (.var 1) = .v (.int .i64 (firstNZ l)) := by
  intro l
  induction l with
  | nil =>
    intro i h vars hi _ hv
    have hil : i = es.length := by simpa using hi
    subst hil
    have hlt : decide ((es.length : Int) < (es.length : Int)) = false := by simp
    refine .inl ⟨rfl, loop_exit ?_⟩
    rw [hv]
    simp only [L50, c50_8, c50_3, hlt, e_bslice1, e_bslice2, bs1, bs2, e_build, bdH_some, bd_nil, bd_cons, bd1, cl_agg, cl_int, toL, List.map_cons, List.map_nil, putAt, List.set_cons_zero, List.set_cons_succ, and_self, Nat.le_refl, app_get, app_set, g_agg, run_nil, run_cons, stp_plain, stp_guard, put_some, pass_eq, pick_tt, pick_ff, pick_tf, pick_ft, pick_u, reg_some, thn_normal, thn_exit, thn_ret, cnd_t, cnd_f, blk_normal, blk_ret, blk_exit, x_seq, x_region, x_cond, x_block, x_loop, x_ret, x_exit, x_skip, e_mov, e_pick, pk_t, pk_f, withH_some, e_box, bx_some, e_load, e_store, stH_some, e_nil, e_bin, e_eqv, eqH_f, eqH_t, e_un, e_fa, e_ia, ia_eq, nat_eq, natV_nat, e_len, lnH_some, e_extract, ex_0, ex_1, e_call0, e_call1, e_call2, e_call3, pc0_eq, pc1_some, pc2_some, pc3_some, fin_some, g_var0, g_vars, g_loc0, g_locs, g_int, g_bool, g_str, g_sl, s_none, s_zero, s_succ, cl_nil, cl_str, cl_bool, cl_slc, cl_own, evFa, evNil, asEl, evBin, intBin, strBin, evUn, len_nil, len_slc, len_str, clr, List.length_nil, List.length_cons, List.getElem?_cons_zero, List.getElem?_cons_succ, Nat.reduceAdd, Nat.zero_add, Nat.add_zero, Nat.reduceLeDiff, Nat.reduceSub, ↓reduceIte, List.drop_succ_cons, List.drop_zero, List.take_succ_cons, List.take_zero, Bool.false_eq_true, List.nil_append, List.cons_append, Bool.not_true, Bool.not_false, cond_true, cond_false, bne, lv_ret, lv_normal, res1, res2, lv2_some, res_var, res_cell, lvf_v, lvf_slc, res1c, lvo1_some, e_mm, mm_max, mm_min]
  | cons a l ih =>
    intro i h vars hi hes hv
    have hil : i < es.length := by simp at hi; omega
    have he : es[i]? = some (es[i]'hil) := List.getElem?_eq_getElem _
    have hd : es.drop i = es[i] :: es.drop (i + 1) := List.drop_eq_getElem_cons hil
    rw [hd] at hes
    simp only [ints, List.map_cons, List.cons.injEq] at hes
    obtain ⟨e0, e1⟩ := hes
    rw [e0] at he
    have hlt : (decide ((i : Int) < (es.length : Int))) = true := by simp; omega
    have q1 := hs.ia he
    have q3 : ∀ h : List AO, evLoad h false 1 (.ip [.v (.int .i64 a)]) = some (.v (.int .i64 a)) := fun h => rfl
    simp only [AV.cells] at q1
    cases ha : (a == 0) with
    | true =>
      have g : a = 0 := by simpa using ha
      have st : exec (callW F) K c50_8 (L50 c es.length i) h = some (.normal, [.junk, .junk, .v (.int .i64 0), .v (.int .i64 a), c, .v (.int .i64 es.length), .v (.int .i64 ((i + 1 : Nat) : Int)), .v (.bool true), .v (.bool false)], h) := by
        simp only [L50, c50_8, c50_3, c50_4, c50_5, c50_7, hlt, wrap_succ hil (small_max hm), q1, q3, ha, e_bslice1, e_bslice2, bs1, bs2, e_build, bdH_some, bd_nil, bd_cons, bd1, cl_agg, cl_int, toL, List.map_cons, List.map_nil, putAt, List.set_cons_zero, List.set_cons_succ, and_self, Nat.le_refl, app_get, app_set, g_agg, run_nil, run_cons, stp_plain, stp_guard, put_some, pass_eq, pick_tt, pick_ff, pick_tf, pick_ft, pick_u, reg_some, thn_normal, thn_exit, thn_ret, cnd_t, cnd_f, blk_normal, blk_ret, blk_exit, x_seq, x_region, x_cond, x_block, x_loop, x_ret, x_exit, x_skip, e_mov, e_pick, pk_t, pk_f, withH_some, e_box, bx_some, e_load, e_store, stH_some, e_nil, e_bin, e_eqv, eqH_f, eqH_t, e_un, e_fa, e_ia, ia_eq, nat_eq, natV_nat, e_len, lnH_some, e_extract, ex_0, ex_1, e_call0, e_call1, e_call2, e_call3, pc0_eq, pc1_some, pc2_some, pc3_some, fin_some, g_var0, g_vars, g_loc0, g_locs, g_int, g_bool, g_str, g_sl, s_none, s_zero, s_succ, cl_nil, cl_str, cl_bool, cl_slc, cl_own, evFa, evNil, asEl, evBin, intBin, strBin, evUn, len_nil, len_slc, len_str, clr, List.length_nil, List.length_cons, List.getElem?_cons_zero, List.getElem?_cons_succ, Nat.reduceAdd, Nat.zero_add, Nat.add_zero, Nat.reduceLeDiff, Nat.reduceSub, ↓reduceIte, List.drop_succ_cons, List.drop_zero, List.take_succ_cons, List.take_zero, Bool.false_eq_true, List.nil_append, List.cons_append, Bool.not_true, Bool.not_false, cond_true, cond_false, bne, lv_ret, lv_normal, res1, res2, lv2_some, res_var, res_cell, lvf_v, lvf_slc, res1c, lvo1_some, e_mm, mm_max, mm_min]
      rw [show (a :: l).length + 1 = (l.length + 1) + 1 from rfl, loop_normal (by rw [hv]; exact st)]
      simp only [firstNZ, g, if_true]
      exact ih (i + 1) h _ (by simp at hi; omega) e1 rfl
    | false =>
      have g : ¬ a = 0 := by simpa using ha
      refine .inr ⟨[.junk, .v (.int .i64 a), .v (.int .i64 0), .v (.int .i64 a), c, .v (.int .i64 es.length), .v (.int .i64 i), .v (.bool true), .v (.bool true)], h, loop_ret ?_, by simp only [firstNZ, g, if_false]; rfl⟩
      rw [hv]
      simp only [L50, c50_8, c50_3, c50_4, c50_5, c50_6, hlt, q1, q3, ha, e_bslice1, e_bslice2, bs1, bs2, e_build, bdH_some, bd_nil, bd_cons, bd1, cl_agg, cl_int, toL, List.map_cons, List.map_nil, putAt, List.set_cons_zero, List.set_cons_succ, and_self, Nat.le_refl, app_get, app_set, g_agg, run_nil, run_cons, stp_plain, stp_guard, put_some, pass_eq, pick_tt, pick_ff, pick_tf, pick_ft, pick_u, reg_some, thn_normal, thn_exit, thn_ret, cnd_t, cnd_f, blk_normal, blk_ret, blk_exit, x_seq, x_region, x_cond, x_block, x_loop, x_ret, x_exit, x_skip, e_mov, e_pick, pk_t, pk_f, withH_some, e_box, bx_some, e_load, e_store, stH_some, e_nil, e_bin, e_eqv, eqH_f, eqH_t, e_un, e_fa, e_ia, ia_eq, nat_eq, natV_nat, e_len, lnH_some, e_extract, ex_0, ex_1, e_call0, e_call1, e_call2, e_call3, pc0_eq, pc1_some, pc2_some, pc3_some, fin_some, g_var0, g_vars, g_loc0, g_locs, g_int, g_bool, g_str, g_sl, s_none, s_zero, s_succ, cl_nil, cl_str, cl_bool, cl_slc, cl_own, evFa, evNil, asEl, evBin, intBin, strBin, evUn, len_nil, len_slc, len_str, clr, List.length_nil, List.length_cons, List.getElem?_cons_zero, List.getElem?_cons_succ, Nat.reduceAdd, Nat.zero_add, Nat.add_zero, Nat.reduceLeDiff, Nat.reduceSub, ↓reduceIte, List.drop_succ_cons, List.drop_zero, List.take_succ_cons, List.take_zero, Bool.false_eq_true, List.nil_append, List.cons_append, Bool.not_true, Bool.not_false, cond_true, cond_false, bne, lv_ret, lv_normal, res1, res2, lv2_some, res_var, res_cell, lvf_v, lvf_slc, res1c, lvo1_some, e_mm, mm_max, mm_min]
theorem or_ok (l : List Int) (hl : l.length ≤ 1000) : callW F 50 [.slc 1 true true (ints l)] [] = some (.v (.int .i64 (firstNZ l)), []) := by
  have e1 : (ints l).length = l.length := by simp [ints]
  have key := or_loop (K := l.length + 1) (.slc true true (ints l)) (by omega) l 0 [] (L50 (.slc 1 true true (ints l)) (ints l).length (0 : Nat)) (by omega) rfl rfl
  refine callW_pure (c := c50) rfl rfl (l.length + 1) ?_
  show lv [.var 1] (exec (callW F) (l.length + 1) (.seq (.region [] [] c50_0) (.seq (.region [] [] c50_1) (.seq (.seq (.region [] [] c50_2) (.block 0 (.loop K50 [] c50_8))) (.seq (.region [] [] c50_9) .ret)))) _ _) = _
  generalize hrest : (CC.seq (.region [] [] c50_9) .ret) = rest
  simp only [c50, start, List.replicate, c50_0, c50_1, c50_2, e_bslice1, e_bslice2, bs1, bs2, e_build, bdH_some, bd_nil, bd_cons, bd1, cl_agg, cl_int, toL, List.map_cons, List.map_nil, putAt, List.set_cons_zero, List.set_cons_succ, and_self, Nat.le_refl, evStore, app_get, app_set, g_agg, run_nil, run_cons, stp_plain, stp_guard, put_some, pass_eq, pick_tt, pick_ff, pick_tf, pick_ft, pick_u, reg_some, thn_normal, thn_exit, thn_ret, cnd_t, cnd_f, blk_normal, blk_ret, blk_exit, x_seq, x_region, x_cond, x_block, x_loop, x_ret, x_exit, x_skip, e_mov, e_pick, pk_t, pk_f, withH_some, e_box, bx_some, e_load, e_store, stH_some, e_nil, e_bin, e_eqv, eqH_f, eqH_t, e_un, e_fa, e_ia, ia_eq, nat_eq, natV_nat, e_len, lnH_some, e_extract, ex_0, ex_1, e_call0, e_call1, e_call2, e_call3, pc0_eq, pc1_some, pc2_some, pc3_some, fin_some, g_var0, g_vars, g_loc0, g_locs, g_int, g_bool, g_str, g_sl, s_none, s_zero, s_succ, cl_nil, cl_str, cl_bool, cl_slc, cl_own, evFa, evNil, evLoad, asEl, evBin, intBin, strBin, evUn, len_nil, len_slc, len_str, clr, List.length_nil, List.length_cons, List.getElem?_cons_zero, List.getElem?_cons_succ, Nat.reduceAdd, Nat.zero_add, Nat.add_zero, Nat.reduceLeDiff, Nat.reduceSub, ↓reduceIte, List.drop_succ_cons, List.drop_zero, List.take_succ_cons, List.take_zero, Bool.false_eq_true, List.nil_append, List.cons_append, Bool.not_true, Bool.not_false, cond_true, cond_false, bne, lv_ret, lv_normal, res1, res2, lv2_some, res_var, res_cell, lvf_v, lvf_slc, res1c, lvo1_some, e_mm, mm_max, mm_min]
  rw [loop_cong (v2 := L50 (.slc 1 true true (ints l)) (ints l).length ((0 : Nat) : Int)) (by rfl)]
  rcases key with ⟨h0, g⟩ | ⟨vs, h', g1, g2⟩
  · rw [g, ← hrest, h0]
    simp only [blk_exit, thn_normal, c50_9, run_nil, run_cons, stp_plain, stp_guard, put_some, pass_eq, pick_tt, pick_ff, pick_tf, pick_ft, pick_u, reg_some, thn_normal, thn_exit, thn_ret, cnd_t, cnd_f, blk_normal, blk_ret, blk_exit, x_seq, x_region, x_cond, x_block, x_loop, x_ret, x_exit, x_skip, e_mov, e_pick, pk_t, pk_f, withH_some, e_box, bx_some, e_load, e_store, stH_some, e_nil, e_bin, e_eqv, eqH_f, eqH_t, e_un, e_fa, e_ia, ia_eq, nat_eq, natV_nat, e_len, lnH_some, e_extract, ex_0, ex_1, e_call0, e_call1, e_call2, e_call3, pc0_eq, pc1_some, pc2_some, pc3_some, fin_some, g_var0, g_vars, g_loc0, g_locs, g_int, g_bool, g_str, g_sl, s_none, s_zero, s_succ, cl_nil, cl_str, cl_bool, cl_slc, cl_own, evFa, evNil, evLoad, asEl, evBin, intBin, strBin, evUn, len_nil, len_slc, len_str, clr, List.length_nil, List.length_cons, List.getElem?_cons_zero, List.getElem?_cons_succ, Nat.reduceAdd, Nat.zero_add, Nat.add_zero, Nat.reduceLeDiff, Nat.reduceSub, ↓reduceIte, List.drop_succ_cons, List.drop_zero, List.take_succ_cons, List.take_zero, Bool.false_eq_true, List.nil_append, List.cons_append, Bool.not_true, Bool.not_false, cond_true, cond_false, bne, lv_ret, lv_normal, res1, res2, lv2_some, res_var, res_cell, lvf_v, lvf_slc, res1c, lvo1_some, e_mm, mm_max, mm_min]
  · rw [g1]
    simp only [blk_ret, thn_ret, g2, run_nil, run_cons, stp_plain, stp_guard, put_some, pass_eq, pick_tt, pick_ff, pick_tf, pick_ft, pick_u, reg_some, thn_normal, thn_exit, thn_ret, cnd_t, cnd_f, blk_normal, blk_ret, blk_exit, x_seq, x_region, x_cond, x_block, x_loop, x_ret, x_exit, x_skip, e_mov, e_pick, pk_t, pk_f, withH_some, e_box, bx_some, e_load, e_store, stH_some, e_nil, e_bin, e_eqv, eqH_f, eqH_t, e_un, e_fa, e_ia, ia_eq, nat_eq, natV_nat, e_len, lnH_some, e_extract, ex_0, ex_1, e_call0, e_call1, e_call2, e_call3, pc0_eq, pc1_some, pc2_some, pc3_some, fin_some, g_var0, g_vars, g_loc0, g_locs, g_int, g_bool, g_str, g_sl, s_none, s_zero, s_succ, cl_nil, cl_str, cl_bool, cl_slc, cl_own, evFa, evNil, evLoad, asEl, evBin, intBin, strBin, evUn, len_nil, len_slc, len_str, clr, List.length_nil, List.length_cons, List.getElem?_cons_zero, List.getElem?_cons_succ, Nat.reduceAdd, Nat.zero_add, Nat.add_zero, Nat.reduceLeDiff, Nat.reduceSub, ↓reduceIte, List.drop_succ_cons, List.drop_zero, List.take_succ_cons, List.take_zero, Bool.false_eq_true, List.nil_append, List.cons_append, Bool.not_true, Bool.not_false, cond_true, cond_false, bne, lv_ret, lv_normal, res1, res2, lv2_some, res_var, res_cell, lvf_v, lvf_slc, res1c, lvo1_some, e_mm, mm_max, mm_min]

def bs4 (h : List AO) (x y z w : AV) : Option (AV × List AO) := evOp (fun _ _ _ => none) [x, y, z, w] [] h (.bslice 1 [(.int .i64 0)] 4 [(0, (.var 0)), (1, (.var 1)), (2, (.var 2)), (3, (.var 3))])
theorem e_bslice4 {call : CallF} {vars env : List AV} {h : List AO} {a b c d : Opd} : evOp call vars env h (.bslice 1 [(.int .i64 0)] 4 [(0, a), (1, b), (2, c), (3, d)]) = bs4 h (getO vars env a) (getO vars env b) (getO vars env c) (getO vars env d) := by
  simp only [bs4, evOp, evElems]
  rfl
theorem bs4_int {h : List AO} {a b c d : Int} : bs4 h (.v (.int .i64 a)) (.v (.int .i64 b)) (.v (.int .i64 c)) (.v (.int .i64 d)) = some (.slc 1 true true (ints [a, b, c, d]), h) := rfl
theorem strcmp (a b : ByteArray) : callW F 52 [.v (.string a), .v (.string b)] [] = some (.v (.int .i64 (Lib.compareBytes a.data.toList b.data.toList)), []) := callW_iff.2 ⟨1, rfl⟩

def K40 : List Bool := [false, false, true, true, false, true, true, false]
/-- Compare of two terms whose heads tell, or of which the first one has no arguments -/
theorem tcmp_ok {a b : AV} {x y : Tm} (ha : IsT a x) (hb : IsT b y) (hx : size x ≤ 100000) (hy : size y ≤ 100000) (hh : headC x y ≠ 0 ∨ ∃ k s n, x = .mk k s n []) : callW F 40 [a, b] [] = some (.v (.int .i64 (headC x y)), []) := by
  cases ha with
  | mk k s n c l hc =>
  cases hb with
  | mk k' s' n' c' l' hc' =>
  obtain ⟨es, hs, hes, hm⟩ := hc.sl
  obtain ⟨es', hs', hes', hm'⟩ := hc'.sl
  have l1 := hs.len
  have l2 := hs'.len
  have e1 := hes.length
  have e2 := hes'.length
  have o1 := order_ok' k
  have o2 := order_ok' k'
  have p1 := (cmp_ints (ordK k) (ordK k')).1
  have p2 := (cmp_ints es.length es'.length).1
  have p3 := strcmp s s'
  have p4 := (cmp_ints n n').2
  have p5 := or_ok [cmp3 (ordK k) (ordK k'), cmp3 es.length es'.length, Lib.compareBytes s.data.toList s'.data.toList, cmp3 n n'] (by simp)
  have eh : headC (.mk k s n l) (.mk k' s' n' l') = firstNZ [cmp3 (ordK k) (ordK k'), cmp3 es.length es'.length, Lib.compareBytes s.data.toList s'.data.toList, cmp3 n n'] := by simp only [headC, e1, e2]
  rw [eh] at hh ⊢
  generalize firstNZ [cmp3 (ordK k) (ordK k'), cmp3 es.length es'.length, Lib.compareBytes s.data.toList s'.data.toList, cmp3 n n'] = r at p5 hh ⊢
  refine callW_pure (c := c40) rfl rfl 1 ?_
  have hloop : ∀ (h : List AO) (vars : List AV), clr K40 vars = [.junk, .junk, .ptr 0 0, .ptr 1 0, .junk, .v (.int .i64 r), .v (.int .i64 0), .junk] → h[0]? = some (.box [.v (.int .i64 k), .v (.string s), .v (.int .i64 n), c]) → ∃ x7, loopN (exec (callW F) 1 c40_6) K40 1 vars h = some (.exit 0, [.junk, .junk, .ptr 0 0, .ptr 1 0, .junk, .v (.int .i64 r), .v (.int .i64 0), x7], h) := by
    intro h vars hv h0
    have ld : evLoad h false 1 (.ptr 0 3) = some c := by rw [bx_ld h0]; rfl
    refine ⟨.v (.bool false), loop_exit (n := 0) ?_⟩
    rw [hv]
    cases hr : (r == 0) with
    | true =>
      have g : r = 0 := by simpa using hr
      rcases hh with hh | ⟨k2, s2, n2, hh⟩
      · exact absurd g hh
      · cases hh
        have : es.length = 0 := by rw [e1]; rfl
        have hlt : decide ((0 : Int) < (es.length : Int)) = false := by rw [this]; rfl
        simp only [c40_6, c40_3, hr, ld, l1, hlt, e_bslice1, e_bslice2, bs1, bs2, e_build, bdH_some, bd_nil, bd_cons, bd1, cl_agg, cl_int, toL, List.map_cons, List.map_nil, putAt, List.set_cons_zero, List.set_cons_succ, and_self, Nat.le_refl, app_get, app_set, g_agg, run_nil, run_cons, stp_plain, stp_guard, put_some, pass_eq, pick_tt, pick_ff, pick_tf, pick_ft, pick_u, reg_some, thn_normal, thn_exit, thn_ret, cnd_t, cnd_f, blk_normal, blk_ret, blk_exit, x_seq, x_region, x_cond, x_block, x_loop, x_ret, x_exit, x_skip, e_mov, e_pick, pk_t, pk_f, withH_some, e_box, bx_some, e_load, e_store, stH_some, e_nil, e_bin, e_eqv, eqH_f, eqH_t, e_un, e_fa, e_ia, ia_eq, nat_eq, natV_nat, e_len, lnH_some, e_extract, ex_0, ex_1, e_call0, e_call1, e_call2, e_call3, pc0_eq, pc1_some, pc2_some, pc3_some, fin_some, g_var0, g_vars, g_loc0, g_locs, g_int, g_bool, g_str, g_sl, s_none, s_zero, s_succ, cl_nil, cl_str, cl_bool, cl_slc, cl_own, evFa, evNil, asEl, evBin, intBin, strBin, evUn, len_nil, len_slc, len_str, clr, List.length_nil, List.length_cons, List.getElem?_cons_zero, List.getElem?_cons_succ, Nat.reduceAdd, Nat.zero_add, Nat.add_zero, Nat.reduceLeDiff, Nat.reduceSub, ↓reduceIte, List.drop_succ_cons, List.drop_zero, List.take_succ_cons, List.take_zero, Bool.false_eq_true, List.nil_append, List.cons_append, Bool.not_true, Bool.not_false, cond_true, cond_false, bne, lv_ret, lv_normal, res1, res2, lv2_some, res_var, res_cell, lvf_v, lvf_slc, res1c, lvo1_some, e_mm, mm_max, mm_min]
    | false => simp only [c40_6, c40_3, hr, e_bslice1, e_bslice2, bs1, bs2, e_build, bdH_some, bd_nil, bd_cons, bd1, cl_agg, cl_int, toL, List.map_cons, List.map_nil, putAt, List.set_cons_zero, List.set_cons_succ, and_self, Nat.le_refl, app_get, app_set, g_agg, run_nil, run_cons, stp_plain, stp_guard, put_some, pass_eq, pick_tt, pick_ff, pick_tf, pick_ft, pick_u, reg_some, thn_normal, thn_exit, thn_ret, cnd_t, cnd_f, blk_normal, blk_ret, blk_exit, x_seq, x_region, x_cond, x_block, x_loop, x_ret, x_exit, x_skip, e_mov, e_pick, pk_t, pk_f, withH_some, e_box, bx_some, e_load, e_store, stH_some, e_nil, e_bin, e_eqv, eqH_f, eqH_t, e_un, e_fa, e_ia, ia_eq, nat_eq, natV_nat, e_len, lnH_some, e_extract, ex_0, ex_1, e_call0, e_call1, e_call2, e_call3, pc0_eq, pc1_some, pc2_some, pc3_some, fin_some, g_var0, g_vars, g_loc0, g_locs, g_int, g_bool, g_str, g_sl, s_none, s_zero, s_succ, cl_nil, cl_str, cl_bool, cl_slc, cl_own, evFa, evNil, asEl, evBin, intBin, strBin, evUn, len_nil, len_slc, len_str, clr, List.length_nil, List.length_cons, List.getElem?_cons_zero, List.getElem?_cons_succ, Nat.reduceAdd, Nat.zero_add, Nat.add_zero, Nat.reduceLeDiff, Nat.reduceSub, ↓reduceIte, List.drop_succ_cons, List.drop_zero, List.take_succ_cons, List.take_zero, Bool.false_eq_true, List.nil_append, List.cons_append, Bool.not_true, Bool.not_false, cond_true, cond_false, bne, lv_ret, lv_normal, res1, res2, lv2_some, res_var, res_cell, lvf_v, lvf_slc, res1c, lvo1_some, e_mm, mm_max, mm_min]
  show lv [.var 4] (exec (callW F) 1 (.seq (.region [] [] c40_0) (.seq (.region [] [] c40_1) (.seq (.seq (.region [] [] c40_2) (.block 0 (.loop K40 [] c40_6))) (.seq (.region [] [] c40_7) .ret)))) _ _) = _
  generalize hrest : (CC.seq (.region [] [] c40_7) .ret) = rest
  have s4 : ∀ (h : List AO) (l : List AV), (AV.slc 1 true true l).snap1 h = some (.slc 1 true true l) := fun _ _ => rfl
  obtain ⟨x7, hl⟩ := hloop [.box [.v (.int .i64 k), .v (.string s), .v (.int .i64 n), c], .box [.v (.int .i64 k'), .v (.string s'), .v (.int .i64 n'), c']] [.junk, .junk, .ptr 0 0, .ptr 1 0, .junk, .v (.int .i64 r), .v (.int .i64 0), .junk] rfl rfl
  simp only [c40, start, List.replicate, c40_0, c40_1, c40_2, l1, l2, o1, o2, p1, p2, p3, p4, p5, s4, snapv, snaps, e_bslice4, bs4_int, lvf_slc, e_bslice1, e_bslice2, bs1, bs2, e_build, bdH_some, bd_nil, bd_cons, bd1, cl_agg, cl_int, toL, List.map_cons, List.map_nil, putAt, List.set_cons_zero, List.set_cons_succ, and_self, Nat.le_refl, evStore, app_get, app_set, g_agg, run_nil, run_cons, stp_plain, stp_guard, put_some, pass_eq, pick_tt, pick_ff, pick_tf, pick_ft, pick_u, reg_some, thn_normal, thn_exit, thn_ret, cnd_t, cnd_f, blk_normal, blk_ret, blk_exit, x_seq, x_region, x_cond, x_block, x_loop, x_ret, x_exit, x_skip, e_mov, e_pick, pk_t, pk_f, withH_some, e_box, bx_some, e_load, e_store, stH_some, e_nil, e_bin, e_eqv, eqH_f, eqH_t, e_un, e_fa, e_ia, ia_eq, nat_eq, natV_nat, e_len, lnH_some, e_extract, ex_0, ex_1, e_call0, e_call1, e_call2, e_call3, pc0_eq, pc1_some, pc2_some, pc3_some, fin_some, g_var0, g_vars, g_loc0, g_locs, g_int, g_bool, g_str, g_sl, s_none, s_zero, s_succ, cl_nil, cl_str, cl_bool, cl_slc, cl_own, evFa, evNil, evLoad, asEl, evBin, intBin, strBin, evUn, len_nil, len_slc, len_str, clr, List.length_nil, List.length_cons, List.getElem?_cons_zero, List.getElem?_cons_succ, Nat.reduceAdd, Nat.zero_add, Nat.add_zero, Nat.reduceLeDiff, Nat.reduceSub, ↓reduceIte, List.drop_succ_cons, List.drop_zero, List.take_succ_cons, List.take_zero, Bool.false_eq_true, List.nil_append, List.cons_append, Bool.not_true, Bool.not_false, cond_true, cond_false, bne, lv_ret, lv_normal, res1, res2, lv2_some, res_var, res_cell, lvf_v, lvf_slc, res1c, lvo1_some, e_mm, mm_max, mm_min]
  rw [loop_cong (v2 := [.junk, .junk, .ptr 0 0, .ptr 1 0, .junk, .v (.int .i64 r), .v (.int .i64 0), .junk]) (by rfl), hl, ← hrest]
  simp only [blk_exit, thn_normal, c40_7, run_nil, run_cons, stp_plain, stp_guard, put_some, pass_eq, pick_tt, pick_ff, pick_tf, pick_ft, pick_u, reg_some, thn_normal, thn_exit, thn_ret, cnd_t, cnd_f, blk_normal, blk_ret, blk_exit, x_seq, x_region, x_cond, x_block, x_loop, x_ret, x_exit, x_skip, e_mov, e_pick, pk_t, pk_f, withH_some, e_box, bx_some, e_load, e_store, stH_some, e_nil, e_bin, e_eqv, eqH_f, eqH_t, e_un, e_fa, e_ia, ia_eq, nat_eq, natV_nat, e_len, lnH_some, e_extract, ex_0, ex_1, e_call0, e_call1, e_call2, e_call3, pc0_eq, pc1_some, pc2_some, pc3_some, fin_some, g_var0, g_vars, g_loc0, g_locs, g_int, g_bool, g_str, g_sl, s_none, s_zero, s_succ, cl_nil, cl_str, cl_bool, cl_slc, cl_own, evFa, evNil, evLoad, asEl, evBin, intBin, strBin, evUn, len_nil, len_slc, len_str, clr, List.length_nil, List.length_cons, List.getElem?_cons_zero, List.getElem?_cons_succ, Nat.reduceAdd, Nat.zero_add, Nat.add_zero, Nat.reduceLeDiff, Nat.reduceSub, ↓reduceIte, List.drop_succ_cons, List.drop_zero, List.take_succ_cons, List.take_zero, Bool.false_eq_true, List.nil_append, List.cons_append, Bool.not_true, Bool.not_false, cond_true, cond_false, bne, lv_ret, lv_normal, res1, res2, lv2_some, res_var, res_cell, lvf_v, lvf_slc, res1c, lvo1_some, e_mm, mm_max, mm_min]
theorem ordK_inj {k k' : Int} (h : k = 1 ∨ k = 2 ∨ k = 3 ∨ k = 4) (h' : k' = 1 ∨ k' = 2 ∨ k' = 3 ∨ k' = 4) (he : ordK k = ordK k') : k = k' := by
  rcases h with rfl | rfl | rfl | rfl <;> rcases h' with rfl | rfl | rfl | rfl <;> first | rfl | (exfalso; revert he; decide)
end Go.AE.YtpgoibncgekflaaDoor
end

/-! Compare of Unify's package walked. -/
section
set_option linter.unusedVariables false
set_option linter.unusedSimpArgs false
namespace Go.AE.YtpgoibncgekflaaDoor
open Go Go.AE Go.Proofs.YtpgoibncgekflaaDoor

inductive CS where
  | into (l : List (Tm × Tm))
  | head (c : Int)
def cStep : Tm → Tm → CS
  | .mk k s n l, .mk k' s' n' l' =>
    if k = 4 ∧ k' = 4 ∧ l.length = l'.length ∧ s.toList = s'.toList then .into (l.zip l')
    else .head (headC (.mk k s n l) (.mk k' s' n' l'))
/-- what Compare computes: the order, the error -/
def cRun (rs : List (Int × Tm)) : Nat → Nat → List (Tm × Tm) → Int × Int
  | _, _, [] => (0, 0)
  | 0, _, _ :: _ => (0, 140)
  | f + 1, m, (x, y) :: r =>
    if (nextT rs m x y).2.2.1 = 0 then
      match cStep (nextT rs m x y).1 (nextT rs m x y).2.1 with
      | .into l => cRun rs f (nextT rs m x y).2.2.2 (l ++ r)
      | .head c => if c = 0 then cRun rs f (nextT rs m x y).2.2.2 r else (c, 0)
    else (0, (nextT rs m x y).2.2.1)

def K20 : List Bool := [false, false, false, false, false, false, false, true, false, false, false, false, false, false, false, false, false]
def L20 : List AV := [.junk, .junk, .junk, .junk, .junk, .junk, .junk, .ptr 3 0, .junk, .junk, .junk, .junk, .junk, .junk, .junk, .junk, .junk]
def rest20 : CC := (.seq (.region [] [] c20_6) (.seq (.region [] [] c20_7) (.cond (.var 15) (.region [] [] c20_8) (.seq (.region [] [] c20_9) (.seq (.region [] [] c20_10) (.cond (.var 16) (.seq (.region [] [] c20_11) .ret) .skip))))))
def front20 (rest : CC) : CC := (.seq (.seq (.region [] [] c20_2) (.cond (.var 13) .skip (.exit 0))) (.block 1 (.seq (.region [] [] c20_3) (.seq (.seq (.region [] [] c20_4) (.cond (.var 14) (.seq (.region [] [] c20_5) .ret) .skip)) rest))))
theorem body20 : c20_12 = front20 rest20 := rfl
def M20 (tl : List AO) : List AV := [.junk, .junk, .junk, .junk, .junk, .junk, .junk, .ptr 3 0, .ptr (wb tl) 0, .ptr (wb tl + 1) 0, .v (.int .i64 0), .junk, .junk, .v (.bool true), .v (.bool false), .junk, .junk]
section
variable {X Y : List AV} {ver : Nat} {L : List AV} {B : AV} {m : Int} {n : Nat} {tl : List AO} {K : Nat}
theorem front20_end (rest : CC) : exec (callW F) K (front20 rest) L20 (wh X Y ver L B m 0 tl) = some (.exit 0, [.junk, .junk, .junk, .junk, .junk, .junk, .junk, .ptr 3 0, .junk, .junk, .junk, .junk, .junk, .v (.bool false), .junk, .junk, .junk], wh X Y ver L B m 0 tl) := by
  have h0 : decide (((0 : Nat) : Int) > 0) = false := rfl
  have q : ∀ l, evLen (wh X Y ver L B m 0 tl ++ l) .slice (.own 8 2 ver 0 0) = some 0 := fun l => w_len (Nat.zero_le _)
  have w : wh X Y ver L B m 0 tl = wh X Y ver L B m 0 tl ++ [] := (List.append_nil _).symm
  rw [w]
  simp only [L20, front20, c20_2, h0, q, w_todo, evNil, e_bslice1, e_bslice2, bs1, bs2, e_build, bdH_some, bd_nil, bd_cons, bd1, cl_agg, cl_int, toL, List.map_cons, List.map_nil, putAt, List.set_cons_zero, List.set_cons_succ, and_self, Nat.le_refl, app_get, app_set, g_agg, run_nil, run_cons, stp_plain, stp_guard, put_some, pass_eq, pick_tt, pick_ff, pick_tf, pick_ft, pick_u, reg_some, thn_normal, thn_exit, thn_ret, cnd_t, cnd_f, blk_normal, blk_ret, blk_exit, x_seq, x_region, x_cond, x_block, x_loop, x_ret, x_exit, x_skip, e_mov, e_pick, pk_t, pk_f, withH_some, e_box, e_load, e_store, stH_some, e_nil, e_bin, e_eqv, eqH_f, eqH_t, e_un, e_fa, e_ia, ia_eq, nat_eq, natV_nat, e_len, lnH_some, e_extract, ex_0, ex_1, e_call0, e_call1, e_call2, e_call3, pc0_eq, pc1_some, pc2_some, pc3_some, fin_some, g_var0, g_vars, g_loc0, g_locs, g_int, g_bool, g_str, g_sl, s_none, s_zero, s_succ, cl_nil, cl_str, cl_bool, cl_slc, cl_own, evFa, evNil, asEl, evBin, intBin, strBin, evUn, len_nil, len_slc, len_str, clr, List.length_nil, List.length_cons, List.getElem?_cons_zero, List.getElem?_cons_succ, Nat.reduceAdd, Nat.zero_add, Nat.add_zero, Nat.reduceLeDiff, Nat.reduceSub, ↓reduceIte, List.drop_succ_cons, List.drop_zero, List.take_succ_cons, List.take_zero, Bool.false_eq_true, List.nil_append, List.cons_append, Bool.not_true, Bool.not_false, cond_true, cond_false, bne, lv_ret, lv_normal, res1, res2, lv2_some, res_var, res_cell, lvf_v, lvf_slc, res1c, lvo1_some, e_mm, mm_max, mm_min]
theorem front20_step {rest : CC} {rx ry : AV} {k k' n1 n1' : Int} {s s' : ByteArray} {l l' : List Tm} {m' e : Int}
    (hn : n + 1 ≤ L.length) (hx : IsT rx (.mk k s n1 l)) (hy : IsT ry (.mk k' s' n1' l')) (hc : callW F 37 [.ptr 3 0] (wh X Y ver L B m (n + 1) tl) = some (.tup [rx, ry, .v (.int .i64 e)], wh X Y ver L B m' n tl)) :
    exec (callW F) K (front20 rest) L20 (wh X Y ver L B m (n + 1) tl) = if e = 0 then blk 1 (exec (callW F) K rest (M20 tl) (wh X Y ver L B m' n tl ++ [.box rx.cells, .box ry.cells]))
      else some (.ret, [.junk, .junk, .junk, .junk, .junk, .v (.int .i64 0), .v (.int .i64 e), .ptr 3 0, .ptr (wb tl) 0, .ptr (wb tl + 1) 0, .v (.int .i64 e), .junk, .junk, .v (.bool true), .v (.bool true), .junk, .junk], wh X Y ver L B m' n tl ++ [.box rx.cells, .box ry.cells]) := by
  have h0 : decide (((n + 1 : Nat) : Int) > 0) = true := decide_eq_true (by omega)
  have q : ∀ l, evLen (wh X Y ver L B m (n + 1) tl ++ l) .slice (.own 8 2 ver 0 (n + 1)) = some (n + 1) := fun l => w_len hn
  have w : ∀ tl n m, wh X Y ver L B m n tl = wh X Y ver L B m n tl ++ [] := fun _ _ _ => (List.append_nil _).symm
  have hc' : callW F 37 [.ptr 3 0] (wh X Y ver L B m (n + 1) tl ++ []) = some (.tup [rx, ry, .v (.int .i64 e)], wh X Y ver L B m' n tl ++ []) := by rw [← w, ← w]; exact hc
  rw [w tl (n + 1)]
  generalize hR : rest = rest'
  by_cases he : e = 0
  · rw [if_pos he]
    subst he
    cases hx
    cases hy
    have e2 : ((0 : Int) == 0) = true := rfl
    simp only [L20, M20, front20, c20_2, c20_3, c20_4, h0, q, hc', e2, w_bx, w_ld, w_ld0, w_st, w_st0, w_todo, ex_2, e_callh, q9z, AV.cells, evNil, ldAt, stAt, preH_some, List.append_assoc, e_bslice1, e_bslice2, bs1, bs2, e_build, bdH_some, bd_nil, bd_cons, bd1, cl_agg, cl_int, toL, List.map_cons, List.map_nil, putAt, List.set_cons_zero, List.set_cons_succ, and_self, Nat.le_refl, app_get, app_set, g_agg, run_nil, run_cons, stp_plain, stp_guard, put_some, pass_eq, pick_tt, pick_ff, pick_tf, pick_ft, pick_u, reg_some, thn_normal, thn_exit, thn_ret, cnd_t, cnd_f, blk_normal, blk_ret, blk_exit, x_seq, x_region, x_cond, x_block, x_loop, x_ret, x_exit, x_skip, e_mov, e_pick, pk_t, pk_f, withH_some, e_box, e_load, e_store, stH_some, e_nil, e_bin, e_eqv, eqH_f, eqH_t, e_un, e_fa, e_ia, ia_eq, nat_eq, natV_nat, e_len, lnH_some, e_extract, ex_0, ex_1, e_call0, e_call1, e_call2, e_call3, pc0_eq, pc1_some, pc2_some, pc3_some, fin_some, g_var0, g_vars, g_loc0, g_locs, g_int, g_bool, g_str, g_sl, s_none, s_zero, s_succ, cl_nil, cl_str, cl_bool, cl_slc, cl_own, evFa, evNil, asEl, evBin, intBin, strBin, evUn, len_nil, len_slc, len_str, clr, List.length_nil, List.length_cons, List.getElem?_cons_zero, List.getElem?_cons_succ, Nat.reduceAdd, Nat.zero_add, Nat.add_zero, Nat.reduceLeDiff, Nat.reduceSub, ↓reduceIte, List.drop_succ_cons, List.drop_zero, List.take_succ_cons, List.take_zero, Bool.false_eq_true, List.nil_append, List.cons_append, Bool.not_true, Bool.not_false, cond_true, cond_false, bne, lv_ret, lv_normal, res1, res2, lv2_some, res_var, res_cell, lvf_v, lvf_slc, res1c, lvo1_some, e_mm, mm_max, mm_min]
  · have e2 : (e == 0) = false := by simpa using he
    rw [if_neg he]
    cases hx
    cases hy
    simp only [L20, M20, front20, c20_2, c20_3, c20_4, c20_5, h0, q, hc', e2, w_bx, w_ld, w_ld0, w_st, w_st0, w_todo, ex_2, e_callh, q9z, AV.cells, evNil, ldAt, stAt, preH_some, List.append_assoc, e_bslice1, e_bslice2, bs1, bs2, e_build, bdH_some, bd_nil, bd_cons, bd1, cl_agg, cl_int, toL, List.map_cons, List.map_nil, putAt, List.set_cons_zero, List.set_cons_succ, and_self, Nat.le_refl, app_get, app_set, g_agg, run_nil, run_cons, stp_plain, stp_guard, put_some, pass_eq, pick_tt, pick_ff, pick_tf, pick_ft, pick_u, reg_some, thn_normal, thn_exit, thn_ret, cnd_t, cnd_f, blk_normal, blk_ret, blk_exit, x_seq, x_region, x_cond, x_block, x_loop, x_ret, x_exit, x_skip, e_mov, e_pick, pk_t, pk_f, withH_some, e_box, e_load, e_store, stH_some, e_nil, e_bin, e_eqv, eqH_f, eqH_t, e_un, e_fa, e_ia, ia_eq, nat_eq, natV_nat, e_len, lnH_some, e_extract, ex_0, ex_1, e_call0, e_call1, e_call2, e_call3, pc0_eq, pc1_some, pc2_some, pc3_some, fin_some, g_var0, g_vars, g_loc0, g_locs, g_int, g_bool, g_str, g_sl, s_none, s_zero, s_succ, cl_nil, cl_str, cl_bool, cl_slc, cl_own, evFa, evNil, asEl, evBin, intBin, strBin, evUn, len_nil, len_slc, len_str, clr, List.length_nil, List.length_cons, List.getElem?_cons_zero, List.getElem?_cons_succ, Nat.reduceAdd, Nat.zero_add, Nat.add_zero, Nat.reduceLeDiff, Nat.reduceSub, ↓reduceIte, List.drop_succ_cons, List.drop_zero, List.take_succ_cons, List.take_zero, Bool.false_eq_true, List.nil_append, List.cons_append, Bool.not_true, Bool.not_false, cond_true, cond_false, bne, lv_ret, lv_normal, res1, res2, lv2_some, res_var, res_cell, lvf_v, lvf_slc, res1c, lvo1_some, e_mm, mm_max, mm_min]

/-- what a round leaves -/
def After20 (r : CRun) (X Y : List AV) (B : AV) (m : Int) (n' : Nat) (S : List AV) : Prop :=
  ∃ vs ver' L' tl', r = some (.normal, vs, wh X Y ver' L' B m n' tl') ∧ clr K20 vs = L20 ∧ tl'.all (AO.below 0) = true ∧ wb tl ≤ wb tl' ∧ n' ≤ L'.length ∧ (L'.take n').reverse = S
variable {rx ry : AV} {k k' n1 n1' : Int} {s s' : ByteArray} {l l' : List Tm}
theorem rest20_into (hX : (AO.box X).below 0 = true) (hY : (AO.box Y).below 0 = true) (hn : n ≤ L.length) (hx : IsT rx (.mk k s n1 l)) (hy : IsT ry (.mk k' s' n1' l')) (hB : B.below0 0 = true) (hsz : l.length ≤ 100000) (hnj : n + l.length ≤ 1000000000) (ht : tl.all (AO.below 0) = true) (h3 : k = 4 ∧ k' = 4 ∧ l.length = l'.length ∧ s.toList = s'.toList) :
    ∃ ps, AllP ps (l.zip l') ∧ After20 (tl := tl) (blk 1 (exec (callW F) K rest20 (M20 tl) (wh X Y ver L B m n tl ++ [.box rx.cells, .box ry.cells]))) X Y B m (n + l.length) (ps ++ (L.take n).reverse) := by
  obtain ⟨ver', L', ps, g1, g2, g3, g4⟩ := within_ok (X := X) (Y := Y) (ver := ver) (L := L) (B := B) (m := m) (n := n) (tl := tl ++ [.box rx.cells, .box ry.cells]) hX hY (below0_mono (Nat.zero_le _) _ hB) (tl_two ht hx hy) hx hy h3.2.2.1 hsz hn hnj
  refine ⟨ps, g4, [.junk, .junk, .junk, .junk, .junk, .junk, .junk, .ptr 3 0, .ptr (wb tl) 0, .ptr (wb tl + 1) 0, .v (.int .i64 0), .v (.bool true), .junk, .v (.bool true), .v (.bool false), .v (.bool true), .junk], ver', L', tl ++ [.box rx.cells, .box ry.cells], ?_, rfl, tl_two ht hx hy, by unfold wb; simp, g2, g3⟩
  rw [← wh_app] at g1 ⊢
  have e1 : (k == 4) = true := by simpa using h3.1
  have e2 : (k' == 4) = true := by simpa using h3.2.1
  have e4 : (s.toList == s'.toList) = true := by simpa using h3.2.2.2
  have e6 : (cmp3 (l.length : Int) (l'.length : Int) == 0) = true := by rw [h3.2.2.1, cmp3_self]; rfl
  have c1 := (cmp_ints (l.length : Int) (l'.length : Int)).1
  cases hx with
  | mk k s n1 c l hc =>
  cases hy with
  | mk k' s' n1' c' l' hc' =>
  obtain ⟨es, hs, hes, hm⟩ := hc.sl
  obtain ⟨es', hs', hes', hm'⟩ := hc'.sl
  have l1 := hs.len
  have l2 := hs'.len
  rw [hes.length] at l1
  rw [hes'.length] at l2
  rw [← wh_app] at g1
  simp only [AV.cells] at g1
  simp only [M20, rest20, c20_6, c20_7, c20_8, e1, e2, e4, e6, c1, l1, l2, g1, snapv, e_callh, pick_und, w_ld, w_ld0, AV.cells, evNil, ldAt, e_bslice1, e_bslice2, bs1, bs2, e_build, bdH_some, bd_nil, bd_cons, bd1, cl_agg, cl_int, toL, List.map_cons, List.map_nil, putAt, List.set_cons_zero, List.set_cons_succ, and_self, Nat.le_refl, app_get, app_set, g_agg, run_nil, run_cons, stp_plain, stp_guard, put_some, pass_eq, pick_tt, pick_ff, pick_tf, pick_ft, pick_u, reg_some, thn_normal, thn_exit, thn_ret, cnd_t, cnd_f, blk_normal, blk_ret, blk_exit, x_seq, x_region, x_cond, x_block, x_loop, x_ret, x_exit, x_skip, e_mov, e_pick, pk_t, pk_f, withH_some, e_box, e_load, e_store, stH_some, e_nil, e_bin, e_eqv, eqH_f, eqH_t, e_un, e_fa, e_ia, ia_eq, nat_eq, natV_nat, e_len, lnH_some, e_extract, ex_0, ex_1, e_call0, e_call1, e_call2, e_call3, pc0_eq, pc1_some, pc2_some, pc3_some, fin_some, g_var0, g_vars, g_loc0, g_locs, g_int, g_bool, g_str, g_sl, s_none, s_zero, s_succ, cl_nil, cl_str, cl_bool, cl_slc, cl_own, evFa, evNil, asEl, evBin, intBin, strBin, evUn, len_nil, len_slc, len_str, clr, List.length_nil, List.length_cons, List.getElem?_cons_zero, List.getElem?_cons_succ, Nat.reduceAdd, Nat.zero_add, Nat.add_zero, Nat.reduceLeDiff, Nat.reduceSub, ↓reduceIte, List.drop_succ_cons, List.drop_zero, List.take_succ_cons, List.take_zero, Bool.false_eq_true, List.nil_append, List.cons_append, Bool.not_true, Bool.not_false, cond_true, cond_false, bne, lv_ret, lv_normal, res1, res2, lv2_some, res_var, res_cell, lvf_v, lvf_slc, res1c, lvo1_some, e_mm, mm_max, mm_min]

theorem rest20_head (hn : n ≤ L.length) (hx : IsT rx (.mk k s n1 l)) (hy : IsT ry (.mk k' s' n1' l')) (hsx : size (.mk k s n1 l) ≤ 100000) (hsy : size (.mk k' s' n1' l') ≤ 100000) (ht : tl.all (AO.below 0) = true) (h3 : ¬ (k = 4 ∧ k' = 4 ∧ l.length = l'.length ∧ s.toList = s'.toList))
    (hh : headC (.mk k s n1 l) (.mk k' s' n1' l') ≠ 0 ∨ l = []) :
    if headC (.mk k s n1 l) (.mk k' s' n1' l') = 0 then After20 (tl := tl) (blk 1 (exec (callW F) K rest20 (M20 tl) (wh X Y ver L B m n tl ++ [.box rx.cells, .box ry.cells]))) X Y B m n (L.take n).reverse
    else ∃ vs h', blk 1 (exec (callW F) K rest20 (M20 tl) (wh X Y ver L B m n tl ++ [.box rx.cells, .box ry.cells])) = some (.ret, vs, h') ∧ getO vs [] (.var 5) = .v (.int .i64 (headC (.mk k s n1 l) (.mk k' s' n1' l'))) ∧ getO vs [] (.var 6) = .v (.int .i64 0) := by
  have hc := tcmp_ok hx hy hsx hsy (hh.imp id fun h => ⟨k, s, n1, by rw [h]⟩)
  have c1 := (cmp_ints (l.length : Int) (l'.length : Int)).1
  generalize headC (.mk k s n1 l) (.mk k' s' n1' l') = r at hc hh ⊢
  have sx : ∀ h : List AO, rx.snap1 h = some rx := fun h => hx.snap
  have sy : ∀ h : List AO, ry.snap1 h = some ry := fun h => hy.snap
  -- the way to the head
  have pre : ∃ x11, exec (callW F) K rest20 (M20 tl) (wh X Y ver L B m n tl ++ [.box rx.cells, .box ry.cells]) = exec (callW F) K (.seq (.region [] [] c20_10) (.cond (.var 16) (.seq (.region [] [] c20_11) .ret) .skip)) [.junk, .junk, .junk, .junk, .junk, .junk, .junk, .ptr 3 0, .ptr (wb tl) 0, .ptr (wb tl + 1) 0, .v (.int .i64 0), x11, .v (.int .i64 r), .v (.bool true), .v (.bool false), .v (.bool false), .junk] (wh X Y ver L B m n tl ++ [.box rx.cells, .box ry.cells]) := by
    cases hx with
    | mk k s n1 c l hc1 =>
    cases hy with
    | mk k' s' n1' c' l' hc2 =>
    obtain ⟨es, hs, hes, hm⟩ := hc1.sl
    obtain ⟨es', hs', hes', hm'⟩ := hc2.sl
    have l1 := hs.len
    have l2 := hs'.len
    rw [hes.length] at l1
    rw [hes'.length] at l2
    generalize hrest : (CC.seq (.region [] [] c20_10) (.cond (.var 16) (.seq (.region [] [] c20_11) .ret) .skip)) = rest
    have e0 : rest20 = (.seq (.region [] [] c20_6) (.seq (.region [] [] c20_7) (.cond (.var 15) (.region [] [] c20_8) (.seq (.region [] [] c20_9) rest)))) := by rw [← hrest]; rfl
    rw [e0]
    cases e1 : (k == 4) with
    | false => exact ⟨.v (.bool false), by simp only [M20, c20_6, c20_7, c20_9, e1, hc, sx, sy, snapv, pick_und, w_ld, w_ld0, AV.cells, evNil, ldAt, e_bslice1, e_bslice2, bs1, bs2, e_build, bdH_some, bd_nil, bd_cons, bd1, cl_agg, cl_int, toL, List.map_cons, List.map_nil, putAt, List.set_cons_zero, List.set_cons_succ, and_self, Nat.le_refl, app_get, app_set, g_agg, run_nil, run_cons, stp_plain, stp_guard, put_some, pass_eq, pick_tt, pick_ff, pick_tf, pick_ft, pick_u, reg_some, thn_normal, thn_exit, thn_ret, cnd_t, cnd_f, blk_normal, blk_ret, blk_exit, x_seq, x_region, x_cond, x_block, x_loop, x_ret, x_exit, x_skip, e_mov, e_pick, pk_t, pk_f, withH_some, e_box, e_load, e_store, stH_some, e_nil, e_bin, e_eqv, eqH_f, eqH_t, e_un, e_fa, e_ia, ia_eq, nat_eq, natV_nat, e_len, lnH_some, e_extract, ex_0, ex_1, e_call0, e_call1, e_call2, e_call3, pc0_eq, pc1_some, pc2_some, pc3_some, fin_some, g_var0, g_vars, g_loc0, g_locs, g_int, g_bool, g_str, g_sl, s_none, s_zero, s_succ, cl_nil, cl_str, cl_bool, cl_slc, cl_own, evFa, evNil, asEl, evBin, intBin, strBin, evUn, len_nil, len_slc, len_str, clr, List.length_nil, List.length_cons, List.getElem?_cons_zero, List.getElem?_cons_succ, Nat.reduceAdd, Nat.zero_add, Nat.add_zero, Nat.reduceLeDiff, Nat.reduceSub, ↓reduceIte, List.drop_succ_cons, List.drop_zero, List.take_succ_cons, List.take_zero, Bool.false_eq_true, List.nil_append, List.cons_append, Bool.not_true, Bool.not_false, cond_true, cond_false, bne, lv_ret, lv_normal, res1, res2, lv2_some, res_var, res_cell, lvf_v, lvf_slc, res1c, lvo1_some, e_mm, mm_max, mm_min]⟩
    | true =>
    cases e2 : (k' == 4) with
    | false => exact ⟨.v (.bool false), by simp only [M20, c20_6, c20_7, c20_9, e1, e2, hc, sx, sy, snapv, pick_und, w_ld, w_ld0, AV.cells, evNil, ldAt, e_bslice1, e_bslice2, bs1, bs2, e_build, bdH_some, bd_nil, bd_cons, bd1, cl_agg, cl_int, toL, List.map_cons, List.map_nil, putAt, List.set_cons_zero, List.set_cons_succ, and_self, Nat.le_refl, app_get, app_set, g_agg, run_nil, run_cons, stp_plain, stp_guard, put_some, pass_eq, pick_tt, pick_ff, pick_tf, pick_ft, pick_u, reg_some, thn_normal, thn_exit, thn_ret, cnd_t, cnd_f, blk_normal, blk_ret, blk_exit, x_seq, x_region, x_cond, x_block, x_loop, x_ret, x_exit, x_skip, e_mov, e_pick, pk_t, pk_f, withH_some, e_box, e_load, e_store, stH_some, e_nil, e_bin, e_eqv, eqH_f, eqH_t, e_un, e_fa, e_ia, ia_eq, nat_eq, natV_nat, e_len, lnH_some, e_extract, ex_0, ex_1, e_call0, e_call1, e_call2, e_call3, pc0_eq, pc1_some, pc2_some, pc3_some, fin_some, g_var0, g_vars, g_loc0, g_locs, g_int, g_bool, g_str, g_sl, s_none, s_zero, s_succ, cl_nil, cl_str, cl_bool, cl_slc, cl_own, evFa, evNil, asEl, evBin, intBin, strBin, evUn, len_nil, len_slc, len_str, clr, List.length_nil, List.length_cons, List.getElem?_cons_zero, List.getElem?_cons_succ, Nat.reduceAdd, Nat.zero_add, Nat.add_zero, Nat.reduceLeDiff, Nat.reduceSub, ↓reduceIte, List.drop_succ_cons, List.drop_zero, List.take_succ_cons, List.take_zero, Bool.false_eq_true, List.nil_append, List.cons_append, Bool.not_true, Bool.not_false, cond_true, cond_false, bne, lv_ret, lv_normal, res1, res2, lv2_some, res_var, res_cell, lvf_v, lvf_slc, res1c, lvo1_some, e_mm, mm_max, mm_min]⟩
    | true =>
    cases e3 : (cmp3 (l.length : Int) (l'.length : Int) == 0) with
    | false => exact ⟨.v (.bool true), by simp only [M20, c20_6, c20_7, c20_9, e1, e2, e3, c1, l1, l2, hc, sx, sy, snapv, pick_und, w_ld, w_ld0, AV.cells, evNil, ldAt, e_bslice1, e_bslice2, bs1, bs2, e_build, bdH_some, bd_nil, bd_cons, bd1, cl_agg, cl_int, toL, List.map_cons, List.map_nil, putAt, List.set_cons_zero, List.set_cons_succ, and_self, Nat.le_refl, app_get, app_set, g_agg, run_nil, run_cons, stp_plain, stp_guard, put_some, pass_eq, pick_tt, pick_ff, pick_tf, pick_ft, pick_u, reg_some, thn_normal, thn_exit, thn_ret, cnd_t, cnd_f, blk_normal, blk_ret, blk_exit, x_seq, x_region, x_cond, x_block, x_loop, x_ret, x_exit, x_skip, e_mov, e_pick, pk_t, pk_f, withH_some, e_box, e_load, e_store, stH_some, e_nil, e_bin, e_eqv, eqH_f, eqH_t, e_un, e_fa, e_ia, ia_eq, nat_eq, natV_nat, e_len, lnH_some, e_extract, ex_0, ex_1, e_call0, e_call1, e_call2, e_call3, pc0_eq, pc1_some, pc2_some, pc3_some, fin_some, g_var0, g_vars, g_loc0, g_locs, g_int, g_bool, g_str, g_sl, s_none, s_zero, s_succ, cl_nil, cl_str, cl_bool, cl_slc, cl_own, evFa, evNil, asEl, evBin, intBin, strBin, evUn, len_nil, len_slc, len_str, clr, List.length_nil, List.length_cons, List.getElem?_cons_zero, List.getElem?_cons_succ, Nat.reduceAdd, Nat.zero_add, Nat.add_zero, Nat.reduceLeDiff, Nat.reduceSub, ↓reduceIte, List.drop_succ_cons, List.drop_zero, List.take_succ_cons, List.take_zero, Bool.false_eq_true, List.nil_append, List.cons_append, Bool.not_true, Bool.not_false, cond_true, cond_false, bne, lv_ret, lv_normal, res1, res2, lv2_some, res_var, res_cell, lvf_v, lvf_slc, res1c, lvo1_some, e_mm, mm_max, mm_min]⟩
    | true =>
      have e4 : (s.toList == s'.toList) = false := by
        rw [beq_eq_false_iff_ne]
        intro h
        refine h3 ⟨by simpa using e1, by simpa using e2, ?_, h⟩
        have := cmp3_zero (by simpa using e3 : cmp3 (l.length : Int) (l'.length : Int) = 0)
        omega
      exact ⟨.v (.bool true), by simp only [M20, c20_6, c20_7, c20_9, e1, e2, e3, e4, c1, l1, l2, hc, sx, sy, snapv, pick_und, w_ld, w_ld0, AV.cells, evNil, ldAt, e_bslice1, e_bslice2, bs1, bs2, e_build, bdH_some, bd_nil, bd_cons, bd1, cl_agg, cl_int, toL, List.map_cons, List.map_nil, putAt, List.set_cons_zero, List.set_cons_succ, and_self, Nat.le_refl, app_get, app_set, g_agg, run_nil, run_cons, stp_plain, stp_guard, put_some, pass_eq, pick_tt, pick_ff, pick_tf, pick_ft, pick_u, reg_some, thn_normal, thn_exit, thn_ret, cnd_t, cnd_f, blk_normal, blk_ret, blk_exit, x_seq, x_region, x_cond, x_block, x_loop, x_ret, x_exit, x_skip, e_mov, e_pick, pk_t, pk_f, withH_some, e_box, e_load, e_store, stH_some, e_nil, e_bin, e_eqv, eqH_f, eqH_t, e_un, e_fa, e_ia, ia_eq, nat_eq, natV_nat, e_len, lnH_some, e_extract, ex_0, ex_1, e_call0, e_call1, e_call2, e_call3, pc0_eq, pc1_some, pc2_some, pc3_some, fin_some, g_var0, g_vars, g_loc0, g_locs, g_int, g_bool, g_str, g_sl, s_none, s_zero, s_succ, cl_nil, cl_str, cl_bool, cl_slc, cl_own, evFa, evNil, asEl, evBin, intBin, strBin, evUn, len_nil, len_slc, len_str, clr, List.length_nil, List.length_cons, List.getElem?_cons_zero, List.getElem?_cons_succ, Nat.reduceAdd, Nat.zero_add, Nat.add_zero, Nat.reduceLeDiff, Nat.reduceSub, ↓reduceIte, List.drop_succ_cons, List.drop_zero, List.take_succ_cons, List.take_zero, Bool.false_eq_true, List.nil_append, List.cons_append, Bool.not_true, Bool.not_false, cond_true, cond_false, bne, lv_ret, lv_normal, res1, res2, lv2_some, res_var, res_cell, lvf_v, lvf_slc, res1c, lvo1_some, e_mm, mm_max, mm_min]⟩
  obtain ⟨x11, pre⟩ := pre
  rw [pre]
  by_cases hr : r = 0
  · rw [if_pos hr]
    have e1 : (r == 0) = true := by simpa using hr
    refine ⟨[.junk, .junk, .junk, .junk, .junk, .junk, .junk, .ptr 3 0, .ptr (wb tl) 0, .ptr (wb tl + 1) 0, .v (.int .i64 0), x11, .v (.int .i64 r), .v (.bool true), .v (.bool false), .v (.bool false), .v (.bool false)], ver, L, tl ++ [.box rx.cells, .box ry.cells], ?_, rfl, tl_two ht hx hy, by unfold wb; simp, hn, rfl⟩
    rw [← wh_app]
    simp only [c20_10, e1, e_bslice1, e_bslice2, bs1, bs2, e_build, bdH_some, bd_nil, bd_cons, bd1, cl_agg, cl_int, toL, List.map_cons, List.map_nil, putAt, List.set_cons_zero, List.set_cons_succ, and_self, Nat.le_refl, app_get, app_set, g_agg, run_nil, run_cons, stp_plain, stp_guard, put_some, pass_eq, pick_tt, pick_ff, pick_tf, pick_ft, pick_u, reg_some, thn_normal, thn_exit, thn_ret, cnd_t, cnd_f, blk_normal, blk_ret, blk_exit, x_seq, x_region, x_cond, x_block, x_loop, x_ret, x_exit, x_skip, e_mov, e_pick, pk_t, pk_f, withH_some, e_box, e_load, e_store, stH_some, e_nil, e_bin, e_eqv, eqH_f, eqH_t, e_un, e_fa, e_ia, ia_eq, nat_eq, natV_nat, e_len, lnH_some, e_extract, ex_0, ex_1, e_call0, e_call1, e_call2, e_call3, pc0_eq, pc1_some, pc2_some, pc3_some, fin_some, g_var0, g_vars, g_loc0, g_locs, g_int, g_bool, g_str, g_sl, s_none, s_zero, s_succ, cl_nil, cl_str, cl_bool, cl_slc, cl_own, evFa, evNil, asEl, evBin, intBin, strBin, evUn, len_nil, len_slc, len_str, clr, List.length_nil, List.length_cons, List.getElem?_cons_zero, List.getElem?_cons_succ, Nat.reduceAdd, Nat.zero_add, Nat.add_zero, Nat.reduceLeDiff, Nat.reduceSub, ↓reduceIte, List.drop_succ_cons, List.drop_zero, List.take_succ_cons, List.take_zero, Bool.false_eq_true, List.nil_append, List.cons_append, Bool.not_true, Bool.not_false, cond_true, cond_false, bne, lv_ret, lv_normal, res1, res2, lv2_some, res_var, res_cell, lvf_v, lvf_slc, res1c, lvo1_some, e_mm, mm_max, mm_min]
  · rw [if_neg hr]
    have e1 : (r == 0) = false := by simpa using hr
    refine ⟨[.junk, .junk, .junk, .junk, .junk, .v (.int .i64 r), .v (.int .i64 0), .ptr 3 0, .ptr (wb tl) 0, .ptr (wb tl + 1) 0, .v (.int .i64 0), x11, .v (.int .i64 r), .v (.bool true), .v (.bool false), .v (.bool false), .v (.bool true)], wh X Y ver L B m n tl ++ [.box rx.cells, .box ry.cells], ?_, rfl, rfl⟩
    simp only [c20_10, c20_11, e1, e_bslice1, e_bslice2, bs1, bs2, e_build, bdH_some, bd_nil, bd_cons, bd1, cl_agg, cl_int, toL, List.map_cons, List.map_nil, putAt, List.set_cons_zero, List.set_cons_succ, and_self, Nat.le_refl, app_get, app_set, g_agg, run_nil, run_cons, stp_plain, stp_guard, put_some, pass_eq, pick_tt, pick_ff, pick_tf, pick_ft, pick_u, reg_some, thn_normal, thn_exit, thn_ret, cnd_t, cnd_f, blk_normal, blk_ret, blk_exit, x_seq, x_region, x_cond, x_block, x_loop, x_ret, x_exit, x_skip, e_mov, e_pick, pk_t, pk_f, withH_some, e_box, e_load, e_store, stH_some, e_nil, e_bin, e_eqv, eqH_f, eqH_t, e_un, e_fa, e_ia, ia_eq, nat_eq, natV_nat, e_len, lnH_some, e_extract, ex_0, ex_1, e_call0, e_call1, e_call2, e_call3, pc0_eq, pc1_some, pc2_some, pc3_some, fin_some, g_var0, g_vars, g_loc0, g_locs, g_int, g_bool, g_str, g_sl, s_none, s_zero, s_succ, cl_nil, cl_str, cl_bool, cl_slc, cl_own, evFa, evNil, asEl, evBin, intBin, strBin, evUn, len_nil, len_slc, len_str, clr, List.length_nil, List.length_cons, List.getElem?_cons_zero, List.getElem?_cons_succ, Nat.reduceAdd, Nat.zero_add, Nat.add_zero, Nat.reduceLeDiff, Nat.reduceSub, ↓reduceIte, List.drop_succ_cons, List.drop_zero, List.take_succ_cons, List.take_zero, Bool.false_eq_true, List.nil_append, List.cons_append, Bool.not_true, Bool.not_false, cond_true, cond_false, bne, lv_ret, lv_normal, res1, res2, lv2_some, res_var, res_cell, lvf_v, lvf_slc, res1c, lvo1_some, e_mm, mm_max, mm_min]
end
end Go.AE.YtpgoibncgekflaaDoor
end

/-! Terms that may be. -/
section
set_option linter.unusedVariables false
set_option linter.unusedSimpArgs false
namespace Go.AE.YtpgoibncgekflaaDoor
open Go Go.AE Go.Proofs.YtpgoibncgekflaaDoor

theorem bytes_inj {s s' : ByteArray} (h : s.data.toList = s'.data.toList) : s = s' := by
  cases s with
  | mk a =>
  cases s' with
  | mk b =>
  simp only at h
  have := Array.toList_inj.1 h
  rw [this]
theorem may_args {k n : Int} {s : ByteArray} {l : List Tm} (h : mayT (.mk k s n l) = true) : (k = 1 ∨ k = 2 ∨ k = 3 ∨ k = 4) ∧ (l = [] ∨ k = 4) := by
  simp only [mayT] at h
  by_cases h1 : (k == 1) = true
  · rw [if_pos h1] at h
    simp only [Bool.and_eq_true, beq_iff_eq] at h h1
    exact ⟨.inl h1, .inl (List.length_eq_zero_iff.1 (by have := h.2; omega))⟩
  rw [if_neg h1] at h
  by_cases h2 : (k == 2) = true
  · rw [if_pos h2] at h
    simp only [Bool.and_eq_true, beq_iff_eq] at h h2
    exact ⟨.inr (.inl h2), .inl (List.length_eq_zero_iff.1 (by have := h.2; omega))⟩
  rw [if_neg h2] at h
  by_cases h3 : (k == 3) = true
  · rw [if_pos h3] at h
    simp only [Bool.and_eq_true, beq_iff_eq] at h h3
    exact ⟨.inr (.inr (.inl h3)), .inl (List.length_eq_zero_iff.1 (by have := h.2; omega))⟩
  rw [if_neg h3] at h
  by_cases h4 : (k == 4) = true
  · simp only [beq_iff_eq] at h4
    exact ⟨.inr (.inr (.inr h4)), .inr h4⟩
  rw [if_neg h4] at h
  cases h
theorem walkT_may {rs : List (Int × Tm)} (hrs : ∀ p ∈ rs, mayT p.2 = true) : ∀ (m : Nat) (t : Tm), mayT t = true → (walkT rs m t).2.1 = 0 → mayT (walkT rs m t).1 = true := by
  intro m
  induction m with
  | zero =>
    intro t ht
    simp only [walkT]
    split
    · intro h; simp at h
    · intro _; exact ht
  | succ m ih =>
    intro t ht
    simp only [walkT]
    split
    · rename_i t' hb
      obtain ⟨p, hp, rfl⟩ := bound_mem hb
      exact ih _ (hrs p hp)
    · intro _; exact ht
theorem meetT_may {rs : List (Int × Tm)} (hrs : ∀ p ∈ rs, mayT p.2 = true) (m : Nat) (t : Tm) (ht : mayT t = true) (h : (meetT rs m t).2.1 = 0) : mayT (meetT rs m t).1 = true := by
  cases m with
  | zero => simp [meetT] at h
  | succ m => exact walkT_may hrs m t ht h
theorem nextT_may {rs : List (Int × Tm)} (hrs : ∀ p ∈ rs, mayT p.2 = true) {m : Nat} {x y : Tm} (hx : mayT x = true) (hy : mayT y = true) (h : (nextT rs m x y).2.2.1 = 0) : mayT (nextT rs m x y).1 = true ∧ mayT (nextT rs m x y).2.1 = true := by
  by_cases h0 : (meetT rs m x).2.1 = 0
  · simp only [nextT, if_pos h0] at h ⊢
    exact ⟨meetT_may hrs m x hx h0, meetT_may hrs _ y hy h⟩
  · simp only [nextT, if_neg h0] at h
    exact absurd h h0
theorem mayL_mem : ∀ {l : List Tm} {t : Tm}, mayL l = true → t ∈ l → mayT t = true
  | [], _, _, h => by simp at h
  | u :: l, t, h, ht => by
    simp only [mayL, Bool.and_eq_true] at h
    rcases List.mem_cons.1 ht with e | e
    · rw [e]; exact h.1
    · exact mayL_mem h.2 e
theorem may_sub {k n : Int} {s : ByteArray} {l : List Tm} (h : mayT (.mk k s n l) = true) : mayL l = true := by
  rcases (may_args h).2 with e | e
  · rw [e]; rfl
  · subst e
    simp only [mayT] at h
    simp at h
    exact h.2

end Go.AE.YtpgoibncgekflaaDoor
end

/-! Compare of Unify's package: all of it. -/
section
set_option linter.unusedVariables false
set_option linter.unusedSimpArgs false
namespace Go.AE.YtpgoibncgekflaaDoor
open Go Go.AE Go.Proofs.YtpgoibncgekflaaDoor

theorem firstNZ_zero : ∀ {l : List Int}, firstNZ l = 0 → ∀ a ∈ l, a = 0
  | [], _, a, h => by simp at h
  | b :: l, hz, a, h => by
    simp only [firstNZ] at hz
    by_cases hb : b = 0
    · rw [if_pos hb] at hz
      rcases List.mem_cons.1 h with e | e
      · rw [e]; exact hb
      · exact firstNZ_zero hz a e
    · rw [if_neg hb] at hz; exact absurd hz hb
theorem head_may {k k' n n' : Int} {s s' : ByteArray} {l l' : List Tm} (hx : mayT (.mk k s n l) = true) (hy : mayT (.mk k' s' n' l') = true) (h3 : ¬ (k = 4 ∧ k' = 4 ∧ l.length = l'.length ∧ s.toList = s'.toList)) : headC (.mk k s n l) (.mk k' s' n' l') ≠ 0 ∨ l = [] := by
  obtain ⟨a1, a2⟩ := may_args hx
  obtain ⟨b1, b2⟩ := may_args hy
  rcases a2 with h | h
  · exact .inr h
  · refine .inl fun hz => h3 ?_
    simp only [headC] at hz
    have g := firstNZ_zero hz
    have g1 := cmp3_zero (g (cmp3 (ordK k) (ordK k')) (by simp))
    have g2 := cmp3_zero (g (cmp3 (l.length : Int) (l'.length : Int)) (by simp))
    have g3 := bytes_inj (cb_zero (g (Lib.compareBytes s.data.toList s'.data.toList) (by simp)))
    have hk : k' = 4 := by
      rcases b1 with h' | h' | h' | h'
      · subst h h'; simp [ordK] at g1
      · subst h h'; simp [ordK] at g1
      · subst h h'; simp [ordK] at g1
      · exact h'
    exact ⟨h, hk, by omega, by rw [g3]⟩
/-- what the loop leaves -/
def Out20 (r : CRun) (X Y : List AV) (B : AV) : Int × Int → Prop := fun q =>
  (q = (0, 0) ∧ ∃ ver' L' m' n' tl' x, r = some (.exit 0, [.junk, .junk, .junk, .junk, .junk, .junk, .junk, .ptr 3 0, .junk, .junk, .junk, .junk, .junk, x, .junk, .junk, .junk], wh X Y ver' L' B m' n' tl')) ∨
  ∃ vs h', r = some (.ret, vs, h') ∧ getO vs [] (.var 5) = .v (.int .i64 q.1) ∧ getO vs [] (.var 6) = .v (.int .i64 q.2)
section
variable {X Y : List AV} {K : Nat}
theorem com_loop (hX : (AO.box X).below 0 = true) (hY : (AO.box Y).below 0 = true) {B : AV} {bs : List (Int × Tm)} (hb : IsB B bs) (hbl : bs.length ≤ 100000) (hbz : ∀ p ∈ bs, size p.2 ≤ 3000) (hbm : ∀ p ∈ bs, mayT p.2 = true) : ∀ (f : Nat) (m : Nat) (todo : List (Tm × Tm)) (ver : Nat) (L : List AV) (n : Nat) (tl : List AO) (vars : List AV), m < f → m ≤ 5000 → tl.all (AO.below 0) = true → n ≤ L.length → AllP (L.take n).reverse todo → (∀ p ∈ todo, size p.1 ≤ 3000 ∧ size p.2 ≤ 3000) → (∀ p ∈ todo, mayT p.1 = true ∧ mayT p.2 = true) → n + 3000 * m ≤ 1000000000 → clr K20 vars = L20 →
    Out20 (loopN (exec (callW F) K c20_12) K20 f vars (wh X Y ver L B m n tl)) X Y B (cRun bs.reverse f m todo) := by
  have hB0 : B.below0 0 = true := by cases hb <;> rfl
  have hsn : ∀ h : List AO, B.snap1 h = some B := by intro h; cases hb <;> rfl
  obtain ⟨es, hes, k1, k2⟩ := looks hb hbl
  have hbz' : ∀ p ∈ bs.reverse, size p.2 ≤ 3000 := fun p hp => hbz p (by simpa using hp)
  have hbm' : ∀ p ∈ bs.reverse, mayT p.2 = true := fun p hp => hbm p (by simpa using hp)
  intro f
  induction f with
  | zero => intro m todo ver L n tl vars hm; omega
  | succ f ih =>
    intro m todo ver L n tl vars hm hm5 ht hn hall hsz hmy hnm hv
    cases todo with
    | nil =>
      have hn0 : n = 0 := by
        have := hall.len
        simp only [List.length_reverse, List.length_take, List.length_nil] at this
        omega
      subst hn0
      refine .inl ⟨rfl, ver, L, m, 0, tl, .v (.bool false), loop_exit ?_⟩
      rw [hv, body20]
      exact front20_end rest20
    | cons p r =>
      obtain ⟨x, y⟩ := p
      obtain ⟨n0, a, rfl, hL, hp, hr⟩ := todo_top hn hall
      obtain ⟨hsx, hsy⟩ := hsz (x, y) (by simp)
      obtain ⟨hmx, hmy1⟩ := hmy (x, y) (by simp)
      obtain ⟨rx, ry, hrx, hry, hc⟩ := next_ok (X := X) (Y := Y) (ver := ver) (L := L) (B := B) (n := n0) (tl := tl) hX hY (below0_mono (Nat.zero_le _) _ hB0) ht hes.reverse (B' := B) (fun m n l => hsn _) k1 hp hL (m := m) hm5 (by omega)
      have hnz := nextT_size (M := 3000) (by omega) hbz' (m := m) hsx hsy
      have hnm2 := nextT_may (m := m) hbm' hmx hmy1
      have hlt := nextT_lt (rs := bs.reverse) (m := m) (x := x) (y := y)
      simp only [cRun]
      generalize nextT bs.reverse m x y = w at hrx hry hc hnz hnm2 hlt ⊢
      obtain ⟨⟨k, s, n1, l⟩, ⟨k', s', n1', l'⟩, e, m'⟩ := w
      dsimp only at hrx hry hc hnz hnm2 hlt ⊢
      have fs := front20_step (K := K) (rest := rest20) hn hrx hry hc
      rw [← body20] at fs
      by_cases he : e = 0
      · have hlt := hlt he
        obtain ⟨hm1, hm2⟩ := hnm2 he
        rw [if_pos he] at fs ⊢
        have hsr : ∀ p ∈ r, size p.1 ≤ 3000 ∧ size p.2 ≤ 3000 := fun p hp => hsz p (by simp [hp])
        have hmr : ∀ p ∈ r, mayT p.1 = true ∧ mayT p.2 = true := fun p hp => hmy p (by simp [hp])
        have go : ∀ (n' : Nat) (S : List AV) (todo' : List (Tm × Tm)), After20 (tl := tl) (blk 1 (exec (callW F) K rest20 (M20 tl) (wh X Y ver L B m' n0 tl ++ [.box rx.cells, .box ry.cells]))) X Y B m' n' S → AllP S todo' → (∀ p ∈ todo', size p.1 ≤ 3000 ∧ size p.2 ≤ 3000) → (∀ p ∈ todo', mayT p.1 = true ∧ mayT p.2 = true) → n' + 3000 * m' ≤ 1000000000 →
            Out20 (loopN (exec (callW F) K c20_12) K20 (f + 1) vars (wh X Y ver L B m (n0 + 1) tl)) X Y B (cRun bs.reverse f m' todo') := by
          intro n' S todo' ha hS h2 h3 h4
          obtain ⟨vs, ver', L', tl'', g1, g2, g4, _, g5, g6⟩ := ha
          rw [loop_normal (by rw [hv, fs]; exact g1)]
          exact ih m' todo' ver' L' n' tl'' vs (by omega) (by omega) g4 g5 (by rw [g6]; exact hS) h2 h3 h4 g2
        have hn0 : n0 ≤ L.length := by omega
        simp only [cStep]
        by_cases c1 : k = 4 ∧ k' = 4 ∧ l.length = l'.length ∧ s.toList = s'.toList
        · rw [if_pos c1]
          have hz1 := hnz.1
          have hz2 := hnz.2
          simp only [size] at hz1 hz2
          have hll := sizeL_len l
          obtain ⟨ps, h1, h2⟩ := rest20_into (K := K) (X := X) (Y := Y) (ver := ver) (m := m') hX hY hn0 hrx hry hB0 (by omega) (by omega) ht c1
          refine go (n0 + l.length) _ _ h2 (h1.app hr) ?_ ?_ (by omega)
          · intro p hp
            rcases List.mem_append.1 hp with hp | hp
            · have := List.of_mem_zip (a := p.1) (b := p.2) hp
              have a1 := size_mem this.1
              have a2 := size_mem this.2
              omega
            · exact hsr p hp
          · intro p hp
            rcases List.mem_append.1 hp with hp | hp
            · have := List.of_mem_zip (a := p.1) (b := p.2) hp
              exact ⟨mayL_mem (may_sub hm1) this.1, mayL_mem (may_sub hm2) this.2⟩
            · exact hmr p hp
        · rw [if_neg c1]
          have key := rest20_head (K := K) (X := X) (Y := Y) (ver := ver) (L := L) (B := B) (m := (m' : Int)) (n := n0) hn0 hrx hry (by omega) (by omega) ht c1 (head_may hm1 hm2 c1)
          by_cases hz : headC (.mk k s n1 l) (.mk k' s' n1' l') = 0
          · rw [if_pos hz] at key
            dsimp only
            rw [if_pos hz]
            exact go n0 _ r key hr hsr hmr (by omega)
          · rw [if_neg hz] at key
            dsimp only
            rw [if_neg hz]
            obtain ⟨vs, h', g1, g2, g3⟩ := key
            exact .inr ⟨vs, h', loop_ret (by rw [hv, fs]; exact g1), g2, g3⟩
      · rw [if_neg he] at fs ⊢
        exact .inr ⟨_, _, loop_ret (by rw [hv]; exact fs), rfl, rfl⟩

def comT (bs : List (Int × Tm)) (x y : Tm) : Int × Int := cRun bs.reverse 2001 2000 [(x, y)]
theorem start20 (a b c : AV) : start c20 [a, b, c] = [a, b, c, .v undef, .v undef, .v undef, .v undef, .v undef, .v undef, .v undef, .v undef, .v undef, .v undef, .v undef, .v undef, .v undef, .v undef] := rfl
theorem compare_ok {b a a' : AV} {bs : List (Int × Tm)} {x y : Tm} (hb : IsB b bs) (hl : bs.length ≤ 90000) (hbz : ∀ p ∈ bs, size p.2 ≤ 3000) (hbm : ∀ p ∈ bs, mayT p.2 = true) (ha : IsT a x) (ha' : IsT a' y) (hx : size x ≤ 3000) (hy : size y ≤ 3000) (hmx : mayT x = true) (hmy : mayT y = true) :
    callW F 20 [b, a, a'] [] = some (.tup [.v (.int .i64 (comT bs x y).1), .v (.int .i64 (comT bs x y).2)], []) := by
  have hX := ha.bel
  have hY := ha'.bel
  have cl' : b.cl = some [b] := by cases hb <;> rfl
  cases ha with
  | mk k s n c l hc =>
  cases ha' with
  | mk k2 s2 n2 c2 l2 hc2 =>
  have sn : ∀ h : List AO, (AV.agg [.v (.int .i64 k), .v (.string s), .v (.int .i64 n), c, .v (.int .i64 k2), .v (.string s2), .v (.int .i64 n2), c2]).snap1 h = some (.agg [.v (.int .i64 k), .v (.string s), .v (.int .i64 n), c, .v (.int .i64 k2), .v (.string s2), .v (.int .i64 n2), c2]) := by
    intro h
    cases hc <;> cases hc2 <;> rfl
  have brs : ∀ h : List AO, br1 h 8 (some (AV.agg [.v (.int .i64 k), .v (.string s), .v (.int .i64 n), c, .v (.int .i64 k2), .v (.string s2), .v (.int .i64 n2), c2])) = some (.own 8 h.length 0 0 1, h ++ [.row 8 0 [.agg [.v (.int .i64 k), .v (.string s), .v (.int .i64 n), c, .v (.int .i64 k2), .v (.string s2), .v (.int .i64 n2), c2]] 0]) := fun h => br_some rfl rfl
  simp only [AV.cells] at hX hY
  have key := com_loop (K := 2001) hX hY hb (by omega) hbz hbm 2001 2000 [(.mk k s n l, .mk k2 s2 n2 l2)] 0 [.agg [.v (.int .i64 k), .v (.string s), .v (.int .i64 n), c, .v (.int .i64 k2), .v (.string s2), .v (.int .i64 n2), c2]] 1 [] L20 (by omega) (by omega) rfl (by simp) (.cons _ _ _ _ (.mk _ _ _ _ _ _ _ _ _ _ (.mk _ _ _ _ _ hc) (.mk _ _ _ _ _ hc2)) .nil) (by intro p hp; simp only [List.mem_singleton] at hp; subst hp; exact ⟨hx, hy⟩) (by intro p hp; simp only [List.mem_singleton] at hp; subst hp; exact ⟨hmx, hmy⟩) (by omega) rfl
  change Out20 (loopN (exec (callW F) 2001 c20_12) K20 2001 L20 [.box [.v (.int .i64 k), .v (.string s), .v (.int .i64 n), c], .box [.v (.int .i64 k2), .v (.string s2), .v (.int .i64 n2), c2], .row 8 0 [.agg [.v (.int .i64 k), .v (.string s), .v (.int .i64 n), c, .v (.int .i64 k2), .v (.string s2), .v (.int .i64 n2), c2]] 0, .box [b, .v (.int .i64 2000), .own 8 2 0 0 1]]) _ _ _ (comT bs (.mk k s n l) (.mk k2 s2 n2 l2)) at key
  have pre : ∀ rest : CC, exec (callW F) 2001 (.seq (.region [] [] c20_0) (.seq (.region [] [] c20_1) (.seq (.block 0 (.loop K20 [] c20_12)) rest))) (start c20 [b, .agg [.v (.int .i64 k), .v (.string s), .v (.int .i64 n), c], .agg [.v (.int .i64 k2), .v (.string s2), .v (.int .i64 n2), c2]]) [] = thn (callW F) 2001 rest (blk 0 (loopN (exec (callW F) 2001 c20_12) K20 2001 L20 [.box [.v (.int .i64 k), .v (.string s), .v (.int .i64 n), c], .box [.v (.int .i64 k2), .v (.string s2), .v (.int .i64 n2), c2], .row 8 0 [.agg [.v (.int .i64 k), .v (.string s), .v (.int .i64 n), c, .v (.int .i64 k2), .v (.string s2), .v (.int .i64 n2), c2]] 0, .box [b, .v (.int .i64 2000), .own 8 2 0 0 1]])) := by
    intro rest
    simp only [start20, c20_0, c20_1, sn, brs, cl', e_brow1, e_slice, e_bslice1, e_bslice2, bs1, bs2, e_build, bdH_some, bd_nil, bd_cons, bd1, cl_agg, cl_int, toL, List.map_cons, List.map_nil, putAt, List.set_cons_zero, List.set_cons_succ, and_self, Nat.le_refl, evStore, app_get, app_set, g_agg, run_nil, run_cons, stp_plain, stp_guard, put_some, pass_eq, pick_tt, pick_ff, pick_tf, pick_ft, pick_u, reg_some, thn_normal, thn_exit, thn_ret, cnd_t, cnd_f, blk_normal, blk_ret, blk_exit, x_seq, x_region, x_cond, x_block, x_loop, x_ret, x_exit, x_skip, e_mov, e_pick, pk_t, pk_f, withH_some, e_box, bx_some, e_load, e_store, stH_some, e_nil, e_bin, e_eqv, eqH_f, eqH_t, e_un, e_fa, e_ia, ia_eq, nat_eq, natV_nat, e_len, lnH_some, e_extract, ex_0, ex_1, e_call0, e_call1, e_call2, e_call3, pc0_eq, pc1_some, pc2_some, pc3_some, fin_some, g_var0, g_vars, g_loc0, g_locs, g_int, g_bool, g_str, g_sl, s_none, s_zero, s_succ, cl_nil, cl_str, cl_bool, cl_slc, cl_own, evFa, evNil, evLoad, asEl, evBin, intBin, strBin, evUn, len_nil, len_slc, len_str, clr, List.length_nil, List.length_cons, List.getElem?_cons_zero, List.getElem?_cons_succ, Nat.reduceAdd, Nat.zero_add, Nat.add_zero, Nat.reduceLeDiff, Nat.reduceSub, ↓reduceIte, List.drop_succ_cons, List.drop_zero, List.take_succ_cons, List.take_zero, Bool.false_eq_true, List.nil_append, List.cons_append, Bool.not_true, Bool.not_false, cond_true, cond_false, bne, lv_ret, lv_normal, res1, res2, lv2_some, res_var, res_cell, lvf_v, lvf_slc, res1c, lvo1_some, e_mm, mm_max, mm_min]
    rw [loop_cong (v2 := L20) (by rfl)]
  generalize loopN (exec (callW F) 2001 c20_12) K20 2001 L20 [.box [.v (.int .i64 k), .v (.string s), .v (.int .i64 n), c], .box [.v (.int .i64 k2), .v (.string s2), .v (.int .i64 n2), c2], .row 8 0 [.agg [.v (.int .i64 k), .v (.string s), .v (.int .i64 n), c, .v (.int .i64 k2), .v (.string s2), .v (.int .i64 n2), c2]] 0, .box [b, .v (.int .i64 2000), .own 8 2 0 0 1]] = r at key pre
  generalize comT bs (.mk k s n l) (.mk k2 s2 n2 l2) = u at key ⊢
  obtain ⟨q, e⟩ := u
  have hres : c20.res = [.var 5, .var 6] := rfl
  refine callW_pure (c := c20) rfl rfl 2001 ?_
  have pre := pre (.seq (.region [] [] c20_13) .ret)
  refine (congrArg (lv c20.res) pre).trans ?_
  rcases key with ⟨h0, ver', L', m', n', tl', x, g1⟩ | ⟨vs, h', g1, g2, g3⟩
  · cases h0
    rw [g1, blk_exit, thn_normal, hres]
    have lt : ∀ (h : List AO) (a b : Int), lvf h (.tup [.v (.int .i64 a), .v (.int .i64 b)]) = some (.tup [.v (.int .i64 a), .v (.int .i64 b)], []) := fun _ _ _ => rfl
    simp only [c20_13, lt, e_bslice1, e_bslice2, bs1, bs2, e_build, bdH_some, bd_nil, bd_cons, bd1, cl_agg, cl_int, toL, List.map_cons, List.map_nil, putAt, List.set_cons_zero, List.set_cons_succ, and_self, Nat.le_refl, app_get, app_set, g_agg, run_nil, run_cons, stp_plain, stp_guard, put_some, pass_eq, pick_tt, pick_ff, pick_tf, pick_ft, pick_u, reg_some, thn_normal, thn_exit, thn_ret, cnd_t, cnd_f, blk_normal, blk_ret, blk_exit, x_seq, x_region, x_cond, x_block, x_loop, x_ret, x_exit, x_skip, e_mov, e_pick, pk_t, pk_f, withH_some, e_box, e_load, e_store, stH_some, e_nil, e_bin, e_eqv, eqH_f, eqH_t, e_un, e_fa, e_ia, ia_eq, nat_eq, natV_nat, e_len, lnH_some, e_extract, ex_0, ex_1, e_call0, e_call1, e_call2, e_call3, pc0_eq, pc1_some, pc2_some, pc3_some, fin_some, g_var0, g_vars, g_loc0, g_locs, g_int, g_bool, g_str, g_sl, s_none, s_zero, s_succ, cl_nil, cl_str, cl_bool, cl_slc, cl_own, evFa, evNil, asEl, evBin, intBin, strBin, evUn, len_nil, len_slc, len_str, clr, List.length_nil, List.length_cons, List.getElem?_cons_zero, List.getElem?_cons_succ, Nat.reduceAdd, Nat.zero_add, Nat.add_zero, Nat.reduceLeDiff, Nat.reduceSub, ↓reduceIte, List.drop_succ_cons, List.drop_zero, List.take_succ_cons, List.take_zero, Bool.false_eq_true, List.nil_append, List.cons_append, Bool.not_true, Bool.not_false, cond_true, cond_false, bne, lv_ret, lv_normal, res1, res2, lv2_some, res_var, res_cell, lvf_v, lvf_slc, res1c, lvo1_some, e_mm, mm_max, mm_min]
  · rw [g1, blk_ret, thn_ret, hres, lv_ret, res2, res_var, res_var, lv2_some, g2, g3]
    rfl
end
end Go.AE.YtpgoibncgekflaaDoor
end

/-! The document's order, as far as the heads of two terms that may be go. -/
section
set_option linter.unusedVariables false
set_option linter.unusedSimpArgs false
namespace Go.AE.YtpgoibncgekflaaDoor
open Go Go.AE Go.Proofs.YtpgoibncgekflaaDoor

theorem cmp64 (a b : Int) : callW F 64 [.v (.int .i64 a), .v (.int .i64 b)] [] = some (.v (.int .i64 (cmp3 a b)), []) := by
  refine callW_pure (c := c64) rfl rfl 0 ?_
  unfold cmp3
  cases h1 : decide (a < b) with
  | true =>
    have g1 : a < b := by simpa using h1
    rw [if_pos g1]
    simp only [c64, start, List.replicate, c64_0, c64_1, c64_2, h1, e_bslice1, e_bslice2, bs1, bs2, e_build, bdH_some, bd_nil, bd_cons, bd1, cl_agg, cl_int, toL, List.map_cons, List.map_nil, putAt, List.set_cons_zero, List.set_cons_succ, and_self, Nat.le_refl, evStore, app_get, app_set, g_agg, run_nil, run_cons, stp_plain, stp_guard, put_some, pass_eq, pick_tt, pick_ff, pick_tf, pick_ft, pick_u, reg_some, thn_normal, thn_exit, thn_ret, cnd_t, cnd_f, blk_normal, blk_ret, blk_exit, x_seq, x_region, x_cond, x_block, x_loop, x_ret, x_exit, x_skip, e_mov, e_pick, pk_t, pk_f, withH_some, e_box, bx_some, e_load, e_store, stH_some, e_nil, e_bin, e_eqv, eqH_f, eqH_t, e_un, e_fa, e_ia, ia_eq, nat_eq, natV_nat, e_len, lnH_some, e_extract, ex_0, ex_1, e_call0, e_call1, e_call2, e_call3, pc0_eq, pc1_some, pc2_some, pc3_some, fin_some, g_var0, g_vars, g_loc0, g_locs, g_int, g_bool, g_str, g_sl, s_none, s_zero, s_succ, cl_nil, cl_str, cl_bool, cl_slc, cl_own, evFa, evNil, evLoad, asEl, evBin, intBin, strBin, evUn, len_nil, len_slc, len_str, clr, List.length_nil, List.length_cons, List.getElem?_cons_zero, List.getElem?_cons_succ, Nat.reduceAdd, Nat.zero_add, Nat.add_zero, Nat.reduceLeDiff, Nat.reduceSub, ↓reduceIte, List.drop_succ_cons, List.drop_zero, List.take_succ_cons, List.take_zero, Bool.false_eq_true, List.nil_append, List.cons_append, Bool.not_true, Bool.not_false, cond_true, cond_false, bne, lv_ret, lv_normal, res1, res2, lv2_some, res_var, res_cell, lvf_v, lvf_slc, res1c, lvo1_some, e_mm, mm_max, mm_min]
  | false =>
  have g1 : ¬ a < b := by simpa using h1
  rw [if_neg g1]
  cases h2 : decide (a > b) with
  | true =>
    have g2 : a > b := by simpa using h2
    rw [if_pos g2]
    simp only [c64, start, List.replicate, c64_0, c64_1, c64_3, c64_4, h1, h2, e_bslice1, e_bslice2, bs1, bs2, e_build, bdH_some, bd_nil, bd_cons, bd1, cl_agg, cl_int, toL, List.map_cons, List.map_nil, putAt, List.set_cons_zero, List.set_cons_succ, and_self, Nat.le_refl, evStore, app_get, app_set, g_agg, run_nil, run_cons, stp_plain, stp_guard, put_some, pass_eq, pick_tt, pick_ff, pick_tf, pick_ft, pick_u, reg_some, thn_normal, thn_exit, thn_ret, cnd_t, cnd_f, blk_normal, blk_ret, blk_exit, x_seq, x_region, x_cond, x_block, x_loop, x_ret, x_exit, x_skip, e_mov, e_pick, pk_t, pk_f, withH_some, e_box, bx_some, e_load, e_store, stH_some, e_nil, e_bin, e_eqv, eqH_f, eqH_t, e_un, e_fa, e_ia, ia_eq, nat_eq, natV_nat, e_len, lnH_some, e_extract, ex_0, ex_1, e_call0, e_call1, e_call2, e_call3, pc0_eq, pc1_some, pc2_some, pc3_some, fin_some, g_var0, g_vars, g_loc0, g_locs, g_int, g_bool, g_str, g_sl, s_none, s_zero, s_succ, cl_nil, cl_str, cl_bool, cl_slc, cl_own, evFa, evNil, evLoad, asEl, evBin, intBin, strBin, evUn, len_nil, len_slc, len_str, clr, List.length_nil, List.length_cons, List.getElem?_cons_zero, List.getElem?_cons_succ, Nat.reduceAdd, Nat.zero_add, Nat.add_zero, Nat.reduceLeDiff, Nat.reduceSub, ↓reduceIte, List.drop_succ_cons, List.drop_zero, List.take_succ_cons, List.take_zero, Bool.false_eq_true, List.nil_append, List.cons_append, Bool.not_true, Bool.not_false, cond_true, cond_false, bne, lv_ret, lv_normal, res1, res2, lv2_some, res_var, res_cell, lvf_v, lvf_slc, res1c, lvo1_some, e_mm, mm_max, mm_min]
  | false =>
    have g2 : ¬ a > b := by simpa using h2
    rw [if_neg g2]
    simp only [c64, start, List.replicate, c64_0, c64_1, c64_3, c64_5, h1, h2, e_bslice1, e_bslice2, bs1, bs2, e_build, bdH_some, bd_nil, bd_cons, bd1, cl_agg, cl_int, toL, List.map_cons, List.map_nil, putAt, List.set_cons_zero, List.set_cons_succ, and_self, Nat.le_refl, evStore, app_get, app_set, g_agg, run_nil, run_cons, stp_plain, stp_guard, put_some, pass_eq, pick_tt, pick_ff, pick_tf, pick_ft, pick_u, reg_some, thn_normal, thn_exit, thn_ret, cnd_t, cnd_f, blk_normal, blk_ret, blk_exit, x_seq, x_region, x_cond, x_block, x_loop, x_ret, x_exit, x_skip, e_mov, e_pick, pk_t, pk_f, withH_some, e_box, bx_some, e_load, e_store, stH_some, e_nil, e_bin, e_eqv, eqH_f, eqH_t, e_un, e_fa, e_ia, ia_eq, nat_eq, natV_nat, e_len, lnH_some, e_extract, ex_0, ex_1, e_call0, e_call1, e_call2, e_call3, pc0_eq, pc1_some, pc2_some, pc3_some, fin_some, g_var0, g_vars, g_loc0, g_locs, g_int, g_bool, g_str, g_sl, s_none, s_zero, s_succ, cl_nil, cl_str, cl_bool, cl_slc, cl_own, evFa, evNil, evLoad, asEl, evBin, intBin, strBin, evUn, len_nil, len_slc, len_str, clr, List.length_nil, List.length_cons, List.getElem?_cons_zero, List.getElem?_cons_succ, Nat.reduceAdd, Nat.zero_add, Nat.add_zero, Nat.reduceLeDiff, Nat.reduceSub, ↓reduceIte, List.drop_succ_cons, List.drop_zero, List.take_succ_cons, List.take_zero, Bool.false_eq_true, List.nil_append, List.cons_append, Bool.not_true, Bool.not_false, cond_true, cond_false, bne, lv_ret, lv_normal, res1, res2, lv2_some, res_var, res_cell, lvf_v, lvf_slc, res1c, lvo1_some, e_mm, mm_max, mm_min]
def rankK (k : Int) : Int := if k = 1 then 0 else if k = 3 then 1 else if k = 2 then 2 else 3
theorem rank65 (k : Int) : callW F 65 [.v (.int .i64 k)] [] = some (.v (.int .i64 (rankK k)), []) := by
  refine callW_pure (c := c65) rfl rfl 0 ?_
  unfold rankK
  cases h1 : (k == 1) with
  | true => have g1 : k = 1 := by simpa using h1
            rw [if_pos g1]; simp only [c65, start, List.replicate, c65_0, c65_1, c65_2, c65_3, h1, e_bslice1, e_bslice2, bs1, bs2, e_build, bdH_some, bd_nil, bd_cons, bd1, cl_agg, cl_int, toL, List.map_cons, List.map_nil, putAt, List.set_cons_zero, List.set_cons_succ, and_self, Nat.le_refl, evStore, app_get, app_set, g_agg, run_nil, run_cons, stp_plain, stp_guard, put_some, pass_eq, pick_tt, pick_ff, pick_tf, pick_ft, pick_u, reg_some, thn_normal, thn_exit, thn_ret, cnd_t, cnd_f, blk_normal, blk_ret, blk_exit, x_seq, x_region, x_cond, x_block, x_loop, x_ret, x_exit, x_skip, e_mov, e_pick, pk_t, pk_f, withH_some, e_box, bx_some, e_load, e_store, stH_some, e_nil, e_bin, e_eqv, eqH_f, eqH_t, e_un, e_fa, e_ia, ia_eq, nat_eq, natV_nat, e_len, lnH_some, e_extract, ex_0, ex_1, e_call0, e_call1, e_call2, e_call3, pc0_eq, pc1_some, pc2_some, pc3_some, fin_some, g_var0, g_vars, g_loc0, g_locs, g_int, g_bool, g_str, g_sl, s_none, s_zero, s_succ, cl_nil, cl_str, cl_bool, cl_slc, cl_own, evFa, evNil, evLoad, asEl, evBin, intBin, strBin, evUn, len_nil, len_slc, len_str, clr, List.length_nil, List.length_cons, List.getElem?_cons_zero, List.getElem?_cons_succ, Nat.reduceAdd, Nat.zero_add, Nat.add_zero, Nat.reduceLeDiff, Nat.reduceSub, ↓reduceIte, List.drop_succ_cons, List.drop_zero, List.take_succ_cons, List.take_zero, Bool.false_eq_true, List.nil_append, List.cons_append, Bool.not_true, Bool.not_false, cond_true, cond_false, bne, lv_ret, lv_normal, res1, res2, lv2_some, res_var, res_cell, lvf_v, lvf_slc, res1c, lvo1_some, e_mm, mm_max, mm_min]
  | false =>
  have g1 : ¬ k = 1 := by simpa using h1
  rw [if_neg g1]
  cases h2 : (k == 3) with
  | true => have g1 : k = 3 := by simpa using h2
            rw [if_pos g1]; simp only [c65, start, List.replicate, c65_0, c65_1, c65_2, c65_4, c65_5, h1, h2, e_bslice1, e_bslice2, bs1, bs2, e_build, bdH_some, bd_nil, bd_cons, bd1, cl_agg, cl_int, toL, List.map_cons, List.map_nil, putAt, List.set_cons_zero, List.set_cons_succ, and_self, Nat.le_refl, evStore, app_get, app_set, g_agg, run_nil, run_cons, stp_plain, stp_guard, put_some, pass_eq, pick_tt, pick_ff, pick_tf, pick_ft, pick_u, reg_some, thn_normal, thn_exit, thn_ret, cnd_t, cnd_f, blk_normal, blk_ret, blk_exit, x_seq, x_region, x_cond, x_block, x_loop, x_ret, x_exit, x_skip, e_mov, e_pick, pk_t, pk_f, withH_some, e_box, bx_some, e_load, e_store, stH_some, e_nil, e_bin, e_eqv, eqH_f, eqH_t, e_un, e_fa, e_ia, ia_eq, nat_eq, natV_nat, e_len, lnH_some, e_extract, ex_0, ex_1, e_call0, e_call1, e_call2, e_call3, pc0_eq, pc1_some, pc2_some, pc3_some, fin_some, g_var0, g_vars, g_loc0, g_locs, g_int, g_bool, g_str, g_sl, s_none, s_zero, s_succ, cl_nil, cl_str, cl_bool, cl_slc, cl_own, evFa, evNil, evLoad, asEl, evBin, intBin, strBin, evUn, len_nil, len_slc, len_str, clr, List.length_nil, List.length_cons, List.getElem?_cons_zero, List.getElem?_cons_succ, Nat.reduceAdd, Nat.zero_add, Nat.add_zero, Nat.reduceLeDiff, Nat.reduceSub, ↓reduceIte, List.drop_succ_cons, List.drop_zero, List.take_succ_cons, List.take_zero, Bool.false_eq_true, List.nil_append, List.cons_append, Bool.not_true, Bool.not_false, cond_true, cond_false, bne, lv_ret, lv_normal, res1, res2, lv2_some, res_var, res_cell, lvf_v, lvf_slc, res1c, lvo1_some, e_mm, mm_max, mm_min]
  | false =>
  have g1 : ¬ k = 3 := by simpa using h2
  rw [if_neg g1]
  cases h3 : (k == 2) with
  | true => have g1 : k = 2 := by simpa using h3
            rw [if_pos g1]; simp only [c65, start, List.replicate, c65_0, c65_1, c65_2, c65_4, c65_6, c65_7, h1, h2, h3, e_bslice1, e_bslice2, bs1, bs2, e_build, bdH_some, bd_nil, bd_cons, bd1, cl_agg, cl_int, toL, List.map_cons, List.map_nil, putAt, List.set_cons_zero, List.set_cons_succ, and_self, Nat.le_refl, evStore, app_get, app_set, g_agg, run_nil, run_cons, stp_plain, stp_guard, put_some, pass_eq, pick_tt, pick_ff, pick_tf, pick_ft, pick_u, reg_some, thn_normal, thn_exit, thn_ret, cnd_t, cnd_f, blk_normal, blk_ret, blk_exit, x_seq, x_region, x_cond, x_block, x_loop, x_ret, x_exit, x_skip, e_mov, e_pick, pk_t, pk_f, withH_some, e_box, bx_some, e_load, e_store, stH_some, e_nil, e_bin, e_eqv, eqH_f, eqH_t, e_un, e_fa, e_ia, ia_eq, nat_eq, natV_nat, e_len, lnH_some, e_extract, ex_0, ex_1, e_call0, e_call1, e_call2, e_call3, pc0_eq, pc1_some, pc2_some, pc3_some, fin_some, g_var0, g_vars, g_loc0, g_locs, g_int, g_bool, g_str, g_sl, s_none, s_zero, s_succ, cl_nil, cl_str, cl_bool, cl_slc, cl_own, evFa, evNil, evLoad, asEl, evBin, intBin, strBin, evUn, len_nil, len_slc, len_str, clr, List.length_nil, List.length_cons, List.getElem?_cons_zero, List.getElem?_cons_succ, Nat.reduceAdd, Nat.zero_add, Nat.add_zero, Nat.reduceLeDiff, Nat.reduceSub, ↓reduceIte, List.drop_succ_cons, List.drop_zero, List.take_succ_cons, List.take_zero, Bool.false_eq_true, List.nil_append, List.cons_append, Bool.not_true, Bool.not_false, cond_true, cond_false, bne, lv_ret, lv_normal, res1, res2, lv2_some, res_var, res_cell, lvf_v, lvf_slc, res1c, lvo1_some, e_mm, mm_max, mm_min]
  | false =>
    have g1 : ¬ k = 2 := by simpa using h3
    rw [if_neg g1]; simp only [c65, start, List.replicate, c65_0, c65_1, c65_2, c65_4, c65_6, c65_8, h1, h2, h3, e_bslice1, e_bslice2, bs1, bs2, e_build, bdH_some, bd_nil, bd_cons, bd1, cl_agg, cl_int, toL, List.map_cons, List.map_nil, putAt, List.set_cons_zero, List.set_cons_succ, and_self, Nat.le_refl, evStore, app_get, app_set, g_agg, run_nil, run_cons, stp_plain, stp_guard, put_some, pass_eq, pick_tt, pick_ff, pick_tf, pick_ft, pick_u, reg_some, thn_normal, thn_exit, thn_ret, cnd_t, cnd_f, blk_normal, blk_ret, blk_exit, x_seq, x_region, x_cond, x_block, x_loop, x_ret, x_exit, x_skip, e_mov, e_pick, pk_t, pk_f, withH_some, e_box, bx_some, e_load, e_store, stH_some, e_nil, e_bin, e_eqv, eqH_f, eqH_t, e_un, e_fa, e_ia, ia_eq, nat_eq, natV_nat, e_len, lnH_some, e_extract, ex_0, ex_1, e_call0, e_call1, e_call2, e_call3, pc0_eq, pc1_some, pc2_some, pc3_some, fin_some, g_var0, g_vars, g_loc0, g_locs, g_int, g_bool, g_str, g_sl, s_none, s_zero, s_succ, cl_nil, cl_str, cl_bool, cl_slc, cl_own, evFa, evNil, evLoad, asEl, evBin, intBin, strBin, evUn, len_nil, len_slc, len_str, clr, List.length_nil, List.length_cons, List.getElem?_cons_zero, List.getElem?_cons_succ, Nat.reduceAdd, Nat.zero_add, Nat.add_zero, Nat.reduceLeDiff, Nat.reduceSub, ↓reduceIte, List.drop_succ_cons, List.drop_zero, List.take_succ_cons, List.take_zero, Bool.false_eq_true, List.nil_append, List.cons_append, Bool.not_true, Bool.not_false, cond_true, cond_false, bne, lv_ret, lv_normal, res1, res2, lv2_some, res_var, res_cell, lvf_v, lvf_slc, res1c, lvo1_some, e_mm, mm_max, mm_min]
theorem bytes_cb : ∀ x y : List UInt8, Lib.compareBytes x y = if Op.bytesLess x y = true then -1 else if (!(Op.bytesLess x y || x == y)) = true then 1 else 0
  | [], [] => rfl
  | [], b :: y => by simp [Lib.compareBytes, Op.bytesLess]
  | a :: x, [] => by simp [Lib.compareBytes, Op.bytesLess]
  | a :: x, b :: y => by
    have ih := bytes_cb x y
    simp only [Lib.compareBytes, Op.bytesLess]
    by_cases h1 : a < b
    · simp [h1]
    · by_cases h2 : b < a
      · have hne : ¬ a = b := by
          intro h; subst h
          have h2 : a.toNat < a.toNat := h2
          omega
        simp [h1, h2, hne]
      · have heq : a = b := by
          have h1 : ¬ a.toNat < b.toNat := h1
          have h2 : ¬ b.toNat < a.toNat := h2
          exact UInt8.toNat_inj.1 (by omega)
        subst heq
        simp only [h1, if_false, decide_false, Bool.false_or, beq_self_eq_true, Bool.true_and]
        rw [ih]
        simp
theorem text66 (a b : ByteArray) : callW F 66 [.v (.string a), .v (.string b)] [] = some (.v (.int .i64 (Lib.compareBytes a.data.toList b.data.toList)), []) := by
  have e : Lib.compareBytes a.data.toList b.data.toList = if Op.bytesLess a.toList b.toList = true then -1 else if (!(Op.bytesLess a.toList b.toList || a.toList == b.toList)) = true then 1 else 0 := by
    rw [bytes_cb, ByteArray.toList_eq, ByteArray.toList_eq]
  rw [e]
  refine callW_pure (c := c66) rfl rfl 0 ?_
  cases h1 : Op.bytesLess a.toList b.toList with
  | true => simp only [c66, start, List.replicate, c66_0, c66_1, c66_2, h1, e_bslice1, e_bslice2, bs1, bs2, e_build, bdH_some, bd_nil, bd_cons, bd1, cl_agg, cl_int, toL, List.map_cons, List.map_nil, putAt, List.set_cons_zero, List.set_cons_succ, and_self, Nat.le_refl, evStore, app_get, app_set, g_agg, run_nil, run_cons, stp_plain, stp_guard, put_some, pass_eq, pick_tt, pick_ff, pick_tf, pick_ft, pick_u, reg_some, thn_normal, thn_exit, thn_ret, cnd_t, cnd_f, blk_normal, blk_ret, blk_exit, x_seq, x_region, x_cond, x_block, x_loop, x_ret, x_exit, x_skip, e_mov, e_pick, pk_t, pk_f, withH_some, e_box, bx_some, e_load, e_store, stH_some, e_nil, e_bin, e_eqv, eqH_f, eqH_t, e_un, e_fa, e_ia, ia_eq, nat_eq, natV_nat, e_len, lnH_some, e_extract, ex_0, ex_1, e_call0, e_call1, e_call2, e_call3, pc0_eq, pc1_some, pc2_some, pc3_some, fin_some, g_var0, g_vars, g_loc0, g_locs, g_int, g_bool, g_str, g_sl, s_none, s_zero, s_succ, cl_nil, cl_str, cl_bool, cl_slc, cl_own, evFa, evNil, evLoad, asEl, evBin, intBin, strBin, evUn, len_nil, len_slc, len_str, clr, List.length_nil, List.length_cons, List.getElem?_cons_zero, List.getElem?_cons_succ, Nat.reduceAdd, Nat.zero_add, Nat.add_zero, Nat.reduceLeDiff, Nat.reduceSub, ↓reduceIte, List.drop_succ_cons, List.drop_zero, List.take_succ_cons, List.take_zero, Bool.false_eq_true, List.nil_append, List.cons_append, Bool.not_true, Bool.not_false, cond_true, cond_false, bne, lv_ret, lv_normal, res1, res2, lv2_some, res_var, res_cell, lvf_v, lvf_slc, res1c, lvo1_some, e_mm, mm_max, mm_min]
  | false =>
    cases h2 : (a.toList == b.toList) with
    | true => simp only [c66, start, List.replicate, c66_0, c66_1, c66_3, c66_5, h1, h2, Bool.or_true, Bool.false_or, e_bslice1, e_bslice2, bs1, bs2, e_build, bdH_some, bd_nil, bd_cons, bd1, cl_agg, cl_int, toL, List.map_cons, List.map_nil, putAt, List.set_cons_zero, List.set_cons_succ, and_self, Nat.le_refl, evStore, app_get, app_set, g_agg, run_nil, run_cons, stp_plain, stp_guard, put_some, pass_eq, pick_tt, pick_ff, pick_tf, pick_ft, pick_u, reg_some, thn_normal, thn_exit, thn_ret, cnd_t, cnd_f, blk_normal, blk_ret, blk_exit, x_seq, x_region, x_cond, x_block, x_loop, x_ret, x_exit, x_skip, e_mov, e_pick, pk_t, pk_f, withH_some, e_box, bx_some, e_load, e_store, stH_some, e_nil, e_bin, e_eqv, eqH_f, eqH_t, e_un, e_fa, e_ia, ia_eq, nat_eq, natV_nat, e_len, lnH_some, e_extract, ex_0, ex_1, e_call0, e_call1, e_call2, e_call3, pc0_eq, pc1_some, pc2_some, pc3_some, fin_some, g_var0, g_vars, g_loc0, g_locs, g_int, g_bool, g_str, g_sl, s_none, s_zero, s_succ, cl_nil, cl_str, cl_bool, cl_slc, cl_own, evFa, evNil, evLoad, asEl, evBin, intBin, strBin, evUn, len_nil, len_slc, len_str, clr, List.length_nil, List.length_cons, List.getElem?_cons_zero, List.getElem?_cons_succ, Nat.reduceAdd, Nat.zero_add, Nat.add_zero, Nat.reduceLeDiff, Nat.reduceSub, ↓reduceIte, List.drop_succ_cons, List.drop_zero, List.take_succ_cons, List.take_zero, Bool.false_eq_true, List.nil_append, List.cons_append, Bool.not_true, Bool.not_false, cond_true, cond_false, bne, lv_ret, lv_normal, res1, res2, lv2_some, res_var, res_cell, lvf_v, lvf_slc, res1c, lvo1_some, e_mm, mm_max, mm_min]
    | false => simp only [c66, start, List.replicate, c66_0, c66_1, c66_3, c66_4, h1, h2, Bool.or_false, Bool.false_or, e_bslice1, e_bslice2, bs1, bs2, e_build, bdH_some, bd_nil, bd_cons, bd1, cl_agg, cl_int, toL, List.map_cons, List.map_nil, putAt, List.set_cons_zero, List.set_cons_succ, and_self, Nat.le_refl, evStore, app_get, app_set, g_agg, run_nil, run_cons, stp_plain, stp_guard, put_some, pass_eq, pick_tt, pick_ff, pick_tf, pick_ft, pick_u, reg_some, thn_normal, thn_exit, thn_ret, cnd_t, cnd_f, blk_normal, blk_ret, blk_exit, x_seq, x_region, x_cond, x_block, x_loop, x_ret, x_exit, x_skip, e_mov, e_pick, pk_t, pk_f, withH_some, e_box, bx_some, e_load, e_store, stH_some, e_nil, e_bin, e_eqv, eqH_f, eqH_t, e_un, e_fa, e_ia, ia_eq, nat_eq, natV_nat, e_len, lnH_some, e_extract, ex_0, ex_1, e_call0, e_call1, e_call2, e_call3, pc0_eq, pc1_some, pc2_some, pc3_some, fin_some, g_var0, g_vars, g_loc0, g_locs, g_int, g_bool, g_str, g_sl, s_none, s_zero, s_succ, cl_nil, cl_str, cl_bool, cl_slc, cl_own, evFa, evNil, evLoad, asEl, evBin, intBin, strBin, evUn, len_nil, len_slc, len_str, clr, List.length_nil, List.length_cons, List.getElem?_cons_zero, List.getElem?_cons_succ, Nat.reduceAdd, Nat.zero_add, Nat.add_zero, Nat.reduceLeDiff, Nat.reduceSub, ↓reduceIte, List.drop_succ_cons, List.drop_zero, List.take_succ_cons, List.take_zero, Bool.false_eq_true, List.nil_append, List.cons_append, Bool.not_true, Bool.not_false, cond_true, cond_false, bne, lv_ret, lv_normal, res1, res2, lv2_some, res_var, res_cell, lvf_v, lvf_slc, res1c, lvo1_some, e_mm, mm_max, mm_min]
theorem rank_ord {k k' : Int} (h : k = 1 ∨ k = 2 ∨ k = 3 ∨ k = 4) (h' : k' = 1 ∨ k' = 2 ∨ k' = 3 ∨ k' = 4) : cmp3 (rankK k) (rankK k') = cmp3 (ordK k) (ordK k') := by
  rcases h with rfl | rfl | rfl | rfl <;> rcases h' with rfl | rfl | rfl | rfl <;> decide
theorem fnz0 {l : List Int} : firstNZ (0 :: l) = firstNZ l := by simp [firstNZ]
theorem fnz1 {a : Int} : firstNZ [a] = a := by
  simp only [firstNZ]; split <;> simp_all
theorem fnz_ne {a : Int} {l : List Int} (h : a ≠ 0) : firstNZ (a :: l) = a := by simp [firstNZ, h]
theorem may_name {k n : Int} {s : ByteArray} {l : List Tm} (h : mayT (.mk k s n l) = true) (hk : k = 1 ∨ k = 3) : s.toList = (⟨#[]⟩ : ByteArray).toList := by
  rcases hk with rfl | rfl
  · simp only [mayT] at h
    simp at h
    simpa using h.1.2
  · simp only [mayT] at h
    simp at h
    simpa using h.1
theorem may_zero2 {k n : Int} {s : ByteArray} {l : List Tm} (h : mayT (.mk k s n l) = true) (hk : k = 2 ∨ k = 4) : n = 0 := by
  rcases hk with rfl | rfl
  · simp only [mayT] at h
    simp at h
    exact h.1.1
  · simp only [mayT] at h
    simp at h
    exact h.1.1.1.1
theorem cb_of {s s' : ByteArray} (h : s.toList = s'.toList) : Lib.compareBytes s.data.toList s'.data.toList = 0 := by
  rw [ByteArray.toList_eq, ByteArray.toList_eq] at h
  rw [h, cb_self]
/-- the document's order of two terms that may be, whose heads tell -/
theorem ref55 {a b : AV} {k k' n n' : Int} {s s' : ByteArray} {l l' : List Tm} (ha : IsT a (.mk k s n l)) (hb : IsT b (.mk k' s' n' l')) (hx : mayT (.mk k s n l) = true) (hy : mayT (.mk k' s' n' l') = true) (h3 : ¬ (k = 4 ∧ k' = 4 ∧ l.length = l'.length ∧ s.toList = s'.toList)) :
    callW F 55 [a, b] [] = some (.v (.int .i64 (headC (.mk k s n l) (.mk k' s' n' l'))), []) := by
  obtain ⟨a1, a2⟩ := may_args hx
  obtain ⟨b1, b2⟩ := may_args hy
  have hname := @may_name k n s l hx
  have hname' := @may_name k' n' s' l' hy
  have hzero := @may_zero2 k n s l hx
  have hzero' := @may_zero2 k' n' s' l' hy
  cases ha with
  | mk k s n c l hc =>
  cases hb with
  | mk k' s' n' c' l' hc' =>
  obtain ⟨es, hs, hes, hm⟩ := hc.sl
  obtain ⟨es', hs', hes', hm'⟩ := hc'.sl
  have l1 := hs.len
  have l2 := hs'.len
  rw [hes.length] at l1
  rw [hes'.length] at l2
  have r1 := rank65 k
  have r2 := rank65 k'
  have p1 := cmp64 (rankK k) (rankK k')
  have p2 := cmp64 n n'
  have p3 := text66 s s'
  have p4 := cmp64 (l.length : Int) (l'.length : Int)
  refine callW_pure (c := c55) rfl rfl 0 ?_
  cases hk : (k == k') with
  | false =>
    have hne : k ≠ k' := by simpa using hk
    have hord : cmp3 (ordK k) (ordK k') ≠ 0 := fun h => hne (ordK_inj a1 b1 (cmp3_zero h))
    have eh : headC (.mk k s n l) (.mk k' s' n' l') = cmp3 (rankK k) (rankK k') := by
      rw [rank_ord a1 b1]; simp only [headC]; exact fnz_ne hord
    rw [eh]
    simp only [c55, start, List.replicate, c55_0, c55_1, c55_2, hk, r1, r2, p1, snapv, e_bslice1, e_bslice2, bs1, bs2, e_build, bdH_some, bd_nil, bd_cons, bd1, cl_agg, cl_int, toL, List.map_cons, List.map_nil, putAt, List.set_cons_zero, List.set_cons_succ, and_self, Nat.le_refl, evStore, app_get, app_set, g_agg, run_nil, run_cons, stp_plain, stp_guard, put_some, pass_eq, pick_tt, pick_ff, pick_tf, pick_ft, pick_u, reg_some, thn_normal, thn_exit, thn_ret, cnd_t, cnd_f, blk_normal, blk_ret, blk_exit, x_seq, x_region, x_cond, x_block, x_loop, x_ret, x_exit, x_skip, e_mov, e_pick, pk_t, pk_f, withH_some, e_box, bx_some, e_load, e_store, stH_some, e_nil, e_bin, e_eqv, eqH_f, eqH_t, e_un, e_fa, e_ia, ia_eq, nat_eq, natV_nat, e_len, lnH_some, e_extract, ex_0, ex_1, e_call0, e_call1, e_call2, e_call3, pc0_eq, pc1_some, pc2_some, pc3_some, fin_some, g_var0, g_vars, g_loc0, g_locs, g_int, g_bool, g_str, g_sl, s_none, s_zero, s_succ, cl_nil, cl_str, cl_bool, cl_slc, cl_own, evFa, evNil, evLoad, asEl, evBin, intBin, strBin, evUn, len_nil, len_slc, len_str, clr, List.length_nil, List.length_cons, List.getElem?_cons_zero, List.getElem?_cons_succ, Nat.reduceAdd, Nat.zero_add, Nat.add_zero, Nat.reduceLeDiff, Nat.reduceSub, ↓reduceIte, List.drop_succ_cons, List.drop_zero, List.take_succ_cons, List.take_zero, Bool.false_eq_true, List.nil_append, List.cons_append, Bool.not_true, Bool.not_false, cond_true, cond_false, bne, lv_ret, lv_normal, res1, res2, lv2_some, res_var, res_cell, lvf_v, lvf_slc, res1c, lvo1_some, e_mm, mm_max, mm_min]
  | true =>
    have heq : k = k' := by simpa using hk
    subst heq
    have o0 : cmp3 (ordK k) (ordK k) = 0 := cmp3_self _
    rcases a1 with hk1 | hk1 | hk1 | hk1
    · have h1 : (k == 1) = true := by simpa using hk1
      have ll : l = [] := a2.resolve_right (by omega)
      have ll' : l' = [] := b2.resolve_right (by omega)
      have e1 := hname (.inl hk1)
      have e2 := hname' (.inl hk1)
      have eh : headC (.mk k s n l) (.mk k s' n' l') = cmp3 n n' := by
        simp only [headC, o0, ll, ll', List.length_nil, cmp3_self, cb_of (e1.trans e2.symm), fnz0, fnz1]
      rw [eh]
      simp only [c55, start, List.replicate, c55_0, c55_1, c55_3, c55_4, c55_6, hk, h1, p2, snapv, e_bslice1, e_bslice2, bs1, bs2, e_build, bdH_some, bd_nil, bd_cons, bd1, cl_agg, cl_int, toL, List.map_cons, List.map_nil, putAt, List.set_cons_zero, List.set_cons_succ, and_self, Nat.le_refl, evStore, app_get, app_set, g_agg, run_nil, run_cons, stp_plain, stp_guard, put_some, pass_eq, pick_tt, pick_ff, pick_tf, pick_ft, pick_u, reg_some, thn_normal, thn_exit, thn_ret, cnd_t, cnd_f, blk_normal, blk_ret, blk_exit, x_seq, x_region, x_cond, x_block, x_loop, x_ret, x_exit, x_skip, e_mov, e_pick, pk_t, pk_f, withH_some, e_box, bx_some, e_load, e_store, stH_some, e_nil, e_bin, e_eqv, eqH_f, eqH_t, e_un, e_fa, e_ia, ia_eq, nat_eq, natV_nat, e_len, lnH_some, e_extract, ex_0, ex_1, e_call0, e_call1, e_call2, e_call3, pc0_eq, pc1_some, pc2_some, pc3_some, fin_some, g_var0, g_vars, g_loc0, g_locs, g_int, g_bool, g_str, g_sl, s_none, s_zero, s_succ, cl_nil, cl_str, cl_bool, cl_slc, cl_own, evFa, evNil, evLoad, asEl, evBin, intBin, strBin, evUn, len_nil, len_slc, len_str, clr, List.length_nil, List.length_cons, List.getElem?_cons_zero, List.getElem?_cons_succ, Nat.reduceAdd, Nat.zero_add, Nat.add_zero, Nat.reduceLeDiff, Nat.reduceSub, ↓reduceIte, List.drop_succ_cons, List.drop_zero, List.take_succ_cons, List.take_zero, Bool.false_eq_true, List.nil_append, List.cons_append, Bool.not_true, Bool.not_false, cond_true, cond_false, bne, lv_ret, lv_normal, res1, res2, lv2_some, res_var, res_cell, lvf_v, lvf_slc, res1c, lvo1_some, e_mm, mm_max, mm_min]
    · have h1 : (k == 1) = false := by rw [beq_eq_false_iff_ne]; omega
      have h2 : (k == 3) = false := by rw [beq_eq_false_iff_ne]; omega
      have h4 : (k == 2) = true := by simpa using hk1
      have ll : l = [] := a2.resolve_right (by omega)
      have ll' : l' = [] := b2.resolve_right (by omega)
      have z1 := hzero (.inl hk1)
      have z2 := hzero' (.inl hk1)
      have eh : headC (.mk k s n l) (.mk k s' n' l') = Lib.compareBytes s.data.toList s'.data.toList := by
        simp only [headC, o0, ll, ll', List.length_nil, cmp3_self, z1, z2, fnz0]
        simp only [firstNZ, if_true]
        split <;> simp_all
      rw [eh]
      simp only [c55, start, List.replicate, c55_0, c55_1, c55_3, c55_4, c55_5, c55_7, c55_8, hk, h1, h2, h4, p3, snaps, e_bslice1, e_bslice2, bs1, bs2, e_build, bdH_some, bd_nil, bd_cons, bd1, cl_agg, cl_int, toL, List.map_cons, List.map_nil, putAt, List.set_cons_zero, List.set_cons_succ, and_self, Nat.le_refl, evStore, app_get, app_set, g_agg, run_nil, run_cons, stp_plain, stp_guard, put_some, pass_eq, pick_tt, pick_ff, pick_tf, pick_ft, pick_u, reg_some, thn_normal, thn_exit, thn_ret, cnd_t, cnd_f, blk_normal, blk_ret, blk_exit, x_seq, x_region, x_cond, x_block, x_loop, x_ret, x_exit, x_skip, e_mov, e_pick, pk_t, pk_f, withH_some, e_box, bx_some, e_load, e_store, stH_some, e_nil, e_bin, e_eqv, eqH_f, eqH_t, e_un, e_fa, e_ia, ia_eq, nat_eq, natV_nat, e_len, lnH_some, e_extract, ex_0, ex_1, e_call0, e_call1, e_call2, e_call3, pc0_eq, pc1_some, pc2_some, pc3_some, fin_some, g_var0, g_vars, g_loc0, g_locs, g_int, g_bool, g_str, g_sl, s_none, s_zero, s_succ, cl_nil, cl_str, cl_bool, cl_slc, cl_own, evFa, evNil, evLoad, asEl, evBin, intBin, strBin, evUn, len_nil, len_slc, len_str, clr, List.length_nil, List.length_cons, List.getElem?_cons_zero, List.getElem?_cons_succ, Nat.reduceAdd, Nat.zero_add, Nat.add_zero, Nat.reduceLeDiff, Nat.reduceSub, ↓reduceIte, List.drop_succ_cons, List.drop_zero, List.take_succ_cons, List.take_zero, Bool.false_eq_true, List.nil_append, List.cons_append, Bool.not_true, Bool.not_false, cond_true, cond_false, bne, lv_ret, lv_normal, res1, res2, lv2_some, res_var, res_cell, lvf_v, lvf_slc, res1c, lvo1_some, e_mm, mm_max, mm_min]
    · have h1 : (k == 1) = false := by rw [beq_eq_false_iff_ne]; omega
      have h2 : (k == 3) = true := by simpa using hk1
      have ll : l = [] := a2.resolve_right (by omega)
      have ll' : l' = [] := b2.resolve_right (by omega)
      have e1 := hname (.inr hk1)
      have e2 := hname' (.inr hk1)
      have eh : headC (.mk k s n l) (.mk k s' n' l') = cmp3 n n' := by
        simp only [headC, o0, ll, ll', List.length_nil, cmp3_self, cb_of (e1.trans e2.symm), fnz0, fnz1]
      rw [eh]
      simp only [c55, start, List.replicate, c55_0, c55_1, c55_3, c55_4, c55_5, c55_6, hk, h1, h2, p2, snapv, e_bslice1, e_bslice2, bs1, bs2, e_build, bdH_some, bd_nil, bd_cons, bd1, cl_agg, cl_int, toL, List.map_cons, List.map_nil, putAt, List.set_cons_zero, List.set_cons_succ, and_self, Nat.le_refl, evStore, app_get, app_set, g_agg, run_nil, run_cons, stp_plain, stp_guard, put_some, pass_eq, pick_tt, pick_ff, pick_tf, pick_ft, pick_u, reg_some, thn_normal, thn_exit, thn_ret, cnd_t, cnd_f, blk_normal, blk_ret, blk_exit, x_seq, x_region, x_cond, x_block, x_loop, x_ret, x_exit, x_skip, e_mov, e_pick, pk_t, pk_f, withH_some, e_box, bx_some, e_load, e_store, stH_some, e_nil, e_bin, e_eqv, eqH_f, eqH_t, e_un, e_fa, e_ia, ia_eq, nat_eq, natV_nat, e_len, lnH_some, e_extract, ex_0, ex_1, e_call0, e_call1, e_call2, e_call3, pc0_eq, pc1_some, pc2_some, pc3_some, fin_some, g_var0, g_vars, g_loc0, g_locs, g_int, g_bool, g_str, g_sl, s_none, s_zero, s_succ, cl_nil, cl_str, cl_bool, cl_slc, cl_own, evFa, evNil, evLoad, asEl, evBin, intBin, strBin, evUn, len_nil, len_slc, len_str, clr, List.length_nil, List.length_cons, List.getElem?_cons_zero, List.getElem?_cons_succ, Nat.reduceAdd, Nat.zero_add, Nat.add_zero, Nat.reduceLeDiff, Nat.reduceSub, ↓reduceIte, List.drop_succ_cons, List.drop_zero, List.take_succ_cons, List.take_zero, Bool.false_eq_true, List.nil_append, List.cons_append, Bool.not_true, Bool.not_false, cond_true, cond_false, bne, lv_ret, lv_normal, res1, res2, lv2_some, res_var, res_cell, lvf_v, lvf_slc, res1c, lvo1_some, e_mm, mm_max, mm_min]
    · have h1 : (k == 1) = false := by rw [beq_eq_false_iff_ne]; omega
      have h2 : (k == 3) = false := by rw [beq_eq_false_iff_ne]; omega
      have h4 : (k == 2) = false := by rw [beq_eq_false_iff_ne]; omega
      have z1 := hzero (.inr hk1)
      have z2 := hzero' (.inr hk1)
      cases h5 : ((l.length : Int) == (l'.length : Int)) with
      | false =>
        have hne : (l.length : Int) ≠ (l'.length : Int) := by simpa using h5
        have eh : headC (.mk k s n l) (.mk k s' n' l') = cmp3 (l.length : Int) (l'.length : Int) := by
          simp only [headC, o0, fnz0]
          exact fnz_ne (fun h => hne (cmp3_zero h))
        rw [eh]
        simp only [c55, start, List.replicate, c55_0, c55_1, c55_3, c55_4, c55_5, c55_7, c55_9, c55_10, hk, h1, h2, h4, h5, l1, l2, p4, snapv, e_bslice1, e_bslice2, bs1, bs2, e_build, bdH_some, bd_nil, bd_cons, bd1, cl_agg, cl_int, toL, List.map_cons, List.map_nil, putAt, List.set_cons_zero, List.set_cons_succ, and_self, Nat.le_refl, evStore, app_get, app_set, g_agg, run_nil, run_cons, stp_plain, stp_guard, put_some, pass_eq, pick_tt, pick_ff, pick_tf, pick_ft, pick_u, reg_some, thn_normal, thn_exit, thn_ret, cnd_t, cnd_f, blk_normal, blk_ret, blk_exit, x_seq, x_region, x_cond, x_block, x_loop, x_ret, x_exit, x_skip, e_mov, e_pick, pk_t, pk_f, withH_some, e_box, bx_some, e_load, e_store, stH_some, e_nil, e_bin, e_eqv, eqH_f, eqH_t, e_un, e_fa, e_ia, ia_eq, nat_eq, natV_nat, e_len, lnH_some, e_extract, ex_0, ex_1, e_call0, e_call1, e_call2, e_call3, pc0_eq, pc1_some, pc2_some, pc3_some, fin_some, g_var0, g_vars, g_loc0, g_locs, g_int, g_bool, g_str, g_sl, s_none, s_zero, s_succ, cl_nil, cl_str, cl_bool, cl_slc, cl_own, evFa, evNil, evLoad, asEl, evBin, intBin, strBin, evUn, len_nil, len_slc, len_str, clr, List.length_nil, List.length_cons, List.getElem?_cons_zero, List.getElem?_cons_succ, Nat.reduceAdd, Nat.zero_add, Nat.add_zero, Nat.reduceLeDiff, Nat.reduceSub, ↓reduceIte, List.drop_succ_cons, List.drop_zero, List.take_succ_cons, List.take_zero, Bool.false_eq_true, List.nil_append, List.cons_append, Bool.not_true, Bool.not_false, cond_true, cond_false, bne, lv_ret, lv_normal, res1, res2, lv2_some, res_var, res_cell, lvf_v, lvf_slc, res1c, lvo1_some, e_mm, mm_max, mm_min]
      | true =>
        have hlen : (l.length : Int) = (l'.length : Int) := by simpa using h5
        have hcb : Lib.compareBytes s.data.toList s'.data.toList ≠ 0 := fun h => h3 ⟨hk1, hk1, by omega, by rw [bytes_inj (cb_zero h)]⟩
        have h6 : (Lib.compareBytes s.data.toList s'.data.toList == 0) = false := by simpa using hcb
        have eh : headC (.mk k s n l) (.mk k s' n' l') = Lib.compareBytes s.data.toList s'.data.toList := by
          simp only [headC, o0, fnz0, hlen, cmp3_self]
          exact fnz_ne hcb
        rw [eh]
        simp only [c55, start, List.replicate, c55_0, c55_1, c55_3, c55_4, c55_5, c55_7, c55_9, c55_11, c55_12, c55_13, hk, h1, h2, h4, h5, h6, l1, l2, p3, snaps, e_bslice1, e_bslice2, bs1, bs2, e_build, bdH_some, bd_nil, bd_cons, bd1, cl_agg, cl_int, toL, List.map_cons, List.map_nil, putAt, List.set_cons_zero, List.set_cons_succ, and_self, Nat.le_refl, evStore, app_get, app_set, g_agg, run_nil, run_cons, stp_plain, stp_guard, put_some, pass_eq, pick_tt, pick_ff, pick_tf, pick_ft, pick_u, reg_some, thn_normal, thn_exit, thn_ret, cnd_t, cnd_f, blk_normal, blk_ret, blk_exit, x_seq, x_region, x_cond, x_block, x_loop, x_ret, x_exit, x_skip, e_mov, e_pick, pk_t, pk_f, withH_some, e_box, bx_some, e_load, e_store, stH_some, e_nil, e_bin, e_eqv, eqH_f, eqH_t, e_un, e_fa, e_ia, ia_eq, nat_eq, natV_nat, e_len, lnH_some, e_extract, ex_0, ex_1, e_call0, e_call1, e_call2, e_call3, pc0_eq, pc1_some, pc2_some, pc3_some, fin_some, g_var0, g_vars, g_loc0, g_locs, g_int, g_bool, g_str, g_sl, s_none, s_zero, s_succ, cl_nil, cl_str, cl_bool, cl_slc, cl_own, evFa, evNil, evLoad, asEl, evBin, intBin, strBin, evUn, len_nil, len_slc, len_str, clr, List.length_nil, List.length_cons, List.getElem?_cons_zero, List.getElem?_cons_succ, Nat.reduceAdd, Nat.zero_add, Nat.add_zero, Nat.reduceLeDiff, Nat.reduceSub, ↓reduceIte, List.drop_succ_cons, List.drop_zero, List.take_succ_cons, List.take_zero, Bool.false_eq_true, List.nil_append, List.cons_append, Bool.not_true, Bool.not_false, cond_true, cond_false, bne, lv_ret, lv_normal, res1, res2, lv2_some, res_var, res_cell, lvf_v, lvf_slc, res1c, lvo1_some, e_mm, mm_max, mm_min]
end Go.AE.YtpgoibncgekflaaDoor
end

/-! Two terms met, by the document. -/
section
set_option linter.unusedVariables false
set_option linter.unusedSimpArgs false
namespace Go.AE.YtpgoibncgekflaaDoor
open Go Go.AE Go.Proofs.YtpgoibncgekflaaDoor

section
variable {h : List AO} {id off : Nat} {ms : List AV} {b : AV}
theorem both54 (c : Ctr h id off ms) {es : List AV} {rs : List (Int × Tm)} (hes : AllB es rs) (hbs : ∀ h : List AO, b.snap1 h = some b) (hlook : ∀ n, callW F 72 [b, .v (.int .i64 n)] [] = some (lookA n es, []))
    {m : Nat} (hm : m ≤ 2000) {a a' : AV} {x y : Tm} (ha : IsT a x) (ha' : IsT a' y) :
    ∃ (rx ry : AV) (u : Tm) (N : Int), IsT rx (nextT rs m x y).1 ∧ IsT ry u ∧ ((nextT rs m x y).2.2.1 = 0 → u = (nextT rs m x y).2.1 ∧ N = 2000 - ((nextT rs m x y).2.2.2 : Int)) ∧ callW F 54 [.ptr id off, b, a, a'] (ctr h id off ms (2000 - (m : Int))) = some (.tup [rx, ry, .v (.int .i64 (nextT rs m x y).2.2.1)], ctr h id off ms N) := by
  have hres : c54.res = [.cell 6 true 4, .cell 7 true 4, .var 8] := rfl
  have hz : (AO.box zeroC).below 0 = true := rfl
  have hl : ([.box a.cells, .box a'.cells, .box zeroC, .box zeroC] : List AO).all (AO.below 0) = true := by
    have h1 := ha.bel
    have h2 := ha'.bel
    simp only [List.all_cons, List.all_nil, h1, h2, hz, Bool.and_true]
  obtain ⟨rc, hrc, hc⟩ := meet58 (c.app0 hl) hes (b := b) (b' := b) (fun _ _ => hbs _) hlook m hm ha
  rw [ctr_app c.lt, ctr_app c.lt] at hc
  have hap : ∀ a0 a1 a2 a3 a7 a8 a9 a10 a4 : AV, apB [a0, a1, a2, a3, a4, .ptr (h.length + 1) 0, .ptr (h.length + 2) 0, a7, a8, a9, a10] (some 6, 5) = true := by
    intros
    simp [apB]
  have hle := meetT_le rs m x
  by_cases h0 : (meetT rs m x).2.1 = 0
  · have hl' : ([.box rc, .box a'.cells, .box zeroC, .box zeroC] : List AO).all (AO.below 0) = true := by
      have h1 := hrc.bel
      have h2 := ha'.bel
      simp only [AV.cells] at h1
      simp only [List.all_cons, List.all_nil, h1, h2, hz, Bool.and_true]
    obtain ⟨rd, hrd, hd⟩ := meet58 (c.app0 hl') hes (b := b) (b' := b) (fun _ _ => hbs _) hlook (meetT rs m x).2.2 (by omega) ha'
    rw [ctr_app c.lt, ctr_app c.lt] at hd
    simp only [nextT, if_pos h0]
    rw [h0, spent0] at hc
    refine ⟨.agg rc, .agg rd, _, spent (meetT rs (meetT rs m x).2.2 y).2.1 (meetT rs (meetT rs m x).2.2 y).2.2, hrc, hrd, fun h => ⟨rfl, by rw [h, spent0]⟩, callW_own (c := c54) rfl rfl 0 ?_⟩
    generalize meetT rs (meetT rs m x).2.2 y = w' at hd hrd ⊢
    generalize meetT rs m x = w at hrc hc hd
    obtain ⟨w1, w2, w3⟩ := w
    obtain ⟨v1, v2, v3⟩ := w'
    dsimp only at hrc hc hrd hd ⊢
    generalize spent v2 v3 = N at hd ⊢
    have z0 : ((0 : Int) == 0) = true := rfl
    have body : exec (callW F) 0 c54.body (start c54 [.ptr id off, b, a, a']) (ctr h id off ms (2000 - (m : Int)) ++ []) = some (.ret, [.ptr id off, b, a, a', .ptr h.length 0, .ptr (h.length + 1) 0, .ptr (h.length + 2) 0, .ptr (h.length + 3) 0, .v (.int .i64 v2), .v (.int .i64 v2), .v (.bool false)], ctr h id off ms N ++ [.box rc, .box rd, .box rc, .box rd]) := by
      cases hrc
      cases hrd
      cases ha
      cases ha'
      simp only [AV.cells, zeroC] at hc hd
      simp only [c54, start, zeroC, List.replicate, c54_0, c54_1, c54_2, c54_4, c54_5, x_region_ap, hap, apR_t, hc, hd, z0, e_callh, ex_2, q9z, AV.cells, evNil, c_ld, c_ld0, c_st, c_st0, c_bx, ldAt, stAt, preH_some, List.append_assoc, e_bslice1, e_bslice2, bs1, bs2, e_build, bdH_some, bd_nil, bd_cons, bd1, cl_agg, cl_int, toL, List.map_cons, List.map_nil, putAt, List.set_cons_zero, List.set_cons_succ, and_self, Nat.le_refl, app_get, app_set, g_agg, run_nil, run_cons, stp_plain, stp_guard, put_some, pass_eq, pick_tt, pick_ff, pick_tf, pick_ft, pick_u, reg_some, thn_normal, thn_exit, thn_ret, cnd_t, cnd_f, blk_normal, blk_ret, blk_exit, x_seq, x_region, x_cond, x_block, x_loop, x_ret, x_exit, x_skip, e_mov, e_pick, pk_t, pk_f, withH_some, e_box, e_load, e_store, stH_some, e_nil, e_bin, e_eqv, eqH_f, eqH_t, e_un, e_fa, e_ia, ia_eq, nat_eq, natV_nat, e_len, lnH_some, e_extract, ex_0, ex_1, e_call0, e_call1, e_call2, e_call3, pc0_eq, pc1_some, pc2_some, pc3_some, fin_some, g_var0, g_vars, g_loc0, g_locs, g_int, g_bool, g_str, g_sl, s_none, s_zero, s_succ, cl_nil, cl_str, cl_bool, cl_slc, cl_own, evFa, evNil, asEl, evBin, intBin, strBin, evUn, len_nil, len_slc, len_str, clr, List.length_nil, List.length_cons, List.getElem?_cons_zero, List.getElem?_cons_succ, Nat.reduceAdd, Nat.zero_add, Nat.add_zero, Nat.reduceLeDiff, Nat.reduceSub, ↓reduceIte, List.drop_succ_cons, List.drop_zero, List.take_succ_cons, List.take_zero, Bool.false_eq_true, List.nil_append, List.cons_append, Bool.not_true, Bool.not_false, cond_true, cond_false, bne, lv_ret, lv_normal, res1, res2, lv2_some, res_var, res_cell, lvf_v, lvf_slc, res1c, lvo1_some, e_mm, mm_max, mm_min]
    rw [body, ctr_len, leave_own ctr_len (c.all _), hres, own_res3 (x := .agg rc) (y := .agg rd) (z := .v (.int .i64 v2)) _ _ _]
    · exact lvo_three (hrc.frz _ _) (hrd.frz _ _) rfl
    · cases hrc; simp only [res_cell, c_ld, ldAt, e_bslice1, e_bslice2, bs1, bs2, e_build, bdH_some, bd_nil, bd_cons, bd1, cl_agg, cl_int, toL, List.map_cons, List.map_nil, putAt, List.set_cons_zero, List.set_cons_succ, and_self, Nat.le_refl, app_get, app_set, g_agg, run_nil, run_cons, stp_plain, stp_guard, put_some, pass_eq, pick_tt, pick_ff, pick_tf, pick_ft, pick_u, reg_some, thn_normal, thn_exit, thn_ret, cnd_t, cnd_f, blk_normal, blk_ret, blk_exit, x_seq, x_region, x_cond, x_block, x_loop, x_ret, x_exit, x_skip, e_mov, e_pick, pk_t, pk_f, withH_some, e_box, e_load, e_store, stH_some, e_nil, e_bin, e_eqv, eqH_f, eqH_t, e_un, e_fa, e_ia, ia_eq, nat_eq, natV_nat, e_len, lnH_some, e_extract, ex_0, ex_1, e_call0, e_call1, e_call2, e_call3, pc0_eq, pc1_some, pc2_some, pc3_some, fin_some, g_var0, g_vars, g_loc0, g_locs, g_int, g_bool, g_str, g_sl, s_none, s_zero, s_succ, cl_nil, cl_str, cl_bool, cl_slc, cl_own, evFa, evNil, asEl, evBin, intBin, strBin, evUn, len_nil, len_slc, len_str, clr, List.length_nil, List.length_cons, List.getElem?_cons_zero, List.getElem?_cons_succ, Nat.reduceAdd, Nat.zero_add, Nat.add_zero, Nat.reduceLeDiff, Nat.reduceSub, ↓reduceIte, List.drop_succ_cons, List.drop_zero, List.take_succ_cons, List.take_zero, Bool.false_eq_true, List.nil_append, List.cons_append, Bool.not_true, Bool.not_false, cond_true, cond_false, bne, lv_ret, lv_normal, res1, res2, lv2_some, res_var, res_cell, lvf_v, lvf_slc, res1c, lvo1_some, e_mm, mm_max, mm_min]
    · cases hrd; simp only [res_cell, c_ld, ldAt, e_bslice1, e_bslice2, bs1, bs2, e_build, bdH_some, bd_nil, bd_cons, bd1, cl_agg, cl_int, toL, List.map_cons, List.map_nil, putAt, List.set_cons_zero, List.set_cons_succ, and_self, Nat.le_refl, app_get, app_set, g_agg, run_nil, run_cons, stp_plain, stp_guard, put_some, pass_eq, pick_tt, pick_ff, pick_tf, pick_ft, pick_u, reg_some, thn_normal, thn_exit, thn_ret, cnd_t, cnd_f, blk_normal, blk_ret, blk_exit, x_seq, x_region, x_cond, x_block, x_loop, x_ret, x_exit, x_skip, e_mov, e_pick, pk_t, pk_f, withH_some, e_box, e_load, e_store, stH_some, e_nil, e_bin, e_eqv, eqH_f, eqH_t, e_un, e_fa, e_ia, ia_eq, nat_eq, natV_nat, e_len, lnH_some, e_extract, ex_0, ex_1, e_call0, e_call1, e_call2, e_call3, pc0_eq, pc1_some, pc2_some, pc3_some, fin_some, g_var0, g_vars, g_loc0, g_locs, g_int, g_bool, g_str, g_sl, s_none, s_zero, s_succ, cl_nil, cl_str, cl_bool, cl_slc, cl_own, evFa, evNil, asEl, evBin, intBin, strBin, evUn, len_nil, len_slc, len_str, clr, List.length_nil, List.length_cons, List.getElem?_cons_zero, List.getElem?_cons_succ, Nat.reduceAdd, Nat.zero_add, Nat.add_zero, Nat.reduceLeDiff, Nat.reduceSub, ↓reduceIte, List.drop_succ_cons, List.drop_zero, List.take_succ_cons, List.take_zero, Bool.false_eq_true, List.nil_append, List.cons_append, Bool.not_true, Bool.not_false, cond_true, cond_false, bne, lv_ret, lv_normal, res1, res2, lv2_some, res_var, res_cell, lvf_v, lvf_slc, res1c, lvo1_some, e_mm, mm_max, mm_min]
    · rfl
  · simp only [nextT, if_neg h0]
    refine ⟨.agg rc, a', y, spent (meetT rs m x).2.1 (meetT rs m x).2.2, hrc, ha', fun h => absurd h h0, callW_own (c := c54) rfl rfl 0 ?_⟩
    have z1 : ((meetT rs m x).2.1 == 0) = false := by simpa using h0
    generalize spent (meetT rs m x).2.1 (meetT rs m x).2.2 = N at hc ⊢
    generalize meetT rs m x = w at hrc hc z1 ⊢
    obtain ⟨w1, w2, w3⟩ := w
    dsimp only at hrc hc z1 ⊢
    have body : exec (callW F) 0 c54.body (start c54 [.ptr id off, b, a, a']) (ctr h id off ms (2000 - (m : Int)) ++ []) = some (.ret, [.ptr id off, b, a, a', .ptr h.length 0, .ptr (h.length + 1) 0, .ptr (h.length + 2) 0, .ptr (h.length + 3) 0, .v (.int .i64 w2), .v (.int .i64 w2), .v (.bool true)], ctr h id off ms N ++ [.box rc, .box a'.cells, .box rc, .box a'.cells]) := by
      cases hrc
      cases ha
      cases ha'
      simp only [AV.cells, zeroC] at hc
      simp only [c54, start, zeroC, List.replicate, c54_0, c54_1, c54_2, c54_3, x_region_ap, hap, apR_t, hc, z1, e_callh, ex_2, q9z, AV.cells, evNil, c_ld, c_ld0, c_st, c_st0, c_bx, ldAt, stAt, preH_some, List.append_assoc, e_bslice1, e_bslice2, bs1, bs2, e_build, bdH_some, bd_nil, bd_cons, bd1, cl_agg, cl_int, toL, List.map_cons, List.map_nil, putAt, List.set_cons_zero, List.set_cons_succ, and_self, Nat.le_refl, app_get, app_set, g_agg, run_nil, run_cons, stp_plain, stp_guard, put_some, pass_eq, pick_tt, pick_ff, pick_tf, pick_ft, pick_u, reg_some, thn_normal, thn_exit, thn_ret, cnd_t, cnd_f, blk_normal, blk_ret, blk_exit, x_seq, x_region, x_cond, x_block, x_loop, x_ret, x_exit, x_skip, e_mov, e_pick, pk_t, pk_f, withH_some, e_box, e_load, e_store, stH_some, e_nil, e_bin, e_eqv, eqH_f, eqH_t, e_un, e_fa, e_ia, ia_eq, nat_eq, natV_nat, e_len, lnH_some, e_extract, ex_0, ex_1, e_call0, e_call1, e_call2, e_call3, pc0_eq, pc1_some, pc2_some, pc3_some, fin_some, g_var0, g_vars, g_loc0, g_locs, g_int, g_bool, g_str, g_sl, s_none, s_zero, s_succ, cl_nil, cl_str, cl_bool, cl_slc, cl_own, evFa, evNil, asEl, evBin, intBin, strBin, evUn, len_nil, len_slc, len_str, clr, List.length_nil, List.length_cons, List.getElem?_cons_zero, List.getElem?_cons_succ, Nat.reduceAdd, Nat.zero_add, Nat.add_zero, Nat.reduceLeDiff, Nat.reduceSub, ↓reduceIte, List.drop_succ_cons, List.drop_zero, List.take_succ_cons, List.take_zero, Bool.false_eq_true, List.nil_append, List.cons_append, Bool.not_true, Bool.not_false, cond_true, cond_false, bne, lv_ret, lv_normal, res1, res2, lv2_some, res_var, res_cell, lvf_v, lvf_slc, res1c, lvo1_some, e_mm, mm_max, mm_min]
    rw [body, ctr_len, leave_own ctr_len (c.all _), hres, own_res3 (x := .agg rc) (y := a') (z := .v (.int .i64 w2)) _ _ _]
    · exact lvo_three (hrc.frz _ _) (ha'.frz _ _) rfl
    · cases hrc; simp only [res_cell, c_ld, ldAt, e_bslice1, e_bslice2, bs1, bs2, e_build, bdH_some, bd_nil, bd_cons, bd1, cl_agg, cl_int, toL, List.map_cons, List.map_nil, putAt, List.set_cons_zero, List.set_cons_succ, and_self, Nat.le_refl, app_get, app_set, g_agg, run_nil, run_cons, stp_plain, stp_guard, put_some, pass_eq, pick_tt, pick_ff, pick_tf, pick_ft, pick_u, reg_some, thn_normal, thn_exit, thn_ret, cnd_t, cnd_f, blk_normal, blk_ret, blk_exit, x_seq, x_region, x_cond, x_block, x_loop, x_ret, x_exit, x_skip, e_mov, e_pick, pk_t, pk_f, withH_some, e_box, e_load, e_store, stH_some, e_nil, e_bin, e_eqv, eqH_f, eqH_t, e_un, e_fa, e_ia, ia_eq, nat_eq, natV_nat, e_len, lnH_some, e_extract, ex_0, ex_1, e_call0, e_call1, e_call2, e_call3, pc0_eq, pc1_some, pc2_some, pc3_some, fin_some, g_var0, g_vars, g_loc0, g_locs, g_int, g_bool, g_str, g_sl, s_none, s_zero, s_succ, cl_nil, cl_str, cl_bool, cl_slc, cl_own, evFa, evNil, asEl, evBin, intBin, strBin, evUn, len_nil, len_slc, len_str, clr, List.length_nil, List.length_cons, List.getElem?_cons_zero, List.getElem?_cons_succ, Nat.reduceAdd, Nat.zero_add, Nat.add_zero, Nat.reduceLeDiff, Nat.reduceSub, ↓reduceIte, List.drop_succ_cons, List.drop_zero, List.take_succ_cons, List.take_zero, Bool.false_eq_true, List.nil_append, List.cons_append, Bool.not_true, Bool.not_false, cond_true, cond_false, bne, lv_ret, lv_normal, res1, res2, lv2_some, res_var, res_cell, lvf_v, lvf_slc, res1c, lvo1_some, e_mm, mm_max, mm_min]
    · cases ha'; simp only [res_cell, c_ld, ldAt, AV.cells, e_bslice1, e_bslice2, bs1, bs2, e_build, bdH_some, bd_nil, bd_cons, bd1, cl_agg, cl_int, toL, List.map_cons, List.map_nil, putAt, List.set_cons_zero, List.set_cons_succ, and_self, Nat.le_refl, app_get, app_set, g_agg, run_nil, run_cons, stp_plain, stp_guard, put_some, pass_eq, pick_tt, pick_ff, pick_tf, pick_ft, pick_u, reg_some, thn_normal, thn_exit, thn_ret, cnd_t, cnd_f, blk_normal, blk_ret, blk_exit, x_seq, x_region, x_cond, x_block, x_loop, x_ret, x_exit, x_skip, e_mov, e_pick, pk_t, pk_f, withH_some, e_box, e_load, e_store, stH_some, e_nil, e_bin, e_eqv, eqH_f, eqH_t, e_un, e_fa, e_ia, ia_eq, nat_eq, natV_nat, e_len, lnH_some, e_extract, ex_0, ex_1, e_call0, e_call1, e_call2, e_call3, pc0_eq, pc1_some, pc2_some, pc3_some, fin_some, g_var0, g_vars, g_loc0, g_locs, g_int, g_bool, g_str, g_sl, s_none, s_zero, s_succ, cl_nil, cl_str, cl_bool, cl_slc, cl_own, evFa, evNil, asEl, evBin, intBin, strBin, evUn, len_nil, len_slc, len_str, clr, List.length_nil, List.length_cons, List.getElem?_cons_zero, List.getElem?_cons_succ, Nat.reduceAdd, Nat.zero_add, Nat.add_zero, Nat.reduceLeDiff, Nat.reduceSub, ↓reduceIte, List.drop_succ_cons, List.drop_zero, List.take_succ_cons, List.take_zero, Bool.false_eq_true, List.nil_append, List.cons_append, Bool.not_true, Bool.not_false, cond_true, cond_false, bne, lv_ret, lv_normal, res1, res2, lv2_some, res_var, res_cell, lvf_v, lvf_slc, res1c, lvo1_some, e_mm, mm_max, mm_min]
    · rfl
end

end Go.AE.YtpgoibncgekflaaDoor
end

/-! Compare of the document: by recursion, the same as by a list of what waits. -/
section
set_option linter.unusedVariables false
set_option linter.unusedSimpArgs false
namespace Go.AE.YtpgoibncgekflaaDoor
open Go Go.AE Go.Proofs.YtpgoibncgekflaaDoor

def kL (g : Nat → Tm → Tm → Int × Int × Nat) : Nat → List (Tm × Tm) → Int × Int × Nat
  | m, [] => (0, 0, m)
  | m, p :: r => if (g m p.1 p.2).2.1 = 0 ∧ (g m p.1 p.2).1 = 0 then kL g (g m p.1 p.2).2.2 r else g m p.1 p.2
/-- the order, the error, the steps that are left -/
def kRec (rs : List (Int × Tm)) : Nat → Nat → Tm → Tm → Int × Int × Nat
  | 0, m, _, _ => (0, 140, m)
  | f + 1, m, x, y =>
    if (nextT rs m x y).2.2.1 = 0 then
      match cStep (nextT rs m x y).1 (nextT rs m x y).2.1 with
      | .head c => (c, 0, (nextT rs m x y).2.2.2)
      | .into l => kL (kRec rs f) (nextT rs m x y).2.2.2 l
    else (0, (nextT rs m x y).2.2.1, (nextT rs m x y).2.2.2)
theorem kL_le {g : Nat → Tm → Tm → Int × Int × Nat} (hg : ∀ m x y, (g m x y).2.1 = 0 → (g m x y).2.2 ≤ m) : ∀ (l : List (Tm × Tm)) (m : Nat), (kL g m l).2.1 = 0 → (kL g m l).2.2 ≤ m := by
  intro l
  induction l with
  | nil => intro m _; exact Nat.le_refl _
  | cons p l ih =>
    intro m h
    simp only [kL] at h ⊢
    split at h
    · rename_i hc
      rw [if_pos hc]
      exact Nat.le_trans (ih _ h) (hg _ _ _ hc.1)
    · rename_i hc
      rw [if_neg hc]
      exact hg _ _ _ h
theorem kRec_le (rs : List (Int × Tm)) : ∀ (f m : Nat) (x y : Tm), (kRec rs f m x y).2.1 = 0 → (kRec rs f m x y).2.2 ≤ m := by
  intro f
  induction f with
  | zero => intro m x y _; exact Nat.le_refl _
  | succ f ih =>
    intro m x y h
    simp only [kRec] at h ⊢
    split at h
    · rename_i he
      have hlt := nextT_lt he
      rw [if_pos he]
      cases hc : cStep (nextT rs m x y).1 (nextT rs m x y).2.1 with
      | head c => dsimp only; omega
      | into l =>
        rw [hc] at h
        dsimp only at h ⊢
        have := kL_le (fun m x y => ih m x y) l _ h
        omega
    · rename_i he
      exact absurd h he
theorem cRun_fuel (rs : List (Int × Tm)) : ∀ (f f' m : Nat) (todo : List (Tm × Tm)), m < f → m < f' → cRun rs f m todo = cRun rs f' m todo := by
  intro f
  induction f with
  | zero => intro f' m todo h; omega
  | succ f ih =>
    intro f' m todo h h'
    obtain ⟨g, rfl⟩ : ∃ g, f' = g + 1 := ⟨f' - 1, by omega⟩
    cases todo with
    | nil => rfl
    | cons p r =>
      obtain ⟨x, y⟩ := p
      simp only [cRun]
      by_cases he : (nextT rs m x y).2.2.1 = 0
      · have hlt := nextT_lt he
        rw [if_pos he, if_pos he]
        cases hc : cStep (nextT rs m x y).1 (nextT rs m x y).2.1 with
        | head c =>
          dsimp only
          rw [ih g _ r (by omega) (by omega)]
        | into l =>
          dsimp only
          exact ih g _ _ (by omega) (by omega)
      · rw [if_neg he, if_neg he]
theorem cRun_kL {rs : List (Int × Tm)} {g : Nat → Tm → Tm → Int × Int × Nat} {f : Nat} (hle : ∀ m x y, (g m x y).2.1 = 0 → (g m x y).2.2 ≤ m)
    (hg : ∀ (m : Nat) (x y : Tm) (r : List (Tm × Tm)) (F : Nat), m < f → m < F → cRun rs F m ((x, y) :: r) = if (g m x y).2.1 = 0 ∧ (g m x y).1 = 0 then cRun rs F (g m x y).2.2 r else ((g m x y).1, (g m x y).2.1)) :
    ∀ (l r : List (Tm × Tm)) (m F : Nat), m < f → m < F → cRun rs F m (l ++ r) = if (kL g m l).2.1 = 0 ∧ (kL g m l).1 = 0 then cRun rs F (kL g m l).2.2 r else ((kL g m l).1, (kL g m l).2.1) := by
  intro l
  induction l with
  | nil => intro r m F h1 h2; simp [kL]
  | cons p l ih =>
    intro r m F h1 h2
    obtain ⟨x, y⟩ := p
    rw [List.cons_append, hg m x y (l ++ r) F h1 h2]
    simp only [kL]
    by_cases hc : (g m x y).2.1 = 0 ∧ (g m x y).1 = 0
    · rw [if_pos hc, if_pos hc]
      have := hle m x y hc.1
      exact ih r _ F (by omega) (by omega)
    · rw [if_neg hc, if_neg hc, if_neg hc]
theorem cRun_kRec (rs : List (Int × Tm)) : ∀ (f m : Nat) (x y : Tm) (r : List (Tm × Tm)) (F : Nat), m < f → m < F → cRun rs F m ((x, y) :: r) = if (kRec rs f m x y).2.1 = 0 ∧ (kRec rs f m x y).1 = 0 then cRun rs F (kRec rs f m x y).2.2 r else ((kRec rs f m x y).1, (kRec rs f m x y).2.1) := by
  intro f
  induction f with
  | zero => intro m x y r F h; omega
  | succ f ih =>
    intro m x y r F h1 h2
    obtain ⟨G, rfl⟩ : ∃ g, F = g + 1 := ⟨F - 1, by omega⟩
    rw [cRun]
    by_cases he : (nextT rs m x y).2.2.1 = 0
    · have hlt := nextT_lt he
      rw [if_pos he]
      cases hc : cStep (nextT rs m x y).1 (nextT rs m x y).2.1 with
      | head c =>
        have hw : kRec rs (f + 1) m x y = (c, 0, (nextT rs m x y).2.2.2) := by simp only [kRec, if_pos he, hc]
        rw [hw]
        dsimp only
        by_cases hz : c = 0
        · rw [if_pos hz, if_pos ⟨rfl, hz⟩]
          exact cRun_fuel rs _ _ _ _ (by omega) (by omega)
        · rw [if_neg hz, if_neg (fun h => hz h.2)]
      | into l =>
        have hw : kRec rs (f + 1) m x y = kL (kRec rs f) (nextT rs m x y).2.2.2 l := by simp only [kRec, if_pos he, hc]
        rw [hw]
        dsimp only
        have key := cRun_kL (kRec_le rs f) ih l r (nextT rs m x y).2.2.2 G (by omega) (by omega)
        rw [key]
        by_cases hw : (kL (kRec rs f) (nextT rs m x y).2.2.2 l).2.1 = 0 ∧ (kL (kRec rs f) (nextT rs m x y).2.2.2 l).1 = 0
        · rw [if_pos hw, if_pos hw]
          have := kL_le (kRec_le rs f) l _ hw.1
          exact cRun_fuel rs _ _ _ _ (by omega) (by omega)
        · rw [if_neg hw, if_neg hw]
    · have hw : kRec rs (f + 1) m x y = (0, (nextT rs m x y).2.2.1, (nextT rs m x y).2.2.2) := by simp only [kRec, if_neg he]
      rw [if_neg he, hw, if_neg (fun h => he h.1)]
theorem kRec_com (bs : List (Int × Tm)) (x y : Tm) : comT bs x y = ((kRec bs.reverse 2001 2000 x y).1, (kRec bs.reverse 2001 2000 x y).2.1) := by
  have := cRun_kRec bs.reverse 2001 2000 x y [] 2001 (by omega) (by omega)
  unfold comT
  rw [this]
  by_cases hw : (kRec bs.reverse 2001 2000 x y).2.1 = 0 ∧ (kRec bs.reverse 2001 2000 x y).1 = 0
  · rw [if_pos hw, hw.1, hw.2]; rfl
  · rw [if_neg hw]
end Go.AE.YtpgoibncgekflaaDoor
end

/-! Compare of the document walked. -/
section
set_option linter.unusedVariables false
set_option linter.unusedSimpArgs false
namespace Go.AE.YtpgoibncgekflaaDoor
open Go Go.AE Go.Proofs.YtpgoibncgekflaaDoor

/-- what f41 is to be shown to do -/
def C41 (rs : List (Int × Tm)) (b : AV) (f : Nat) : Prop := ∀ (h : List AO) (id off : Nat) (ms : List AV) (m : Nat) (x y : Tm) (a a' : AV), Ctr h id off ms → m ≤ 2000 → m < f → size x ≤ 3000 → size y ≤ 3000 → mayT x = true → mayT y = true → IsT a x → IsT a' y →
  ∃ N : Int, callW F 41 [.ptr id off, b, a, a'] (ctr h id off ms (2000 - (m : Int))) = some (.tup [.v (.int .i64 (kRec rs f m x y).1), .v (.int .i64 (kRec rs f m x y).2.1)], ctr h id off ms N) ∧ ((kRec rs f m x y).2.1 = 0 ∧ (kRec rs f m x y).1 = 0 → N = 2000 - ((kRec rs f m x y).2.2 : Int))
def KK41 : List Bool := [true, true, false, false, true, true, false, false, false, false, false, false, false, false, true, true, false, false]
def L41 (id off B : Nat) (b : AV) (n i : Int) : List AV := [.ptr id off, b, .junk, .junk, .ptr B 0, .ptr (B + 1) 0, .junk, .junk, .junk, .junk, .junk, .junk, .junk, .junk, .v (.int .i64 n), .v (.int .i64 i), .junk, .junk]
section
variable {h : List AO} {id off : Nat} {ms : List AV} {b : AV}
theorem k41_loop {K : Nat} {c c' k1 k2 k3 k1' k2' k3' : AV} {es es' : List AV} {rs : List (Int × Tm)} {f : Nat} (hs : Sl 4 c es) (hs' : Sl 4 c' es') (hlen : es.length = es'.length) (hm : es.length ≤ 100000) (hR : C41 rs b f) (C : Ctr h id off ms)
    (hb : ([.box [k1, k2, k3, c], .box [k1', k2', k3', c']] : List AO).all (AO.below 0) = true) :
    ∀ (l l' : List Tm) (i m : Nat) (vars : List AV), i + l.length = es.length → l.length = l'.length → m ≤ 2000 → m < f → All2 (es.drop i) l → All2 (es'.drop i) l' → (∀ t ∈ l, size t ≤ 3000 ∧ mayT t = true) → (∀ t ∈ l', size t ≤ 3000 ∧ mayT t = true) →
      clr KK41 vars = L41 id off h.length b es.length i →
      if (kL (kRec rs f) m (l.zip l')).2.1 = 0 ∧ (kL (kRec rs f) m (l.zip l')).1 = 0 then loopN (exec (callW F) K c41_13) KK41 (l.length + 1) vars (ctr h id off ms (2000 - (m : Int)) ++ [.box [k1, k2, k3, c], .box [k1', k2', k3', c']]) = some (.exit 0, [.ptr id off, b, .junk, .junk, .ptr h.length 0, .ptr (h.length + 1) 0, .junk, .junk, .junk, .junk, .junk, .junk, .junk, .junk, .v (.int .i64 es.length), .v (.int .i64 es.length), .v (.bool false), .junk], ctr h id off ms (2000 - ((kL (kRec rs f) m (l.zip l')).2.2 : Int)) ++ [.box [k1, k2, k3, c], .box [k1', k2', k3', c']])
      else ∃ (vs : List AV) (N : Int), loopN (exec (callW F) K c41_13) KK41 (l.length + 1) vars (ctr h id off ms (2000 - (m : Int)) ++ [.box [k1, k2, k3, c], .box [k1', k2', k3', c']]) = some (.ret, vs, ctr h id off ms N ++ [.box [k1, k2, k3, c], .box [k1', k2', k3', c']]) ∧ getO vs [] (.var 6) = .v (.int .i64 (kL (kRec rs f) m (l.zip l')).1) ∧ getO vs [] (.var 7) = .v (.int .i64 (kL (kRec rs f) m (l.zip l')).2.1) := by
  intro l
  induction l with
  | nil =>
    intro l' i m vars hi hll hm5 hmf _ _ _ _ hv
    have hil : i = es.length := by simpa using hi
    subst hil
    have hlt : decide ((es.length : Int) < (es.length : Int)) = false := by simp
    simp only [List.zip_nil_left, kL, and_self, if_true]
    refine loop_exit ?_
    rw [hv]
    simp only [L41, c41_13, c41_7, hlt, e_bslice1, e_bslice2, bs1, bs2, e_build, bdH_some, bd_nil, bd_cons, bd1, cl_agg, cl_int, toL, List.map_cons, List.map_nil, putAt, List.set_cons_zero, List.set_cons_succ, and_self, Nat.le_refl, app_get, app_set, g_agg, run_nil, run_cons, stp_plain, stp_guard, put_some, pass_eq, pick_tt, pick_ff, pick_tf, pick_ft, pick_u, reg_some, thn_normal, thn_exit, thn_ret, cnd_t, cnd_f, blk_normal, blk_ret, blk_exit, x_seq, x_region, x_cond, x_block, x_loop, x_ret, x_exit, x_skip, e_mov, e_pick, pk_t, pk_f, withH_some, e_box, e_load, e_store, stH_some, e_nil, e_bin, e_eqv, eqH_f, eqH_t, e_un, e_fa, e_ia, ia_eq, nat_eq, natV_nat, e_len, lnH_some, e_extract, ex_0, ex_1, e_call0, e_call1, e_call2, e_call3, pc0_eq, pc1_some, pc2_some, pc3_some, fin_some, g_var0, g_vars, g_loc0, g_locs, g_int, g_bool, g_str, g_sl, s_none, s_zero, s_succ, cl_nil, cl_str, cl_bool, cl_slc, cl_own, evFa, evNil, asEl, evBin, intBin, strBin, evUn, len_nil, len_slc, len_str, clr, List.length_nil, List.length_cons, List.getElem?_cons_zero, List.getElem?_cons_succ, Nat.reduceAdd, Nat.zero_add, Nat.add_zero, Nat.reduceLeDiff, Nat.reduceSub, ↓reduceIte, List.drop_succ_cons, List.drop_zero, List.take_succ_cons, List.take_zero, Bool.false_eq_true, List.nil_append, List.cons_append, Bool.not_true, Bool.not_false, cond_true, cond_false, bne, lv_ret, lv_normal, res1, res2, lv2_some, res_var, res_cell, lvf_v, lvf_slc, res1c, lvo1_some, e_mm, mm_max, mm_min]
  | cons t l ih =>
    intro l' i m vars hi hll hm5 hmf hes hes' hl1 hl2 hv
    cases l' with
    | nil => simp at hll
    | cons t' l' =>
    have hil : i < es.length := by simp at hi; omega
    have hil' : i < es'.length := by omega
    have he : es[i]? = some (es[i]'hil) := List.getElem?_eq_getElem _
    have he' : es'[i]? = some (es'[i]'hil') := List.getElem?_eq_getElem _
    have hdr : es.drop i = es[i] :: es.drop (i + 1) := List.drop_eq_getElem_cons hil
    have hdr' : es'.drop i = es'[i] :: es'.drop (i + 1) := List.drop_eq_getElem_cons hil'
    rw [hdr] at hes
    rw [hdr'] at hes'
    generalize es[i]'hil = e at hes he
    generalize es'[i]'hil' = e' at hes' he'
    cases hes with
    | cons _ _ _ _ hT hsr =>
    cases hes' with
    | cons _ _ _ _ hT' hsr' =>
    have hlt : (decide ((i : Int) < (es.length : Int))) = true := by simp; omega
    have q1 := hs.ia he
    have q2 := hs'.ia he'
    have q3 : ∀ h : List AO, evLoad h true 4 (.ip e.cells) = some e := fun h => hT.load
    have q4 : ∀ h : List AO, evLoad h true 4 (.ip e'.cells) = some e' := fun h => hT'.load
    have hw : IntKind.i64.wrap ((i : Int) + 1) = ((i + 1 : Nat) : Int) := by rw [wrap_ok (by omega) (by omega)]; omega
    obtain ⟨z1, z2⟩ := hl1 t (by simp)
    obtain ⟨z3, z4⟩ := hl2 t' (by simp)
    obtain ⟨N, hc, hN⟩ := hR (h ++ [.box [k1, k2, k3, c], .box [k1', k2', k3', c']]) id off ms m t t' e e' (C.app0 hb) hm5 hmf z1 z3 z2 z4 hT hT'
    simp only [ctr_app C.lt] at hc
    have hle := kRec_le rs f m t t'
    simp only [List.zip_cons_cons, kL]
    generalize hk : kRec rs f m t t' = w at hc hN hle ⊢
    obtain ⟨c0, e0, m2⟩ := w
    dsimp only at hc hN hle ⊢
    by_cases hz : e0 = 0 ∧ c0 = 0
    · obtain ⟨rfl, rfl⟩ := hz
      have hN := hN ⟨rfl, rfl⟩
      subst hN
      have hle := hle rfl
      simp only [and_self, if_true]
      have b0 : ((0 : Int) == 0) = true := rfl
      have st : exec (callW F) K c41_13 (L41 id off h.length b es.length i) (ctr h id off ms (2000 - (m : Int)) ++ [.box [k1, k2, k3, c], .box [k1', k2', k3', c']]) = some (.normal, [.ptr id off, b, .junk, .junk, .ptr h.length 0, .ptr (h.length + 1) 0, .junk, .junk, .junk, .v (.int .i64 i), .v (.int .i64 0), .v (.int .i64 0), .junk, .junk, .v (.int .i64 es.length), .v (.int .i64 ((i + 1 : Nat) : Int)), .v (.bool true), .v (.bool false)], ctr h id off ms (2000 - (m2 : Int)) ++ [.box [k1, k2, k3, c], .box [k1', k2', k3', c']]) := by
        simp only [L41, c41_13, c41_7, c41_8, c41_9, c41_10, c41_12, hlt, hw, q1, q2, q3, q4, hc, b0, e_callh, pick_und, c_ld, c_ld0, ldAt, e_bslice1, e_bslice2, bs1, bs2, e_build, bdH_some, bd_nil, bd_cons, bd1, cl_agg, cl_int, toL, List.map_cons, List.map_nil, putAt, List.set_cons_zero, List.set_cons_succ, and_self, Nat.le_refl, app_get, app_set, g_agg, run_nil, run_cons, stp_plain, stp_guard, put_some, pass_eq, pick_tt, pick_ff, pick_tf, pick_ft, pick_u, reg_some, thn_normal, thn_exit, thn_ret, cnd_t, cnd_f, blk_normal, blk_ret, blk_exit, x_seq, x_region, x_cond, x_block, x_loop, x_ret, x_exit, x_skip, e_mov, e_pick, pk_t, pk_f, withH_some, e_box, e_load, e_store, stH_some, e_nil, e_bin, e_eqv, eqH_f, eqH_t, e_un, e_fa, e_ia, ia_eq, nat_eq, natV_nat, e_len, lnH_some, e_extract, ex_0, ex_1, e_call0, e_call1, e_call2, e_call3, pc0_eq, pc1_some, pc2_some, pc3_some, fin_some, g_var0, g_vars, g_loc0, g_locs, g_int, g_bool, g_str, g_sl, s_none, s_zero, s_succ, cl_nil, cl_str, cl_bool, cl_slc, cl_own, evFa, evNil, asEl, evBin, intBin, strBin, evUn, len_nil, len_slc, len_str, clr, List.length_nil, List.length_cons, List.getElem?_cons_zero, List.getElem?_cons_succ, Nat.reduceAdd, Nat.zero_add, Nat.add_zero, Nat.reduceLeDiff, Nat.reduceSub, ↓reduceIte, List.drop_succ_cons, List.drop_zero, List.take_succ_cons, List.take_zero, Bool.false_eq_true, List.nil_append, List.cons_append, Bool.not_true, Bool.not_false, cond_true, cond_false, bne, lv_ret, lv_normal, res1, res2, lv2_some, res_var, res_cell, lvf_v, lvf_slc, res1c, lvo1_some, e_mm, mm_max, mm_min]
      have hnext := ih l' (i + 1) m2 [.ptr id off, b, .junk, .junk, .ptr h.length 0, .ptr (h.length + 1) 0, .junk, .junk, .junk, .v (.int .i64 i), .v (.int .i64 0), .v (.int .i64 0), .junk, .junk, .v (.int .i64 es.length), .v (.int .i64 ((i + 1 : Nat) : Int)), .v (.bool true), .v (.bool false)] (by simp at hi; omega) (by simpa using hll) (by omega) (by omega) hsr hsr' (fun t ht => hl1 t (by simp [ht])) (fun t ht => hl2 t (by simp [ht])) rfl
      have hln := loop_normal (call := callW F) (fuel := K) (keep := KK41) (b := c41_13) (n := l.length + 1) (vars := vars) (h := ctr h id off ms (2000 - (m : Int)) ++ [.box [k1, k2, k3, c], .box [k1', k2', k3', c']]) (by rw [hv]; exact st)
      rw [show (t :: l).length + 1 = (l.length + 1) + 1 from rfl, hln]
      exact hnext
    · simp only [hz, if_false]
      refine ⟨[.ptr id off, b, .junk, .junk, .ptr h.length 0, .ptr (h.length + 1) 0, .v (.int .i64 c0), .v (.int .i64 e0), .junk, .v (.int .i64 i), .v (.int .i64 c0), .v (.int .i64 e0), .junk, .junk, .v (.int .i64 es.length), .v (.int .i64 i), .v (.bool true), .v (.bool true)], N, loop_ret ?_, rfl, rfl⟩
      rw [hv]
      cases b1 : (e0 == 0) with
      | false => simp only [L41, c41_13, c41_7, c41_8, c41_9, c41_10, c41_11, hlt, q1, q2, q3, q4, hc, b1, e_callh, pick_und, c_ld, c_ld0, ldAt, e_bslice1, e_bslice2, bs1, bs2, e_build, bdH_some, bd_nil, bd_cons, bd1, cl_agg, cl_int, toL, List.map_cons, List.map_nil, putAt, List.set_cons_zero, List.set_cons_succ, and_self, Nat.le_refl, app_get, app_set, g_agg, run_nil, run_cons, stp_plain, stp_guard, put_some, pass_eq, pick_tt, pick_ff, pick_tf, pick_ft, pick_u, reg_some, thn_normal, thn_exit, thn_ret, cnd_t, cnd_f, blk_normal, blk_ret, blk_exit, x_seq, x_region, x_cond, x_block, x_loop, x_ret, x_exit, x_skip, e_mov, e_pick, pk_t, pk_f, withH_some, e_box, e_load, e_store, stH_some, e_nil, e_bin, e_eqv, eqH_f, eqH_t, e_un, e_fa, e_ia, ia_eq, nat_eq, natV_nat, e_len, lnH_some, e_extract, ex_0, ex_1, e_call0, e_call1, e_call2, e_call3, pc0_eq, pc1_some, pc2_some, pc3_some, fin_some, g_var0, g_vars, g_loc0, g_locs, g_int, g_bool, g_str, g_sl, s_none, s_zero, s_succ, cl_nil, cl_str, cl_bool, cl_slc, cl_own, evFa, evNil, asEl, evBin, intBin, strBin, evUn, len_nil, len_slc, len_str, clr, List.length_nil, List.length_cons, List.getElem?_cons_zero, List.getElem?_cons_succ, Nat.reduceAdd, Nat.zero_add, Nat.add_zero, Nat.reduceLeDiff, Nat.reduceSub, ↓reduceIte, List.drop_succ_cons, List.drop_zero, List.take_succ_cons, List.take_zero, Bool.false_eq_true, List.nil_append, List.cons_append, Bool.not_true, Bool.not_false, cond_true, cond_false, bne, lv_ret, lv_normal, res1, res2, lv2_some, res_var, res_cell, lvf_v, lvf_slc, res1c, lvo1_some, e_mm, mm_max, mm_min]
      | true =>
        have b2 : (c0 == 0) = false := by
          rw [beq_eq_false_iff_ne]
          exact fun h => hz ⟨by simpa using b1, h⟩
        simp only [L41, c41_13, c41_7, c41_8, c41_9, c41_10, c41_11, hlt, q1, q2, q3, q4, hc, b1, b2, e_callh, pick_und, c_ld, c_ld0, ldAt, e_bslice1, e_bslice2, bs1, bs2, e_build, bdH_some, bd_nil, bd_cons, bd1, cl_agg, cl_int, toL, List.map_cons, List.map_nil, putAt, List.set_cons_zero, List.set_cons_succ, and_self, Nat.le_refl, app_get, app_set, g_agg, run_nil, run_cons, stp_plain, stp_guard, put_some, pass_eq, pick_tt, pick_ff, pick_tf, pick_ft, pick_u, reg_some, thn_normal, thn_exit, thn_ret, cnd_t, cnd_f, blk_normal, blk_ret, blk_exit, x_seq, x_region, x_cond, x_block, x_loop, x_ret, x_exit, x_skip, e_mov, e_pick, pk_t, pk_f, withH_some, e_box, e_load, e_store, stH_some, e_nil, e_bin, e_eqv, eqH_f, eqH_t, e_un, e_fa, e_ia, ia_eq, nat_eq, natV_nat, e_len, lnH_some, e_extract, ex_0, ex_1, e_call0, e_call1, e_call2, e_call3, pc0_eq, pc1_some, pc2_some, pc3_some, fin_some, g_var0, g_vars, g_loc0, g_locs, g_int, g_bool, g_str, g_sl, s_none, s_zero, s_succ, cl_nil, cl_str, cl_bool, cl_slc, cl_own, evFa, evNil, asEl, evBin, intBin, strBin, evUn, len_nil, len_slc, len_str, clr, List.length_nil, List.length_cons, List.getElem?_cons_zero, List.getElem?_cons_succ, Nat.reduceAdd, Nat.zero_add, Nat.add_zero, Nat.reduceLeDiff, Nat.reduceSub, ↓reduceIte, List.drop_succ_cons, List.drop_zero, List.take_succ_cons, List.take_zero, Bool.false_eq_true, List.nil_append, List.cons_append, Bool.not_true, Bool.not_false, cond_true, cond_false, bne, lv_ret, lv_normal, res1, res2, lv2_some, res_var, res_cell, lvf_v, lvf_slc, res1c, lvo1_some, e_mm, mm_max, mm_min]
end
end Go.AE.YtpgoibncgekflaaDoor
end

/-! Compare of the document: all of it. -/
section
set_option linter.unusedVariables false
set_option linter.unusedSimpArgs false
namespace Go.AE.YtpgoibncgekflaaDoor
open Go Go.AE Go.Proofs.YtpgoibncgekflaaDoor

def rest41 : CC := .seq (.seq (.region [] [] c41_4) (.cond (.var 13) (.seq (.region [] [] c41_5) .ret) .skip)) (.seq (.seq (.region [] [] c41_6) (.block 0 (.loop KK41 [] c41_13))) (.seq (.region [] [] c41_14) .ret))
def head41 (rest : CC) : CC := .seq (.region [] [] c41_0) (.seq (.region [] [] c41_1) (.seq (.seq (.region [] [] c41_2) (.cond (.var 12) (.seq (.region [] [] c41_3) .ret) .skip)) rest))
theorem body41 : c41.body = head41 rest41 := rfl
theorem start41 (a b c d : AV) : start c41 [a, b, c, d] = [a, b, c, d, .v undef, .v undef, .v undef, .v undef, .v undef, .v undef, .v undef, .v undef, .v undef, .v undef, .v undef, .v undef, .v undef, .v undef] := rfl
section
variable {b : AV}
theorem c41_ok {es : List AV} {rs : List (Int × Tm)} (hes : AllB es rs) (hbs : ∀ h : List AO, b.snap1 h = some b) (hlook : ∀ n, callW F 72 [b, .v (.int .i64 n)] [] = some (lookA n es, [])) (hrs : ∀ p ∈ rs, size p.2 ≤ 3000) (hrm : ∀ p ∈ rs, mayT p.2 = true) : ∀ f : Nat, C41 rs b f := by
  intro f
  induction f with
  | zero => intro h id off ms m x y a a' _ _ hm; omega
  | succ f ih =>
    intro h id off ms m x y a a' C hm5 hmf hsx hsy hmx hmy ha ha'
    have hl : ([.box a.cells, .box a'.cells] : List AO).all (AO.below 0) = true := by
      have h1 := ha.bel
      have h2 := ha'.bel
      simp only [List.all_cons, List.all_nil, h1, h2, Bool.and_true]
    obtain ⟨rx, ry, u, N, hrx, hry, hN, hc⟩ := both54 (C.app0 hl) hes hbs hlook hm5 ha ha'
    simp only [ctr_app C.lt] at hc
    have hnz := nextT_size (M := 3000) (by omega) hrs (m := m) hsx hsy
    have hnm := nextT_may (m := m) hrm hmx hmy
    have hlt := @nextT_lt rs m x y
    have hres : c41.res = [.var 6, .var 7] := rfl
    simp only [kRec]
    generalize nextT rs m x y = w at hrx hN hc hnz hnm hlt ⊢
    obtain ⟨x', y', e, m'⟩ := w
    dsimp only at hrx hN hc hnz hnm hlt ⊢
    by_cases he : e = 0
    · subst he
      obtain ⟨rfl, rfl⟩ := hN rfl
      obtain ⟨m1, m2⟩ := hnm rfl
      have hlt := hlt rfl
      rw [if_pos rfl]
      obtain ⟨k, s, n, l⟩ := x'
      obtain ⟨k', s', n', l'⟩ := u
      have z0 : ((0 : Int) == 0) = true := rfl
      have pre : ∀ K, exec (callW F) K c41.body (start c41 [.ptr id off, b, a, a']) (ctr h id off ms (2000 - (m : Int)) ++ []) = exec (callW F) K rest41 [.ptr id off, b, a, a', .ptr h.length 0, .ptr (h.length + 1) 0, .v (.int .i64 0), .v (.int .i64 0), .v (.int .i64 0), .v undef, .v undef, .v undef, .v (.bool false), .v undef, .v undef, .v undef, .v undef, .v undef] (ctr h id off ms (2000 - (m' : Int)) ++ [.box rx.cells, .box ry.cells]) := by
        intro K
        rw [body41, start41]
        generalize rest41 = rest
        cases ha
        cases ha'
        cases hrx
        cases hry
        simp only [AV.cells] at hc
        simp only [head41, c41_0, c41_1, c41_2, hc, z0, e_callh, ex_2, AV.cells, c_ld, c_ld0, c_st, c_st0, c_bx, ldAt, stAt, preH_some, List.append_assoc, e_bslice1, e_bslice2, bs1, bs2, e_build, bdH_some, bd_nil, bd_cons, bd1, cl_agg, cl_int, toL, List.map_cons, List.map_nil, putAt, List.set_cons_zero, List.set_cons_succ, and_self, Nat.le_refl, app_get, app_set, g_agg, run_nil, run_cons, stp_plain, stp_guard, put_some, pass_eq, pick_tt, pick_ff, pick_tf, pick_ft, pick_u, reg_some, thn_normal, thn_exit, thn_ret, cnd_t, cnd_f, blk_normal, blk_ret, blk_exit, x_seq, x_region, x_cond, x_block, x_loop, x_ret, x_exit, x_skip, e_mov, e_pick, pk_t, pk_f, withH_some, e_box, e_load, e_store, stH_some, e_nil, e_bin, e_eqv, eqH_f, eqH_t, e_un, e_fa, e_ia, ia_eq, nat_eq, natV_nat, e_len, lnH_some, e_extract, ex_0, ex_1, e_call0, e_call1, e_call2, e_call3, pc0_eq, pc1_some, pc2_some, pc3_some, fin_some, g_var0, g_vars, g_loc0, g_locs, g_int, g_bool, g_str, g_sl, s_none, s_zero, s_succ, cl_nil, cl_str, cl_bool, cl_slc, cl_own, evFa, evNil, asEl, evBin, intBin, strBin, evUn, len_nil, len_slc, len_str, clr, List.length_nil, List.length_cons, List.getElem?_cons_zero, List.getElem?_cons_succ, Nat.reduceAdd, Nat.zero_add, Nat.add_zero, Nat.reduceLeDiff, Nat.reduceSub, ↓reduceIte, List.drop_succ_cons, List.drop_zero, List.take_succ_cons, List.take_zero, Bool.false_eq_true, List.nil_append, List.cons_append, Bool.not_true, Bool.not_false, cond_true, cond_false, bne, lv_ret, lv_normal, res1, res2, lv2_some, res_var, res_cell, lvf_v, lvf_slc, res1c, lvo1_some, e_mm, mm_max, mm_min]
      have hbb : ([.box rx.cells, .box ry.cells] : List AO).all (AO.below 0) = true := by
        have h1 := hrx.bel
        have h2 := hry.bel
        simp only [List.all_cons, List.all_nil, h1, h2, Bool.and_true]
      have sx : ∀ h : List AO, rx.snap1 h = some rx := fun h => hrx.snap
      have sy : ∀ h : List AO, ry.snap1 h = some ry := fun h => hry.snap
      simp only [cStep]
      by_cases c1 : k = 4 ∧ k' = 4 ∧ l.length = l'.length ∧ s.toList = s'.toList
      · rw [if_pos c1]
        dsimp only
        have hz1 := hnz.1
        have hz2 := hnz.2
        simp only [size] at hz1 hz2
        have hll := sizeL_len l
        have e1 : (k == 4) = true := by simpa using c1.1
        have e2 : (k' == 4) = true := by simpa using c1.2.1
        have e3 : (s.toList == s'.toList) = true := by simpa using c1.2.2.2
        have e4 : ((l.length : Int) == (l'.length : Int)) = true := by rw [c1.2.2.1]; simp
        cases hrx with
        | mk k s n c l hcl =>
        cases hry with
        | mk k' s' n' c' l' hcl' =>
        obtain ⟨es1, hs, hes1, hmx1⟩ := hcl.sl
        obtain ⟨es2, hs2, hes2, hmx2⟩ := hcl'.sl
        have l1 := hs.len
        have l2 := hs2.len
        rw [hes1.length] at l1
        rw [hes2.length] at l2
        have k1 := hes1.length
        have k2 := hes2.length
        simp only [AV.cells] at hbb pre
        have key := k41_loop (K := l.length + 1) hs hs2 (by omega) (by omega) ih C hbb l l' 0 m' (L41 id off h.length b es1.length (0 : Nat)) (by omega) c1.2.2.1 (by omega) (by omega) (by simpa using hes1) (by simpa using hes2) (fun t ht => ⟨by have := size_mem ht; omega, mayL_mem (may_sub m1) ht⟩) (fun t ht => ⟨by have := size_mem ht; omega, mayL_mem (may_sub m2) ht⟩) rfl
        rw [k1] at key
        generalize kL (kRec rs f) m' (l.zip l') = w at key ⊢
        obtain ⟨c0, e0, m3⟩ := w
        dsimp only at key ⊢
        have pre2 : exec (callW F) (l.length + 1) rest41 [.ptr id off, b, a, a', .ptr h.length 0, .ptr (h.length + 1) 0, .v (.int .i64 0), .v (.int .i64 0), .v (.int .i64 0), .v undef, .v undef, .v undef, .v (.bool false), .v undef, .v undef, .v undef, .v undef, .v undef] (ctr h id off ms (2000 - (m' : Int)) ++ [.box [.v (.int .i64 k), .v (.string s), .v (.int .i64 n), c], .box [.v (.int .i64 k'), .v (.string s'), .v (.int .i64 n'), c']]) = thn (callW F) (l.length + 1) (.seq (.region [] [] c41_14) .ret) (blk 0 (loopN (exec (callW F) (l.length + 1) c41_13) KK41 (l.length + 1) (L41 id off h.length b l.length ((0 : Nat) : Int)) (ctr h id off ms (2000 - (m' : Int)) ++ [.box [.v (.int .i64 k), .v (.string s), .v (.int .i64 n), c], .box [.v (.int .i64 k'), .v (.string s'), .v (.int .i64 n'), c']]))) := by
          unfold rest41
          generalize hrest : (CC.seq (.region [] [] c41_14) .ret) = rest
          simp only [c41_4, c41_6, e1, e2, e3, e4, l1, l2, pick_und, c_ld, c_ld0, ldAt, e_bslice1, e_bslice2, bs1, bs2, e_build, bdH_some, bd_nil, bd_cons, bd1, cl_agg, cl_int, toL, List.map_cons, List.map_nil, putAt, List.set_cons_zero, List.set_cons_succ, and_self, Nat.le_refl, app_get, app_set, g_agg, run_nil, run_cons, stp_plain, stp_guard, put_some, pass_eq, pick_tt, pick_ff, pick_tf, pick_ft, pick_u, reg_some, thn_normal, thn_exit, thn_ret, cnd_t, cnd_f, blk_normal, blk_ret, blk_exit, x_seq, x_region, x_cond, x_block, x_loop, x_ret, x_exit, x_skip, e_mov, e_pick, pk_t, pk_f, withH_some, e_box, e_load, e_store, stH_some, e_nil, e_bin, e_eqv, eqH_f, eqH_t, e_un, e_fa, e_ia, ia_eq, nat_eq, natV_nat, e_len, lnH_some, e_extract, ex_0, ex_1, e_call0, e_call1, e_call2, e_call3, pc0_eq, pc1_some, pc2_some, pc3_some, fin_some, g_var0, g_vars, g_loc0, g_locs, g_int, g_bool, g_str, g_sl, s_none, s_zero, s_succ, cl_nil, cl_str, cl_bool, cl_slc, cl_own, evFa, evNil, asEl, evBin, intBin, strBin, evUn, len_nil, len_slc, len_str, clr, List.length_nil, List.length_cons, List.getElem?_cons_zero, List.getElem?_cons_succ, Nat.reduceAdd, Nat.zero_add, Nat.add_zero, Nat.reduceLeDiff, Nat.reduceSub, ↓reduceIte, List.drop_succ_cons, List.drop_zero, List.take_succ_cons, List.take_zero, Bool.false_eq_true, List.nil_append, List.cons_append, Bool.not_true, Bool.not_false, cond_true, cond_false, bne, lv_ret, lv_normal, res1, res2, lv2_some, res_var, res_cell, lvf_v, lvf_slc, res1c, lvo1_some, e_mm, mm_max, mm_min]
          rw [loop_cong (v2 := L41 id off h.length b l.length ((0 : Nat) : Int)) (by rfl)]
        by_cases hz : e0 = 0 ∧ c0 = 0
        · obtain ⟨rfl, rfl⟩ := hz
          simp only [and_self, if_true] at key
          refine ⟨2000 - (m3 : Int), callW_own (c := c41) rfl rfl (l.length + 1) ?_, fun _ => rfl⟩
          rw [pre, pre2, key, ctr_len]
          simp only [blk_exit, thn_normal, c41_14, e_bslice1, e_bslice2, bs1, bs2, e_build, bdH_some, bd_nil, bd_cons, bd1, cl_agg, cl_int, toL, List.map_cons, List.map_nil, putAt, List.set_cons_zero, List.set_cons_succ, and_self, Nat.le_refl, app_get, app_set, g_agg, run_nil, run_cons, stp_plain, stp_guard, put_some, pass_eq, pick_tt, pick_ff, pick_tf, pick_ft, pick_u, reg_some, thn_normal, thn_exit, thn_ret, cnd_t, cnd_f, blk_normal, blk_ret, blk_exit, x_seq, x_region, x_cond, x_block, x_loop, x_ret, x_exit, x_skip, e_mov, e_pick, pk_t, pk_f, withH_some, e_box, e_load, e_store, stH_some, e_nil, e_bin, e_eqv, eqH_f, eqH_t, e_un, e_fa, e_ia, ia_eq, nat_eq, natV_nat, e_len, lnH_some, e_extract, ex_0, ex_1, e_call0, e_call1, e_call2, e_call3, pc0_eq, pc1_some, pc2_some, pc3_some, fin_some, g_var0, g_vars, g_loc0, g_locs, g_int, g_bool, g_str, g_sl, s_none, s_zero, s_succ, cl_nil, cl_str, cl_bool, cl_slc, cl_own, evFa, evNil, asEl, evBin, intBin, strBin, evUn, len_nil, len_slc, len_str, clr, List.length_nil, List.length_cons, List.getElem?_cons_zero, List.getElem?_cons_succ, Nat.reduceAdd, Nat.zero_add, Nat.add_zero, Nat.reduceLeDiff, Nat.reduceSub, ↓reduceIte, List.drop_succ_cons, List.drop_zero, List.take_succ_cons, List.take_zero, Bool.false_eq_true, List.nil_append, List.cons_append, Bool.not_true, Bool.not_false, cond_true, cond_false, bne, lv_ret, lv_normal, res1, res2, lv2_some, res_var, res_cell, lvf_v, lvf_slc, res1c, lvo1_some, e_mm, mm_max, mm_min]
          rw [leave_own ctr_len (C.all _), hres, own_res2 (x := .v (.int .i64 0)) (y := .v (.int .i64 0)) _ _]
          · exact lvo_two rfl rfl
          · rfl
          · rfl
        · simp only [hz, if_false] at key
          obtain ⟨vs, N, g1, g2, g3⟩ := key
          refine ⟨N, callW_own (c := c41) rfl rfl (l.length + 1) ?_, fun h => absurd h hz⟩
          rw [pre, pre2, g1, ctr_len, blk_ret, thn_ret, leave_own ctr_len (C.all _), hres, own_res2 (x := .v (.int .i64 c0)) (y := .v (.int .i64 e0)) _ _]
          · exact lvo_two rfl rfl
          · rw [res_var, g2]
          · rw [res_var, g3]
      · rw [if_neg c1]
        dsimp only
        have h55 := ref55 hrx hry m1 m2 c1
        generalize headC (.mk k s n l) (.mk k' s' n' l') = c0 at h55 ⊢
        refine ⟨2000 - (m' : Int), callW_own (c := c41) rfl rfl 0 ?_, fun _ => rfl⟩
        have st : exec (callW F) 0 rest41 [.ptr id off, b, a, a', .ptr h.length 0, .ptr (h.length + 1) 0, .v (.int .i64 0), .v (.int .i64 0), .v (.int .i64 0), .v undef, .v undef, .v undef, .v (.bool false), .v undef, .v undef, .v undef, .v undef, .v undef] (ctr h id off ms (2000 - (m' : Int)) ++ [.box rx.cells, .box ry.cells]) = some (.ret, [.ptr id off, b, a, a', .ptr h.length 0, .ptr (h.length + 1) 0, .v (.int .i64 c0), .v (.int .i64 0), .v (.int .i64 0), .v undef, .v undef, .v undef, .v (.bool false), .v (.bool true), .v undef, .v undef, .v undef, .v undef], ctr h id off ms (2000 - (m' : Int)) ++ [.box rx.cells, .box ry.cells]) := by
          cases hrx with
          | mk k s n c l hcl =>
          cases hry with
          | mk k' s' n' c' l' hcl' =>
          obtain ⟨es1, hs, hes1, hmx1⟩ := hcl.sl
          obtain ⟨es2, hs2, hes2, hmx2⟩ := hcl'.sl
          have l1 := hs.len
          have l2 := hs2.len
          rw [hes1.length] at l1
          rw [hes2.length] at l2
          unfold rest41
          cases e1 : (k == 4) with
          | false => simp only [c41_4, c41_5, e1, h55, sx, sy, pick_und, c_ld, c_ld0, AV.cells, ldAt, e_bslice1, e_bslice2, bs1, bs2, e_build, bdH_some, bd_nil, bd_cons, bd1, cl_agg, cl_int, toL, List.map_cons, List.map_nil, putAt, List.set_cons_zero, List.set_cons_succ, and_self, Nat.le_refl, app_get, app_set, g_agg, run_nil, run_cons, stp_plain, stp_guard, put_some, pass_eq, pick_tt, pick_ff, pick_tf, pick_ft, pick_u, reg_some, thn_normal, thn_exit, thn_ret, cnd_t, cnd_f, blk_normal, blk_ret, blk_exit, x_seq, x_region, x_cond, x_block, x_loop, x_ret, x_exit, x_skip, e_mov, e_pick, pk_t, pk_f, withH_some, e_box, e_load, e_store, stH_some, e_nil, e_bin, e_eqv, eqH_f, eqH_t, e_un, e_fa, e_ia, ia_eq, nat_eq, natV_nat, e_len, lnH_some, e_extract, ex_0, ex_1, e_call0, e_call1, e_call2, e_call3, pc0_eq, pc1_some, pc2_some, pc3_some, fin_some, g_var0, g_vars, g_loc0, g_locs, g_int, g_bool, g_str, g_sl, s_none, s_zero, s_succ, cl_nil, cl_str, cl_bool, cl_slc, cl_own, evFa, evNil, asEl, evBin, intBin, strBin, evUn, len_nil, len_slc, len_str, clr, List.length_nil, List.length_cons, List.getElem?_cons_zero, List.getElem?_cons_succ, Nat.reduceAdd, Nat.zero_add, Nat.add_zero, Nat.reduceLeDiff, Nat.reduceSub, ↓reduceIte, List.drop_succ_cons, List.drop_zero, List.take_succ_cons, List.take_zero, Bool.false_eq_true, List.nil_append, List.cons_append, Bool.not_true, Bool.not_false, cond_true, cond_false, bne, lv_ret, lv_normal, res1, res2, lv2_some, res_var, res_cell, lvf_v, lvf_slc, res1c, lvo1_some, e_mm, mm_max, mm_min]
          | true =>
          cases e2 : (k' == 4) with
          | false => simp only [c41_4, c41_5, e1, e2, h55, sx, sy, pick_und, c_ld, c_ld0, AV.cells, ldAt, e_bslice1, e_bslice2, bs1, bs2, e_build, bdH_some, bd_nil, bd_cons, bd1, cl_agg, cl_int, toL, List.map_cons, List.map_nil, putAt, List.set_cons_zero, List.set_cons_succ, and_self, Nat.le_refl, app_get, app_set, g_agg, run_nil, run_cons, stp_plain, stp_guard, put_some, pass_eq, pick_tt, pick_ff, pick_tf, pick_ft, pick_u, reg_some, thn_normal, thn_exit, thn_ret, cnd_t, cnd_f, blk_normal, blk_ret, blk_exit, x_seq, x_region, x_cond, x_block, x_loop, x_ret, x_exit, x_skip, e_mov, e_pick, pk_t, pk_f, withH_some, e_box, e_load, e_store, stH_some, e_nil, e_bin, e_eqv, eqH_f, eqH_t, e_un, e_fa, e_ia, ia_eq, nat_eq, natV_nat, e_len, lnH_some, e_extract, ex_0, ex_1, e_call0, e_call1, e_call2, e_call3, pc0_eq, pc1_some, pc2_some, pc3_some, fin_some, g_var0, g_vars, g_loc0, g_locs, g_int, g_bool, g_str, g_sl, s_none, s_zero, s_succ, cl_nil, cl_str, cl_bool, cl_slc, cl_own, evFa, evNil, asEl, evBin, intBin, strBin, evUn, len_nil, len_slc, len_str, clr, List.length_nil, List.length_cons, List.getElem?_cons_zero, List.getElem?_cons_succ, Nat.reduceAdd, Nat.zero_add, Nat.add_zero, Nat.reduceLeDiff, Nat.reduceSub, ↓reduceIte, List.drop_succ_cons, List.drop_zero, List.take_succ_cons, List.take_zero, Bool.false_eq_true, List.nil_append, List.cons_append, Bool.not_true, Bool.not_false, cond_true, cond_false, bne, lv_ret, lv_normal, res1, res2, lv2_some, res_var, res_cell, lvf_v, lvf_slc, res1c, lvo1_some, e_mm, mm_max, mm_min]
          | true =>
          cases e3 : (s.toList == s'.toList) with
          | false => simp only [c41_4, c41_5, e1, e2, e3, h55, sx, sy, pick_und, c_ld, c_ld0, AV.cells, ldAt, e_bslice1, e_bslice2, bs1, bs2, e_build, bdH_some, bd_nil, bd_cons, bd1, cl_agg, cl_int, toL, List.map_cons, List.map_nil, putAt, List.set_cons_zero, List.set_cons_succ, and_self, Nat.le_refl, app_get, app_set, g_agg, run_nil, run_cons, stp_plain, stp_guard, put_some, pass_eq, pick_tt, pick_ff, pick_tf, pick_ft, pick_u, reg_some, thn_normal, thn_exit, thn_ret, cnd_t, cnd_f, blk_normal, blk_ret, blk_exit, x_seq, x_region, x_cond, x_block, x_loop, x_ret, x_exit, x_skip, e_mov, e_pick, pk_t, pk_f, withH_some, e_box, e_load, e_store, stH_some, e_nil, e_bin, e_eqv, eqH_f, eqH_t, e_un, e_fa, e_ia, ia_eq, nat_eq, natV_nat, e_len, lnH_some, e_extract, ex_0, ex_1, e_call0, e_call1, e_call2, e_call3, pc0_eq, pc1_some, pc2_some, pc3_some, fin_some, g_var0, g_vars, g_loc0, g_locs, g_int, g_bool, g_str, g_sl, s_none, s_zero, s_succ, cl_nil, cl_str, cl_bool, cl_slc, cl_own, evFa, evNil, asEl, evBin, intBin, strBin, evUn, len_nil, len_slc, len_str, clr, List.length_nil, List.length_cons, List.getElem?_cons_zero, List.getElem?_cons_succ, Nat.reduceAdd, Nat.zero_add, Nat.add_zero, Nat.reduceLeDiff, Nat.reduceSub, ↓reduceIte, List.drop_succ_cons, List.drop_zero, List.take_succ_cons, List.take_zero, Bool.false_eq_true, List.nil_append, List.cons_append, Bool.not_true, Bool.not_false, cond_true, cond_false, bne, lv_ret, lv_normal, res1, res2, lv2_some, res_var, res_cell, lvf_v, lvf_slc, res1c, lvo1_some, e_mm, mm_max, mm_min]
          | true =>
            have e4 : ((l.length : Int) == (l'.length : Int)) = false := by
              rw [beq_eq_false_iff_ne]
              intro hh
              exact c1 ⟨by simpa using e1, by simpa using e2, by omega, by simpa using e3⟩
            simp only [c41_4, c41_5, e1, e2, e3, e4, l1, l2, h55, sx, sy, pick_und, c_ld, c_ld0, AV.cells, ldAt, e_bslice1, e_bslice2, bs1, bs2, e_build, bdH_some, bd_nil, bd_cons, bd1, cl_agg, cl_int, toL, List.map_cons, List.map_nil, putAt, List.set_cons_zero, List.set_cons_succ, and_self, Nat.le_refl, app_get, app_set, g_agg, run_nil, run_cons, stp_plain, stp_guard, put_some, pass_eq, pick_tt, pick_ff, pick_tf, pick_ft, pick_u, reg_some, thn_normal, thn_exit, thn_ret, cnd_t, cnd_f, blk_normal, blk_ret, blk_exit, x_seq, x_region, x_cond, x_block, x_loop, x_ret, x_exit, x_skip, e_mov, e_pick, pk_t, pk_f, withH_some, e_box, e_load, e_store, stH_some, e_nil, e_bin, e_eqv, eqH_f, eqH_t, e_un, e_fa, e_ia, ia_eq, nat_eq, natV_nat, e_len, lnH_some, e_extract, ex_0, ex_1, e_call0, e_call1, e_call2, e_call3, pc0_eq, pc1_some, pc2_some, pc3_some, fin_some, g_var0, g_vars, g_loc0, g_locs, g_int, g_bool, g_str, g_sl, s_none, s_zero, s_succ, cl_nil, cl_str, cl_bool, cl_slc, cl_own, evFa, evNil, asEl, evBin, intBin, strBin, evUn, len_nil, len_slc, len_str, clr, List.length_nil, List.length_cons, List.getElem?_cons_zero, List.getElem?_cons_succ, Nat.reduceAdd, Nat.zero_add, Nat.add_zero, Nat.reduceLeDiff, Nat.reduceSub, ↓reduceIte, List.drop_succ_cons, List.drop_zero, List.take_succ_cons, List.take_zero, Bool.false_eq_true, List.nil_append, List.cons_append, Bool.not_true, Bool.not_false, cond_true, cond_false, bne, lv_ret, lv_normal, res1, res2, lv2_some, res_var, res_cell, lvf_v, lvf_slc, res1c, lvo1_some, e_mm, mm_max, mm_min]
        rw [pre, st, ctr_len, leave_own ctr_len (C.all _), hres, own_res2 (x := .v (.int .i64 c0)) (y := .v (.int .i64 0)) _ _]
        · exact lvo_two rfl rfl
        · rfl
        · rfl
    · rw [if_neg he]
      dsimp only
      have z1 : (e == 0) = false := by simpa using he
      refine ⟨N, callW_own (c := c41) rfl rfl 0 ?_, fun h => absurd h.1 he⟩
      have body : exec (callW F) 0 c41.body (start c41 [.ptr id off, b, a, a']) (ctr h id off ms (2000 - (m : Int)) ++ []) = some (.ret, [.ptr id off, b, a, a', .ptr h.length 0, .ptr (h.length + 1) 0, .v (.int .i64 0), .v (.int .i64 e), .v (.int .i64 e), .v undef, .v undef, .v undef, .v (.bool true), .v undef, .v undef, .v undef, .v undef, .v undef], ctr h id off ms N ++ [.box rx.cells, .box ry.cells]) := by
        rw [body41, start41]
        generalize rest41 = rest
        cases ha
        cases ha'
        cases hrx
        cases hry
        simp only [AV.cells] at hc
        simp only [head41, c41_0, c41_1, c41_2, c41_3, hc, z1, e_callh, ex_2, AV.cells, c_ld, c_ld0, c_st, c_st0, c_bx, ldAt, stAt, preH_some, List.append_assoc, e_bslice1, e_bslice2, bs1, bs2, e_build, bdH_some, bd_nil, bd_cons, bd1, cl_agg, cl_int, toL, List.map_cons, List.map_nil, putAt, List.set_cons_zero, List.set_cons_succ, and_self, Nat.le_refl, app_get, app_set, g_agg, run_nil, run_cons, stp_plain, stp_guard, put_some, pass_eq, pick_tt, pick_ff, pick_tf, pick_ft, pick_u, reg_some, thn_normal, thn_exit, thn_ret, cnd_t, cnd_f, blk_normal, blk_ret, blk_exit, x_seq, x_region, x_cond, x_block, x_loop, x_ret, x_exit, x_skip, e_mov, e_pick, pk_t, pk_f, withH_some, e_box, e_load, e_store, stH_some, e_nil, e_bin, e_eqv, eqH_f, eqH_t, e_un, e_fa, e_ia, ia_eq, nat_eq, natV_nat, e_len, lnH_some, e_extract, ex_0, ex_1, e_call0, e_call1, e_call2, e_call3, pc0_eq, pc1_some, pc2_some, pc3_some, fin_some, g_var0, g_vars, g_loc0, g_locs, g_int, g_bool, g_str, g_sl, s_none, s_zero, s_succ, cl_nil, cl_str, cl_bool, cl_slc, cl_own, evFa, evNil, asEl, evBin, intBin, strBin, evUn, len_nil, len_slc, len_str, clr, List.length_nil, List.length_cons, List.getElem?_cons_zero, List.getElem?_cons_succ, Nat.reduceAdd, Nat.zero_add, Nat.add_zero, Nat.reduceLeDiff, Nat.reduceSub, ↓reduceIte, List.drop_succ_cons, List.drop_zero, List.take_succ_cons, List.take_zero, Bool.false_eq_true, List.nil_append, List.cons_append, Bool.not_true, Bool.not_false, cond_true, cond_false, bne, lv_ret, lv_normal, res1, res2, lv2_some, res_var, res_cell, lvf_v, lvf_slc, res1c, lvo1_some, e_mm, mm_max, mm_min]
      rw [body, ctr_len, leave_own ctr_len (C.all _), hres, own_res2 (x := .v (.int .i64 0)) (y := .v (.int .i64 e)) _ _]
      · exact lvo_two rfl rfl
      · rfl
      · rfl

theorem compare21 {a a' : AV} {bs : List (Int × Tm)} {x y : Tm} (hb : IsB b bs) (hl : bs.length ≤ 90000) (hbz : ∀ p ∈ bs, size p.2 ≤ 3000) (hbm : ∀ p ∈ bs, mayT p.2 = true) (ha : IsT a x) (ha' : IsT a' y) (hx : size x ≤ 3000) (hy : size y ≤ 3000) (hmx : mayT x = true) (hmy : mayT y = true) :
    callW F 21 [b, a, a'] [] = some (.tup [.v (.int .i64 (comT bs x y).1), .v (.int .i64 (comT bs x y).2)], []) := by
  obtain ⟨es, hes, k1, k2⟩ := looks hb (by omega)
  have hsn : ∀ h : List AO, b.snap1 h = some b := by intro h; cases hb <;> rfl
  have hC := c41_ok hes.reverse hsn k2 (fun p hp => hbz p (by simpa using hp)) (fun p hp => hbm p (by simpa using hp)) 2001
  have hbel : ([.box a.cells, .box a'.cells, .box [.v (.int .i64 0)]] : List AO).all (AO.below 3) = true := by
    have h1 := below_mono (Nat.zero_le 3) _ ha.bel
    have h2 := below_mono (Nat.zero_le 3) _ ha'.bel
    simp only [List.all_cons, List.all_nil, h1, h2, Bool.and_true]; rfl
  have C : Ctr [.box a.cells, .box a'.cells, .box [.v (.int .i64 0)]] 2 0 [.v (.int .i64 0)] := ⟨by simp, by simp, hbel, rfl⟩
  obtain ⟨N, key, _⟩ := hC _ 2 0 _ 2000 x y a a' C (Nat.le_refl _) (by omega) hx hy hmx hmy ha ha'
  have c0 : ctr [.box a.cells, .box a'.cells, .box [.v (.int .i64 0)]] 2 0 [.v (.int .i64 0)] (2000 - ((2000 : Nat) : Int)) = [.box a.cells, .box a'.cells, .box [.v (.int .i64 0)]] := rfl
  have c1 : ctr [.box a.cells, .box a'.cells, .box [.v (.int .i64 0)]] 2 0 [.v (.int .i64 0)] N = [.box a.cells, .box a'.cells, .box [.v (.int .i64 N)]] := rfl
  rw [c0, c1] at key
  have hk := kRec_com bs x y
  have h1 : (comT bs x y).1 = (kRec bs.reverse 2001 2000 x y).1 := by rw [hk]
  have h2 : (comT bs x y).2 = (kRec bs.reverse 2001 2000 x y).2.1 := by rw [hk]
  rw [h1, h2]
  generalize kRec bs.reverse 2001 2000 x y = w at key
  obtain ⟨w1, w2, w3⟩ := w
  dsimp only at key ⊢
  refine callW_pure (c := c21) rfl rfl 0 ?_
  have lt : ∀ (h : List AO) (a b : Int), lvf h (.tup [.v (.int .i64 a), .v (.int .i64 b)]) = some (.tup [.v (.int .i64 a), .v (.int .i64 b)], []) := fun _ _ _ => rfl
  cases ha
  cases ha'
  simp only [AV.cells] at key
  simp only [c21, start, List.replicate, c21_0, c21_1, key, lt, e_callh, e_bslice1, e_bslice2, bs1, bs2, e_build, bdH_some, bd_nil, bd_cons, bd1, cl_agg, cl_int, toL, List.map_cons, List.map_nil, putAt, List.set_cons_zero, List.set_cons_succ, and_self, Nat.le_refl, evStore, app_get, app_set, g_agg, run_nil, run_cons, stp_plain, stp_guard, put_some, pass_eq, pick_tt, pick_ff, pick_tf, pick_ft, pick_u, reg_some, thn_normal, thn_exit, thn_ret, cnd_t, cnd_f, blk_normal, blk_ret, blk_exit, x_seq, x_region, x_cond, x_block, x_loop, x_ret, x_exit, x_skip, e_mov, e_pick, pk_t, pk_f, withH_some, e_box, bx_some, e_load, e_store, stH_some, e_nil, e_bin, e_eqv, eqH_f, eqH_t, e_un, e_fa, e_ia, ia_eq, nat_eq, natV_nat, e_len, lnH_some, e_extract, ex_0, ex_1, e_call0, e_call1, e_call2, e_call3, pc0_eq, pc1_some, pc2_some, pc3_some, fin_some, g_var0, g_vars, g_loc0, g_locs, g_int, g_bool, g_str, g_sl, s_none, s_zero, s_succ, cl_nil, cl_str, cl_bool, cl_slc, cl_own, evFa, evNil, evLoad, asEl, evBin, intBin, strBin, evUn, len_nil, len_slc, len_str, clr, List.length_nil, List.length_cons, List.getElem?_cons_zero, List.getElem?_cons_succ, Nat.reduceAdd, Nat.zero_add, Nat.add_zero, Nat.reduceLeDiff, Nat.reduceSub, ↓reduceIte, List.drop_succ_cons, List.drop_zero, List.take_succ_cons, List.take_zero, Bool.false_eq_true, List.nil_append, List.cons_append, Bool.not_true, Bool.not_false, cond_true, cond_false, bne, lv_ret, lv_normal, res1, res2, lv2_some, res_var, res_cell, lvf_v, lvf_slc, res1c, lvo1_some, e_mm, mm_max, mm_min]
end
end Go.AE.YtpgoibncgekflaaDoor
end

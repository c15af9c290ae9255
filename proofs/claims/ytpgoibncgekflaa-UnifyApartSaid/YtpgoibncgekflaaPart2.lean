/- Texts of this claim, put together. -/
import Derived.Test.YtpgoibncgekflaaPart1
import Derived.Test.YtpgoibncgekflaaEval3
/-! Few. -/
section
set_option linter.unusedVariables false
set_option linter.unusedSimpArgs false
namespace Go.AE.Ytpgoibncgekflaa
open Go Go.AE Go.Proofs.Ytpgoibncgekflaa

mutual
def left : Tm → Int → Int
  | .mk _ _ _ l, m => leftL l (IntKind.i64.wrap (m - 1))
def leftL : List Tm → Int → Int
  | [], m => m
  | a :: l, m => if m < 0 then m else leftL l (left a m)
end

theorem IsT.cl {a : AV} {t : Tm} (ht : IsT a t) : a.cl = some a.cells ∧ a.cells.length = 4 := by
  cases ht with
  | mk k s n c l hc => exact ⟨rfl, rfl⟩
theorem IsT.asEl {a : AV} {t : Tm} (ht : IsT a t) : asEl true (a.cells.take 4) = some a := by
  cases ht with
  | mk k s n c l hc => rfl

def K46 : List Bool := [false, true, false, false, false, true, true, true, false, false]
def L46 (c : AV) (len i m : Int) : List AV := [.junk, .v (.int .i64 m), .junk, .junk, .junk, c, .v (.int .i64 len), .v (.int .i64 i), .junk, .junk]

theorem left_step {K : Nat} {ex nn : Bool} {es : List AV} {h : List AO} {i : Nat} {e : AV} {t : Tm} {m r : Int} (he : es[i]? = some e) (ht : IsT e t) (hm : 0 ≤ m) (hc : callW F 46 [e, .v (.int .i64 m)] [] = some (.v (.int .i64 r), [])) :
    exec (callW F) K c46_9 (L46 (.slc 4 ex nn es) es.length i m) h = some (.normal, [.junk, .v (.int .i64 r), .junk, .junk, .ptr h.length 0, .slc 4 ex nn es, .v (.int .i64 es.length), .v (.int .i64 (IntKind.i64.wrap (i + 1))), .v (.bool true), .v (.bool false)], h ++ [.box e.cells]) := by
  have hlt : (decide ((i : Int) < (es.length : Int))) = true := by
    have := (List.getElem?_eq_some_iff.1 he).1
    simp; omega
  have hneg : decide (m < 0) = false := by simp; omega
  have q1 : ∀ h, iaV h 4 (.slc 4 ex nn es) (some i) = some (.ip e.cells) := fun h => iaV_slc he
  have q3 : ∀ h : List AO, evLoad h true 4 (.ip e.cells) = some e := fun h => ht.load
  have q5 : ∀ h : List AO, e.snap1 h = some e := fun h => ht.snap
  have q6 : ∀ (h : List AO) (cs : List AV), cs.length = 4 → evStore (h ++ [.box cs]) 4 (.ptr h.length 0) e = some (h ++ [.box e.cells]) := fun h cs hl => st_new ht.cl.1 ht.cl.2 hl
  have q7 : ∀ h : List AO, evLoad (h ++ [.box e.cells]) true 4 (.ptr h.length 0) = some e := fun h => by rw [ld_new, if_pos (by rw [ht.cl.2]; omega), List.drop_zero]; exact ht.asEl
  have q8 : ∀ (h : List AO) (x : Int), (AV.v (.int .i64 x)).snap1 h = some (.v (.int .i64 x)) := fun _ _ => rfl
  have q9 : (ofVal (.agg #[(.int .i64 0), (.string ⟨#[]⟩), (.int .i64 0), (.slice none 0 0)])).cl = some [.v (.int .i64 0), .v (.string ⟨#[]⟩), .v (.int .i64 0), .v (.slice none 0 0)] := by simp [ofVal, AV.cl, Value.oneCell']
  simp only [L46, c46_9, c46_3, c46_4, c46_5, c46_6, c46_7, c46_8, hlt, hneg, q1, q3, q5, q6, q7, q8, q9, g_agg, hc, run_nil, run_cons, stp_plain, stp_guard, put_some, pass_eq, pick_tt, pick_ff, pick_tf, pick_ft, pick_u, reg_some, thn_normal, thn_exit, thn_ret, cnd_t, cnd_f, blk_normal, blk_ret, blk_exit, x_seq, x_region, x_cond, x_block, x_loop, x_ret, x_exit, x_skip, e_mov, e_pick, pk_t, pk_f, withH_some, e_box, bx_some, e_load, e_store, stH_some, e_nil, e_bin, e_eqv, eqH_f, eqH_t, e_un, e_fa, e_ia, ia_eq, nat_eq, natV_nat, e_len, lnH_some, e_extract, ex_0, ex_1, e_call0, e_call1, e_call2, e_call3, pc0_eq, pc1_some, pc2_some, pc3_some, fin_some, g_var0, g_vars, g_loc0, g_locs, g_int, g_bool, g_str, g_sl, s_none, s_zero, s_succ, evFa, evNil, asEl, evBin, intBin, strBin, evUn, len_nil, len_slc, len_str, clr, List.length_nil, List.length_cons, List.getElem?_cons_zero, List.getElem?_cons_succ, Nat.reduceAdd, Nat.zero_add, Nat.add_zero, Nat.reduceLeDiff, Nat.reduceSub, ↓reduceIte, List.drop_succ_cons, List.drop_zero, List.take_succ_cons, List.take_zero, Bool.false_eq_true, List.nil_append, List.cons_append, Bool.not_true, Bool.not_false, cond_true, cond_false, bne, lv_ret, lv_normal, res1, res2, lv2_some, res_var, res_cell, lvf_v, lvf_slc]

/-- a loop's rounds look at nothing but what it goes on with -/
theorem loop_cong {call : CallF} {K : Nat} {b : CC} {keep : List Bool} {m : Nat} {v1 v2 : List AV} {h : List AO} (e : clr keep v1 = clr keep v2) : loopN (exec call K b) keep (m + 1) v1 h = loopN (exec call K b) keep (m + 1) v2 h := by
  simp only [loopN, e]

theorem wrap_succ {i len : Nat} (h : i < len) (hm : len ≤ maxLen) : IntKind.i64.wrap ((i : Int) + 1) = ((i + 1 : Nat) : Int) := by
  rw [wrap_ok (by omega) (by have : maxLen = 9223372036854775807 := rfl; omega)]; simp

theorem left_loop {K : Nat} {ex nn : Bool} {es : List AV} (hmax : es.length ≤ maxLen) :
    ∀ (l : List Tm) (i : Nat) (m : Int) (h : List AO), i + l.length = es.length → All2 (es.drop i) l → (∀ t ∈ l, ∀ (e : AV) (m : Int), IsT e t → callW F 46 [e, .v (.int .i64 m)] [] = some (.v (.int .i64 (left t m)), [])) →
      ∃ h', loopN (exec (callW F) K c46_9) K46 (l.length + 1) (L46 (.slc 4 ex nn es) es.length i m) h = some (.exit 0, [.junk, .v (.int .i64 (leftL l m)), .junk, .junk, .junk, .slc 4 ex nn es, .v (.int .i64 es.length), .v (.int .i64 es.length), .v (.bool false), .junk], h') ∨
        ∃ vs, loopN (exec (callW F) K c46_9) K46 (l.length + 1) (L46 (.slc 4 ex nn es) es.length i m) h = some (.ret, vs, h') ∧ getO vs [] (.var 3) = .v (.int .i64 (leftL l m)) := by
  intro l
  induction l with
  | nil =>
    intro i m h hi _ _
    refine ⟨h, .inl (loop_exit ?_)⟩
    have hil : i = es.length := by simpa using hi
    subst hil
    have hlt : decide ((es.length : Int) < (es.length : Int)) = false := by simp
    simp only [K46, L46, leftL, c46_9, c46_3, hlt, run_nil, run_cons, stp_plain, stp_guard, put_some, pass_eq, pick_tt, pick_ff, pick_tf, pick_ft, pick_u, reg_some, thn_normal, thn_exit, thn_ret, cnd_t, cnd_f, blk_normal, blk_ret, blk_exit, x_seq, x_region, x_cond, x_block, x_loop, x_ret, x_exit, x_skip, e_mov, e_pick, pk_t, pk_f, withH_some, e_box, bx_some, e_load, e_store, stH_some, e_nil, e_bin, e_eqv, eqH_f, eqH_t, e_un, e_fa, e_ia, ia_eq, nat_eq, natV_nat, e_len, lnH_some, e_extract, ex_0, ex_1, e_call0, e_call1, e_call2, e_call3, pc0_eq, pc1_some, pc2_some, pc3_some, fin_some, g_var0, g_vars, g_loc0, g_locs, g_int, g_bool, g_str, g_sl, s_none, s_zero, s_succ, AV.cl, evFa, evNil, evLoad, asEl, evBin, intBin, strBin, evUn, len_nil, len_slc, len_str, clr, List.length_nil, List.length_cons, List.getElem?_cons_zero, List.getElem?_cons_succ, Nat.reduceAdd, Nat.zero_add, Nat.add_zero, Nat.reduceLeDiff, Nat.reduceSub, ↓reduceIte, List.drop_succ_cons, List.drop_zero, List.take_succ_cons, List.take_zero, Bool.false_eq_true, List.nil_append, List.cons_append, Bool.not_true, Bool.not_false, cond_true, cond_false, bne, lv_ret, lv_normal, res1, res2, lv2_some, res_var, res_cell, lvf_v, lvf_slc]
  | cons t l ih =>
    intro i m h hi hes hcall
    have hil : i < es.length := by simp at hi; omega
    have he : es[i]? = some (es[i]'hil) := List.getElem?_eq_getElem _
    have hd : es.drop i = es[i] :: es.drop (i + 1) := List.drop_eq_getElem_cons hil
    rw [hd] at hes
    cases hes with
    | cons _ _ _ _ hT hs =>
    by_cases hm : m < 0
    · -- below 0: it leaves
      refine ⟨h ++ [.box (es[i]).cells], .inr ⟨_, loop_ret (v' := [.junk, .v (.int .i64 m), .junk, .v (.int .i64 m), .ptr h.length 0, .slc 4 ex nn es, .v (.int .i64 es.length), .v (.int .i64 i), .v (.bool true), .v (.bool true)]) ?_, ?_⟩⟩
      · have hlt : (decide ((i : Int) < (es.length : Int))) = true := by simp; omega
        have hneg : decide (m < 0) = true := by simpa using hm
        have q1 : ∀ h, iaV h 4 (.slc 4 ex nn es) (some i) = some (.ip (es[i]).cells) := fun h => iaV_slc he
        have q3 : ∀ h : List AO, evLoad h true 4 (.ip (es[i]).cells) = some es[i] := fun h => hT.load
        have q6 : ∀ (h : List AO) (cs : List AV), cs.length = 4 → evStore (h ++ [.box cs]) 4 (.ptr h.length 0) es[i] = some (h ++ [.box (es[i]).cells]) := fun h cs hl => st_new hT.cl.1 hT.cl.2 hl
        have q9 : (ofVal (.agg #[(.int .i64 0), (.string ⟨#[]⟩), (.int .i64 0), (.slice none 0 0)])).cl = some [.v (.int .i64 0), .v (.string ⟨#[]⟩), .v (.int .i64 0), .v (.slice none 0 0)] := by simp [ofVal, AV.cl, Value.oneCell']
        simp only [K46, L46, c46_9, c46_3, c46_4, c46_5, c46_6, hlt, hneg, q1, q3, q6, q9, g_agg, run_nil, run_cons, stp_plain, stp_guard, put_some, pass_eq, pick_tt, pick_ff, pick_tf, pick_ft, pick_u, reg_some, thn_normal, thn_exit, thn_ret, cnd_t, cnd_f, blk_normal, blk_ret, blk_exit, x_seq, x_region, x_cond, x_block, x_loop, x_ret, x_exit, x_skip, e_mov, e_pick, pk_t, pk_f, withH_some, e_box, bx_some, e_load, e_store, stH_some, e_nil, e_bin, e_eqv, eqH_f, eqH_t, e_un, e_fa, e_ia, ia_eq, nat_eq, natV_nat, e_len, lnH_some, e_extract, ex_0, ex_1, e_call0, e_call1, e_call2, e_call3, pc0_eq, pc1_some, pc2_some, pc3_some, fin_some, g_var0, g_vars, g_loc0, g_locs, g_int, g_bool, g_str, g_sl, s_none, s_zero, s_succ, evFa, evNil, asEl, evBin, intBin, strBin, evUn, len_nil, len_slc, len_str, clr, List.length_nil, List.length_cons, List.getElem?_cons_zero, List.getElem?_cons_succ, Nat.reduceAdd, Nat.zero_add, Nat.add_zero, Nat.reduceLeDiff, Nat.reduceSub, ↓reduceIte, List.drop_succ_cons, List.drop_zero, List.take_succ_cons, List.take_zero, Bool.false_eq_true, List.nil_append, List.cons_append, Bool.not_true, Bool.not_false, cond_true, cond_false, bne, lv_ret, lv_normal, res1, res2, lv2_some, res_var, res_cell, lvf_v, lvf_slc]
      · simp only [leftL, if_pos hm, g_vars, g_var0]
    · have st := left_step (K := K) (ex := ex) (nn := nn) (h := h) he hT (by omega) (hcall t (by simp) _ m hT)
      rw [wrap_succ hil hmax] at st
      have e1 : clr K46 (L46 (.slc 4 ex nn es) es.length i m) = L46 (.slc 4 ex nn es) es.length i m := rfl
      rw [show (t :: l).length + 1 = (l.length + 1) + 1 from rfl, loop_normal (by rw [e1]; exact st)]
      obtain ⟨h', hh⟩ := ih (i + 1) (left t m) (h ++ [.box (es[i]).cells]) (by simp at hi; omega) hs (fun t ht => hcall t (by simp [ht]))
      refine ⟨h', ?_⟩
      rw [loop_cong (v2 := L46 (.slc 4 ex nn es) es.length ((i + 1 : Nat) : Int) (left t m)) (by rfl), leftL, if_neg hm]
      exact hh

theorem left_ok : ∀ (N : Nat) (t : Tm) (a : AV) (m : Int), SizeOf.sizeOf t < N → IsT a t → callW F 46 [a, .v (.int .i64 m)] [] = some (.v (.int .i64 (left t m)), []) := by
  intro N
  induction N with
  | zero => intro t a m h; omega
  | succ N ih =>
    intro t a m hN ha
    cases ha with
    | mk k s n c l hc =>
    have h5 := Tm.mk.sizeOf_spec k s n l
    have hcall : ∀ t ∈ l, ∀ (e : AV) (m : Int), IsT e t → callW F 46 [e, .v (.int .i64 m)] [] = some (.v (.int .i64 (left t m)), []) := by
      intro t ht e m hT
      have := List.sizeOf_lt_of_mem ht
      exact ih t e m (by omega) hT
    refine callW_pure (c := c46) rfl rfl (l.length + 1) ?_
    rw [left]
    cases hc with
    | nil =>
      have hlt : decide ((0 : Int) < 0) = false := by simp
      have hl : ∀ (K : Nat) (vars : List AV) (h : List AO) (m : Int), clr [false, true, false, false, false, true, true, true, false, false] vars = [.junk, .v (.int .i64 m), .junk, .junk, .junk, .v (.slice none 0 0), .v (.int .i64 ((0 : Nat) : Int)), .v (.int .i64 0), .junk, .junk] →
          loopN (exec (callW F) K c46_9) [false, true, false, false, false, true, true, true, false, false] 1 vars h = some (.exit 0, [.junk, .v (.int .i64 m), .junk, .junk, .junk, .v (.slice none 0 0), .v (.int .i64 ((0 : Nat) : Int)), .v (.int .i64 0), .v (.bool false), .junk], h) := by
        intro K vars h m hv
        refine loop_exit (n := 0) ?_
        rw [hv]
        have hlt : decide ((0 : Int) < ((0 : Nat) : Int)) = false := by simp
        simp only [c46_9, c46_3, hlt, run_nil, run_cons, stp_plain, stp_guard, put_some, pass_eq, pick_tt, pick_ff, pick_tf, pick_ft, pick_u, reg_some, thn_normal, thn_exit, thn_ret, cnd_t, cnd_f, blk_normal, blk_ret, blk_exit, x_seq, x_region, x_cond, x_block, x_loop, x_ret, x_exit, x_skip, e_mov, e_pick, pk_t, pk_f, withH_some, e_box, bx_some, e_load, e_store, stH_some, e_nil, e_bin, e_eqv, eqH_f, eqH_t, e_un, e_fa, e_ia, ia_eq, nat_eq, natV_nat, e_len, lnH_some, e_extract, ex_0, ex_1, e_call0, e_call1, e_call2, e_call3, pc0_eq, pc1_some, pc2_some, pc3_some, fin_some, g_var0, g_vars, g_loc0, g_locs, g_int, g_bool, g_str, g_sl, s_none, s_zero, s_succ, AV.cl, evFa, evNil, evLoad, asEl, evBin, intBin, strBin, evUn, len_nil, len_slc, len_str, clr, List.length_nil, List.length_cons, List.getElem?_cons_zero, List.getElem?_cons_succ, Nat.reduceAdd, Nat.zero_add, Nat.add_zero, Nat.reduceLeDiff, Nat.reduceSub, ↓reduceIte, List.drop_succ_cons, List.drop_zero, List.take_succ_cons, List.take_zero, Bool.false_eq_true, List.nil_append, List.cons_append, Bool.not_true, Bool.not_false, cond_true, cond_false, bne, lv_ret, lv_normal, res1, res2, lv2_some, res_var, res_cell, lvf_v, lvf_slc]
      simp only [c46, start, List.replicate, c46_0, c46_1, c46_2, c46_10, leftL, run_nil, run_cons, stp_plain, stp_guard, put_some, pass_eq, pick_tt, pick_ff, pick_tf, pick_ft, pick_u, reg_some, thn_normal, thn_exit, thn_ret, cnd_t, cnd_f, blk_normal, blk_ret, blk_exit, x_seq, x_region, x_cond, x_block, x_loop, x_ret, x_exit, x_skip, e_mov, e_pick, pk_t, pk_f, withH_some, e_box, bx_some, e_load, e_store, stH_some, e_nil, e_bin, e_eqv, eqH_f, eqH_t, e_un, e_fa, e_ia, ia_eq, nat_eq, natV_nat, e_len, lnH_some, e_extract, ex_0, ex_1, e_call0, e_call1, e_call2, e_call3, pc0_eq, pc1_some, pc2_some, pc3_some, fin_some, g_var0, g_vars, g_loc0, g_locs, g_int, g_bool, g_str, g_sl, s_none, s_zero, s_succ, AV.cl, evFa, evNil, evLoad, asEl, evBin, intBin, strBin, evUn, len_nil, len_slc, len_str, clr, List.length_nil, List.length_cons, List.getElem?_cons_zero, List.getElem?_cons_succ, Nat.reduceAdd, Nat.zero_add, Nat.add_zero, Nat.reduceLeDiff, Nat.reduceSub, ↓reduceIte, List.drop_succ_cons, List.drop_zero, List.take_succ_cons, List.take_zero, Bool.false_eq_true, List.nil_append, List.cons_append, Bool.not_true, Bool.not_false, cond_true, cond_false, bne, lv_ret, lv_normal, res1, res2, lv2_some, res_var, res_cell, lvf_v, lvf_slc]
      rw [hl _ _ _ (IntKind.i64.wrap (m - 1)) (by rfl)]
      simp only [run_nil, run_cons, stp_plain, stp_guard, put_some, pass_eq, pick_tt, pick_ff, pick_tf, pick_ft, pick_u, reg_some, thn_normal, thn_exit, thn_ret, cnd_t, cnd_f, blk_normal, blk_ret, blk_exit, x_seq, x_region, x_cond, x_block, x_loop, x_ret, x_exit, x_skip, e_mov, e_pick, pk_t, pk_f, withH_some, e_box, bx_some, e_load, e_store, stH_some, e_nil, e_bin, e_eqv, eqH_f, eqH_t, e_un, e_fa, e_ia, ia_eq, nat_eq, natV_nat, e_len, lnH_some, e_extract, ex_0, ex_1, e_call0, e_call1, e_call2, e_call3, pc0_eq, pc1_some, pc2_some, pc3_some, fin_some, g_var0, g_vars, g_loc0, g_locs, g_int, g_bool, g_str, g_sl, s_none, s_zero, s_succ, AV.cl, evFa, evNil, evLoad, asEl, evBin, intBin, strBin, evUn, len_nil, len_slc, len_str, clr, List.length_nil, List.length_cons, List.getElem?_cons_zero, List.getElem?_cons_succ, Nat.reduceAdd, Nat.zero_add, Nat.add_zero, Nat.reduceLeDiff, Nat.reduceSub, ↓reduceIte, List.drop_succ_cons, List.drop_zero, List.take_succ_cons, List.take_zero, Bool.false_eq_true, List.nil_append, List.cons_append, Bool.not_true, Bool.not_false, cond_true, cond_false, bne, lv_ret, lv_normal, res1, res2, lv2_some, res_var, res_cell, lvf_v, lvf_slc]
    | slc ex nn es l hes hm =>
      have e1 := hes.length
      simp only [c46, start, List.replicate, c46_0, c46_1, c46_2, c46_10, run_nil, run_cons, stp_plain, stp_guard, put_some, pass_eq, pick_tt, pick_ff, pick_tf, pick_ft, pick_u, reg_some, thn_normal, thn_exit, thn_ret, cnd_t, cnd_f, blk_normal, blk_ret, blk_exit, x_seq, x_region, x_cond, x_block, x_loop, x_ret, x_exit, x_skip, e_mov, e_pick, pk_t, pk_f, withH_some, e_box, bx_some, e_load, e_store, stH_some, e_nil, e_bin, e_eqv, eqH_f, eqH_t, e_un, e_fa, e_ia, ia_eq, nat_eq, natV_nat, e_len, lnH_some, e_extract, ex_0, ex_1, e_call0, e_call1, e_call2, e_call3, pc0_eq, pc1_some, pc2_some, pc3_some, fin_some, g_var0, g_vars, g_loc0, g_locs, g_int, g_bool, g_str, g_sl, s_none, s_zero, s_succ, AV.cl, evFa, evNil, evLoad, asEl, evBin, intBin, strBin, evUn, len_nil, len_slc, len_str, clr, List.length_nil, List.length_cons, List.getElem?_cons_zero, List.getElem?_cons_succ, Nat.reduceAdd, Nat.zero_add, Nat.add_zero, Nat.reduceLeDiff, Nat.reduceSub, ↓reduceIte, List.drop_succ_cons, List.drop_zero, List.take_succ_cons, List.take_zero, Bool.false_eq_true, List.nil_append, List.cons_append, Bool.not_true, Bool.not_false, cond_true, cond_false, bne, lv_ret, lv_normal, res1, res2, lv2_some, res_var, res_cell, lvf_v, lvf_slc]
      obtain ⟨h', hh⟩ := left_loop (K := l.length + 1) (ex := ex) (nn := nn) hm l 0 (IntKind.i64.wrap (m - 1)) [.box [.v (.int .i64 k), .v (.string s), .v (.int .i64 n), .slc 4 ex nn es]] (by omega) (by simpa using hes) hcall
      rw [show ([false, true, false, false, false, true, true, true, false, false] : List Bool) = K46 from rfl, loop_cong (v2 := L46 (.slc 4 ex nn es) es.length ((0 : Nat) : Int) (IntKind.i64.wrap (m - 1))) (by rfl)]
      rcases hh with hh | ⟨vs, hh, hv⟩
      · rw [hh]
        simp only [run_nil, run_cons, stp_plain, stp_guard, put_some, pass_eq, pick_tt, pick_ff, pick_tf, pick_ft, pick_u, reg_some, thn_normal, thn_exit, thn_ret, cnd_t, cnd_f, blk_normal, blk_ret, blk_exit, x_seq, x_region, x_cond, x_block, x_loop, x_ret, x_exit, x_skip, e_mov, e_pick, pk_t, pk_f, withH_some, e_box, bx_some, e_load, e_store, stH_some, e_nil, e_bin, e_eqv, eqH_f, eqH_t, e_un, e_fa, e_ia, ia_eq, nat_eq, natV_nat, e_len, lnH_some, e_extract, ex_0, ex_1, e_call0, e_call1, e_call2, e_call3, pc0_eq, pc1_some, pc2_some, pc3_some, fin_some, g_var0, g_vars, g_loc0, g_locs, g_int, g_bool, g_str, g_sl, s_none, s_zero, s_succ, AV.cl, evFa, evNil, evLoad, asEl, evBin, intBin, strBin, evUn, len_nil, len_slc, len_str, clr, List.length_nil, List.length_cons, List.getElem?_cons_zero, List.getElem?_cons_succ, Nat.reduceAdd, Nat.zero_add, Nat.add_zero, Nat.reduceLeDiff, Nat.reduceSub, ↓reduceIte, List.drop_succ_cons, List.drop_zero, List.take_succ_cons, List.take_zero, Bool.false_eq_true, List.nil_append, List.cons_append, Bool.not_true, Bool.not_false, cond_true, cond_false, bne, lv_ret, lv_normal, res1, res2, lv2_some, res_var, res_cell, lvf_v, lvf_slc]
      · rw [hh]
        simp only [hv, run_nil, run_cons, stp_plain, stp_guard, put_some, pass_eq, pick_tt, pick_ff, pick_tf, pick_ft, pick_u, reg_some, thn_normal, thn_exit, thn_ret, cnd_t, cnd_f, blk_normal, blk_ret, blk_exit, x_seq, x_region, x_cond, x_block, x_loop, x_ret, x_exit, x_skip, e_mov, e_pick, pk_t, pk_f, withH_some, e_box, bx_some, e_load, e_store, stH_some, e_nil, e_bin, e_eqv, eqH_f, eqH_t, e_un, e_fa, e_ia, ia_eq, nat_eq, natV_nat, e_len, lnH_some, e_extract, ex_0, ex_1, e_call0, e_call1, e_call2, e_call3, pc0_eq, pc1_some, pc2_some, pc3_some, fin_some, g_var0, g_vars, g_loc0, g_locs, g_int, g_bool, g_str, g_sl, s_none, s_zero, s_succ, AV.cl, evFa, evNil, evLoad, asEl, evBin, intBin, strBin, evUn, len_nil, len_slc, len_str, clr, List.length_nil, List.length_cons, List.getElem?_cons_zero, List.getElem?_cons_succ, Nat.reduceAdd, Nat.zero_add, Nat.add_zero, Nat.reduceLeDiff, Nat.reduceSub, ↓reduceIte, List.drop_succ_cons, List.drop_zero, List.take_succ_cons, List.take_zero, Bool.false_eq_true, List.nil_append, List.cons_append, Bool.not_true, Bool.not_false, cond_true, cond_false, bne, lv_ret, lv_normal, res1, res2, lv2_some, res_var, res_cell, lvf_v, lvf_slc]

theorem few_ok (t : Tm) (a : AV) (m : Int) (ha : IsT a t) : callW F 30 [a, .v (.int .i64 m)] [] = some (.v (.bool (decide (left t m ≥ 0))), []) := by
  refine callW_pure (c := c30) rfl rfl 0 ?_
  have q5 : ∀ h : List AO, a.snap1 h = some a := fun h => ha.snap
  have q8 : ∀ (h : List AO) (x : Int), (AV.v (.int .i64 x)).snap1 h = some (.v (.int .i64 x)) := fun _ _ => rfl
  have hc := left_ok _ t a m (Nat.lt_succ_self _) ha
  cases ha
  simp only [c30, start, List.replicate, c30_0, c30_1, q5, q8, hc, run_nil, run_cons, stp_plain, stp_guard, put_some, pass_eq, pick_tt, pick_ff, pick_tf, pick_ft, pick_u, reg_some, thn_normal, thn_exit, thn_ret, cnd_t, cnd_f, blk_normal, blk_ret, blk_exit, x_seq, x_region, x_cond, x_block, x_loop, x_ret, x_exit, x_skip, e_mov, e_pick, pk_t, pk_f, withH_some, e_box, bx_some, e_load, e_store, stH_some, e_nil, e_bin, e_eqv, eqH_f, eqH_t, e_un, e_fa, e_ia, ia_eq, nat_eq, natV_nat, e_len, lnH_some, e_extract, ex_0, ex_1, e_call0, e_call1, e_call2, e_call3, pc0_eq, pc1_some, pc2_some, pc3_some, fin_some, g_var0, g_vars, g_loc0, g_locs, g_int, g_bool, g_str, g_sl, s_none, s_zero, s_succ, AV.cl, evFa, evNil, evLoad, asEl, evBin, intBin, strBin, evUn, len_nil, len_slc, len_str, clr, List.length_nil, List.length_cons, List.getElem?_cons_zero, List.getElem?_cons_succ, Nat.reduceAdd, Nat.zero_add, Nat.add_zero, Nat.reduceLeDiff, Nat.reduceSub, ↓reduceIte, List.drop_succ_cons, List.drop_zero, List.take_succ_cons, List.take_zero, Bool.false_eq_true, List.nil_append, List.cons_append, Bool.not_true, Bool.not_false, cond_true, cond_false, bne, lv_ret, lv_normal, res1, res2, lv2_some, res_var, res_cell, lvf_v, lvf_slc]
end Go.AE.Ytpgoibncgekflaa
end

/-! Whether bindings and terms are too great; the program's Look, called. -/
section
set_option linter.unusedVariables false
set_option linter.unusedSimpArgs false
namespace Go.AE.Ytpgoibncgekflaa
open Go Go.AE Go.Proofs.Ytpgoibncgekflaa

/-- A binding: the Var, the term. -/
inductive IsBd : AV → Int → Tm → Prop
  | mk (v : Int) (cs : List AV) (t : Tm) (h : IsT (.agg cs) t) : IsBd (.agg (.v (.int .i64 v) :: cs)) v t
theorem IsBd.load {h : List AO} {a : AV} {v : Int} {t : Tm} (hb : IsBd a v t) : evLoad h true 5 (.ip a.cells) = some a := by
  cases hb with
  | mk v cs t h => cases h with | mk k s n c l hc => rfl
theorem IsBd.cl {a : AV} {v : Int} {t : Tm} (hb : IsBd a v t) : a.cl = some a.cells ∧ a.cells.length = 5 := by
  cases hb with
  | mk v cs t h => cases h with | mk k s n c l hc => exact ⟨rfl, rfl⟩

def K10 : List Bool := [false, true, false, false, false, false, true, true, true, false, false, false, false, false, false, false]
def L10 (ts c : AV) (len i : Int) : List AV := [.junk, ts, .junk, .junk, .junk, .junk, c, .v (.int .i64 len), .v (.int .i64 i), .junk, .junk, .junk, .junk, .junk, .junk, .junk]

theorem big_step {K : Nat} {ts : AV} {ex nn : Bool} {es : List AV} {h : List AO} {i : Nat} {e : AV} {v : Int} {t : Tm} (he : es[i]? = some e) (hb : IsBd e v t) :
    exec (callW F) K c10_9 (L10 ts (.slc 5 ex nn es) es.length i) h = if 0 ≤ left t 300 then
        some (.normal, [.junk, ts, .junk, .ptr h.length 0, .junk, .junk, .slc 5 ex nn es, .v (.int .i64 es.length), .v (.int .i64 (IntKind.i64.wrap (i + 1))), .v (.bool true), .v (.bool false), .junk, .junk, .junk, .junk, .junk], h ++ [.box e.cells])
      else some (.ret, [.junk, ts, .v (.bool true), .ptr h.length 0, .junk, .junk, .slc 5 ex nn es, .v (.int .i64 es.length), .v (.int .i64 i), .v (.bool true), .v (.bool true), .junk, .junk, .junk, .junk, .junk], h ++ [.box e.cells]) := by
  have hlt : (decide ((i : Int) < (es.length : Int))) = true := by
    have := (List.getElem?_eq_some_iff.1 he).1
    simp; omega
  have q1 : ∀ h, iaV h 5 (.slc 5 ex nn es) (some i) = some (.ip e.cells) := fun h => iaV_slc he
  have q3 : ∀ h : List AO, evLoad h true 5 (.ip e.cells) = some e := fun h => hb.load
  have q6 : ∀ (h : List AO) (cs : List AV), cs.length = 5 → evStore (h ++ [.box cs]) 5 (.ptr h.length 0) e = some (h ++ [.box e.cells]) := fun h cs hl => st_new hb.cl.1 hb.cl.2 hl
  have q9 : (ofVal (.agg #[(.int .i64 0), (.int .i64 0), (.string ⟨#[]⟩), (.int .i64 0), (.slice none 0 0)])).cl = some [.v (.int .i64 0), .v (.int .i64 0), .v (.string ⟨#[]⟩), .v (.int .i64 0), .v (.slice none 0 0)] := by simp [ofVal, AV.cl, Value.oneCell']
  cases hb with
  | mk v cs t ht =>
  have hf := few_ok t _ 300 ht
  have q5 : ∀ h : List AO, (AV.agg cs).snap1 h = some (.agg cs) := fun h => ht.snap
  have q7 : ∀ h : List AO, evLoad (h ++ [.box (AV.agg (.v (.int .i64 v) :: cs)).cells]) true 4 (.ptr h.length 1) = some (.agg cs) := by
    intro h; rw [ld_new]
    cases ht with | mk k s n c l hc => rfl
  have q8 : ∀ (h : List AO) (x : Int), (AV.v (.int .i64 x)).snap1 h = some (.v (.int .i64 x)) := fun _ _ => rfl
  by_cases hp : 0 ≤ left t 300
  · have hd : decide (left t 300 ≥ 0) = true := by simpa using hp
    rw [hd] at hf
    rw [if_pos hp]
    simp only [L10, c10_9, c10_4, c10_5, c10_6, c10_7, c10_8, hlt, q1, q3, q5, q6, q7, q8, q9, g_agg, hf, run_nil, run_cons, stp_plain, stp_guard, put_some, pass_eq, pick_tt, pick_ff, pick_tf, pick_ft, pick_u, reg_some, thn_normal, thn_exit, thn_ret, cnd_t, cnd_f, blk_normal, blk_ret, blk_exit, x_seq, x_region, x_cond, x_block, x_loop, x_ret, x_exit, x_skip, e_mov, e_pick, pk_t, pk_f, withH_some, e_box, bx_some, e_load, e_store, stH_some, e_nil, e_bin, e_eqv, eqH_f, eqH_t, e_un, e_fa, e_ia, ia_eq, nat_eq, natV_nat, e_len, lnH_some, e_extract, ex_0, ex_1, e_call0, e_call1, e_call2, e_call3, pc0_eq, pc1_some, pc2_some, pc3_some, fin_some, g_var0, g_vars, g_loc0, g_locs, g_int, g_bool, g_str, g_sl, s_none, s_zero, s_succ, evFa, evNil, asEl, evBin, intBin, strBin, evUn, len_nil, len_slc, len_str, clr, List.length_nil, List.length_cons, List.getElem?_cons_zero, List.getElem?_cons_succ, Nat.reduceAdd, Nat.zero_add, Nat.add_zero, Nat.reduceLeDiff, Nat.reduceSub, ↓reduceIte, List.drop_succ_cons, List.drop_zero, List.take_succ_cons, List.take_zero, Bool.false_eq_true, List.nil_append, List.cons_append, Bool.not_true, Bool.not_false, cond_true, cond_false, bne, lv_ret, lv_normal, res1, res2, lv2_some, res_var, res_cell, lvf_v, lvf_slc]
  · have hd : decide (left t 300 ≥ 0) = false := by simpa using hp
    rw [hd] at hf
    rw [if_neg hp]
    simp only [L10, c10_9, c10_4, c10_5, c10_6, c10_7, c10_8, hlt, q1, q3, q5, q6, q7, q8, q9, g_agg, hf, run_nil, run_cons, stp_plain, stp_guard, put_some, pass_eq, pick_tt, pick_ff, pick_tf, pick_ft, pick_u, reg_some, thn_normal, thn_exit, thn_ret, cnd_t, cnd_f, blk_normal, blk_ret, blk_exit, x_seq, x_region, x_cond, x_block, x_loop, x_ret, x_exit, x_skip, e_mov, e_pick, pk_t, pk_f, withH_some, e_box, bx_some, e_load, e_store, stH_some, e_nil, e_bin, e_eqv, eqH_f, eqH_t, e_un, e_fa, e_ia, ia_eq, nat_eq, natV_nat, e_len, lnH_some, e_extract, ex_0, ex_1, e_call0, e_call1, e_call2, e_call3, pc0_eq, pc1_some, pc2_some, pc3_some, fin_some, g_var0, g_vars, g_loc0, g_locs, g_int, g_bool, g_str, g_sl, s_none, s_zero, s_succ, evFa, evNil, asEl, evBin, intBin, strBin, evUn, len_nil, len_slc, len_str, clr, List.length_nil, List.length_cons, List.getElem?_cons_zero, List.getElem?_cons_succ, Nat.reduceAdd, Nat.zero_add, Nat.add_zero, Nat.reduceLeDiff, Nat.reduceSub, ↓reduceIte, List.drop_succ_cons, List.drop_zero, List.take_succ_cons, List.take_zero, Bool.false_eq_true, List.nil_append, List.cons_append, Bool.not_true, Bool.not_false, cond_true, cond_false, bne, lv_ret, lv_normal, res1, res2, lv2_some, res_var, res_cell, lvf_v, lvf_slc]

inductive AllB : List AV → List (Int × Tm) → Prop
  | nil : AllB [] []
  | cons (a : AV) (v : Int) (t : Tm) (es : List AV) (bs : List (Int × Tm)) (h : IsBd a v t) (hs : AllB es bs) : AllB (a :: es) ((v, t) :: bs)
theorem AllB.length : ∀ {es : List AV} {l : List (Int × Tm)}, AllB es l → es.length = l.length
  | _, _, .nil => rfl
  | _, _, .cons _ _ _ _ _ _ hs => by simp [hs.length]
/-- A slice of bindings. -/
inductive IsB : AV → List (Int × Tm) → Prop
  | nil : IsB (.v (.slice none 0 0)) []
  | slc (ex nn : Bool) (es : List AV) (l : List (Int × Tm)) (h : AllB es l) (hb : es.length ≤ maxLen) : IsB (.slc 5 ex nn es) l

theorem big_loop1 {K : Nat} {ts : AV} {ex nn : Bool} {es : List AV} (hmax : es.length ≤ maxLen) :
    ∀ (l : List (Int × Tm)) (i : Nat) (h : List AO), i + l.length = es.length → AllB (es.drop i) l →
      ∃ h', if l.all (fun p => decide (0 ≤ left p.2 300)) = true then
          loopN (exec (callW F) K c10_9) K10 (l.length + 1) (L10 ts (.slc 5 ex nn es) es.length i) h = some (.exit 0, [.junk, ts, .junk, .junk, .junk, .junk, .slc 5 ex nn es, .v (.int .i64 es.length), .v (.int .i64 es.length), .v (.bool false), .junk, .junk, .junk, .junk, .junk, .junk], h')
        else ∃ vs, loopN (exec (callW F) K c10_9) K10 (l.length + 1) (L10 ts (.slc 5 ex nn es) es.length i) h = some (.ret, vs, h') ∧ getO vs [] (.var 2) = .v (.bool true) := by
  intro l
  induction l with
  | nil =>
    intro i h hi _
    refine ⟨h, ?_⟩
    rw [if_pos (by rfl)]
    refine loop_exit ?_
    have hil : i = es.length := by simpa using hi
    subst hil
    have hlt : decide ((es.length : Int) < (es.length : Int)) = false := by simp
    simp only [K10, L10, c10_9, c10_4, hlt, run_nil, run_cons, stp_plain, stp_guard, put_some, pass_eq, pick_tt, pick_ff, pick_tf, pick_ft, pick_u, reg_some, thn_normal, thn_exit, thn_ret, cnd_t, cnd_f, blk_normal, blk_ret, blk_exit, x_seq, x_region, x_cond, x_block, x_loop, x_ret, x_exit, x_skip, e_mov, e_pick, pk_t, pk_f, withH_some, e_box, bx_some, e_load, e_store, stH_some, e_nil, e_bin, e_eqv, eqH_f, eqH_t, e_un, e_fa, e_ia, ia_eq, nat_eq, natV_nat, e_len, lnH_some, e_extract, ex_0, ex_1, e_call0, e_call1, e_call2, e_call3, pc0_eq, pc1_some, pc2_some, pc3_some, fin_some, g_var0, g_vars, g_loc0, g_locs, g_int, g_bool, g_str, g_sl, s_none, s_zero, s_succ, AV.cl, evFa, evNil, evLoad, asEl, evBin, intBin, strBin, evUn, len_nil, len_slc, len_str, clr, List.length_nil, List.length_cons, List.getElem?_cons_zero, List.getElem?_cons_succ, Nat.reduceAdd, Nat.zero_add, Nat.add_zero, Nat.reduceLeDiff, Nat.reduceSub, ↓reduceIte, List.drop_succ_cons, List.drop_zero, List.take_succ_cons, List.take_zero, Bool.false_eq_true, List.nil_append, List.cons_append, Bool.not_true, Bool.not_false, cond_true, cond_false, bne, lv_ret, lv_normal, res1, res2, lv2_some, res_var, res_cell, lvf_v, lvf_slc]
  | cons p l ih =>
    intro i h hi hes
    have hil : i < es.length := by simp at hi; omega
    have he : es[i]? = some (es[i]'hil) := List.getElem?_eq_getElem _
    have hd : es.drop i = es[i] :: es.drop (i + 1) := List.drop_eq_getElem_cons hil
    rw [hd] at hes
    cases hes with
    | cons _ v t _ _ hT hs =>
    have st := big_step (K := K) (ts := ts) (ex := ex) (nn := nn) (h := h) he hT
    have e1 : clr K10 (L10 ts (.slc 5 ex nn es) es.length i) = L10 ts (.slc 5 ex nn es) es.length i := rfl
    by_cases hp : 0 ≤ left t 300
    · rw [if_pos hp, wrap_succ hil hmax] at st
      obtain ⟨h', hh⟩ := ih (i + 1) (h ++ [.box (es[i]).cells]) (by simp at hi; omega) hs
      refine ⟨h', ?_⟩
      rw [show (((v, t) :: l).length + 1) = (l.length + 1) + 1 from rfl, loop_normal (by rw [e1]; exact st), loop_cong (v2 := L10 ts (.slc 5 ex nn es) es.length ((i + 1 : Nat) : Int)) (by rfl)]
      have : ((v, t) :: l).all (fun p => decide (0 ≤ left p.2 300)) = l.all (fun p => decide (0 ≤ left p.2 300)) := by simp [hp]
      rw [this]
      exact hh
    · rw [if_neg hp] at st
      refine ⟨h ++ [.box (es[i]).cells], ?_⟩
      have : ((v, t) :: l).all (fun p => decide (0 ≤ left p.2 300)) = false := by simp [hp]
      rw [this, if_neg (by simp)]
      exact ⟨_, loop_ret (by rw [e1]; exact st), rfl⟩

def K10b : List Bool := [false, false, false, false, false, false, false, false, false, false, false, true, true, true, false, false]
def L10b (c : AV) (len i : Int) : List AV := [.junk, .junk, .junk, .junk, .junk, .junk, .junk, .junk, .junk, .junk, .junk, c, .v (.int .i64 len), .v (.int .i64 i), .junk, .junk]

theorem big_step2 {K : Nat} {ex nn : Bool} {es : List AV} {h : List AO} {i : Nat} {e : AV} {t : Tm} (he : es[i]? = some e) (ht : IsT e t) :
    exec (callW F) K c10_16 (L10b (.slc 4 ex nn es) es.length i) h = if 0 ≤ left t 3000 then
        some (.normal, [.junk, .junk, .junk, .junk, .ptr h.length 0, .junk, .junk, .junk, .junk, .junk, .junk, .slc 4 ex nn es, .v (.int .i64 es.length), .v (.int .i64 (IntKind.i64.wrap (i + 1))), .v (.bool true), .v (.bool false)], h ++ [.box e.cells])
      else some (.ret, [.junk, .junk, .v (.bool true), .junk, .ptr h.length 0, .junk, .junk, .junk, .junk, .junk, .junk, .slc 4 ex nn es, .v (.int .i64 es.length), .v (.int .i64 i), .v (.bool true), .v (.bool true)], h ++ [.box e.cells]) := by
  have hlt : (decide ((i : Int) < (es.length : Int))) = true := by
    have := (List.getElem?_eq_some_iff.1 he).1
    simp; omega
  have q1 : ∀ h, iaV h 4 (.slc 4 ex nn es) (some i) = some (.ip e.cells) := fun h => iaV_slc he
  have q3 : ∀ h : List AO, evLoad h true 4 (.ip e.cells) = some e := fun h => ht.load
  have q5 : ∀ h : List AO, e.snap1 h = some e := fun h => ht.snap
  have q6 : ∀ (h : List AO) (cs : List AV), cs.length = 4 → evStore (h ++ [.box cs]) 4 (.ptr h.length 0) e = some (h ++ [.box e.cells]) := fun h cs hl => st_new ht.cl.1 ht.cl.2 hl
  have q7 : ∀ h : List AO, evLoad (h ++ [.box e.cells]) true 4 (.ptr h.length 0) = some e := fun h => by rw [ld_new, if_pos (by rw [ht.cl.2]; omega), List.drop_zero]; exact ht.asEl
  have q8 : ∀ (h : List AO) (x : Int), (AV.v (.int .i64 x)).snap1 h = some (.v (.int .i64 x)) := fun _ _ => rfl
  have q9 : (ofVal (.agg #[(.int .i64 0), (.string ⟨#[]⟩), (.int .i64 0), (.slice none 0 0)])).cl = some [.v (.int .i64 0), .v (.string ⟨#[]⟩), .v (.int .i64 0), .v (.slice none 0 0)] := by simp [ofVal, AV.cl, Value.oneCell']
  have hf := few_ok t _ 3000 ht
  by_cases hp : 0 ≤ left t 3000
  · have hd : decide (left t 3000 ≥ 0) = true := by simpa using hp
    rw [hd] at hf
    rw [if_pos hp]
    simp only [L10b, c10_16, c10_11, c10_12, c10_13, c10_14, c10_15, hlt, q1, q3, q5, q6, q7, q8, q9, g_agg, hf, run_nil, run_cons, stp_plain, stp_guard, put_some, pass_eq, pick_tt, pick_ff, pick_tf, pick_ft, pick_u, reg_some, thn_normal, thn_exit, thn_ret, cnd_t, cnd_f, blk_normal, blk_ret, blk_exit, x_seq, x_region, x_cond, x_block, x_loop, x_ret, x_exit, x_skip, e_mov, e_pick, pk_t, pk_f, withH_some, e_box, bx_some, e_load, e_store, stH_some, e_nil, e_bin, e_eqv, eqH_f, eqH_t, e_un, e_fa, e_ia, ia_eq, nat_eq, natV_nat, e_len, lnH_some, e_extract, ex_0, ex_1, e_call0, e_call1, e_call2, e_call3, pc0_eq, pc1_some, pc2_some, pc3_some, fin_some, g_var0, g_vars, g_loc0, g_locs, g_int, g_bool, g_str, g_sl, s_none, s_zero, s_succ, evFa, evNil, asEl, evBin, intBin, strBin, evUn, len_nil, len_slc, len_str, clr, List.length_nil, List.length_cons, List.getElem?_cons_zero, List.getElem?_cons_succ, Nat.reduceAdd, Nat.zero_add, Nat.add_zero, Nat.reduceLeDiff, Nat.reduceSub, ↓reduceIte, List.drop_succ_cons, List.drop_zero, List.take_succ_cons, List.take_zero, Bool.false_eq_true, List.nil_append, List.cons_append, Bool.not_true, Bool.not_false, cond_true, cond_false, bne, lv_ret, lv_normal, res1, res2, lv2_some, res_var, res_cell, lvf_v, lvf_slc]
  · have hd : decide (left t 3000 ≥ 0) = false := by simpa using hp
    rw [hd] at hf
    rw [if_neg hp]
    simp only [L10b, c10_16, c10_11, c10_12, c10_13, c10_14, c10_15, hlt, q1, q3, q5, q6, q7, q8, q9, g_agg, hf, run_nil, run_cons, stp_plain, stp_guard, put_some, pass_eq, pick_tt, pick_ff, pick_tf, pick_ft, pick_u, reg_some, thn_normal, thn_exit, thn_ret, cnd_t, cnd_f, blk_normal, blk_ret, blk_exit, x_seq, x_region, x_cond, x_block, x_loop, x_ret, x_exit, x_skip, e_mov, e_pick, pk_t, pk_f, withH_some, e_box, bx_some, e_load, e_store, stH_some, e_nil, e_bin, e_eqv, eqH_f, eqH_t, e_un, e_fa, e_ia, ia_eq, nat_eq, natV_nat, e_len, lnH_some, e_extract, ex_0, ex_1, e_call0, e_call1, e_call2, e_call3, pc0_eq, pc1_some, pc2_some, pc3_some, fin_some, g_var0, g_vars, g_loc0, g_locs, g_int, g_bool, g_str, g_sl, s_none, s_zero, s_succ, evFa, evNil, asEl, evBin, intBin, strBin, evUn, len_nil, len_slc, len_str, clr, List.length_nil, List.length_cons, List.getElem?_cons_zero, List.getElem?_cons_succ, Nat.reduceAdd, Nat.zero_add, Nat.add_zero, Nat.reduceLeDiff, Nat.reduceSub, ↓reduceIte, List.drop_succ_cons, List.drop_zero, List.take_succ_cons, List.take_zero, Bool.false_eq_true, List.nil_append, List.cons_append, Bool.not_true, Bool.not_false, cond_true, cond_false, bne, lv_ret, lv_normal, res1, res2, lv2_some, res_var, res_cell, lvf_v, lvf_slc]

theorem big_loop2 {K : Nat} {ex nn : Bool} {es : List AV} (hmax : es.length ≤ maxLen) :
    ∀ (l : List Tm) (i : Nat) (h : List AO), i + l.length = es.length → All2 (es.drop i) l →
      ∃ h', if l.all (fun t => decide (0 ≤ left t 3000)) = true then
          loopN (exec (callW F) K c10_16) K10b (l.length + 1) (L10b (.slc 4 ex nn es) es.length i) h = some (.exit 2, [.junk, .junk, .junk, .junk, .junk, .junk, .junk, .junk, .junk, .junk, .junk, .slc 4 ex nn es, .v (.int .i64 es.length), .v (.int .i64 es.length), .v (.bool false), .junk], h')
        else ∃ vs, loopN (exec (callW F) K c10_16) K10b (l.length + 1) (L10b (.slc 4 ex nn es) es.length i) h = some (.ret, vs, h') ∧ getO vs [] (.var 2) = .v (.bool true) := by
  intro l
  induction l with
  | nil =>
    intro i h hi _
    refine ⟨h, ?_⟩
    rw [if_pos (by rfl)]
    refine loop_exit ?_
    have hil : i = es.length := by simpa using hi
    subst hil
    have hlt : decide ((es.length : Int) < (es.length : Int)) = false := by simp
    simp only [K10b, L10b, c10_16, c10_11, hlt, run_nil, run_cons, stp_plain, stp_guard, put_some, pass_eq, pick_tt, pick_ff, pick_tf, pick_ft, pick_u, reg_some, thn_normal, thn_exit, thn_ret, cnd_t, cnd_f, blk_normal, blk_ret, blk_exit, x_seq, x_region, x_cond, x_block, x_loop, x_ret, x_exit, x_skip, e_mov, e_pick, pk_t, pk_f, withH_some, e_box, bx_some, e_load, e_store, stH_some, e_nil, e_bin, e_eqv, eqH_f, eqH_t, e_un, e_fa, e_ia, ia_eq, nat_eq, natV_nat, e_len, lnH_some, e_extract, ex_0, ex_1, e_call0, e_call1, e_call2, e_call3, pc0_eq, pc1_some, pc2_some, pc3_some, fin_some, g_var0, g_vars, g_loc0, g_locs, g_int, g_bool, g_str, g_sl, s_none, s_zero, s_succ, AV.cl, evFa, evNil, evLoad, asEl, evBin, intBin, strBin, evUn, len_nil, len_slc, len_str, clr, List.length_nil, List.length_cons, List.getElem?_cons_zero, List.getElem?_cons_succ, Nat.reduceAdd, Nat.zero_add, Nat.add_zero, Nat.reduceLeDiff, Nat.reduceSub, ↓reduceIte, List.drop_succ_cons, List.drop_zero, List.take_succ_cons, List.take_zero, Bool.false_eq_true, List.nil_append, List.cons_append, Bool.not_true, Bool.not_false, cond_true, cond_false, bne, lv_ret, lv_normal, res1, res2, lv2_some, res_var, res_cell, lvf_v, lvf_slc]
  | cons t l ih =>
    intro i h hi hes
    have hil : i < es.length := by simp at hi; omega
    have he : es[i]? = some (es[i]'hil) := List.getElem?_eq_getElem _
    have hd : es.drop i = es[i] :: es.drop (i + 1) := List.drop_eq_getElem_cons hil
    rw [hd] at hes
    cases hes with
    | cons _ _ _ _ hT hs =>
    have st := big_step2 (K := K) (ex := ex) (nn := nn) (h := h) he hT
    have e1 : clr K10b (L10b (.slc 4 ex nn es) es.length i) = L10b (.slc 4 ex nn es) es.length i := rfl
    by_cases hp : 0 ≤ left t 3000
    · rw [if_pos hp, wrap_succ hil hmax] at st
      obtain ⟨h', hh⟩ := ih (i + 1) (h ++ [.box (es[i]).cells]) (by simp at hi; omega) hs
      refine ⟨h', ?_⟩
      rw [show ((t :: l).length + 1) = (l.length + 1) + 1 from rfl, loop_normal (by rw [e1]; exact st), loop_cong (v2 := L10b (.slc 4 ex nn es) es.length ((i + 1 : Nat) : Int)) (by rfl)]
      have : (t :: l).all (fun t => decide (0 ≤ left t 3000)) = l.all (fun t => decide (0 ≤ left t 3000)) := by simp [hp]
      rw [this]
      exact hh
    · rw [if_neg hp] at st
      refine ⟨h ++ [.box (es[i]).cells], ?_⟩
      have : (t :: l).all (fun t => decide (0 ≤ left t 3000)) = false := by simp [hp]
      rw [this, if_neg (by simp)]
      exact ⟨_, loop_ret (by rw [e1]; exact st), rfl⟩

def big (bs : List (Int × Tm)) (l : List Tm) : Bool := decide (100 < bs.length) || !(bs.all fun p => decide (0 ≤ left p.2 300)) || !(l.all fun t => decide (0 ≤ left t 3000))

theorem loop_more {step : List AV → List AO → CRun} {keep : List Bool} {n m : Nat} {v : List AV} {h : List AO} {r : AXit × List AV × List AO} (he : loopN step keep n v h = some r) (hle : n ≤ m) : loopN step keep m v h = some r :=
  loopN_mono (fun _ _ _ h => h) n m hle v h r he

/-- the second half -/
theorem big_rest {K : Nat} {ex nn : Bool} {es : List AV} {l : List Tm} (hes : All2 es l) (hm : es.length ≤ maxLen) (hK : l.length ≤ K) (x0 x2 x3 x4 x5 x6 x7 x8 x9 x10 x11 x12 x13 x14 x15 : AV) (h : List AO) :
    ∃ vs h', exec (callW F) (K + 1) (.seq (.seq (.region [] [] c10_10) (.block 2 (.loop [false, false, false, false, false, false, false, false, false, false, false, true, true, true, false, false] [] c10_16))) (.seq (.region [] [] c10_17) .ret)) [x0, .slc 4 ex nn es, x2, x3, x4, x5, x6, x7, x8, x9, x10, x11, x12, x13, x14, x15] h = some (.ret, vs, h') ∧ getO vs [] (.var 2) = .v (.bool !(l.all fun t => decide (0 ≤ left t 3000))) := by
  have e1 := hes.length
  obtain ⟨h', hh⟩ := big_loop2 (K := K + 1) (ex := ex) (nn := nn) hm l 0 h (by omega) (by simpa using hes)
  have start2 : exec (callW F) (K + 1) (.seq (.seq (.region [] [] c10_10) (.block 2 (.loop [false, false, false, false, false, false, false, false, false, false, false, true, true, true, false, false] [] c10_16))) (.seq (.region [] [] c10_17) .ret)) [x0, .slc 4 ex nn es, x2, x3, x4, x5, x6, x7, x8, x9, x10, x11, x12, x13, x14, x15] h =
      thn (callW F) (K + 1) (.seq (.region [] [] c10_17) .ret) (blk 2 (loopN (exec (callW F) (K + 1) c10_16) K10b (K + 1) [x0, .slc 4 ex nn es, x2, x3, x4, x5, x6, x7, x8, x9, x10, .slc 4 ex nn es, .v (.int .i64 es.length), .v (.int .i64 0), x14, x15] h)) := by
    simp only [K10b, c10_10, run_nil, run_cons, stp_plain, stp_guard, put_some, pass_eq, pick_tt, pick_ff, pick_tf, pick_ft, pick_u, reg_some, thn_normal, thn_exit, thn_ret, cnd_t, cnd_f, blk_normal, blk_ret, blk_exit, x_seq, x_region, x_cond, x_block, x_loop, x_ret, x_exit, x_skip, e_mov, e_pick, pk_t, pk_f, withH_some, e_box, bx_some, e_load, e_store, stH_some, e_nil, e_bin, e_eqv, eqH_f, eqH_t, e_un, e_fa, e_ia, ia_eq, nat_eq, natV_nat, e_len, lnH_some, e_extract, ex_0, ex_1, e_call0, e_call1, e_call2, e_call3, pc0_eq, pc1_some, pc2_some, pc3_some, fin_some, g_var0, g_vars, g_loc0, g_locs, g_int, g_bool, g_str, g_sl, s_none, s_zero, s_succ, AV.cl, evFa, evNil, evLoad, asEl, evBin, intBin, strBin, evUn, len_nil, len_slc, len_str, clr, List.length_nil, List.length_cons, List.getElem?_cons_zero, List.getElem?_cons_succ, Nat.reduceAdd, Nat.zero_add, Nat.add_zero, Nat.reduceLeDiff, Nat.reduceSub, ↓reduceIte, List.drop_succ_cons, List.drop_zero, List.take_succ_cons, List.take_zero, Bool.false_eq_true, List.nil_append, List.cons_append, Bool.not_true, Bool.not_false, cond_true, cond_false, bne, lv_ret, lv_normal, res1, res2, lv2_some, res_var, res_cell, lvf_v, lvf_slc]
  rw [start2, loop_cong (v2 := L10b (.slc 4 ex nn es) es.length ((0 : Nat) : Int)) (by rfl)]
  cases hall : l.all (fun t => decide (0 ≤ left t 3000)) with
  | true =>
    rw [hall, if_pos rfl] at hh
    rw [loop_more hh (by omega)]
    refine ⟨[.junk, .junk, .v (.bool false), .junk, .junk, .junk, .junk, .junk, .junk, .junk, .junk, .slc 4 ex nn es, .v (.int .i64 es.length), .v (.int .i64 es.length), .v (.bool false), .junk], h', ?_, rfl⟩
    simp only [c10_17, run_nil, run_cons, stp_plain, stp_guard, put_some, pass_eq, pick_tt, pick_ff, pick_tf, pick_ft, pick_u, reg_some, thn_normal, thn_exit, thn_ret, cnd_t, cnd_f, blk_normal, blk_ret, blk_exit, x_seq, x_region, x_cond, x_block, x_loop, x_ret, x_exit, x_skip, e_mov, e_pick, pk_t, pk_f, withH_some, e_box, bx_some, e_load, e_store, stH_some, e_nil, e_bin, e_eqv, eqH_f, eqH_t, e_un, e_fa, e_ia, ia_eq, nat_eq, natV_nat, e_len, lnH_some, e_extract, ex_0, ex_1, e_call0, e_call1, e_call2, e_call3, pc0_eq, pc1_some, pc2_some, pc3_some, fin_some, g_var0, g_vars, g_loc0, g_locs, g_int, g_bool, g_str, g_sl, s_none, s_zero, s_succ, AV.cl, evFa, evNil, evLoad, asEl, evBin, intBin, strBin, evUn, len_nil, len_slc, len_str, clr, List.length_nil, List.length_cons, List.getElem?_cons_zero, List.getElem?_cons_succ, Nat.reduceAdd, Nat.zero_add, Nat.add_zero, Nat.reduceLeDiff, Nat.reduceSub, ↓reduceIte, List.drop_succ_cons, List.drop_zero, List.take_succ_cons, List.take_zero, Bool.false_eq_true, List.nil_append, List.cons_append, Bool.not_true, Bool.not_false, cond_true, cond_false, bne, lv_ret, lv_normal, res1, res2, lv2_some, res_var, res_cell, lvf_v, lvf_slc]
  | false =>
    rw [hall, if_neg (by simp)] at hh
    obtain ⟨vs, h1, h2⟩ := hh
    rw [loop_more h1 (by omega)]
    exact ⟨vs, h', by simp only [run_nil, run_cons, stp_plain, stp_guard, put_some, pass_eq, pick_tt, pick_ff, pick_tf, pick_ft, pick_u, reg_some, thn_normal, thn_exit, thn_ret, cnd_t, cnd_f, blk_normal, blk_ret, blk_exit, x_seq, x_region, x_cond, x_block, x_loop, x_ret, x_exit, x_skip, e_mov, e_pick, pk_t, pk_f, withH_some, e_box, bx_some, e_load, e_store, stH_some, e_nil, e_bin, e_eqv, eqH_f, eqH_t, e_un, e_fa, e_ia, ia_eq, nat_eq, natV_nat, e_len, lnH_some, e_extract, ex_0, ex_1, e_call0, e_call1, e_call2, e_call3, pc0_eq, pc1_some, pc2_some, pc3_some, fin_some, g_var0, g_vars, g_loc0, g_locs, g_int, g_bool, g_str, g_sl, s_none, s_zero, s_succ, AV.cl, evFa, evNil, evLoad, asEl, evBin, intBin, strBin, evUn, len_nil, len_slc, len_str, clr, List.length_nil, List.length_cons, List.getElem?_cons_zero, List.getElem?_cons_succ, Nat.reduceAdd, Nat.zero_add, Nat.add_zero, Nat.reduceLeDiff, Nat.reduceSub, ↓reduceIte, List.drop_succ_cons, List.drop_zero, List.take_succ_cons, List.take_zero, Bool.false_eq_true, List.nil_append, List.cons_append, Bool.not_true, Bool.not_false, cond_true, cond_false, bne, lv_ret, lv_normal, res1, res2, lv2_some, res_var, res_cell, lvf_v, lvf_slc], h2⟩

theorem big_ok {b ts : AV} {bs : List (Int × Tm)} {l : List Tm} (hb : IsB b bs) {ex nn : Bool} {es : List AV} (hts : ts = .slc 4 ex nn es) (hes : All2 es l) (hm : es.length ≤ maxLen) : callW F 10 [b, ts] [] = some (.v (.bool (big bs l)), []) := by
  subst hts
  by_cases h100 : 100 < bs.length
  · -- too many
    have hbig : big bs l = true := by simp [big, h100]
    rw [hbig]
    cases hb with
    | nil => simp at h100
    | slc ex' nn' es' _ hes' hm' =>
      have hgt : decide ((es'.length : Int) > 100) = true := by have := hes'.length; simp; omega
      refine callW_pure (c := c10) rfl rfl 0 ?_
      simp only [c10, start, List.replicate, c10_0, c10_1, c10_2, hgt, run_nil, run_cons, stp_plain, stp_guard, put_some, pass_eq, pick_tt, pick_ff, pick_tf, pick_ft, pick_u, reg_some, thn_normal, thn_exit, thn_ret, cnd_t, cnd_f, blk_normal, blk_ret, blk_exit, x_seq, x_region, x_cond, x_block, x_loop, x_ret, x_exit, x_skip, e_mov, e_pick, pk_t, pk_f, withH_some, e_box, bx_some, e_load, e_store, stH_some, e_nil, e_bin, e_eqv, eqH_f, eqH_t, e_un, e_fa, e_ia, ia_eq, nat_eq, natV_nat, e_len, lnH_some, e_extract, ex_0, ex_1, e_call0, e_call1, e_call2, e_call3, pc0_eq, pc1_some, pc2_some, pc3_some, fin_some, g_var0, g_vars, g_loc0, g_locs, g_int, g_bool, g_str, g_sl, s_none, s_zero, s_succ, AV.cl, evFa, evNil, evLoad, asEl, evBin, intBin, strBin, evUn, len_nil, len_slc, len_str, clr, List.length_nil, List.length_cons, List.getElem?_cons_zero, List.getElem?_cons_succ, Nat.reduceAdd, Nat.zero_add, Nat.add_zero, Nat.reduceLeDiff, Nat.reduceSub, ↓reduceIte, List.drop_succ_cons, List.drop_zero, List.take_succ_cons, List.take_zero, Bool.false_eq_true, List.nil_append, List.cons_append, Bool.not_true, Bool.not_false, cond_true, cond_false, bne, lv_ret, lv_normal, res1, res2, lv2_some, res_var, res_cell, lvf_v, lvf_slc]
  · cases hb with
    | nil =>
      have hbig : big [] l = !(l.all fun t => decide (0 ≤ left t 3000)) := by simp [big]
      rw [hbig]
      have hgt : decide (((0 : Nat) : Int) > 100) = false := by simp
      have hl : ∀ (K : Nat) (vars : List AV) (h : List AO), clr [false, true, false, false, false, false, true, true, true, false, false, false, false, false, false, false] vars = [.junk, .slc 4 ex nn es, .junk, .junk, .junk, .junk, .v (.slice none 0 0), .v (.int .i64 ((0 : Nat) : Int)), .v (.int .i64 0), .junk, .junk, .junk, .junk, .junk, .junk, .junk] →
          loopN (exec (callW F) K c10_9) [false, true, false, false, false, false, true, true, true, false, false, false, false, false, false, false] (l.length + 1) vars h = some (.exit 0, [.junk, .slc 4 ex nn es, .junk, .junk, .junk, .junk, .v (.slice none 0 0), .v (.int .i64 ((0 : Nat) : Int)), .v (.int .i64 0), .v (.bool false), .junk, .junk, .junk, .junk, .junk, .junk], h) := by
        intro K vars h hv
        refine loop_exit ?_
        rw [hv]
        have hlt : decide ((0 : Int) < ((0 : Nat) : Int)) = false := by simp
        simp only [c10_9, c10_4, hlt, run_nil, run_cons, stp_plain, stp_guard, put_some, pass_eq, pick_tt, pick_ff, pick_tf, pick_ft, pick_u, reg_some, thn_normal, thn_exit, thn_ret, cnd_t, cnd_f, blk_normal, blk_ret, blk_exit, x_seq, x_region, x_cond, x_block, x_loop, x_ret, x_exit, x_skip, e_mov, e_pick, pk_t, pk_f, withH_some, e_box, bx_some, e_load, e_store, stH_some, e_nil, e_bin, e_eqv, eqH_f, eqH_t, e_un, e_fa, e_ia, ia_eq, nat_eq, natV_nat, e_len, lnH_some, e_extract, ex_0, ex_1, e_call0, e_call1, e_call2, e_call3, pc0_eq, pc1_some, pc2_some, pc3_some, fin_some, g_var0, g_vars, g_loc0, g_locs, g_int, g_bool, g_str, g_sl, s_none, s_zero, s_succ, AV.cl, evFa, evNil, evLoad, asEl, evBin, intBin, strBin, evUn, len_nil, len_slc, len_str, clr, List.length_nil, List.length_cons, List.getElem?_cons_zero, List.getElem?_cons_succ, Nat.reduceAdd, Nat.zero_add, Nat.add_zero, Nat.reduceLeDiff, Nat.reduceSub, ↓reduceIte, List.drop_succ_cons, List.drop_zero, List.take_succ_cons, List.take_zero, Bool.false_eq_true, List.nil_append, List.cons_append, Bool.not_true, Bool.not_false, cond_true, cond_false, bne, lv_ret, lv_normal, res1, res2, lv2_some, res_var, res_cell, lvf_v, lvf_slc]
      obtain ⟨vs, h', hx, hv⟩ := big_rest (K := l.length) (ex := ex) (nn := nn) hes hm (Nat.le_refl _) .junk .junk .junk .junk .junk (.v (.slice none 0 0)) (.v (.int .i64 ((0 : Nat) : Int))) (.v (.int .i64 0)) (.v (.bool false)) .junk .junk .junk .junk .junk .junk []
      refine callW_pure (c := c10) rfl rfl (l.length + 1) ?_
      have body : exec (callW F) (l.length + 1) c10.body (start c10 [.v (.slice none 0 0), .slc 4 ex nn es]) [] = exec (callW F) (l.length + 1) (.seq (.seq (.region [] [] c10_10) (.block 2 (.loop [false, false, false, false, false, false, false, false, false, false, false, true, true, true, false, false] [] c10_16))) (.seq (.region [] [] c10_17) .ret))
          [.junk, .slc 4 ex nn es, .junk, .junk, .junk, .junk, .v (.slice none 0 0), .v (.int .i64 ((0 : Nat) : Int)), .v (.int .i64 0), .v (.bool false), .junk, .junk, .junk, .junk, .junk, .junk] [] := by
        show exec (callW F) (l.length + 1) (.seq (.region [] [] c10_0) (.seq (.seq (.region [] [] c10_1) (.cond (.var 5) (.seq (.region [] [] c10_2) .ret) .skip)) (.seq (.seq (.region [] [] c10_3) (.block 0 (.loop [false, true, false, false, false, false, true, true, true, false, false, false, false, false, false, false] [] c10_9))) (.seq (.seq (.region [] [] c10_10) (.block 2 (.loop [false, false, false, false, false, false, false, false, false, false, false, true, true, true, false, false] [] c10_16))) (.seq (.region [] [] c10_17) .ret))))) _ _ = _
        generalize (CC.seq (.seq (.region [] [] c10_10) (.block 2 (.loop [false, false, false, false, false, false, false, false, false, false, false, true, true, true, false, false] [] c10_16))) (.seq (.region [] [] c10_17) .ret)) = rest
        simp only [c10, start, List.replicate, c10_0, c10_1, c10_3, hgt, run_nil, run_cons, stp_plain, stp_guard, put_some, pass_eq, pick_tt, pick_ff, pick_tf, pick_ft, pick_u, reg_some, thn_normal, thn_exit, thn_ret, cnd_t, cnd_f, blk_normal, blk_ret, blk_exit, x_seq, x_region, x_cond, x_block, x_loop, x_ret, x_exit, x_skip, e_mov, e_pick, pk_t, pk_f, withH_some, e_box, bx_some, e_load, e_store, stH_some, e_nil, e_bin, e_eqv, eqH_f, eqH_t, e_un, e_fa, e_ia, ia_eq, nat_eq, natV_nat, e_len, lnH_some, e_extract, ex_0, ex_1, e_call0, e_call1, e_call2, e_call3, pc0_eq, pc1_some, pc2_some, pc3_some, fin_some, g_var0, g_vars, g_loc0, g_locs, g_int, g_bool, g_str, g_sl, s_none, s_zero, s_succ, AV.cl, evFa, evNil, evLoad, asEl, evBin, intBin, strBin, evUn, len_nil, len_slc, len_str, clr, List.length_nil, List.length_cons, List.getElem?_cons_zero, List.getElem?_cons_succ, Nat.reduceAdd, Nat.zero_add, Nat.add_zero, Nat.reduceLeDiff, Nat.reduceSub, ↓reduceIte, List.drop_succ_cons, List.drop_zero, List.take_succ_cons, List.take_zero, Bool.false_eq_true, List.nil_append, List.cons_append, Bool.not_true, Bool.not_false, cond_true, cond_false, bne, lv_ret, lv_normal, res1, res2, lv2_some, res_var, res_cell, lvf_v, lvf_slc]
        rw [hl _ _ _ (by rfl)]
        simp only [run_nil, run_cons, stp_plain, stp_guard, put_some, pass_eq, pick_tt, pick_ff, pick_tf, pick_ft, pick_u, reg_some, thn_normal, thn_exit, thn_ret, cnd_t, cnd_f, blk_normal, blk_ret, blk_exit, x_seq, x_region, x_cond, x_block, x_loop, x_ret, x_exit, x_skip, e_mov, e_pick, pk_t, pk_f, withH_some, e_box, bx_some, e_load, e_store, stH_some, e_nil, e_bin, e_eqv, eqH_f, eqH_t, e_un, e_fa, e_ia, ia_eq, nat_eq, natV_nat, e_len, lnH_some, e_extract, ex_0, ex_1, e_call0, e_call1, e_call2, e_call3, pc0_eq, pc1_some, pc2_some, pc3_some, fin_some, g_var0, g_vars, g_loc0, g_locs, g_int, g_bool, g_str, g_sl, s_none, s_zero, s_succ, AV.cl, evFa, evNil, evLoad, asEl, evBin, intBin, strBin, evUn, len_nil, len_slc, len_str, clr, List.length_nil, List.length_cons, List.getElem?_cons_zero, List.getElem?_cons_succ, Nat.reduceAdd, Nat.zero_add, Nat.add_zero, Nat.reduceLeDiff, Nat.reduceSub, ↓reduceIte, List.drop_succ_cons, List.drop_zero, List.take_succ_cons, List.take_zero, Bool.false_eq_true, List.nil_append, List.cons_append, Bool.not_true, Bool.not_false, cond_true, cond_false, bne, lv_ret, lv_normal, res1, res2, lv2_some, res_var, res_cell, lvf_v, lvf_slc]
      rw [body, hx]
      have : c10.res = [.var 2] := rfl
      simp only [this, hv, run_nil, run_cons, stp_plain, stp_guard, put_some, pass_eq, pick_tt, pick_ff, pick_tf, pick_ft, pick_u, reg_some, thn_normal, thn_exit, thn_ret, cnd_t, cnd_f, blk_normal, blk_ret, blk_exit, x_seq, x_region, x_cond, x_block, x_loop, x_ret, x_exit, x_skip, e_mov, e_pick, pk_t, pk_f, withH_some, e_box, bx_some, e_load, e_store, stH_some, e_nil, e_bin, e_eqv, eqH_f, eqH_t, e_un, e_fa, e_ia, ia_eq, nat_eq, natV_nat, e_len, lnH_some, e_extract, ex_0, ex_1, e_call0, e_call1, e_call2, e_call3, pc0_eq, pc1_some, pc2_some, pc3_some, fin_some, g_var0, g_vars, g_loc0, g_locs, g_int, g_bool, g_str, g_sl, s_none, s_zero, s_succ, AV.cl, evFa, evNil, evLoad, asEl, evBin, intBin, strBin, evUn, len_nil, len_slc, len_str, clr, List.length_nil, List.length_cons, List.getElem?_cons_zero, List.getElem?_cons_succ, Nat.reduceAdd, Nat.zero_add, Nat.add_zero, Nat.reduceLeDiff, Nat.reduceSub, ↓reduceIte, List.drop_succ_cons, List.drop_zero, List.take_succ_cons, List.take_zero, Bool.false_eq_true, List.nil_append, List.cons_append, Bool.not_true, Bool.not_false, cond_true, cond_false, bne, lv_ret, lv_normal, res1, res2, lv2_some, res_var, res_cell, lvf_v, lvf_slc]
    | slc ex' nn' es' _ hes' hm' =>
      have e1 := hes'.length
      have hgt : decide ((es'.length : Int) > 100) = false := by simp; omega
      refine callW_pure (c := c10) rfl rfl (bs.length + l.length + 1) ?_
      obtain ⟨h1, hh⟩ := big_loop1 (K := bs.length + l.length + 1) (ts := .slc 4 ex nn es) (ex := ex') (nn := nn') hm' bs 0 [] (by omega) (by simpa using hes')
      have c10res : c10.res = [.var 2] := rfl
      have body : exec (callW F) (bs.length + l.length + 1) c10.body (start c10 [.slc 5 ex' nn' es', .slc 4 ex nn es]) [] = thn (callW F) (bs.length + l.length + 1) (.seq (.seq (.region [] [] c10_10) (.block 2 (.loop [false, false, false, false, false, false, false, false, false, false, false, true, true, true, false, false] [] c10_16))) (.seq (.region [] [] c10_17) .ret))
          (blk 0 (loopN (exec (callW F) (bs.length + l.length + 1) c10_9) K10 (bs.length + l.length + 1) (L10 (.slc 4 ex nn es) (.slc 5 ex' nn' es') es'.length ((0 : Nat) : Int)) [])) := by
        show exec (callW F) (bs.length + l.length + 1) (.seq (.region [] [] c10_0) (.seq (.seq (.region [] [] c10_1) (.cond (.var 5) (.seq (.region [] [] c10_2) .ret) .skip)) (.seq (.seq (.region [] [] c10_3) (.block 0 (.loop K10 [] c10_9))) (.seq (.seq (.region [] [] c10_10) (.block 2 (.loop [false, false, false, false, false, false, false, false, false, false, false, true, true, true, false, false] [] c10_16))) (.seq (.region [] [] c10_17) .ret))))) _ _ = _
        generalize (CC.seq (.seq (.region [] [] c10_10) (.block 2 (.loop [false, false, false, false, false, false, false, false, false, false, false, true, true, true, false, false] [] c10_16))) (.seq (.region [] [] c10_17) .ret)) = rest
        simp only [c10, start, List.replicate, c10_0, c10_1, c10_3, hgt, run_nil, run_cons, stp_plain, stp_guard, put_some, pass_eq, pick_tt, pick_ff, pick_tf, pick_ft, pick_u, reg_some, thn_normal, thn_exit, thn_ret, cnd_t, cnd_f, blk_normal, blk_ret, blk_exit, x_seq, x_region, x_cond, x_block, x_loop, x_ret, x_exit, x_skip, e_mov, e_pick, pk_t, pk_f, withH_some, e_box, bx_some, e_load, e_store, stH_some, e_nil, e_bin, e_eqv, eqH_f, eqH_t, e_un, e_fa, e_ia, ia_eq, nat_eq, natV_nat, e_len, lnH_some, e_extract, ex_0, ex_1, e_call0, e_call1, e_call2, e_call3, pc0_eq, pc1_some, pc2_some, pc3_some, fin_some, g_var0, g_vars, g_loc0, g_locs, g_int, g_bool, g_str, g_sl, s_none, s_zero, s_succ, AV.cl, evFa, evNil, evLoad, asEl, evBin, intBin, strBin, evUn, len_nil, len_slc, len_str, clr, List.length_nil, List.length_cons, List.getElem?_cons_zero, List.getElem?_cons_succ, Nat.reduceAdd, Nat.zero_add, Nat.add_zero, Nat.reduceLeDiff, Nat.reduceSub, ↓reduceIte, List.drop_succ_cons, List.drop_zero, List.take_succ_cons, List.take_zero, Bool.false_eq_true, List.nil_append, List.cons_append, Bool.not_true, Bool.not_false, cond_true, cond_false, bne, lv_ret, lv_normal, res1, res2, lv2_some, res_var, res_cell, lvf_v, lvf_slc]
        rw [loop_cong (v2 := L10 (.slc 4 ex nn es) (.slc 5 ex' nn' es') es'.length ((0 : Nat) : Int)) (by rfl)]
      rw [body]
      cases hall : bs.all (fun p => decide (0 ≤ left p.2 300)) with
      | false =>
        rw [hall, if_neg (by simp)] at hh
        obtain ⟨vs, h2, h3⟩ := hh
        rw [loop_more h2 (by omega)]
        have hbig : big bs l = true := by simp [big, hall]
        rw [hbig]
        simp only [c10res, h3, run_nil, run_cons, stp_plain, stp_guard, put_some, pass_eq, pick_tt, pick_ff, pick_tf, pick_ft, pick_u, reg_some, thn_normal, thn_exit, thn_ret, cnd_t, cnd_f, blk_normal, blk_ret, blk_exit, x_seq, x_region, x_cond, x_block, x_loop, x_ret, x_exit, x_skip, e_mov, e_pick, pk_t, pk_f, withH_some, e_box, bx_some, e_load, e_store, stH_some, e_nil, e_bin, e_eqv, eqH_f, eqH_t, e_un, e_fa, e_ia, ia_eq, nat_eq, natV_nat, e_len, lnH_some, e_extract, ex_0, ex_1, e_call0, e_call1, e_call2, e_call3, pc0_eq, pc1_some, pc2_some, pc3_some, fin_some, g_var0, g_vars, g_loc0, g_locs, g_int, g_bool, g_str, g_sl, s_none, s_zero, s_succ, AV.cl, evFa, evNil, evLoad, asEl, evBin, intBin, strBin, evUn, len_nil, len_slc, len_str, clr, List.length_nil, List.length_cons, List.getElem?_cons_zero, List.getElem?_cons_succ, Nat.reduceAdd, Nat.zero_add, Nat.add_zero, Nat.reduceLeDiff, Nat.reduceSub, ↓reduceIte, List.drop_succ_cons, List.drop_zero, List.take_succ_cons, List.take_zero, Bool.false_eq_true, List.nil_append, List.cons_append, Bool.not_true, Bool.not_false, cond_true, cond_false, bne, lv_ret, lv_normal, res1, res2, lv2_some, res_var, res_cell, lvf_v, lvf_slc]
      | true =>
        rw [hall, if_pos rfl] at hh
        rw [loop_more hh (by omega)]
        have hbig : big bs l = !(l.all fun t => decide (0 ≤ left t 3000)) := by simp [big, hall, h100]
        rw [hbig]
        obtain ⟨vs, h', hx, hv⟩ := big_rest (K := bs.length + l.length) (ex := ex) (nn := nn) hes hm (by omega) .junk .junk .junk .junk .junk (.slc 5 ex' nn' es') (.v (.int .i64 es'.length)) (.v (.int .i64 es'.length)) (.v (.bool false)) .junk .junk .junk .junk .junk .junk h1
        simp only [blk_exit, thn_normal]
        rw [hx]
        simp only [c10res, hv, run_nil, run_cons, stp_plain, stp_guard, put_some, pass_eq, pick_tt, pick_ff, pick_tf, pick_ft, pick_u, reg_some, thn_normal, thn_exit, thn_ret, cnd_t, cnd_f, blk_normal, blk_ret, blk_exit, x_seq, x_region, x_cond, x_block, x_loop, x_ret, x_exit, x_skip, e_mov, e_pick, pk_t, pk_f, withH_some, e_box, bx_some, e_load, e_store, stH_some, e_nil, e_bin, e_eqv, eqH_f, eqH_t, e_un, e_fa, e_ia, ia_eq, nat_eq, natV_nat, e_len, lnH_some, e_extract, ex_0, ex_1, e_call0, e_call1, e_call2, e_call3, pc0_eq, pc1_some, pc2_some, pc3_some, fin_some, g_var0, g_vars, g_loc0, g_locs, g_int, g_bool, g_str, g_sl, s_none, s_zero, s_succ, AV.cl, evFa, evNil, evLoad, asEl, evBin, intBin, strBin, evUn, len_nil, len_slc, len_str, clr, List.length_nil, List.length_cons, List.getElem?_cons_zero, List.getElem?_cons_succ, Nat.reduceAdd, Nat.zero_add, Nat.add_zero, Nat.reduceLeDiff, Nat.reduceSub, ↓reduceIte, List.drop_succ_cons, List.drop_zero, List.take_succ_cons, List.take_zero, Bool.false_eq_true, List.nil_append, List.cons_append, Bool.not_true, Bool.not_false, cond_true, cond_false, bne, lv_ret, lv_normal, res1, res2, lv2_some, res_var, res_cell, lvf_v, lvf_slc]

mutual
theorem same_refl : ∀ t : Tm, same t t = true
  | .mk k s n l => by simp [same, sameL_refl l]
theorem sameL_refl : ∀ l : List Tm, sameL l l = true
  | [] => by simp [sameL]
  | t :: l => by simp [sameL, same_refl t, sameL_refl l]
end

def zeroT : Tm := .mk 0 ⟨#[]⟩ 0 []
theorem look_form (w : Int) : ∀ {es : List AV} {bs : List (Int × Tm)}, AllB es bs → ∃ cs u f, lookA w es = .tup [.agg cs, .v (.bool f)] ∧ IsT (.agg cs) u
  | _, _, .nil => ⟨_, zeroT, false, rfl, .mk _ _ _ _ _ .nil⟩
  | _, _, .cons a v t es bs h hs => by
    cases h with
    | mk v cs t ht =>
      rw [lookA]
      split
      · exact ⟨cs, t, true, rfl, ht⟩
      · exact look_form w hs
theorem AllB.append : ∀ {es es' : List AV} {l l' : List (Int × Tm)}, AllB es l → AllB es' l' → AllB (es ++ es') (l ++ l')
  | _, _, _, _, .nil, h => h
  | _, _, _, _, .cons a v t es bs h hs, h' => .cons a v t _ _ h (hs.append h')
theorem AllB.reverse : ∀ {es : List AV} {l : List (Int × Tm)}, AllB es l → AllB es.reverse l.reverse
  | _, _, .nil => .nil
  | _, _, .cons a v t es bs h hs => by
    rw [List.reverse_cons, List.reverse_cons]
    exact hs.reverse.append (.cons a v t [] [] h .nil)
theorem AllB.isB : ∀ {es : List AV} {l : List (Int × Tm)}, AllB es l → es.all isB = true
  | _, _, .nil => rfl
  | _, _, .cons a v t es bs h hs => by
    rw [List.all_cons, hs.isB, Bool.and_true]
    cases h with
    | mk v cs t ht => cases ht with | mk k s n c l hc => cases hc <;> rfl

theorem look_call {es : List AV} {bs : List (Int × Tm)} (h : AllB es bs) (hl : es.length ≤ 1000000) (ex nn : Bool) (w : Int) : callW F 13 [.slc 5 ex nn es, .v (.int .i64 w)] [] = some (lookA w es.reverse, []) := by
  refine callW_oracle (g := lookG) rfl ?_
  simp only [lookG, if_pos (And.intro hl h.isB)]
theorem look_call_nil (w : Int) : callW F 13 [.v (.slice none 0 0), .v (.int .i64 w)] [] = some (lookA w [], []) :=
  callW_oracle (g := lookG) rfl rfl
end Go.AE.Ytpgoibncgekflaa
end

/-! The document's Look. -/
section
set_option linter.unusedVariables false
set_option linter.unusedSimpArgs false
namespace Go.AE.Ytpgoibncgekflaa
open Go Go.AE Go.Proofs.Ytpgoibncgekflaa

def zeroC : List AV := [.v (.int .i64 0), .v (.string ⟨#[]⟩), .v (.int .i64 0), .v (.slice none 0 0)]
theorem look14_step {K : Nat} {ex nn : Bool} {es : List AV} {i : Nat} {e : AV} {v : Int} {t : Tm} {n : Int} {j : AV} (he : es[i]? = some e) (hb : IsBd e v t) :
    exec (callW F) K c14_6 [.slc 5 ex nn es, .v (.int .i64 n), .ptr 0 0, .junk, .v (.int .i64 i), .junk, .junk] [.box zeroC] = if v = n then
        some (.ret, [.slc 5 ex nn es, .v (.int .i64 n), .ptr 0 0, .v (.bool true), .v (.int .i64 i), .v (.bool true), .v (.bool true)], [.box (e.cells.drop 1)])
      else some (.normal, [.slc 5 ex nn es, .v (.int .i64 n), .ptr 0 0, .junk, .v (.int .i64 (IntKind.i64.wrap (i - 1))), .v (.bool true), .v (.bool false)], [.box zeroC]) := by
  have hge : (decide ((i : Int) ≥ 0)) = true := by simp
  have q1 : ∀ h, iaV h 5 (.slc 5 ex nn es) (some i) = some (.ip e.cells) := fun h => iaV_slc he
  cases hb with
  | mk v cs t ht =>
  cases ht with
  | mk k s n2 c l hc =>
  by_cases hv : v = n
  · have h1 : (v == n) = true := by simpa using hv
    rw [if_pos hv]
    simp only [zeroC, c14_6, c14_2, c14_3, c14_4, hge, q1, h1, AV.cells, e_bslice1, e_build, bdH_some, bd_nil, bd_cons, bd1, cl_agg, cl_int, toL, List.map_cons, List.map_nil, putAt, List.set_cons_zero, List.set_cons_succ, and_self, Nat.le_refl, evStore, app_get, app_set, g_agg, run_nil, run_cons, stp_plain, stp_guard, put_some, pass_eq, pick_tt, pick_ff, pick_tf, pick_ft, pick_u, reg_some, thn_normal, thn_exit, thn_ret, cnd_t, cnd_f, blk_normal, blk_ret, blk_exit, x_seq, x_region, x_cond, x_block, x_loop, x_ret, x_exit, x_skip, e_mov, e_pick, pk_t, pk_f, withH_some, e_box, bx_some, e_load, e_store, stH_some, e_nil, e_bin, e_eqv, eqH_f, eqH_t, e_un, e_fa, e_ia, ia_eq, nat_eq, natV_nat, e_len, lnH_some, e_extract, ex_0, ex_1, e_call0, e_call1, e_call2, e_call3, pc0_eq, pc1_some, pc2_some, pc3_some, fin_some, g_var0, g_vars, g_loc0, g_locs, g_int, g_bool, g_str, g_sl, s_none, s_zero, s_succ, evFa, evNil, evLoad, asEl, evBin, intBin, strBin, evUn, len_nil, len_slc, len_str, clr, List.length_nil, List.length_cons, List.getElem?_cons_zero, List.getElem?_cons_succ, Nat.reduceAdd, Nat.zero_add, Nat.add_zero, Nat.reduceLeDiff, Nat.reduceSub, ↓reduceIte, List.drop_succ_cons, List.drop_zero, List.take_succ_cons, List.take_zero, Bool.false_eq_true, List.nil_append, List.cons_append, Bool.not_true, Bool.not_false, cond_true, cond_false, bne, lv_ret, lv_normal, res1, res2, lv2_some, res_var, res_cell, lvf_v, lvf_slc]
  · have h1 : (v == n) = false := by simpa using hv
    rw [if_neg hv]
    simp only [zeroC, c14_6, c14_2, c14_3, c14_5, hge, q1, h1, AV.cells, e_bslice1, e_build, bdH_some, bd_nil, bd_cons, bd1, cl_agg, cl_int, toL, List.map_cons, List.map_nil, putAt, List.set_cons_zero, List.set_cons_succ, and_self, Nat.le_refl, evStore, app_get, app_set, g_agg, run_nil, run_cons, stp_plain, stp_guard, put_some, pass_eq, pick_tt, pick_ff, pick_tf, pick_ft, pick_u, reg_some, thn_normal, thn_exit, thn_ret, cnd_t, cnd_f, blk_normal, blk_ret, blk_exit, x_seq, x_region, x_cond, x_block, x_loop, x_ret, x_exit, x_skip, e_mov, e_pick, pk_t, pk_f, withH_some, e_box, bx_some, e_load, e_store, stH_some, e_nil, e_bin, e_eqv, eqH_f, eqH_t, e_un, e_fa, e_ia, ia_eq, nat_eq, natV_nat, e_len, lnH_some, e_extract, ex_0, ex_1, e_call0, e_call1, e_call2, e_call3, pc0_eq, pc1_some, pc2_some, pc3_some, fin_some, g_var0, g_vars, g_loc0, g_locs, g_int, g_bool, g_str, g_sl, s_none, s_zero, s_succ, evFa, evNil, evLoad, asEl, evBin, intBin, strBin, evUn, len_nil, len_slc, len_str, clr, List.length_nil, List.length_cons, List.getElem?_cons_zero, List.getElem?_cons_succ, Nat.reduceAdd, Nat.zero_add, Nat.add_zero, Nat.reduceLeDiff, Nat.reduceSub, ↓reduceIte, List.drop_succ_cons, List.drop_zero, List.take_succ_cons, List.take_zero, Bool.false_eq_true, List.nil_append, List.cons_append, Bool.not_true, Bool.not_false, cond_true, cond_false, bne, lv_ret, lv_normal, res1, res2, lv2_some, res_var, res_cell, lvf_v, lvf_slc]

theorem AllB.get : ∀ {es : List AV} {l : List (Int × Tm)}, AllB es l → ∀ {i : Nat} {e : AV}, es[i]? = some e → ∃ v t, l[i]? = some (v, t) ∧ IsBd e v t
  | _, _, .nil, i, e, h => by simp at h
  | _, _, .cons a v t es ts h hs, i, e, he => by
    cases i with
    | zero => simp at he; subst he; exact ⟨v, t, rfl, h⟩
    | succ i => exact hs.get (by simpa using he)

def K14 : List Bool := [true, true, true, false, true, false, false]
def L14 (b : AV) (n i : Int) : List AV := [b, .v (.int .i64 n), .ptr 0 0, .junk, .v (.int .i64 i), .junk, .junk]

theorem look14_loop {K : Nat} {ex nn : Bool} {es : List AV} {bs : List (Int × Tm)} (hes : AllB es bs) (hm : es.length ≤ maxLen) (n : Int) :
    ∀ (m : Nat), m ≤ es.length → ∀ (vars : List AV), clr K14 vars = L14 (.slc 5 ex nn es) n ((m : Int) - 1) →
      (∃ vs cs, loopN (exec (callW F) K c14_6) K14 (m + 1) vars [.box zeroC] = some (.ret, vs, [.box cs]) ∧ getO vs [] (.var 2) = .ptr 0 0 ∧ getO vs [] (.var 3) = .v (.bool true) ∧ lookA n (es.take m).reverse = .tup [.agg cs, .v (.bool true)] ∧ cs.length = 4) ∨
      (loopN (exec (callW F) K c14_6) K14 (m + 1) vars [.box zeroC] = some (.exit 0, [.slc 5 ex nn es, .v (.int .i64 n), .ptr 0 0, .junk, .v (.int .i64 (-1)), .v (.bool false), .junk], [.box zeroC]) ∧ lookA n (es.take m).reverse = .tup [.agg zeroC, .v (.bool false)]) := by
  intro m
  induction m with
  | zero =>
    intro _ vars hv
    right
    refine ⟨loop_exit ?_, rfl⟩
    rw [hv]
    have hge : decide ((-1 : Int) ≥ 0) = false := by simp
    have h0 : ((0 : Nat) : Int) - 1 = -1 := rfl
    simp only [L14, c14_6, c14_2, h0, hge, run_nil, run_cons, stp_plain, stp_guard, put_some, pass_eq, pick_tt, pick_ff, pick_tf, pick_ft, pick_u, reg_some, thn_normal, thn_exit, thn_ret, cnd_t, cnd_f, blk_normal, blk_ret, blk_exit, x_seq, x_region, x_cond, x_block, x_loop, x_ret, x_exit, x_skip, e_mov, e_pick, pk_t, pk_f, withH_some, e_box, bx_some, e_load, e_store, stH_some, e_nil, e_bin, e_eqv, eqH_f, eqH_t, e_un, e_fa, e_ia, ia_eq, nat_eq, natV_nat, e_len, lnH_some, e_extract, ex_0, ex_1, e_call0, e_call1, e_call2, e_call3, pc0_eq, pc1_some, pc2_some, pc3_some, fin_some, g_var0, g_vars, g_loc0, g_locs, g_int, g_bool, g_str, g_sl, s_none, s_zero, s_succ, evFa, evNil, evLoad, asEl, evBin, intBin, strBin, evUn, len_nil, len_slc, len_str, clr, List.length_nil, List.length_cons, List.getElem?_cons_zero, List.getElem?_cons_succ, Nat.reduceAdd, Nat.zero_add, Nat.add_zero, Nat.reduceLeDiff, Nat.reduceSub, ↓reduceIte, List.drop_succ_cons, List.drop_zero, List.take_succ_cons, List.take_zero, Bool.false_eq_true, List.nil_append, List.cons_append, Bool.not_true, Bool.not_false, cond_true, cond_false, bne, lv_ret, lv_normal, res1, res2, lv2_some, res_var, res_cell, lvf_v, lvf_slc]
  | succ m ih =>
    intro hle vars hv
    obtain ⟨e, he⟩ : ∃ e, es[m]? = some e := ⟨_, List.getElem?_eq_getElem (by omega)⟩
    obtain ⟨v, t, _, hT⟩ := hes.get he
    have st := look14_step (K := K) (ex := ex) (nn := nn) (n := n) (j := .junk) he hT
    have htk : (es.take (m + 1)).reverse = e :: (es.take m).reverse := by
      rw [List.take_add_one, he]; simp
    have e1 : ((m + 1 : Nat) : Int) - 1 = (m : Int) := by omega
    rw [e1] at hv
    by_cases hvn : v = n
    · left
      rw [if_pos hvn] at st
      refine ⟨_, _, loop_ret (by rw [hv]; exact st), rfl, rfl, ?_, ?_⟩
      · rw [htk]
        cases hT with
        | mk v cs t ht => simp [lookA, AV.cells, hvn]
      · cases hT with
        | mk v cs t ht => cases ht with | mk k s n2 c l hc => rfl
    · rw [if_neg hvn] at st
      have hw : IntKind.i64.wrap ((m : Int) - 1) = (m : Int) - 1 := by
        rw [IntWalk.i64_in]
        have : maxLen = 9223372036854775807 := rfl
        omega
      rw [hw] at st
      have hlk : lookA n (es.take (m + 1)).reverse = lookA n (es.take m).reverse := by
        rw [htk]
        cases hT with
        | mk v cs t ht => simp [lookA, hvn]
      rw [hlk, loop_normal (by rw [hv]; exact st)]
      exact ih (by omega) _ rfl

theorem q9z : (ofVal (.agg #[(.int .i64 0), (.string ⟨#[]⟩), (.int .i64 0), (.slice none 0 0)])).cl = some [.v (.int .i64 0), .v (.string ⟨#[]⟩), .v (.int .i64 0), .v (.slice none 0 0)] := by simp [ofVal, AV.cl, Value.oneCell']

theorem look14_ok {ex nn : Bool} {es : List AV} {bs : List (Int × Tm)} (hes : AllB es bs) (hm : es.length ≤ maxLen) (n : Int) : callW F 14 [.slc 5 ex nn es, .v (.int .i64 n)] [] = some (lookA n es.reverse, []) := by
  obtain ⟨cs0, u0, f0, hlf, hu0⟩ := look_form n hes.reverse
  refine callW_pure (c := c14) rfl rfl (es.length + 1) ?_
  have hw : IntKind.i64.wrap ((es.length : Int) - 1) = (es.length : Int) - 1 := by
    rw [IntWalk.i64_in]
    have : maxLen = 9223372036854775807 := rfl
    omega
  have body : exec (callW F) (es.length + 1) c14.body (start c14 [.slc 5 ex nn es, .v (.int .i64 n)]) [] = thn (callW F) (es.length + 1) (.seq (.region [] [] c14_7) .ret) (blk 0 (loopN (exec (callW F) (es.length + 1) c14_6) K14 (es.length + 1) (L14 (.slc 5 ex nn es) n ((es.length : Int) - 1)) [.box zeroC])) := by
    show exec (callW F) (es.length + 1) (.seq (.region [] [] c14_0) (.seq (.seq (.region [] [] c14_1) (.block 0 (.loop K14 [] c14_6))) (.seq (.region [] [] c14_7) .ret))) _ _ = _
    generalize (CC.seq (.region [] [] c14_7) .ret) = rest
    simp only [c14, start, zeroC, List.replicate, c14_0, c14_1, q9z, hw, e_bslice1, e_build, bdH_some, bd_nil, bd_cons, bd1, cl_agg, cl_int, toL, List.map_cons, List.map_nil, putAt, List.set_cons_zero, List.set_cons_succ, and_self, Nat.le_refl, evStore, app_get, app_set, g_agg, run_nil, run_cons, stp_plain, stp_guard, put_some, pass_eq, pick_tt, pick_ff, pick_tf, pick_ft, pick_u, reg_some, thn_normal, thn_exit, thn_ret, cnd_t, cnd_f, blk_normal, blk_ret, blk_exit, x_seq, x_region, x_cond, x_block, x_loop, x_ret, x_exit, x_skip, e_mov, e_pick, pk_t, pk_f, withH_some, e_box, bx_some, e_load, e_store, stH_some, e_nil, e_bin, e_eqv, eqH_f, eqH_t, e_un, e_fa, e_ia, ia_eq, nat_eq, natV_nat, e_len, lnH_some, e_extract, ex_0, ex_1, e_call0, e_call1, e_call2, e_call3, pc0_eq, pc1_some, pc2_some, pc3_some, fin_some, g_var0, g_vars, g_loc0, g_locs, g_int, g_bool, g_str, g_sl, s_none, s_zero, s_succ, evFa, evNil, evLoad, asEl, evBin, intBin, strBin, evUn, len_nil, len_slc, len_str, clr, List.length_nil, List.length_cons, List.getElem?_cons_zero, List.getElem?_cons_succ, Nat.reduceAdd, Nat.zero_add, Nat.add_zero, Nat.reduceLeDiff, Nat.reduceSub, ↓reduceIte, List.drop_succ_cons, List.drop_zero, List.take_succ_cons, List.take_zero, Bool.false_eq_true, List.nil_append, List.cons_append, Bool.not_true, Bool.not_false, cond_true, cond_false, bne, lv_ret, lv_normal, res1, res2, lv2_some, res_var, res_cell, lvf_v, lvf_slc]
    rw [loop_cong (v2 := L14 (.slc 5 ex nn es) n ((es.length : Int) - 1)) (by rfl)]
  rw [body]
  have hres : c14.res = [.cell 2 true 4, .var 3] := rfl
  have key := look14_loop (K := es.length + 1) (ex := ex) (nn := nn) hes hm n es.length (Nat.le_refl _) (L14 (.slc 5 ex nn es) n ((es.length : Int) - 1)) rfl
  rw [List.take_length] at key
  rcases key with ⟨vs, cs, h1, h2, h3, h4, h5⟩ | ⟨h1, h2⟩
  · rw [h1, h4]
    have hcs : cs0 = cs := by rw [hlf] at h4; cases h4; rfl
    subst hcs
    cases hu0 with
    | mk k s n2 c l hc =>
    have lvt : ∀ (h : List AO) (b : Value), lvf h (.tup [.agg [.v (.int .i64 k), .v (.string s), .v (.int .i64 n2), c], .v b]) = some (.tup [.agg [.v (.int .i64 k), .v (.string s), .v (.int .i64 n2), c], .v b], []) := by
      intro h b; cases hc <;> rfl
    simp only [hres, h2, h3, lvt, run_nil, run_cons, stp_plain, stp_guard, put_some, pass_eq, pick_tt, pick_ff, pick_tf, pick_ft, pick_u, reg_some, thn_normal, thn_exit, thn_ret, cnd_t, cnd_f, blk_normal, blk_ret, blk_exit, x_seq, x_region, x_cond, x_block, x_loop, x_ret, x_exit, x_skip, e_mov, e_pick, pk_t, pk_f, withH_some, e_box, bx_some, e_load, e_store, stH_some, e_nil, e_bin, e_eqv, eqH_f, eqH_t, e_un, e_fa, e_ia, ia_eq, nat_eq, natV_nat, e_len, lnH_some, e_extract, ex_0, ex_1, e_call0, e_call1, e_call2, e_call3, pc0_eq, pc1_some, pc2_some, pc3_some, fin_some, g_var0, g_vars, g_loc0, g_locs, g_int, g_bool, g_str, g_sl, s_none, s_zero, s_succ, AV.cl, evFa, evNil, evLoad, asEl, evBin, intBin, strBin, evUn, len_nil, len_slc, len_str, clr, List.length_nil, List.length_cons, List.getElem?_cons_zero, List.getElem?_cons_succ, Nat.reduceAdd, Nat.zero_add, Nat.add_zero, Nat.reduceLeDiff, Nat.reduceSub, ↓reduceIte, List.drop_succ_cons, List.drop_zero, List.take_succ_cons, List.take_zero, Bool.false_eq_true, List.nil_append, List.cons_append, Bool.not_true, Bool.not_false, cond_true, cond_false, bne, lv_ret, lv_normal, res1, res2, lv2_some, res_var, res_cell, lvf_v, lvf_slc]
  · rw [h1, h2]
    have lvt : ∀ (h : List AO) (a b c d e : Value), lvf h (.tup [.agg [.v a, .v b, .v c, .v d], .v e]) = some (.tup [.agg [.v a, .v b, .v c, .v d], .v e], []) := fun _ _ _ _ _ _ => rfl
    simp only [hres, zeroC, c14_7, lvt, e_bslice1, e_build, bdH_some, bd_nil, bd_cons, bd1, cl_agg, cl_int, toL, List.map_cons, List.map_nil, putAt, List.set_cons_zero, List.set_cons_succ, and_self, Nat.le_refl, evStore, app_get, app_set, g_agg, run_nil, run_cons, stp_plain, stp_guard, put_some, pass_eq, pick_tt, pick_ff, pick_tf, pick_ft, pick_u, reg_some, thn_normal, thn_exit, thn_ret, cnd_t, cnd_f, blk_normal, blk_ret, blk_exit, x_seq, x_region, x_cond, x_block, x_loop, x_ret, x_exit, x_skip, e_mov, e_pick, pk_t, pk_f, withH_some, e_box, bx_some, e_load, e_store, stH_some, e_nil, e_bin, e_eqv, eqH_f, eqH_t, e_un, e_fa, e_ia, ia_eq, nat_eq, natV_nat, e_len, lnH_some, e_extract, ex_0, ex_1, e_call0, e_call1, e_call2, e_call3, pc0_eq, pc1_some, pc2_some, pc3_some, fin_some, g_var0, g_vars, g_loc0, g_locs, g_int, g_bool, g_str, g_sl, s_none, s_zero, s_succ, evFa, evNil, evLoad, asEl, evBin, intBin, strBin, evUn, len_nil, len_slc, len_str, clr, List.length_nil, List.length_cons, List.getElem?_cons_zero, List.getElem?_cons_succ, Nat.reduceAdd, Nat.zero_add, Nat.add_zero, Nat.reduceLeDiff, Nat.reduceSub, ↓reduceIte, List.drop_succ_cons, List.drop_zero, List.take_succ_cons, List.take_zero, Bool.false_eq_true, List.nil_append, List.cons_append, Bool.not_true, Bool.not_false, cond_true, cond_false, bne, lv_ret, lv_normal, res1, res2, lv2_some, res_var, res_cell, lvf_v, lvf_slc]

theorem look14_nil (n : Int) : callW F 14 [.v (.slice none 0 0), .v (.int .i64 n)] [] = some (lookA n [], []) := by
  refine callW_pure (c := c14) rfl rfl 1 ?_
  have hw : IntKind.i64.wrap (((0 : Nat) : Int) - 1) = -1 := by rfl
  have hl : ∀ (vars : List AV) (h : List AO), clr K14 vars = L14 (.v (.slice none 0 0)) n (-1) → loopN (exec (callW F) 1 c14_6) K14 1 vars h = some (.exit 0, [.v (.slice none 0 0), .v (.int .i64 n), .ptr 0 0, .junk, .v (.int .i64 (-1)), .v (.bool false), .junk], h) := by
    intro vars h hv
    refine loop_exit (n := 0) ?_
    rw [hv]
    have hge : decide ((-1 : Int) ≥ 0) = false := by simp
    simp only [L14, c14_6, c14_2, hge, run_nil, run_cons, stp_plain, stp_guard, put_some, pass_eq, pick_tt, pick_ff, pick_tf, pick_ft, pick_u, reg_some, thn_normal, thn_exit, thn_ret, cnd_t, cnd_f, blk_normal, blk_ret, blk_exit, x_seq, x_region, x_cond, x_block, x_loop, x_ret, x_exit, x_skip, e_mov, e_pick, pk_t, pk_f, withH_some, e_box, bx_some, e_load, e_store, stH_some, e_nil, e_bin, e_eqv, eqH_f, eqH_t, e_un, e_fa, e_ia, ia_eq, nat_eq, natV_nat, e_len, lnH_some, e_extract, ex_0, ex_1, e_call0, e_call1, e_call2, e_call3, pc0_eq, pc1_some, pc2_some, pc3_some, fin_some, g_var0, g_vars, g_loc0, g_locs, g_int, g_bool, g_str, g_sl, s_none, s_zero, s_succ, evFa, evNil, evLoad, asEl, evBin, intBin, strBin, evUn, len_nil, len_slc, len_str, clr, List.length_nil, List.length_cons, List.getElem?_cons_zero, List.getElem?_cons_succ, Nat.reduceAdd, Nat.zero_add, Nat.add_zero, Nat.reduceLeDiff, Nat.reduceSub, ↓reduceIte, List.drop_succ_cons, List.drop_zero, List.take_succ_cons, List.take_zero, Bool.false_eq_true, List.nil_append, List.cons_append, Bool.not_true, Bool.not_false, cond_true, cond_false, bne, lv_ret, lv_normal, res1, res2, lv2_some, res_var, res_cell, lvf_v, lvf_slc]
  show lv [.cell 2 true 4, .var 3] (exec (callW F) 1 (.seq (.region [] [] c14_0) (.seq (.seq (.region [] [] c14_1) (.block 0 (.loop K14 [] c14_6))) (.seq (.region [] [] c14_7) .ret))) _ _) = _
  simp only [c14, start, List.replicate, c14_0, c14_1, q9z, hw, e_bslice1, e_build, bdH_some, bd_nil, bd_cons, bd1, cl_agg, cl_int, toL, List.map_cons, List.map_nil, putAt, List.set_cons_zero, List.set_cons_succ, and_self, Nat.le_refl, evStore, app_get, app_set, g_agg, run_nil, run_cons, stp_plain, stp_guard, put_some, pass_eq, pick_tt, pick_ff, pick_tf, pick_ft, pick_u, reg_some, thn_normal, thn_exit, thn_ret, cnd_t, cnd_f, blk_normal, blk_ret, blk_exit, x_seq, x_region, x_cond, x_block, x_loop, x_ret, x_exit, x_skip, e_mov, e_pick, pk_t, pk_f, withH_some, e_box, bx_some, e_load, e_store, stH_some, e_nil, e_bin, e_eqv, eqH_f, eqH_t, e_un, e_fa, e_ia, ia_eq, nat_eq, natV_nat, e_len, lnH_some, e_extract, ex_0, ex_1, e_call0, e_call1, e_call2, e_call3, pc0_eq, pc1_some, pc2_some, pc3_some, fin_some, g_var0, g_vars, g_loc0, g_locs, g_int, g_bool, g_str, g_sl, s_none, s_zero, s_succ, evFa, evNil, evLoad, asEl, evBin, intBin, strBin, evUn, len_nil, len_slc, len_str, clr, List.length_nil, List.length_cons, List.getElem?_cons_zero, List.getElem?_cons_succ, Nat.reduceAdd, Nat.zero_add, Nat.add_zero, Nat.reduceLeDiff, Nat.reduceSub, ↓reduceIte, List.drop_succ_cons, List.drop_zero, List.take_succ_cons, List.take_zero, Bool.false_eq_true, List.nil_append, List.cons_append, Bool.not_true, Bool.not_false, cond_true, cond_false, bne, lv_ret, lv_normal, res1, res2, lv2_some, res_var, res_cell, lvf_v, lvf_slc]
  rw [hl _ _ (by rfl)]
  have lvt : ∀ (h : List AO) (a b c d e : Value), lvf h (.tup [.agg [.v a, .v b, .v c, .v d], .v e]) = some (.tup [.agg [.v a, .v b, .v c, .v d], .v e], []) := fun _ _ _ _ _ _ => rfl
  simp only [c14_7, lvt, e_bslice1, e_build, bdH_some, bd_nil, bd_cons, bd1, cl_agg, cl_int, toL, List.map_cons, List.map_nil, putAt, List.set_cons_zero, List.set_cons_succ, and_self, Nat.le_refl, evStore, app_get, app_set, g_agg, run_nil, run_cons, stp_plain, stp_guard, put_some, pass_eq, pick_tt, pick_ff, pick_tf, pick_ft, pick_u, reg_some, thn_normal, thn_exit, thn_ret, cnd_t, cnd_f, blk_normal, blk_ret, blk_exit, x_seq, x_region, x_cond, x_block, x_loop, x_ret, x_exit, x_skip, e_mov, e_pick, pk_t, pk_f, withH_some, e_box, bx_some, e_load, e_store, stH_some, e_nil, e_bin, e_eqv, eqH_f, eqH_t, e_un, e_fa, e_ia, ia_eq, nat_eq, natV_nat, e_len, lnH_some, e_extract, ex_0, ex_1, e_call0, e_call1, e_call2, e_call3, pc0_eq, pc1_some, pc2_some, pc3_some, fin_some, g_var0, g_vars, g_loc0, g_locs, g_int, g_bool, g_str, g_sl, s_none, s_zero, s_succ, evFa, evNil, evLoad, asEl, evBin, intBin, strBin, evUn, len_nil, len_slc, len_str, clr, List.length_nil, List.length_cons, List.getElem?_cons_zero, List.getElem?_cons_succ, Nat.reduceAdd, Nat.zero_add, Nat.add_zero, Nat.reduceLeDiff, Nat.reduceSub, ↓reduceIte, List.drop_succ_cons, List.drop_zero, List.take_succ_cons, List.take_zero, Bool.false_eq_true, List.nil_append, List.cons_append, Bool.not_true, Bool.not_false, cond_true, cond_false, bne, lv_ret, lv_normal, res1, res2, lv2_some, res_var, res_cell, lvf_v, lvf_slc]
  rfl
/-- both Looks, of any slice of bindings -/
theorem looks {b : AV} {bs : List (Int × Tm)} (hb : IsB b bs) (hl : bs.length ≤ 100000) : ∃ es, AllB es bs ∧ (∀ n, callW F 13 [b, .v (.int .i64 n)] [] = some (lookA n es.reverse, [])) ∧ (∀ n, callW F 14 [b, .v (.int .i64 n)] [] = some (lookA n es.reverse, [])) := by
  cases hb with
  | nil => exact ⟨[], .nil, look_call_nil, look14_nil⟩
  | slc ex nn es _ hes hm => exact ⟨es, hes, look_call hes (by have := hes.length; omega) ex nn, look14_ok hes hm⟩
end Go.AE.Ytpgoibncgekflaa
end

/-! Follow, and the document's Walk: both follow bindings as `walkT` tells. -/
section
set_option linter.unusedVariables false
set_option linter.unusedSimpArgs false
namespace Go.AE.Ytpgoibncgekflaa
open Go Go.AE Go.Proofs.Ytpgoibncgekflaa

def lookT : List (Int × Tm) → Int → Option Tm
  | [], _ => none
  | (v, t) :: r, n => if v = n then some t else lookT r n
/-- what a term is bound to -/
def bound (rs : List (Int × Tm)) : Tm → Option Tm
  | .mk k _ n _ => if k = 1 then lookT rs n else none
/-- a term's bindings followed: where it ends, the error, the steps that are left -/
def walkT (rs : List (Int × Tm)) : Nat → Tm → Tm × Int × Nat
  | 0, t => match bound rs t with
    | some _ => (zeroT, 140, 0)
    | none => (t, 0, 0)
  | left + 1, t => match bound rs t with
    | some t' => walkT rs left t'
    | none => (t, 0, left + 1)

theorem isT_zero : IsT (.agg zeroC) zeroT := .mk 0 _ 0 _ [] .nil
theorem look_rel (n : Int) : ∀ {es : List AV} {bs : List (Int × Tm)}, AllB es bs → (lookT bs n = none ∧ lookA n es = .tup [.agg zeroC, .v (.bool false)]) ∨ ∃ t cs, lookT bs n = some t ∧ lookA n es = .tup [.agg cs, .v (.bool true)] ∧ IsT (.agg cs) t
  | _, _, .nil => .inl ⟨rfl, rfl⟩
  | _, _, .cons a v t es ts h hs => by
    cases h with
    | mk v cs t ht =>
      by_cases hv : v = n
      · exact .inr ⟨t, cs, by simp [lookT, hv], by simp [lookA, hv], ht⟩
      · rcases look_rel n hs with ⟨h1, h2⟩ | ⟨t', cs', h1, h2, h3⟩
        · exact .inl ⟨by simp [lookT, hv, h1], by simp [lookA, hv, h2]⟩
        · exact .inr ⟨t', cs', by simp [lookT, hv, h1], by simp [lookA, hv, h2], h3⟩

theorem IsT.bel {a : AV} {t : Tm} (ht : IsT a t) : AO.below 0 (.box a.cells) = true := by
  cases ht with
  | mk k s n c l hc => cases hc <;> rfl
theorem IsT.frz {a : AV} {t : Tm} (ht : IsT a t) (B : Nat) (h : List AO) : a.frz1 B h = some a := by
  cases ht with
  | mk k s n c l hc => cases hc <;> rfl
theorem lvt {a : AV} {t : Tm} (ht : IsT a t) (h : List AO) (x : Value) : lvf h (.tup [a, .v x]) = some (.tup [a, .v x], []) := by
  cases ht with
  | mk k s n c l hc => cases hc <;> rfl
theorem lv1 {a : AV} {t : Tm} (ht : IsT a t) (h : List AO) : lvf h a = some (a, []) := by
  cases ht with
  | mk k s n c l hc => cases hc <;> rfl

/-- a counter in a variable of the caller's -/
structure Ctr (h : List AO) (id off : Nat) (ms : List AV) : Prop where
  lt : id < h.length
  le : off + 1 ≤ ms.length
  bel : h.all (AO.below h.length) = true
  mb : ms.all (AV.below1 h.length) = true

def ctr (h : List AO) (id off : Nat) (ms : List AV) (m : Int) : List AO := h.set id (.box (ms.set off (.v (.int .i64 m))))
section
variable {h : List AO} {id off : Nat} {ms : List AV} {m : Int} {l : List AO}
theorem ctr_len : (ctr h id off ms m).length = h.length := by simp [ctr]
theorem Ctr.load (c : Ctr h id off ms) (m : Int) (l : List AO) : evLoad (ctr h id off ms m ++ l) false 1 (.ptr id off) = some (.v (.int .i64 m)) := by
  have h1 : (ctr h id off ms m ++ l)[id]? = some (.box (ms.set off (.v (.int .i64 m)))) := his_get (set_get c.lt)
  have hlt : off < ms.length := by have := c.le; omega
  have h2 : ((ms.set off (.v (.int .i64 m))).drop off).take 1 = [.v (.int .i64 m)] := by
    rw [List.drop_eq_getElem_cons (by simpa using hlt)]
    simp
  have h3 : off + 1 ≤ (ms.set off (AV.v (.int .i64 m))).length := by simpa using c.le
  simp only [evLoad, h1, if_pos h3, h2, asEl, Bool.false_eq_true, if_false]
theorem Ctr.store (c : Ctr h id off ms) (m n : Int) (l : List AO) : evStore (ctr h id off ms m ++ l) 1 (.ptr id off) (.v (.int .i64 n)) = some (ctr h id off ms n ++ l) := by
  have h1 : (ctr h id off ms m ++ l)[id]? = some (.box (ms.set off (.v (.int .i64 m)))) := his_get (set_get c.lt)
  have h3 : off + 1 ≤ (ms.set off (AV.v (.int .i64 m))).length := by simpa using c.le
  simp only [evStore, h1, cl_int, List.length_cons, List.length_nil, Nat.zero_add, h3, and_self, if_true, putAt]
  rw [his_set (by rw [ctr_len]; exact c.lt)]
  simp [ctr]
theorem Ctr.all (c : Ctr h id off ms) (m : Int) : (ctr h id off ms m).all (AO.below h.length) = true := by
  simp only [List.all_eq_true]
  intro o ho
  rcases List.mem_or_eq_of_mem_set ho with h1 | h1
  · have := c.bel; simp only [List.all_eq_true] at this; exact this o h1
  · subst h1
    simp only [AO.below, List.all_eq_true]
    intro x hx
    rcases List.mem_or_eq_of_mem_set hx with h2 | h2
    · have := c.mb; simp only [List.all_eq_true] at this; exact this x h2
    · subst h2; rfl
theorem c_ld {a : Bool} {sz k o : Nat} : evLoad (ctr h id off ms m ++ l) a sz (.ptr (h.length + k) o) = ldAt l k a sz o := own_ld ctr_len
theorem c_ld0 {a : Bool} {sz o : Nat} : evLoad (ctr h id off ms m ++ l) a sz (.ptr h.length o) = ldAt l 0 a sz o := own_ld0 ctr_len
theorem c_st {sz k o : Nat} {x : AV} : evStore (ctr h id off ms m ++ l) sz (.ptr (h.length + k) o) x = preH (ctr h id off ms m) (stAt l sz k o x) := own_st ctr_len
theorem c_st0 {sz o : Nat} {x : AV} : evStore (ctr h id off ms m ++ l) sz (.ptr h.length o) x = preH (ctr h id off ms m) (stAt l sz 0 o x) := own_st0 ctr_len
theorem c_bx {cs : List AV} : bx (ctr h id off ms m ++ l) (some cs) = some (.ptr (h.length + l.length) 0, ctr h id off ms m ++ (l ++ [.box cs])) := own_bx ctr_len

def K31f : List Bool := [true, false, true, true, true, false, false, false, false, false, false]
def L31f (b : AV) (B id off : Nat) : List AV := [b, .junk, .ptr id off, .ptr B 0, .ptr (B + 1) 0, .junk, .junk, .junk, .junk, .junk, .junk]

theorem snapv (h : List AO) (x : Int) : (AV.v (.int .i64 x)).snap1 h = some (.v (.int .i64 x)) := rfl
theorem ptrs (a b c d : Nat) (e : c = a + b) : AV.ptr c d = AV.ptr (a + b) d := by rw [e]

theorem follow_loop (c : Ctr h id off ms) {K : Nat} {b : AV} {es : List AV} {rs : List (Int × Tm)} (hes : AllB es rs) {b' : AV} (hbs : ∀ (m : Int) (l : List AO), b.snap1 (ctr h id off ms m ++ l) = some b') (hlook : ∀ n, callW F 13 [b', .v (.int .i64 n)] [] = some (lookA n es, [])) :
    ∀ (m : Nat), m ≤ 5000 → ∀ (t : Tm) (cs : List AV), IsT (.agg cs) t → ∀ (tail : List AO) (vars : List AV), clr K31f vars = L31f b h.length id off →
    ∃ rc, IsT (.agg rc) (walkT rs m t).1 ∧
      ((∃ o tl x6 x7 x8 x9 x10, loopN (exec (callW F) K c31_9) K31f (m + 1) vars (ctr h id off ms m ++ (.box cs :: .box zeroC :: tail)) = some (.ret, [b, .junk, .ptr id off, .ptr h.length 0, .ptr (h.length + 1) 0, .v (.int .i64 (walkT rs m t).2.1), x6, x7, x8, x9, x10], ctr h id off ms (walkT rs m t).2.2 ++ (o :: .box rc :: tl))) ∨
       ((walkT rs m t).2.1 = 0 ∧ ∃ tl x6 x7 x8 x9 x10, loopN (exec (callW F) K c31_9) K31f (m + 1) vars (ctr h id off ms m ++ (.box cs :: .box zeroC :: tail)) = some (.exit 0, [b, .junk, .ptr id off, .ptr h.length 0, .ptr (h.length + 1) 0, .junk, x6, x7, x8, x9, x10], ctr h id off ms (walkT rs m t).2.2 ++ (.box rc :: .box zeroC :: tl)))) := by
  have stay : ∀ (m : Nat) (t : Tm), bound rs t = none → walkT rs m t = (t, 0, m) := by
    intro m t hb; cases m <;> simp [walkT, hb]
  have none_case : ∀ (m : Nat) (t : Tm) (cs : List AV), IsT (.agg cs) t → bound rs t = none → ∀ (tail : List AO) (vars : List AV), clr K31f vars = L31f b h.length id off →
      ((∃ o tl x6 x7 x8 x9 x10, loopN (exec (callW F) K c31_9) K31f (m + 1) vars (ctr h id off ms m ++ (.box cs :: .box zeroC :: tail)) = some (.ret, [b, .junk, .ptr id off, .ptr h.length 0, .ptr (h.length + 1) 0, .v (.int .i64 0), x6, x7, x8, x9, x10], ctr h id off ms m ++ (o :: .box cs :: tl))) ∨
       (∃ tl x6 x7 x8 x9 x10, loopN (exec (callW F) K c31_9) K31f (m + 1) vars (ctr h id off ms m ++ (.box cs :: .box zeroC :: tail)) = some (.exit 0, [b, .junk, .ptr id off, .ptr h.length 0, .ptr (h.length + 1) 0, .junk, x6, x7, x8, x9, x10], ctr h id off ms m ++ (.box cs :: .box zeroC :: tl)))) := by
    intro m t cs ht hb tail vars hv
    cases ht with
    | mk k s n c' l' hc =>
    by_cases hk : k = 1
    · left
      have h1 : (k == 1) = true := by simpa using hk
      have hl : lookT rs n = none := by simpa [bound, hk] using hb
      have hla := hlook n
      rcases look_rel n hes with ⟨_, h2⟩ | ⟨t', cs', h2, _⟩
      · rw [h2] at hla
        iterate 7 apply Exists.intro
        apply loop_ret
        rw [hv]
        simp only [L31f, zeroC, c31_9, c31_1, c31_2, c31_3, c31_4, h1, hla, hbs, snapv, q9z, c_ld, c_ld0, c_st, c_st0, c_bx, ldAt, stAt, preH_some, List.append_assoc, e_bslice1, e_bslice2, bs1, bs2, e_build, bdH_some, bd_nil, bd_cons, bd1, cl_agg, cl_int, toL, List.map_cons, List.map_nil, putAt, List.set_cons_zero, List.set_cons_succ, and_self, Nat.le_refl, app_get, app_set, g_agg, run_nil, run_cons, stp_plain, stp_guard, put_some, pass_eq, pick_tt, pick_ff, pick_tf, pick_ft, pick_u, reg_some, thn_normal, thn_exit, thn_ret, cnd_t, cnd_f, blk_normal, blk_ret, blk_exit, x_seq, x_region, x_cond, x_block, x_loop, x_ret, x_exit, x_skip, e_mov, e_pick, pk_t, pk_f, withH_some, e_box, e_load, e_store, stH_some, e_nil, e_bin, e_eqv, eqH_f, eqH_t, e_un, e_fa, e_ia, ia_eq, nat_eq, natV_nat, e_len, lnH_some, e_extract, ex_0, ex_1, e_call0, e_call1, e_call2, e_call3, pc0_eq, pc1_some, pc2_some, pc3_some, fin_some, g_var0, g_vars, g_loc0, g_locs, g_int, g_bool, g_str, g_sl, s_none, s_zero, s_succ, cl_nil, cl_str, cl_bool, cl_slc, cl_own, evFa, evNil, asEl, evBin, intBin, strBin, evUn, len_nil, len_slc, len_str, clr, List.length_nil, List.length_cons, List.getElem?_cons_zero, List.getElem?_cons_succ, Nat.reduceAdd, Nat.zero_add, Nat.add_zero, Nat.reduceLeDiff, Nat.reduceSub, ↓reduceIte, List.drop_succ_cons, List.drop_zero, List.take_succ_cons, List.take_zero, Bool.false_eq_true, List.nil_append, List.cons_append, Bool.not_true, Bool.not_false, cond_true, cond_false, bne, lv_ret, lv_normal, res1, res2, lv2_some, res_var, res_cell, lvf_v, lvf_slc, res1c, lvo1_some, e_mm, mm_max, mm_min]
        rfl
      · rw [hl] at h2; cases h2
    · right
      have h1 : (k == 1) = false := by simpa using hk
      iterate 6 apply Exists.intro
      apply loop_exit
      rw [hv]
      simp only [L31f, zeroC, c31_9, c31_1, h1, c_ld, c_ld0, c_st, c_st0, c_bx, ldAt, stAt, preH_some, List.append_assoc, e_bslice1, e_bslice2, bs1, bs2, e_build, bdH_some, bd_nil, bd_cons, bd1, cl_agg, cl_int, toL, List.map_cons, List.map_nil, putAt, List.set_cons_zero, List.set_cons_succ, and_self, Nat.le_refl, app_get, app_set, g_agg, run_nil, run_cons, stp_plain, stp_guard, put_some, pass_eq, pick_tt, pick_ff, pick_tf, pick_ft, pick_u, reg_some, thn_normal, thn_exit, thn_ret, cnd_t, cnd_f, blk_normal, blk_ret, blk_exit, x_seq, x_region, x_cond, x_block, x_loop, x_ret, x_exit, x_skip, e_mov, e_pick, pk_t, pk_f, withH_some, e_box, e_load, e_store, stH_some, e_nil, e_bin, e_eqv, eqH_f, eqH_t, e_un, e_fa, e_ia, ia_eq, nat_eq, natV_nat, e_len, lnH_some, e_extract, ex_0, ex_1, e_call0, e_call1, e_call2, e_call3, pc0_eq, pc1_some, pc2_some, pc3_some, fin_some, g_var0, g_vars, g_loc0, g_locs, g_int, g_bool, g_str, g_sl, s_none, s_zero, s_succ, cl_nil, cl_str, cl_bool, cl_slc, cl_own, evFa, evNil, asEl, evBin, intBin, strBin, evUn, len_nil, len_slc, len_str, clr, List.length_nil, List.length_cons, List.getElem?_cons_zero, List.getElem?_cons_succ, Nat.reduceAdd, Nat.zero_add, Nat.add_zero, Nat.reduceLeDiff, Nat.reduceSub, ↓reduceIte, List.drop_succ_cons, List.drop_zero, List.take_succ_cons, List.take_zero, Bool.false_eq_true, List.nil_append, List.cons_append, Bool.not_true, Bool.not_false, cond_true, cond_false, bne, lv_ret, lv_normal, res1, res2, lv2_some, res_var, res_cell, lvf_v, lvf_slc, res1c, lvo1_some, e_mm, mm_max, mm_min]
      rfl
  have some_case : ∀ (t : Tm) (cs : List AV), IsT (.agg cs) t → ∀ t', bound rs t = some t' → ∃ s n c cs', cs = [.v (.int .i64 1), .v (.string s), .v (.int .i64 n), c] ∧ IsT (.agg cs') t' ∧ callW F 13 [b', .v (.int .i64 n)] [] = some (.tup [.agg cs', .v (.bool true)], []) := by
    intro t cs ht t' hb
    cases ht with
    | mk k s n c' l' hc =>
    by_cases hk : k = 1
    · subst hk
      rcases look_rel n hes with ⟨h2, _⟩ | ⟨t2, cs', h2, h3, h4⟩
      · simp [bound, h2] at hb
      · simp [bound, h2] at hb
        subst hb
        exact ⟨s, n, c', cs', rfl, h4, by rw [hlook n, h3]⟩
    · simp [bound, hk] at hb
  intro m
  induction m with
  | zero =>
    intro _ t cs ht tail vars hv
    cases hb : bound rs t with
    | none =>
      rw [stay 0 t hb]
      refine ⟨cs, ht, ?_⟩
      rcases none_case 0 t cs ht hb tail vars hv with h1 | h1
      · exact .inl h1
      · exact .inr ⟨rfl, h1⟩
    | some t' =>
      obtain ⟨s, n, c', cs', rfl, ht', hla⟩ := some_case t cs ht t' hb
      cases ht' with
      | mk k2 s2 n2 c2 l2 hc2 =>
      have h0 : (((0 : Nat) : Int) == 0) = true := rfl
      have h1 : ((1 : Int) == 1) = true := rfl
      refine ⟨zeroC, by simpa [walkT, hb] using isT_zero, .inl ?_⟩
      simp only [walkT, hb]
      iterate 7 apply Exists.intro
      apply loop_ret
      rw [hv]
      simp only [L31f, zeroC, c31_9, c31_1, c31_2, c31_3, c31_5, c31_6, h0, h1, hla, hbs, snapv, q9z, c.load, c_ld, c_ld0, c_st, c_st0, c_bx, evNil, ldAt, stAt, preH_some, List.append_assoc, e_bslice1, e_bslice2, bs1, bs2, e_build, bdH_some, bd_nil, bd_cons, bd1, cl_agg, cl_int, toL, List.map_cons, List.map_nil, putAt, List.set_cons_zero, List.set_cons_succ, and_self, Nat.le_refl, app_get, app_set, g_agg, run_nil, run_cons, stp_plain, stp_guard, put_some, pass_eq, pick_tt, pick_ff, pick_tf, pick_ft, pick_u, reg_some, thn_normal, thn_exit, thn_ret, cnd_t, cnd_f, blk_normal, blk_ret, blk_exit, x_seq, x_region, x_cond, x_block, x_loop, x_ret, x_exit, x_skip, e_mov, e_pick, pk_t, pk_f, withH_some, e_box, e_load, e_store, stH_some, e_nil, e_bin, e_eqv, eqH_f, eqH_t, e_un, e_fa, e_ia, ia_eq, nat_eq, natV_nat, e_len, lnH_some, e_extract, ex_0, ex_1, e_call0, e_call1, e_call2, e_call3, pc0_eq, pc1_some, pc2_some, pc3_some, fin_some, g_var0, g_vars, g_loc0, g_locs, g_int, g_bool, g_str, g_sl, s_none, s_zero, s_succ, cl_nil, cl_str, cl_bool, cl_slc, cl_own, evFa, evNil, asEl, evBin, intBin, strBin, evUn, len_nil, len_slc, len_str, clr, List.length_nil, List.length_cons, List.getElem?_cons_zero, List.getElem?_cons_succ, Nat.reduceAdd, Nat.zero_add, Nat.add_zero, Nat.reduceLeDiff, Nat.reduceSub, ↓reduceIte, List.drop_succ_cons, List.drop_zero, List.take_succ_cons, List.take_zero, Bool.false_eq_true, List.nil_append, List.cons_append, Bool.not_true, Bool.not_false, cond_true, cond_false, bne, lv_ret, lv_normal, res1, res2, lv2_some, res_var, res_cell, lvf_v, lvf_slc, res1c, lvo1_some, e_mm, mm_max, mm_min]
      rfl
  | succ m ih =>
    intro hm t cs ht tail vars hv
    cases hb : bound rs t with
    | none =>
      rw [stay (m + 1) t hb]
      refine ⟨cs, ht, ?_⟩
      rcases none_case (m + 1) t cs ht hb tail vars hv with h1 | h1
      · exact .inl h1
      · exact .inr ⟨rfl, h1⟩
    | some t' =>
      obtain ⟨s, n, c', cs', rfl, ht', hla⟩ := some_case t cs ht t' hb
      have ht2 := ht'
      have hwalk : walkT rs (m + 1) t = walkT rs m t' := by simp [walkT, hb]
      rw [hwalk]
      cases ht' with
      | mk k2 s2 n2 c2 l2 hc2 =>
      have h0 : (((m + 1 : Nat) : Int) == 0) = false := by simp; omega
      have h1 : ((1 : Int) == 1) = true := rfl
      have hw : IntKind.i64.wrap (((m + 1 : Nat) : Int) - 1) = (m : Int) := by rw [wrap_ok (by omega) (by omega)]; omega
      have st : exec (callW F) K c31_9 (L31f b h.length id off) (ctr h id off ms ((m + 1 : Nat) : Int) ++ (.box [.v (.int .i64 1), .v (.string s), .v (.int .i64 n), c'] :: .box zeroC :: tail)) = some (.normal, [b, .junk, .ptr id off, .ptr h.length 0, .ptr (h.length + 1) 0, .junk, .ptr (h.length + (tail.length + 1 + 1)) 0, .v (.bool true), .v (.bool true), .v (.bool false), .v (.bool false)], ctr h id off ms m ++ (.box [.v (.int .i64 k2), .v (.string s2), .v (.int .i64 n2), c2] :: .box zeroC :: (tail ++ [.box [.v (.int .i64 k2), .v (.string s2), .v (.int .i64 n2), c2]]))) := by
        simp only [L31f, zeroC, c31_9, c31_1, c31_2, c31_3, c31_5, c31_7, c31_8, h0, h1, hw, hla, hbs, snapv, q9z, c.load, c.store, c_ld, c_ld0, c_st, c_st0, c_bx, evNil, ldAt, stAt, preH_some, List.append_assoc, e_bslice1, e_bslice2, bs1, bs2, e_build, bdH_some, bd_nil, bd_cons, bd1, cl_agg, cl_int, toL, List.map_cons, List.map_nil, putAt, List.set_cons_zero, List.set_cons_succ, and_self, Nat.le_refl, app_get, app_set, g_agg, run_nil, run_cons, stp_plain, stp_guard, put_some, pass_eq, pick_tt, pick_ff, pick_tf, pick_ft, pick_u, reg_some, thn_normal, thn_exit, thn_ret, cnd_t, cnd_f, blk_normal, blk_ret, blk_exit, x_seq, x_region, x_cond, x_block, x_loop, x_ret, x_exit, x_skip, e_mov, e_pick, pk_t, pk_f, withH_some, e_box, e_load, e_store, stH_some, e_nil, e_bin, e_eqv, eqH_f, eqH_t, e_un, e_fa, e_ia, ia_eq, nat_eq, natV_nat, e_len, lnH_some, e_extract, ex_0, ex_1, e_call0, e_call1, e_call2, e_call3, pc0_eq, pc1_some, pc2_some, pc3_some, fin_some, g_var0, g_vars, g_loc0, g_locs, g_int, g_bool, g_str, g_sl, s_none, s_zero, s_succ, cl_nil, cl_str, cl_bool, cl_slc, cl_own, evFa, evNil, asEl, evBin, intBin, strBin, evUn, len_nil, len_slc, len_str, clr, List.length_nil, List.length_cons, List.getElem?_cons_zero, List.getElem?_cons_succ, Nat.reduceAdd, Nat.zero_add, Nat.add_zero, Nat.reduceLeDiff, Nat.reduceSub, ↓reduceIte, List.drop_succ_cons, List.drop_zero, List.take_succ_cons, List.take_zero, Bool.false_eq_true, List.nil_append, List.cons_append, Bool.not_true, Bool.not_false, cond_true, cond_false, bne, lv_ret, lv_normal, res1, res2, lv2_some, res_var, res_cell, lvf_v, lvf_slc, res1c, lvo1_some, e_mm, mm_max, mm_min]
      rw [loop_normal (by rw [hv]; exact st)]
      exact ih (by omega) _ _ ht2 _ _ rfl

/-- Follow, with a counter of the caller's -/
theorem follow_ok (c : Ctr h id off ms) {b a : AV} {es : List AV} {rs : List (Int × Tm)} (hes : AllB es rs) {b' : AV} (hbs : ∀ (m : Int) (l : List AO), b.snap1 (ctr h id off ms m ++ l) = some b') (hlook : ∀ n, callW F 13 [b', .v (.int .i64 n)] [] = some (lookA n es, []))
    (m : Nat) (hm : m ≤ 5000) {t : Tm} (ht : IsT a t) : ∃ rc, IsT (.agg rc) (walkT rs m t).1 ∧ callW F 31 [b, a, .ptr id off] (ctr h id off ms m) = some (.tup [.agg rc, .v (.int .i64 (walkT rs m t).2.1)], ctr h id off ms (walkT rs m t).2.2) := by
  obtain ⟨cs, rfl⟩ : ∃ cs, a = .agg cs := by cases ht; exact ⟨_, rfl⟩
  obtain ⟨rc, hrc, hl⟩ := follow_loop (K := 5001) c hes hbs hlook m hm t cs ht [] (L31f b h.length id off) rfl
  refine ⟨rc, hrc, ?_⟩
  have hres : c31.res = [.cell 4 true 4, .var 5] := rfl
  have body : exec (callW F) 5001 c31.body (start c31 [b, .agg cs, .ptr id off]) (ctr h id off ms m ++ []) = thn (callW F) 5001 (.seq (.region [] [] c31_10) .ret) (blk 0 (loopN (exec (callW F) 5001 c31_9) K31f 5001 (L31f b h.length id off) (ctr h id off ms m ++ (.box cs :: .box zeroC :: [])))) := by
    show exec (callW F) 5001 (.seq (.region [] [] c31_0) (.seq (.block 0 (.loop K31f [] c31_9)) (.seq (.region [] [] c31_10) .ret))) _ _ = _
    generalize (CC.seq (.region [] [] c31_10) .ret) = rest
    simp only [c31, start, zeroC, List.replicate, c31_0, q9z, c_bx, preH_some, List.append_assoc, e_bslice1, e_bslice2, bs1, bs2, e_build, bdH_some, bd_nil, bd_cons, bd1, cl_agg, cl_int, toL, List.map_cons, List.map_nil, putAt, List.set_cons_zero, List.set_cons_succ, and_self, Nat.le_refl, app_get, app_set, g_agg, run_nil, run_cons, stp_plain, stp_guard, put_some, pass_eq, pick_tt, pick_ff, pick_tf, pick_ft, pick_u, reg_some, thn_normal, thn_exit, thn_ret, cnd_t, cnd_f, blk_normal, blk_ret, blk_exit, x_seq, x_region, x_cond, x_block, x_loop, x_ret, x_exit, x_skip, e_mov, e_pick, pk_t, pk_f, withH_some, e_box, e_load, e_store, stH_some, e_nil, e_bin, e_eqv, eqH_f, eqH_t, e_un, e_fa, e_ia, ia_eq, nat_eq, natV_nat, e_len, lnH_some, e_extract, ex_0, ex_1, e_call0, e_call1, e_call2, e_call3, pc0_eq, pc1_some, pc2_some, pc3_some, fin_some, g_var0, g_vars, g_loc0, g_locs, g_int, g_bool, g_str, g_sl, s_none, s_zero, s_succ, cl_nil, cl_str, cl_bool, cl_slc, cl_own, evFa, evNil, asEl, evBin, intBin, strBin, evUn, len_nil, len_slc, len_str, clr, List.length_nil, List.length_cons, List.getElem?_cons_zero, List.getElem?_cons_succ, Nat.reduceAdd, Nat.zero_add, Nat.add_zero, Nat.reduceLeDiff, Nat.reduceSub, ↓reduceIte, List.drop_succ_cons, List.drop_zero, List.take_succ_cons, List.take_zero, Bool.false_eq_true, List.nil_append, List.cons_append, Bool.not_true, Bool.not_false, cond_true, cond_false, bne, lv_ret, lv_normal, res1, res2, lv2_some, res_var, res_cell, lvf_v, lvf_slc, res1c, lvo1_some, e_mm, mm_max, mm_min]
    rw [loop_cong (v2 := L31f b h.length id off) (by rfl)]
  refine callW_own (c := c31) rfl rfl 5001 ?_
  rw [body, ctr_len]
  rcases hl with ⟨o, tl, x6, x7, x8, x9, x10, h1⟩ | ⟨h0, tl, x6, x7, x8, x9, x10, h1⟩
  · rw [loop_more h1 (by omega)]
    generalize walkT rs m t = w at hrc ⊢
    obtain ⟨w1, w2, w3⟩ := w
    simp only [blk_ret, thn_ret]
    rw [leave_own ctr_len (c.all _), hres, own_res2 (x := .agg rc) (y := .v (.int .i64 w2)) _ _]
    · exact lvo_two (hrc.frz _ _) rfl
    · cases hrc; simp only [res_cell, c_ld, ldAt, e_bslice1, e_bslice2, bs1, bs2, e_build, bdH_some, bd_nil, bd_cons, bd1, cl_agg, cl_int, toL, List.map_cons, List.map_nil, putAt, List.set_cons_zero, List.set_cons_succ, and_self, Nat.le_refl, app_get, app_set, g_agg, run_nil, run_cons, stp_plain, stp_guard, put_some, pass_eq, pick_tt, pick_ff, pick_tf, pick_ft, pick_u, reg_some, thn_normal, thn_exit, thn_ret, cnd_t, cnd_f, blk_normal, blk_ret, blk_exit, x_seq, x_region, x_cond, x_block, x_loop, x_ret, x_exit, x_skip, e_mov, e_pick, pk_t, pk_f, withH_some, e_box, e_load, e_store, stH_some, e_nil, e_bin, e_eqv, eqH_f, eqH_t, e_un, e_fa, e_ia, ia_eq, nat_eq, natV_nat, e_len, lnH_some, e_extract, ex_0, ex_1, e_call0, e_call1, e_call2, e_call3, pc0_eq, pc1_some, pc2_some, pc3_some, fin_some, g_var0, g_vars, g_loc0, g_locs, g_int, g_bool, g_str, g_sl, s_none, s_zero, s_succ, cl_nil, cl_str, cl_bool, cl_slc, cl_own, evFa, evNil, asEl, evBin, intBin, strBin, evUn, len_nil, len_slc, len_str, clr, List.length_nil, List.length_cons, List.getElem?_cons_zero, List.getElem?_cons_succ, Nat.reduceAdd, Nat.zero_add, Nat.add_zero, Nat.reduceLeDiff, Nat.reduceSub, ↓reduceIte, List.drop_succ_cons, List.drop_zero, List.take_succ_cons, List.take_zero, Bool.false_eq_true, List.nil_append, List.cons_append, Bool.not_true, Bool.not_false, cond_true, cond_false, bne, lv_ret, lv_normal, res1, res2, lv2_some, res_var, res_cell, lvf_v, lvf_slc, res1c, lvo1_some, e_mm, mm_max, mm_min]
    · rfl
  · rw [loop_more h1 (by omega)]
    rw [h0]
    generalize walkT rs m t = w at hrc ⊢
    obtain ⟨w1, w2, w3⟩ := w
    cases hrc
    simp only [blk_exit, thn_normal, zeroC, c31_10, c_ld, c_ld0, c_st, c_st0, ldAt, stAt, preH_some, List.append_assoc, e_bslice1, e_bslice2, bs1, bs2, e_build, bdH_some, bd_nil, bd_cons, bd1, cl_agg, cl_int, toL, List.map_cons, List.map_nil, putAt, List.set_cons_zero, List.set_cons_succ, and_self, Nat.le_refl, app_get, app_set, g_agg, run_nil, run_cons, stp_plain, stp_guard, put_some, pass_eq, pick_tt, pick_ff, pick_tf, pick_ft, pick_u, reg_some, thn_normal, thn_exit, thn_ret, cnd_t, cnd_f, blk_normal, blk_ret, blk_exit, x_seq, x_region, x_cond, x_block, x_loop, x_ret, x_exit, x_skip, e_mov, e_pick, pk_t, pk_f, withH_some, e_box, e_load, e_store, stH_some, e_nil, e_bin, e_eqv, eqH_f, eqH_t, e_un, e_fa, e_ia, ia_eq, nat_eq, natV_nat, e_len, lnH_some, e_extract, ex_0, ex_1, e_call0, e_call1, e_call2, e_call3, pc0_eq, pc1_some, pc2_some, pc3_some, fin_some, g_var0, g_vars, g_loc0, g_locs, g_int, g_bool, g_str, g_sl, s_none, s_zero, s_succ, cl_nil, cl_str, cl_bool, cl_slc, cl_own, evFa, evNil, asEl, evBin, intBin, strBin, evUn, len_nil, len_slc, len_str, clr, List.length_nil, List.length_cons, List.getElem?_cons_zero, List.getElem?_cons_succ, Nat.reduceAdd, Nat.zero_add, Nat.add_zero, Nat.reduceLeDiff, Nat.reduceSub, ↓reduceIte, List.drop_succ_cons, List.drop_zero, List.take_succ_cons, List.take_zero, Bool.false_eq_true, List.nil_append, List.cons_append, Bool.not_true, Bool.not_false, cond_true, cond_false, bne, lv_ret, lv_normal, res1, res2, lv2_some, res_var, res_cell, lvf_v, lvf_slc, res1c, lvo1_some, e_mm, mm_max, mm_min]
    rw [leave_own ctr_len (c.all _), hres, own_res2 (x := .agg _) (y := .v (.int .i64 0)) _ _]
    · exact lvo_two (IsT.frz (.mk _ _ _ _ _ (by assumption)) _ _) rfl
    · simp only [res_cell, c_ld, ldAt, e_bslice1, e_bslice2, bs1, bs2, e_build, bdH_some, bd_nil, bd_cons, bd1, cl_agg, cl_int, toL, List.map_cons, List.map_nil, putAt, List.set_cons_zero, List.set_cons_succ, and_self, Nat.le_refl, app_get, app_set, g_agg, run_nil, run_cons, stp_plain, stp_guard, put_some, pass_eq, pick_tt, pick_ff, pick_tf, pick_ft, pick_u, reg_some, thn_normal, thn_exit, thn_ret, cnd_t, cnd_f, blk_normal, blk_ret, blk_exit, x_seq, x_region, x_cond, x_block, x_loop, x_ret, x_exit, x_skip, e_mov, e_pick, pk_t, pk_f, withH_some, e_box, e_load, e_store, stH_some, e_nil, e_bin, e_eqv, eqH_f, eqH_t, e_un, e_fa, e_ia, ia_eq, nat_eq, natV_nat, e_len, lnH_some, e_extract, ex_0, ex_1, e_call0, e_call1, e_call2, e_call3, pc0_eq, pc1_some, pc2_some, pc3_some, fin_some, g_var0, g_vars, g_loc0, g_locs, g_int, g_bool, g_str, g_sl, s_none, s_zero, s_succ, cl_nil, cl_str, cl_bool, cl_slc, cl_own, evFa, evNil, asEl, evBin, intBin, strBin, evUn, len_nil, len_slc, len_str, clr, List.length_nil, List.length_cons, List.getElem?_cons_zero, List.getElem?_cons_succ, Nat.reduceAdd, Nat.zero_add, Nat.add_zero, Nat.reduceLeDiff, Nat.reduceSub, ↓reduceIte, List.drop_succ_cons, List.drop_zero, List.take_succ_cons, List.take_zero, Bool.false_eq_true, List.nil_append, List.cons_append, Bool.not_true, Bool.not_false, cond_true, cond_false, bne, lv_ret, lv_normal, res1, res2, lv2_some, res_var, res_cell, lvf_v, lvf_slc, res1c, lvo1_some, e_mm, mm_max, mm_min]
    · rfl
end
end Go.AE.Ytpgoibncgekflaa
end

/-! Walk, and the document's Walk: both follow bindings as `walkT` tells. -/
section
set_option linter.unusedVariables false
set_option linter.unusedSimpArgs false
namespace Go.AE.Ytpgoibncgekflaa
open Go Go.AE Go.Proofs.Ytpgoibncgekflaa

section
variable {h : List AO} {id off : Nat} {ms : List AV} {m : Int} {l : List AO}
theorem spend_ok (c : Ctr h id off ms) {l : List AO} (hl : l.all (AO.below (h.length + l.length)) = true) (n : Int) (hn : 0 ≤ n ∧ n ≤ 100000) : callW F 47 [.ptr id off] (ctr h id off ms n ++ l) = some (.v (.bool (decide (n + 1 ≤ 2000))), ctr h id off ms (n + 1) ++ l) := by
  refine callW_own (c := c47) rfl rfl 0 ?_
  have hw : IntKind.i64.wrap (n + 1) = n + 1 := wrap_ok (by omega) (by omega)
  have hln : (ctr h id off ms n ++ l).length = (ctr h id off ms (n + 1) ++ l).length := by simp [ctr_len]
  have hall : (ctr h id off ms (n + 1) ++ l).all (AO.below (ctr h id off ms n ++ l).length) = true := by
    rw [List.all_append, Bool.and_eq_true]
    rw [List.length_append, ctr_len]
    exact ⟨all_below_mono (by omega) (c.all _), hl⟩
  have body : exec (callW F) 0 c47.body (start c47 [.ptr id off]) (ctr h id off ms n ++ l ++ []) = some (.ret, [.ptr id off, .v (.bool (decide (n + 1 ≤ 2000)))], (ctr h id off ms (n + 1) ++ l) ++ []) := by
    simp only [c47, start, List.replicate, c47_0, c47_1, c47_2, hw, c.load, c.store, evNil, List.append_nil, e_bslice1, e_bslice2, bs1, bs2, e_build, bdH_some, bd_nil, bd_cons, bd1, cl_agg, cl_int, toL, List.map_cons, List.map_nil, putAt, List.set_cons_zero, List.set_cons_succ, and_self, Nat.le_refl, app_get, app_set, g_agg, run_nil, run_cons, stp_plain, stp_guard, put_some, pass_eq, pick_tt, pick_ff, pick_tf, pick_ft, pick_u, reg_some, thn_normal, thn_exit, thn_ret, cnd_t, cnd_f, blk_normal, blk_ret, blk_exit, x_seq, x_region, x_cond, x_block, x_loop, x_ret, x_exit, x_skip, e_mov, e_pick, pk_t, pk_f, withH_some, e_box, e_load, e_store, stH_some, e_nil, e_bin, e_eqv, eqH_f, eqH_t, e_un, e_fa, e_ia, ia_eq, nat_eq, natV_nat, e_len, lnH_some, e_extract, ex_0, ex_1, e_call0, e_call1, e_call2, e_call3, pc0_eq, pc1_some, pc2_some, pc3_some, fin_some, g_var0, g_vars, g_loc0, g_locs, g_int, g_bool, g_str, g_sl, s_none, s_zero, s_succ, cl_nil, cl_str, cl_bool, cl_slc, cl_own, evFa, evNil, asEl, evBin, intBin, strBin, evUn, len_nil, len_slc, len_str, clr, List.length_nil, List.length_cons, List.getElem?_cons_zero, List.getElem?_cons_succ, Nat.reduceAdd, Nat.zero_add, Nat.add_zero, Nat.reduceLeDiff, Nat.reduceSub, ↓reduceIte, List.drop_succ_cons, List.drop_zero, List.take_succ_cons, List.take_zero, Bool.false_eq_true, List.nil_append, List.cons_append, Bool.not_true, Bool.not_false, cond_true, cond_false, bne, lv_ret, lv_normal, res1, res2, lv2_some, res_var, res_cell, lvf_v, lvf_slc, res1c, lvo1_some, e_mm, mm_max, mm_min]
  rw [body, leave_own hln.symm hall]
  exact lvo_one rfl

def K32 : List Bool := [true, true, false, true, true, false, false, false, false, false, false]
def L32 (b : AV) (B id off : Nat) : List AV := [.ptr id off, b, .junk, .ptr B 0, .ptr (B + 1) 0, .junk, .junk, .junk, .junk, .junk, .junk]

/-- what the document's counter counts -/
def spent (e : Int) (m : Nat) : Int := if e = 0 then 2000 - (m : Int) else 2001
theorem spent0 (m : Nat) : spent 0 m = 2000 - (m : Int) := rfl

theorem meter_loop (c : Ctr h id off ms) {K : Nat} {b : AV} {es : List AV} {rs : List (Int × Tm)} (hes : AllB es rs) {b' : AV} (hbs : ∀ (m : Int) (l : List AO), b.snap1 (ctr h id off ms m ++ l) = some b') (hlook : ∀ n, callW F 14 [b', .v (.int .i64 n)] [] = some (lookA n es, [])) :
    ∀ (m : Nat), m ≤ 2000 → ∀ (t : Tm) (cs : List AV), IsT (.agg cs) t → ∀ (tail : List AO) (vars : List AV), tail.all (AO.below 0) = true → clr K32 vars = L32 b h.length id off →
    ∃ rc, IsT (.agg rc) (walkT rs m t).1 ∧
      ((∃ o tl x6 x7 x8 x9 x10, loopN (exec (callW F) K c32_7) K32 (m + 1) vars (ctr h id off ms (2000 - (m : Int)) ++ (.box cs :: .box zeroC :: tail)) = some (.ret, [.ptr id off, b, .junk, .ptr h.length 0, .ptr (h.length + 1) 0, .v (.int .i64 (walkT rs m t).2.1), x6, x7, x8, x9, x10], ctr h id off ms (spent (walkT rs m t).2.1 (walkT rs m t).2.2) ++ (o :: .box rc :: tl))) ∨
       ((walkT rs m t).2.1 = 0 ∧ ∃ tl x6 x7 x8 x9 x10, loopN (exec (callW F) K c32_7) K32 (m + 1) vars (ctr h id off ms (2000 - (m : Int)) ++ (.box cs :: .box zeroC :: tail)) = some (.exit 0, [.ptr id off, b, .junk, .ptr h.length 0, .ptr (h.length + 1) 0, .junk, x6, x7, x8, x9, x10], ctr h id off ms (spent (walkT rs m t).2.1 (walkT rs m t).2.2) ++ (.box rc :: .box zeroC :: tl)))) := by
  have stay : ∀ (m : Nat) (t : Tm), bound rs t = none → walkT rs m t = (t, 0, m) := by
    intro m t hb; cases m <;> simp [walkT, hb]
  have none_case : ∀ (m : Nat) (t : Tm) (cs : List AV), IsT (.agg cs) t → bound rs t = none → ∀ (tail : List AO) (vars : List AV), clr K32 vars = L32 b h.length id off →
       (∃ tl x6 x7 x8 x9 x10, loopN (exec (callW F) K c32_7) K32 (m + 1) vars (ctr h id off ms (2000 - (m : Int)) ++ (.box cs :: .box zeroC :: tail)) = some (.exit 0, [.ptr id off, b, .junk, .ptr h.length 0, .ptr (h.length + 1) 0, .junk, x6, x7, x8, x9, x10], ctr h id off ms (2000 - (m : Int)) ++ (.box cs :: .box zeroC :: tl))) := by
    intro m t cs ht hb tail vars hv
    cases ht with
    | mk k s n c' l' hc =>
    by_cases hk : k = 1
    · have h1 : (k == 1) = true := by simpa using hk
      have hl : lookT rs n = none := by simpa [bound, hk] using hb
      have hla := hlook n
      rcases look_rel n hes with ⟨_, h2⟩ | ⟨t', cs', h2, _⟩
      · rw [h2] at hla
        iterate 6 apply Exists.intro
        apply loop_exit
        rw [hv]
        simp only [L32, zeroC, c32_7, c32_1, c32_2, c32_3, c32_4, h1, hla, hbs, snapv, q9z, c_ld, c_ld0, c_st, c_st0, c_bx, ldAt, stAt, preH_some, List.append_assoc, blk_other (show (0 : Nat) ≠ 1 by decide), e_bslice1, e_bslice2, bs1, bs2, e_build, bdH_some, bd_nil, bd_cons, bd1, cl_agg, cl_int, toL, List.map_cons, List.map_nil, putAt, List.set_cons_zero, List.set_cons_succ, and_self, Nat.le_refl, app_get, app_set, g_agg, run_nil, run_cons, stp_plain, stp_guard, put_some, pass_eq, pick_tt, pick_ff, pick_tf, pick_ft, pick_u, reg_some, thn_normal, thn_exit, thn_ret, cnd_t, cnd_f, blk_normal, blk_ret, blk_exit, x_seq, x_region, x_cond, x_block, x_loop, x_ret, x_exit, x_skip, e_mov, e_pick, pk_t, pk_f, withH_some, e_box, e_load, e_store, stH_some, e_nil, e_bin, e_eqv, eqH_f, eqH_t, e_un, e_fa, e_ia, ia_eq, nat_eq, natV_nat, e_len, lnH_some, e_extract, ex_0, ex_1, e_call0, e_call1, e_call2, e_call3, pc0_eq, pc1_some, pc2_some, pc3_some, fin_some, g_var0, g_vars, g_loc0, g_locs, g_int, g_bool, g_str, g_sl, s_none, s_zero, s_succ, cl_nil, cl_str, cl_bool, cl_slc, cl_own, evFa, evNil, asEl, evBin, intBin, strBin, evUn, len_nil, len_slc, len_str, clr, List.length_nil, List.length_cons, List.getElem?_cons_zero, List.getElem?_cons_succ, Nat.reduceAdd, Nat.zero_add, Nat.add_zero, Nat.reduceLeDiff, Nat.reduceSub, ↓reduceIte, List.drop_succ_cons, List.drop_zero, List.take_succ_cons, List.take_zero, Bool.false_eq_true, List.nil_append, List.cons_append, Bool.not_true, Bool.not_false, cond_true, cond_false, bne, lv_ret, lv_normal, res1, res2, lv2_some, res_var, res_cell, lvf_v, lvf_slc, res1c, lvo1_some, e_mm, mm_max, mm_min]
        rfl
      · rw [hl] at h2; cases h2
    · have h1 : (k == 1) = false := by simpa using hk
      iterate 6 apply Exists.intro
      apply loop_exit
      rw [hv]
      simp only [L32, zeroC, c32_7, c32_1, h1, c_ld, c_ld0, c_st, c_st0, c_bx, ldAt, stAt, preH_some, List.append_assoc, e_bslice1, e_bslice2, bs1, bs2, e_build, bdH_some, bd_nil, bd_cons, bd1, cl_agg, cl_int, toL, List.map_cons, List.map_nil, putAt, List.set_cons_zero, List.set_cons_succ, and_self, Nat.le_refl, app_get, app_set, g_agg, run_nil, run_cons, stp_plain, stp_guard, put_some, pass_eq, pick_tt, pick_ff, pick_tf, pick_ft, pick_u, reg_some, thn_normal, thn_exit, thn_ret, cnd_t, cnd_f, blk_normal, blk_ret, blk_exit, x_seq, x_region, x_cond, x_block, x_loop, x_ret, x_exit, x_skip, e_mov, e_pick, pk_t, pk_f, withH_some, e_box, e_load, e_store, stH_some, e_nil, e_bin, e_eqv, eqH_f, eqH_t, e_un, e_fa, e_ia, ia_eq, nat_eq, natV_nat, e_len, lnH_some, e_extract, ex_0, ex_1, e_call0, e_call1, e_call2, e_call3, pc0_eq, pc1_some, pc2_some, pc3_some, fin_some, g_var0, g_vars, g_loc0, g_locs, g_int, g_bool, g_str, g_sl, s_none, s_zero, s_succ, cl_nil, cl_str, cl_bool, cl_slc, cl_own, evFa, evNil, asEl, evBin, intBin, strBin, evUn, len_nil, len_slc, len_str, clr, List.length_nil, List.length_cons, List.getElem?_cons_zero, List.getElem?_cons_succ, Nat.reduceAdd, Nat.zero_add, Nat.add_zero, Nat.reduceLeDiff, Nat.reduceSub, ↓reduceIte, List.drop_succ_cons, List.drop_zero, List.take_succ_cons, List.take_zero, Bool.false_eq_true, List.nil_append, List.cons_append, Bool.not_true, Bool.not_false, cond_true, cond_false, bne, lv_ret, lv_normal, res1, res2, lv2_some, res_var, res_cell, lvf_v, lvf_slc, res1c, lvo1_some, e_mm, mm_max, mm_min]
      rfl
  have some_case : ∀ (t : Tm) (cs : List AV), IsT (.agg cs) t → ∀ t', bound rs t = some t' → ∃ s n c cs', cs = [.v (.int .i64 1), .v (.string s), .v (.int .i64 n), c] ∧ IsT (.agg cs') t' ∧ callW F 14 [b', .v (.int .i64 n)] [] = some (.tup [.agg cs', .v (.bool true)], []) := by
    intro t cs ht t' hb
    cases ht with
    | mk k s n c' l' hc =>
    by_cases hk : k = 1
    · subst hk
      rcases look_rel n hes with ⟨h2, _⟩ | ⟨t2, cs', h2, h3, h4⟩
      · simp [bound, h2] at hb
      · simp [bound, h2] at hb
        subst hb
        exact ⟨s, n, c', cs', rfl, h4, by rw [hlook n, h3]⟩
    · simp [bound, hk] at hb
  have hB3 : ∀ {a d e : AV} {t1 t2 t3 : Tm} (tail : List AO), IsT a t1 → IsT d t2 → IsT e t3 → tail.all (AO.below 0) = true → (.box a.cells :: .box d.cells :: (tail ++ [.box e.cells]) : List AO).all (AO.below 0) = true := by
    intro a d e t1 t2 t3 tail h1 h2 h3 h4
    have g1 := h1.bel
    have g2 := h2.bel
    have g3 := h3.bel
    simp only [List.all_cons, List.all_append, List.all_nil, g1, g2, g3, h4, Bool.and_true]
  intro m
  induction m with
  | zero =>
    intro _ t cs ht tail vars htl hv
    cases hb : bound rs t with
    | none =>
      rw [stay 0 t hb]
      exact ⟨cs, ht, .inr ⟨rfl, none_case 0 t cs ht hb tail vars hv⟩⟩
    | some t' =>
      obtain ⟨s, n, c', cs', rfl, ht', hla⟩ := some_case t cs ht t' hb
      have hbl := hB3 tail ht isT_zero ht' htl
      have hsp := fun l (hl : l.all (AO.below 0) = true) => spend_ok (l := l) c (all_below_mono (Nat.zero_le _) hl) 2000 ⟨by omega, by omega⟩
      have hsp1 := hsp _ hbl
      have hd : decide ((2000 : Int) + 1 ≤ 2000) = false := by decide
      rw [hd] at hsp1
      have hi : (2000 : Int) - ((0 : Nat) : Int) = 2000 := by omega
      have hs : spent 140 0 = 2000 + 1 := rfl
      cases ht' with
      | mk k2 s2 n2 c2 l2 hc2 =>
      have h1 : ((1 : Int) == 1) = true := rfl
      refine ⟨zeroC, by simpa [walkT, hb] using isT_zero, .inl ?_⟩
      simp only [walkT, hb, hs, hi]
      iterate 7 apply Exists.intro
      apply loop_ret
      rw [hv]
      simp only [AV.cells, zeroC] at hsp1
      simp only [L32, zeroC, c32_7, c32_1, c32_2, c32_3, c32_4, c32_5, h1, hla, hbs, hsp1, e_callh, snapv, q9z, c_ld, c_ld0, c_st, c_st0, c_bx, evNil, ldAt, stAt, preH_some, List.append_assoc, e_bslice1, e_bslice2, bs1, bs2, e_build, bdH_some, bd_nil, bd_cons, bd1, cl_agg, cl_int, toL, List.map_cons, List.map_nil, putAt, List.set_cons_zero, List.set_cons_succ, and_self, Nat.le_refl, app_get, app_set, g_agg, run_nil, run_cons, stp_plain, stp_guard, put_some, pass_eq, pick_tt, pick_ff, pick_tf, pick_ft, pick_u, reg_some, thn_normal, thn_exit, thn_ret, cnd_t, cnd_f, blk_normal, blk_ret, blk_exit, x_seq, x_region, x_cond, x_block, x_loop, x_ret, x_exit, x_skip, e_mov, e_pick, pk_t, pk_f, withH_some, e_box, e_load, e_store, stH_some, e_nil, e_bin, e_eqv, eqH_f, eqH_t, e_un, e_fa, e_ia, ia_eq, nat_eq, natV_nat, e_len, lnH_some, e_extract, ex_0, ex_1, e_call0, e_call1, e_call2, e_call3, pc0_eq, pc1_some, pc2_some, pc3_some, fin_some, g_var0, g_vars, g_loc0, g_locs, g_int, g_bool, g_str, g_sl, s_none, s_zero, s_succ, cl_nil, cl_str, cl_bool, cl_slc, cl_own, evFa, evNil, asEl, evBin, intBin, strBin, evUn, len_nil, len_slc, len_str, clr, List.length_nil, List.length_cons, List.getElem?_cons_zero, List.getElem?_cons_succ, Nat.reduceAdd, Nat.zero_add, Nat.add_zero, Nat.reduceLeDiff, Nat.reduceSub, ↓reduceIte, List.drop_succ_cons, List.drop_zero, List.take_succ_cons, List.take_zero, Bool.false_eq_true, List.nil_append, List.cons_append, Bool.not_true, Bool.not_false, cond_true, cond_false, bne, lv_ret, lv_normal, res1, res2, lv2_some, res_var, res_cell, lvf_v, lvf_slc, res1c, lvo1_some, e_mm, mm_max, mm_min]
      rfl
  | succ m ih =>
    intro hm t cs ht tail vars htl hv
    cases hb : bound rs t with
    | none =>
      rw [stay (m + 1) t hb]
      exact ⟨cs, ht, .inr ⟨rfl, none_case (m + 1) t cs ht hb tail vars hv⟩⟩
    | some t' =>
      obtain ⟨s, n, c', cs', rfl, ht', hla⟩ := some_case t cs ht t' hb
      have hbl := hB3 tail ht isT_zero ht' htl
      have hsp1 := spend_ok (l := _) c (all_below_mono (Nat.zero_le _) hbl) (2000 - ((m + 1 : Nat) : Int)) ⟨by omega, by omega⟩
      have hd : decide ((2000 : Int) - ((m + 1 : Nat) : Int) + 1 ≤ 2000) = true := by simp; omega
      have hi : (2000 : Int) - ((m + 1 : Nat) : Int) + 1 = 2000 - (m : Int) := by omega
      rw [hd, hi] at hsp1
      have ht2 := ht'
      have hwalk : walkT rs (m + 1) t = walkT rs m t' := by simp [walkT, hb]
      rw [hwalk]
      have htl2 : (tail ++ [AO.box cs']).all (AO.below 0) = true := by
        have := ht'.bel
        simp only [AV.cells] at this
        simp only [List.all_append, List.all_cons, List.all_nil, htl, this, Bool.and_true]
      cases ht' with
      | mk k2 s2 n2 c2 l2 hc2 =>
      have h1 : ((1 : Int) == 1) = true := rfl
      have st : exec (callW F) K c32_7 (L32 b h.length id off) (ctr h id off ms (2000 - ((m + 1 : Nat) : Int)) ++ (.box [.v (.int .i64 1), .v (.string s), .v (.int .i64 n), c'] :: .box zeroC :: tail)) = some (.normal, [.ptr id off, b, .junk, .ptr h.length 0, .ptr (h.length + 1) 0, .junk, .ptr (h.length + (tail.length + 1 + 1)) 0, .v (.bool true), .v (.bool true), .v (.bool false), .v (.bool false)], ctr h id off ms (2000 - (m : Int)) ++ (.box [.v (.int .i64 k2), .v (.string s2), .v (.int .i64 n2), c2] :: .box zeroC :: (tail ++ [.box [.v (.int .i64 k2), .v (.string s2), .v (.int .i64 n2), c2]]))) := by
        simp only [AV.cells, zeroC] at hsp1
        simp only [L32, zeroC, c32_7, c32_1, c32_2, c32_3, c32_4, c32_6, h1, hla, hbs, hsp1, e_callh, snapv, q9z, c_ld, c_ld0, c_st, c_st0, c_bx, evNil, ldAt, stAt, preH_some, List.append_assoc, e_bslice1, e_bslice2, bs1, bs2, e_build, bdH_some, bd_nil, bd_cons, bd1, cl_agg, cl_int, toL, List.map_cons, List.map_nil, putAt, List.set_cons_zero, List.set_cons_succ, and_self, Nat.le_refl, app_get, app_set, g_agg, run_nil, run_cons, stp_plain, stp_guard, put_some, pass_eq, pick_tt, pick_ff, pick_tf, pick_ft, pick_u, reg_some, thn_normal, thn_exit, thn_ret, cnd_t, cnd_f, blk_normal, blk_ret, blk_exit, x_seq, x_region, x_cond, x_block, x_loop, x_ret, x_exit, x_skip, e_mov, e_pick, pk_t, pk_f, withH_some, e_box, e_load, e_store, stH_some, e_nil, e_bin, e_eqv, eqH_f, eqH_t, e_un, e_fa, e_ia, ia_eq, nat_eq, natV_nat, e_len, lnH_some, e_extract, ex_0, ex_1, e_call0, e_call1, e_call2, e_call3, pc0_eq, pc1_some, pc2_some, pc3_some, fin_some, g_var0, g_vars, g_loc0, g_locs, g_int, g_bool, g_str, g_sl, s_none, s_zero, s_succ, cl_nil, cl_str, cl_bool, cl_slc, cl_own, evFa, evNil, asEl, evBin, intBin, strBin, evUn, len_nil, len_slc, len_str, clr, List.length_nil, List.length_cons, List.getElem?_cons_zero, List.getElem?_cons_succ, Nat.reduceAdd, Nat.zero_add, Nat.add_zero, Nat.reduceLeDiff, Nat.reduceSub, ↓reduceIte, List.drop_succ_cons, List.drop_zero, List.take_succ_cons, List.take_zero, Bool.false_eq_true, List.nil_append, List.cons_append, Bool.not_true, Bool.not_false, cond_true, cond_false, bne, lv_ret, lv_normal, res1, res2, lv2_some, res_var, res_cell, lvf_v, lvf_slc, res1c, lvo1_some, e_mm, mm_max, mm_min]
      rw [loop_normal (by rw [hv]; exact st)]
      exact ih (by omega) _ _ ht2 _ _ htl2 rfl

theorem meter_ok (c : Ctr h id off ms) {b a : AV} {es : List AV} {rs : List (Int × Tm)} (hes : AllB es rs) {b' : AV} (hbs : ∀ (m : Int) (l : List AO), b.snap1 (ctr h id off ms m ++ l) = some b') (hlook : ∀ n, callW F 14 [b', .v (.int .i64 n)] [] = some (lookA n es, []))
    (m : Nat) (hm : m ≤ 2000) {t : Tm} (ht : IsT a t) : ∃ rc, IsT (.agg rc) (walkT rs m t).1 ∧ callW F 32 [.ptr id off, b, a] (ctr h id off ms (2000 - (m : Int))) = some (.tup [.agg rc, .v (.int .i64 (walkT rs m t).2.1)], ctr h id off ms (spent (walkT rs m t).2.1 (walkT rs m t).2.2)) := by
  obtain ⟨cs, rfl⟩ : ∃ cs, a = .agg cs := by cases ht; exact ⟨_, rfl⟩
  obtain ⟨rc, hrc, hl⟩ := meter_loop (K := 5001) c hes hbs hlook m hm t cs ht [] (L32 b h.length id off) rfl rfl
  refine ⟨rc, hrc, ?_⟩
  have hres : c32.res = [.cell 4 true 4, .var 5] := rfl
  have body : exec (callW F) 5001 c32.body (start c32 [.ptr id off, b, .agg cs]) (ctr h id off ms (2000 - (m : Int)) ++ []) = thn (callW F) 5001 (.seq (.region [] [] c32_8) .ret) (blk 0 (loopN (exec (callW F) 5001 c32_7) K32 5001 (L32 b h.length id off) (ctr h id off ms (2000 - (m : Int)) ++ (.box cs :: .box zeroC :: [])))) := by
    show exec (callW F) 5001 (.seq (.region [] [] c32_0) (.seq (.block 0 (.loop K32 [] c32_7)) (.seq (.region [] [] c32_8) .ret))) _ _ = _
    generalize (CC.seq (.region [] [] c32_8) .ret) = rest
    simp only [c32, start, zeroC, List.replicate, c32_0, q9z, c_bx, preH_some, List.append_assoc, e_bslice1, e_bslice2, bs1, bs2, e_build, bdH_some, bd_nil, bd_cons, bd1, cl_agg, cl_int, toL, List.map_cons, List.map_nil, putAt, List.set_cons_zero, List.set_cons_succ, and_self, Nat.le_refl, app_get, app_set, g_agg, run_nil, run_cons, stp_plain, stp_guard, put_some, pass_eq, pick_tt, pick_ff, pick_tf, pick_ft, pick_u, reg_some, thn_normal, thn_exit, thn_ret, cnd_t, cnd_f, blk_normal, blk_ret, blk_exit, x_seq, x_region, x_cond, x_block, x_loop, x_ret, x_exit, x_skip, e_mov, e_pick, pk_t, pk_f, withH_some, e_box, e_load, e_store, stH_some, e_nil, e_bin, e_eqv, eqH_f, eqH_t, e_un, e_fa, e_ia, ia_eq, nat_eq, natV_nat, e_len, lnH_some, e_extract, ex_0, ex_1, e_call0, e_call1, e_call2, e_call3, pc0_eq, pc1_some, pc2_some, pc3_some, fin_some, g_var0, g_vars, g_loc0, g_locs, g_int, g_bool, g_str, g_sl, s_none, s_zero, s_succ, cl_nil, cl_str, cl_bool, cl_slc, cl_own, evFa, evNil, asEl, evBin, intBin, strBin, evUn, len_nil, len_slc, len_str, clr, List.length_nil, List.length_cons, List.getElem?_cons_zero, List.getElem?_cons_succ, Nat.reduceAdd, Nat.zero_add, Nat.add_zero, Nat.reduceLeDiff, Nat.reduceSub, ↓reduceIte, List.drop_succ_cons, List.drop_zero, List.take_succ_cons, List.take_zero, Bool.false_eq_true, List.nil_append, List.cons_append, Bool.not_true, Bool.not_false, cond_true, cond_false, bne, lv_ret, lv_normal, res1, res2, lv2_some, res_var, res_cell, lvf_v, lvf_slc, res1c, lvo1_some, e_mm, mm_max, mm_min]
    rw [loop_cong (v2 := L32 b h.length id off) (by rfl)]
  refine callW_own (c := c32) rfl rfl 5001 ?_
  rw [body, ctr_len]
  rcases hl with ⟨o, tl, x6, x7, x8, x9, x10, h1⟩ | ⟨h0, tl, x6, x7, x8, x9, x10, h1⟩
  · rw [loop_more h1 (by omega)]
    generalize walkT rs m t = w at hrc ⊢
    obtain ⟨w1, w2, w3⟩ := w
    simp only [blk_ret, thn_ret]
    rw [leave_own ctr_len (c.all _), hres, own_res2 (x := .agg rc) (y := .v (.int .i64 w2)) _ _]
    · exact lvo_two (hrc.frz _ _) rfl
    · cases hrc; simp only [res_cell, c_ld, ldAt, e_bslice1, e_bslice2, bs1, bs2, e_build, bdH_some, bd_nil, bd_cons, bd1, cl_agg, cl_int, toL, List.map_cons, List.map_nil, putAt, List.set_cons_zero, List.set_cons_succ, and_self, Nat.le_refl, app_get, app_set, g_agg, run_nil, run_cons, stp_plain, stp_guard, put_some, pass_eq, pick_tt, pick_ff, pick_tf, pick_ft, pick_u, reg_some, thn_normal, thn_exit, thn_ret, cnd_t, cnd_f, blk_normal, blk_ret, blk_exit, x_seq, x_region, x_cond, x_block, x_loop, x_ret, x_exit, x_skip, e_mov, e_pick, pk_t, pk_f, withH_some, e_box, e_load, e_store, stH_some, e_nil, e_bin, e_eqv, eqH_f, eqH_t, e_un, e_fa, e_ia, ia_eq, nat_eq, natV_nat, e_len, lnH_some, e_extract, ex_0, ex_1, e_call0, e_call1, e_call2, e_call3, pc0_eq, pc1_some, pc2_some, pc3_some, fin_some, g_var0, g_vars, g_loc0, g_locs, g_int, g_bool, g_str, g_sl, s_none, s_zero, s_succ, cl_nil, cl_str, cl_bool, cl_slc, cl_own, evFa, evNil, asEl, evBin, intBin, strBin, evUn, len_nil, len_slc, len_str, clr, List.length_nil, List.length_cons, List.getElem?_cons_zero, List.getElem?_cons_succ, Nat.reduceAdd, Nat.zero_add, Nat.add_zero, Nat.reduceLeDiff, Nat.reduceSub, ↓reduceIte, List.drop_succ_cons, List.drop_zero, List.take_succ_cons, List.take_zero, Bool.false_eq_true, List.nil_append, List.cons_append, Bool.not_true, Bool.not_false, cond_true, cond_false, bne, lv_ret, lv_normal, res1, res2, lv2_some, res_var, res_cell, lvf_v, lvf_slc, res1c, lvo1_some, e_mm, mm_max, mm_min]
    · rfl
  · rw [loop_more h1 (by omega)]
    rw [h0]
    generalize walkT rs m t = w at hrc ⊢
    obtain ⟨w1, w2, w3⟩ := w
    cases hrc
    simp only [blk_exit, thn_normal, zeroC, c32_8, c_ld, c_ld0, c_st, c_st0, ldAt, stAt, preH_some, List.append_assoc, e_bslice1, e_bslice2, bs1, bs2, e_build, bdH_some, bd_nil, bd_cons, bd1, cl_agg, cl_int, toL, List.map_cons, List.map_nil, putAt, List.set_cons_zero, List.set_cons_succ, and_self, Nat.le_refl, app_get, app_set, g_agg, run_nil, run_cons, stp_plain, stp_guard, put_some, pass_eq, pick_tt, pick_ff, pick_tf, pick_ft, pick_u, reg_some, thn_normal, thn_exit, thn_ret, cnd_t, cnd_f, blk_normal, blk_ret, blk_exit, x_seq, x_region, x_cond, x_block, x_loop, x_ret, x_exit, x_skip, e_mov, e_pick, pk_t, pk_f, withH_some, e_box, e_load, e_store, stH_some, e_nil, e_bin, e_eqv, eqH_f, eqH_t, e_un, e_fa, e_ia, ia_eq, nat_eq, natV_nat, e_len, lnH_some, e_extract, ex_0, ex_1, e_call0, e_call1, e_call2, e_call3, pc0_eq, pc1_some, pc2_some, pc3_some, fin_some, g_var0, g_vars, g_loc0, g_locs, g_int, g_bool, g_str, g_sl, s_none, s_zero, s_succ, cl_nil, cl_str, cl_bool, cl_slc, cl_own, evFa, evNil, asEl, evBin, intBin, strBin, evUn, len_nil, len_slc, len_str, clr, List.length_nil, List.length_cons, List.getElem?_cons_zero, List.getElem?_cons_succ, Nat.reduceAdd, Nat.zero_add, Nat.add_zero, Nat.reduceLeDiff, Nat.reduceSub, ↓reduceIte, List.drop_succ_cons, List.drop_zero, List.take_succ_cons, List.take_zero, Bool.false_eq_true, List.nil_append, List.cons_append, Bool.not_true, Bool.not_false, cond_true, cond_false, bne, lv_ret, lv_normal, res1, res2, lv2_some, res_var, res_cell, lvf_v, lvf_slc, res1c, lvo1_some, e_mm, mm_max, mm_min]
    rw [leave_own ctr_len (c.all _), hres, own_res2 (x := .agg _) (y := .v (.int .i64 0)) _ _]
    · exact lvo_two (IsT.frz (.mk _ _ _ _ _ (by assumption)) _ _) rfl
    · simp only [res_cell, c_ld, ldAt, e_bslice1, e_bslice2, bs1, bs2, e_build, bdH_some, bd_nil, bd_cons, bd1, cl_agg, cl_int, toL, List.map_cons, List.map_nil, putAt, List.set_cons_zero, List.set_cons_succ, and_self, Nat.le_refl, app_get, app_set, g_agg, run_nil, run_cons, stp_plain, stp_guard, put_some, pass_eq, pick_tt, pick_ff, pick_tf, pick_ft, pick_u, reg_some, thn_normal, thn_exit, thn_ret, cnd_t, cnd_f, blk_normal, blk_ret, blk_exit, x_seq, x_region, x_cond, x_block, x_loop, x_ret, x_exit, x_skip, e_mov, e_pick, pk_t, pk_f, withH_some, e_box, e_load, e_store, stH_some, e_nil, e_bin, e_eqv, eqH_f, eqH_t, e_un, e_fa, e_ia, ia_eq, nat_eq, natV_nat, e_len, lnH_some, e_extract, ex_0, ex_1, e_call0, e_call1, e_call2, e_call3, pc0_eq, pc1_some, pc2_some, pc3_some, fin_some, g_var0, g_vars, g_loc0, g_locs, g_int, g_bool, g_str, g_sl, s_none, s_zero, s_succ, cl_nil, cl_str, cl_bool, cl_slc, cl_own, evFa, evNil, asEl, evBin, intBin, strBin, evUn, len_nil, len_slc, len_str, clr, List.length_nil, List.length_cons, List.getElem?_cons_zero, List.getElem?_cons_succ, Nat.reduceAdd, Nat.zero_add, Nat.add_zero, Nat.reduceLeDiff, Nat.reduceSub, ↓reduceIte, List.drop_succ_cons, List.drop_zero, List.take_succ_cons, List.take_zero, Bool.false_eq_true, List.nil_append, List.cons_append, Bool.not_true, Bool.not_false, cond_true, cond_false, bne, lv_ret, lv_normal, res1, res2, lv2_some, res_var, res_cell, lvf_v, lvf_slc, res1c, lvo1_some, e_mm, mm_max, mm_min]
    · rfl
end

/-- a heap whose last object is the counter -/
theorem ctr_new {h : List AO} (hh : h.all (AO.below h.length) = true) : Ctr (h ++ [.box [.v (.int .i64 0)]]) h.length 0 [.v (.int .i64 0)] := by
  refine ⟨by simp, by simp, ?_, rfl⟩
  rw [List.all_append, Bool.and_eq_true]
  exact ⟨all_below_mono (by simp) hh, rfl⟩
theorem ctr_new_eq {h : List AO} {n m : Int} : ctr (h ++ [.box [.v (.int .i64 n)]]) h.length 0 [.v (.int .i64 n)] m = h ++ [.box [.v (.int .i64 m)]] := by
  simp [ctr]
end Go.AE.Ytpgoibncgekflaa
end

/-! Fresh, of the program and of the document: both shift the numbers of all Vars. -/
section
set_option linter.unusedVariables false
set_option linter.unusedSimpArgs false
namespace Go.AE.Ytpgoibncgekflaa
open Go Go.AE Go.Proofs.Ytpgoibncgekflaa

mutual
def shiftT (by' : Int) : Tm → Tm
  | .mk k s n l => .mk k s (if k = 1 then IntKind.i64.wrap (n + by') else n) (shiftL by' l)
def shiftL (by' : Int) : List Tm → List Tm
  | [] => []
  | t :: l => shiftT by' t :: shiftL by' l
end
mutual
def size : Tm → Nat
  | .mk _ _ _ l => 1 + sizeL l
def sizeL : List Tm → Nat
  | [] => 0
  | t :: l => size t + sizeL l
end
theorem size_pos (t : Tm) : 1 ≤ size t := by cases t; simp only [size]; omega
theorem sizeL_len : ∀ l : List Tm, l.length ≤ sizeL l
  | [] => Nat.le_refl _
  | t :: l => by
    have := sizeL_len l
    have := size_pos t
    simp only [sizeL, List.length_cons]; omega
theorem size_mem : ∀ {l : List Tm} {t : Tm}, t ∈ l → size t ≤ sizeL l
  | u :: l, t, h => by
    simp only [sizeL]
    rcases List.mem_cons.1 h with rfl | h
    · omega
    · have := size_mem h; omega
theorem shiftL_len (by' : Int) : ∀ l : List Tm, (shiftL by' l).length = l.length
  | [] => rfl
  | t :: l => by simp [shiftL, shiftL_len by' l]

theorem IsL.sl {c : AV} {l : List Tm} (h : IsL c l) : ∃ es, Sl 4 c es ∧ All2 es l ∧ es.length ≤ maxLen := by
  cases h with
  | nil => exact ⟨[], .nil, .nil, by simp⟩
  | slc ex nn es l h hb => exact ⟨es, .slc ex nn es, h, hb⟩
theorem Sl.isL {c : AV} {es : List AV} {l : List Tm} (h : Sl 4 c es) (ha : All2 es l) (hb : es.length ≤ maxLen) : IsL c l := by
  cases h with
  | nil => cases ha; exact .nil
  | slc ex nn es => exact .slc ex nn es l ha hb
theorem All2.app : ∀ {es es' : List AV} {l l' : List Tm}, All2 es l → All2 es' l' → All2 (es ++ es') (l ++ l')
  | _, _, _, _, .nil, h => h
  | _, _, _, _, .cons a t es ts h hs, h' => .cons a t _ _ h (hs.app h')
theorem All2.one {a : AV} {t : Tm} (h : IsT a t) : All2 [a] [t] := .cons a t [] [] h .nil
theorem small_max {n : Nat} (h : n ≤ 100000) : n ≤ maxLen := by have : maxLen = 9223372036854775807 := rfl; omega

/-- a round's copy of an element: made, filled, read -/
theorem IsT.st {e : AV} {t : Tm} (ht : IsT e t) (h : List AO) (cs : List AV) (hl : cs.length = 4) : evStore (h ++ [.box cs]) 4 (.ptr h.length 0) e = some (h ++ [.box e.cells]) := st_new ht.cl.1 ht.cl.2 hl
theorem IsT.ld {e : AV} {t : Tm} (ht : IsT e t) (h : List AO) : evLoad (h ++ [.box e.cells]) true 4 (.ptr h.length 0) = some e := by
  rw [ld_new, if_pos (by rw [ht.cl.2]; omega), List.drop_zero]; exact ht.asEl

/-! ### The document's -/
def K35 : List Bool := [false, true, true, true, true, false, false, true, true, true, false]
def L35 (x : Int) (acc c : AV) (len i : Int) : List AV := [.junk, .v (.int .i64 x), .ptr 0 0, .ptr 1 0, acc, .junk, .junk, c, .v (.int .i64 len), .v (.int .i64 i), .junk]

theorem shift_loop {K : Nat} {c : AV} {es : List AV} (hs : Sl 4 c es) (hm : es.length ≤ 100000) (x : Int) :
    ∀ (l : List Tm) (i : Nat) (acc : AV) (ds : List AV) (dl : List Tm) (h : List AO) (vars : List AV), i + l.length = es.length → ds.length = i → All2 (es.drop i) l → All2 ds dl → (∀ t ∈ l, ∀ (e : AV), IsT e t → ∃ r, IsT r (shiftT x t) ∧ callW F 35 [e, .v (.int .i64 x)] [] = some (r, [])) →
      Acc 4 h acc ds → clr K35 vars = L35 x acc c es.length i →
      ∃ acc' ds' h' x5 x6 x10, loopN (exec (callW F) K c35_9) K35 (l.length + 1) vars h = some (.exit 0, [.junk, .v (.int .i64 x), .ptr 0 0, .ptr 1 0, acc', x5, x6, c, .v (.int .i64 es.length), .v (.int .i64 es.length), x10], h') ∧ Acc 4 h' acc' ds' ∧ All2 ds' (dl ++ shiftL x l) ∧ ds'.length = es.length ∧ Keeps h h' := by
  intro l
  induction l with
  | nil =>
    intro i acc ds dl h vars hi hds _ hall _ ha hv
    have hil : i = es.length := by simpa using hi
    subst hil
    have hlt : decide ((es.length : Int) < (es.length : Int)) = false := by simp
    refine ⟨acc, ds, h, .junk, .junk, .v (.bool false), loop_exit ?_, ha, by simpa [shiftL] using hall, hds, .refl h⟩
    rw [hv]
    simp only [L35, c35_9, c35_5, hlt, e_bslice1, e_bslice2, bs1, bs2, e_build, bdH_some, bd_nil, bd_cons, bd1, cl_agg, cl_int, toL, List.map_cons, List.map_nil, putAt, List.set_cons_zero, List.set_cons_succ, and_self, Nat.le_refl, app_get, app_set, g_agg, run_nil, run_cons, stp_plain, stp_guard, put_some, pass_eq, pick_tt, pick_ff, pick_tf, pick_ft, pick_u, reg_some, thn_normal, thn_exit, thn_ret, cnd_t, cnd_f, blk_normal, blk_ret, blk_exit, x_seq, x_region, x_cond, x_block, x_loop, x_ret, x_exit, x_skip, e_mov, e_pick, pk_t, pk_f, withH_some, e_box, bx_some, e_load, e_store, stH_some, e_nil, e_bin, e_eqv, eqH_f, eqH_t, e_un, e_fa, e_ia, ia_eq, nat_eq, natV_nat, e_len, lnH_some, e_extract, ex_0, ex_1, e_call0, e_call1, e_call2, e_call3, pc0_eq, pc1_some, pc2_some, pc3_some, fin_some, g_var0, g_vars, g_loc0, g_locs, g_int, g_bool, g_str, g_sl, s_none, s_zero, s_succ, cl_nil, cl_str, cl_bool, cl_slc, cl_own, evFa, evNil, asEl, evBin, intBin, strBin, evUn, len_nil, len_slc, len_str, clr, List.length_nil, List.length_cons, List.getElem?_cons_zero, List.getElem?_cons_succ, Nat.reduceAdd, Nat.zero_add, Nat.add_zero, Nat.reduceLeDiff, Nat.reduceSub, ↓reduceIte, List.drop_succ_cons, List.drop_zero, List.take_succ_cons, List.take_zero, Bool.false_eq_true, List.nil_append, List.cons_append, Bool.not_true, Bool.not_false, cond_true, cond_false, bne, lv_ret, lv_normal, res1, res2, lv2_some, res_var, res_cell, lvf_v, lvf_slc, res1c, lvo1_some, e_mm, mm_max, mm_min]
  | cons t l ih =>
    intro i acc ds dl h vars hi hds hes hall hcall ha hv
    have hil : i < es.length := by simp at hi; omega
    have he : es[i]? = some (es[i]'hil) := List.getElem?_eq_getElem _
    have hd : es.drop i = es[i] :: es.drop (i + 1) := List.drop_eq_getElem_cons hil
    rw [hd] at hes
    cases hes with
    | cons _ _ _ _ hT hs' =>
    obtain ⟨r, hr, hc⟩ := hcall t (by simp) _ hT
    obtain ⟨acc', h2, h3, h4, h5⟩ := (ha.app (.box (es[i]).cells)).add (x := .slc 4 true true [r]) (ys := [r]) (bytes := 56) elems_one (by
      have : room = 140737488355328 := rfl
      simp only [fits, List.length_cons, List.length_nil, decide_eq_true_eq]; omega)
    have hlt : (decide ((i : Int) < (es.length : Int))) = true := by simp; omega
    have q1 := hs.ia he
    have q3 : ∀ h : List AO, evLoad h true 4 (.ip (es[i]).cells) = some es[i] := fun h => hT.load
    have q5 : ∀ h : List AO, (es[i]).snap1 h = some es[i] := fun h => hT.snap
    have q6 : ∀ h : List AO, r.snap1 h = some r := fun h => hr.snap
    have q7 : r.cl = some r.cells := hr.cl.1
    have q8 : r.cells.length = 4 := hr.cl.2
    have st : exec (callW F) K c35_9 (L35 x acc c es.length i) h = some (.normal, [.junk, .v (.int .i64 x), .ptr 0 0, .ptr 1 0, acc', .ptr h.length 0, .junk, c, .v (.int .i64 es.length), .v (.int .i64 ((i + 1 : Nat) : Int)), .v (.bool true)], h2) := by
      have hz : ([.v (.int .i64 0), .v (.string ⟨#[]⟩), .v (.int .i64 0), .v (.slice none 0 0)] : List AV).length = 4 := rfl
      simp only [L35, c35_9, c35_5, c35_6, c35_7, c35_8, hlt, wrap_succ hil (small_max hm), q1, q3, q5, q6, q7, q8, hc, h3, hT.st _ _ hz, hT.ld, snapv, q9z, e_append, bs1_some q7 q8, e_bslice1, e_bslice2, bs1, bs2, e_build, bdH_some, bd_nil, bd_cons, bd1, cl_agg, cl_int, toL, List.map_cons, List.map_nil, putAt, List.set_cons_zero, List.set_cons_succ, and_self, Nat.le_refl, app_get, app_set, g_agg, run_nil, run_cons, stp_plain, stp_guard, put_some, pass_eq, pick_tt, pick_ff, pick_tf, pick_ft, pick_u, reg_some, thn_normal, thn_exit, thn_ret, cnd_t, cnd_f, blk_normal, blk_ret, blk_exit, x_seq, x_region, x_cond, x_block, x_loop, x_ret, x_exit, x_skip, e_mov, e_pick, pk_t, pk_f, withH_some, e_box, bx_some, e_load, e_store, stH_some, e_nil, e_bin, e_eqv, eqH_f, eqH_t, e_un, e_fa, e_ia, ia_eq, nat_eq, natV_nat, e_len, lnH_some, e_extract, ex_0, ex_1, e_call0, e_call1, e_call2, e_call3, pc0_eq, pc1_some, pc2_some, pc3_some, fin_some, g_var0, g_vars, g_loc0, g_locs, g_int, g_bool, g_str, g_sl, s_none, s_zero, s_succ, cl_nil, cl_str, cl_bool, cl_slc, cl_own, evFa, evNil, asEl, evBin, intBin, strBin, evUn, len_nil, len_slc, len_str, clr, List.length_nil, List.length_cons, List.getElem?_cons_zero, List.getElem?_cons_succ, Nat.reduceAdd, Nat.zero_add, Nat.add_zero, Nat.reduceLeDiff, Nat.reduceSub, ↓reduceIte, List.drop_succ_cons, List.drop_zero, List.take_succ_cons, List.take_zero, Bool.false_eq_true, List.nil_append, List.cons_append, Bool.not_true, Bool.not_false, cond_true, cond_false, bne, lv_ret, lv_normal, res1, res2, lv2_some, res_var, res_cell, lvf_v, lvf_slc, res1c, lvo1_some, e_mm, mm_max, mm_min]
    rw [show (t :: l).length + 1 = (l.length + 1) + 1 from rfl, loop_normal (by rw [hv]; exact st)]
    obtain ⟨acc'', ds', h', x5, x6, x10, g1, g2, g3, g4, g5⟩ := ih (i + 1) acc' (ds ++ [r]) (dl ++ [shiftT x t]) h2 [.junk, .v (.int .i64 x), .ptr 0 0, .ptr 1 0, acc', .ptr h.length 0, .junk, c, .v (.int .i64 es.length), .v (.int .i64 ((i + 1 : Nat) : Int)), .v (.bool true)] (by simp at hi; omega) (by simp [hds]) hs' (hall.app (.one hr)) (fun t ht => hcall t (by simp [ht])) h4 rfl
    refine ⟨acc'', ds', h', x5, x6, x10, g1, g2, ?_, g4, ((Keeps.app _ _).trans h5).trans g5⟩
    rw [shiftL]
    simpa using g3

theorem shift35 (x : Int) : ∀ (N : Nat) (t : Tm) (a : AV), SizeOf.sizeOf t < N → size t ≤ 100000 → IsT a t → ∃ r, IsT r (shiftT x t) ∧ callW F 35 [a, .v (.int .i64 x)] [] = some (r, []) := by
  intro N
  induction N with
  | zero => intro t a h; omega
  | succ N ih =>
    intro t a hN hsz ha
    cases ha with
    | mk k s n c l hc =>
    have h5 := Tm.mk.sizeOf_spec k s n l
    simp only [size] at hsz
    have hll := sizeL_len l
    have hcall : ∀ t ∈ l, ∀ (e : AV), IsT e t → ∃ r, IsT r (shiftT x t) ∧ callW F 35 [e, .v (.int .i64 x)] [] = some (r, []) := by
      intro t ht e hT
      have h6 := List.sizeOf_lt_of_mem ht
      have h7 := size_mem ht
      exact ih t e (by omega) (by omega) hT
    obtain ⟨es, hs, hes, hm⟩ := hc.sl
    have e1 := hes.length
    have key : ∀ n' : Int, ∃ acc' ds' h' x5 x6 x10, loopN (exec (callW F) (l.length + 1) c35_9) K35 (l.length + 1) (L35 x (.v (.slice none 0 0)) c es.length 0) [.box [.v (.int .i64 k), .v (.string s), .v (.int .i64 n'), c], .box zeroC] = some (.exit 0, [.junk, .v (.int .i64 x), .ptr 0 0, .ptr 1 0, acc', x5, x6, c, .v (.int .i64 es.length), .v (.int .i64 es.length), x10], h') ∧ Acc 4 h' acc' ds' ∧ All2 ds' (shiftL x l) ∧ ds'.length = es.length ∧ Keeps [.box [.v (.int .i64 k), .v (.string s), .v (.int .i64 n'), c], .box zeroC] h' := by
      intro n'
      exact shift_loop (K := l.length + 1) hs (by omega) x l 0 (.v (.slice none 0 0)) [] [] _ (L35 x (.v (.slice none 0 0)) c es.length 0) (by omega) rfl (by simpa using hes) .nil hcall .nil rfl
    have last : ∀ (n' : Int) (acc' x5 x6 x10 : AV) (ds' : List AV) (h' : List AO), Acc 4 h' acc' ds' → All2 ds' (shiftL x l) → ds'.length = es.length → Keeps [.box [.v (.int .i64 k), .v (.string s), .v (.int .i64 n'), c], .box zeroC] h' →
        ∃ r, IsT r (.mk k s n' (shiftL x l)) ∧ lv [.cell 3 true 4] (exec (callW F) (l.length + 1) (.seq (.region [] [] c35_10) (.seq (.region [] [] c35_11) .ret)) [.junk, .v (.int .i64 x), .ptr 0 0, .ptr 1 0, acc', x5, x6, c, .v (.int .i64 es.length), .v (.int .i64 es.length), x10] h') = some (r, []) := by
      intro n' acc' x5 x6 x10 ds' h' ha hall hlen hk
      have b0 := hk.2 0 _ rfl
      have b1 := hk.2 1 _ rfl
      have hlt0 : 0 < h'.length := (List.getElem?_eq_some_iff.1 b0).1
      have hlt1 : 1 < h'.length := (List.getElem?_eq_some_iff.1 b1).1
      have s1 := bx_st (n := 1) (o := 3) (xs := [acc']) (x := acc') b0 ha.cl rfl (by simp)
      simp only [putAt, List.set_cons_succ, List.set_cons_zero] at s1
      have b0' : (h'.set 0 (.box [.v (.int .i64 k), .v (.string s), .v (.int .i64 n'), acc']))[0]? = some (.box [.v (.int .i64 k), .v (.string s), .v (.int .i64 n'), acc']) := by simp [hlt0]
      have b1' : (h'.set 0 (.box [.v (.int .i64 k), .v (.string s), .v (.int .i64 n'), acc']))[1]? = some (.box zeroC) := by simp [b1]
      have s2 := bx_st (n := 4) (o := 0) (x := .agg [.v (.int .i64 k), .v (.string s), .v (.int .i64 n'), acc']) b1' cl_agg rfl (by simp [zeroC])
      simp only [putAt, zeroC, List.set_cons_succ, List.set_cons_zero, Nat.zero_add, Nat.reduceAdd] at s2
      have b1'' : ((h'.set 0 (.box [.v (.int .i64 k), .v (.string s), .v (.int .i64 n'), acc'])).set 1 (.box [.v (.int .i64 k), .v (.string s), .v (.int .i64 n'), acc']))[1]? = some (.box [.v (.int .i64 k), .v (.string s), .v (.int .i64 n'), acc']) := by simp [hlt1]
      have l1 := bx_ld b0' (a := true) (n := 4) (o := 0)
      have l2 := bx_ld b1'' (a := true) (n := 4) (o := 0)
      have ha' : Acc 4 ((h'.set 0 (.box [.v (.int .i64 k), .v (.string s), .v (.int .i64 n'), acc'])).set 1 (.box [.v (.int .i64 k), .v (.string s), .v (.int .i64 n'), acc'])) acc' ds' := by
        cases ha with
        | nil => exact .nil
        | own id ver k es hr hk hne =>
          refine .own id ver k ds' ?_ hk hne
          have n0 : 0 ≠ id := fun e => by subst e; rw [b0] at hr; cases hr
          have n1 : 1 ≠ id := fun e => by subst e; rw [b1] at hr; cases hr
          rw [List.getElem?_set_ne n1, List.getElem?_set_ne n0]; exact hr
      obtain ⟨c', f1, f2⟩ := ha'.frz0
      refine ⟨.agg [.v (.int .i64 k), .v (.string s), .v (.int .i64 n'), c'], .mk k s n' c' _ (Sl.isL f2 hall (by omega)), ?_⟩
      have lf : lvf ((h'.set 0 (.box [.v (.int .i64 k), .v (.string s), .v (.int .i64 n'), acc'])).set 1 (.box [.v (.int .i64 k), .v (.string s), .v (.int .i64 n'), acc'])) (.agg [.v (.int .i64 k), .v (.string s), .v (.int .i64 n'), acc']) = some (.agg [.v (.int .i64 k), .v (.string s), .v (.int .i64 n'), c'], []) := by
        have fz : ∀ (x : Value) (h : List AO), (AV.v x).frz0 0 h = some (.v x) := fun _ _ => rfl
        simp [lvf, AV.frz2, AV.frz1, fz, f1]
      simp only [c35_10, c35_11, s1, s2, l1, l2, lf, e_bslice1, e_bslice2, bs1, bs2, e_build, bdH_some, bd_nil, bd_cons, bd1, cl_agg, cl_int, toL, List.map_cons, List.map_nil, putAt, List.set_cons_zero, List.set_cons_succ, and_self, Nat.le_refl, app_get, app_set, g_agg, run_nil, run_cons, stp_plain, stp_guard, put_some, pass_eq, pick_tt, pick_ff, pick_tf, pick_ft, pick_u, reg_some, thn_normal, thn_exit, thn_ret, cnd_t, cnd_f, blk_normal, blk_ret, blk_exit, x_seq, x_region, x_cond, x_block, x_loop, x_ret, x_exit, x_skip, e_mov, e_pick, pk_t, pk_f, withH_some, e_box, bx_some, e_load, e_store, stH_some, e_nil, e_bin, e_eqv, eqH_f, eqH_t, e_un, e_fa, e_ia, ia_eq, nat_eq, natV_nat, e_len, lnH_some, e_extract, ex_0, ex_1, e_call0, e_call1, e_call2, e_call3, pc0_eq, pc1_some, pc2_some, pc3_some, fin_some, g_var0, g_vars, g_loc0, g_locs, g_int, g_bool, g_str, g_sl, s_none, s_zero, s_succ, cl_nil, cl_str, cl_bool, cl_slc, cl_own, evFa, evNil, asEl, evBin, intBin, strBin, evUn, len_nil, len_slc, len_str, clr, List.length_nil, List.length_cons, List.getElem?_cons_zero, List.getElem?_cons_succ, Nat.reduceAdd, Nat.zero_add, Nat.add_zero, Nat.reduceLeDiff, Nat.reduceSub, ↓reduceIte, List.drop_succ_cons, List.drop_zero, List.take_succ_cons, List.take_zero, Bool.false_eq_true, List.nil_append, List.cons_append, Bool.not_true, Bool.not_false, cond_true, cond_false, bne, lv_ret, lv_normal, res1, res2, lv2_some, res_var, res_cell, lvf_v, lvf_slc, res1c, lvo1_some, e_mm, mm_max, mm_min]
    by_cases hk : k = 1
    · have h1 : (k == 1) = true := by simpa using hk
      obtain ⟨acc', ds', h', x5, x6, x10, g1, g2, g3, g4, g5⟩ := key (IntKind.i64.wrap (n + x))
      obtain ⟨r, hr, hlv⟩ := last _ acc' x5 x6 x10 ds' h' g2 g3 g4 g5
      refine ⟨r, by rw [shiftT, if_pos hk]; exact hr, callW_pure (c := c35) rfl rfl (l.length + 1) ?_⟩
      rw [← hlv]
      show lv [.cell 3 true 4] (exec (callW F) (l.length + 1) (.seq (.region [] [] c35_0) (.seq (.seq (.region [] [] c35_1) (.cond (.var 6) (.region [] [] c35_2) .skip)) (.seq (.region [] [] c35_3) (.seq (.seq (.region [] [] c35_4) (.block 0 (.loop K35 [] c35_9))) (.seq (.region [] [] c35_10) (.seq (.region [] [] c35_11) .ret)))))) _ _) = _
      generalize (CC.seq (.region [] [] c35_10) (.seq (.region [] [] c35_11) .ret)) = rest
      simp only [zeroC] at g1
      simp only [c35, start, List.replicate, c35_0, c35_1, c35_2, c35_3, c35_4, h1, hs.len, q9z, evStore, e_bslice1, e_bslice2, bs1, bs2, e_build, bdH_some, bd_nil, bd_cons, bd1, cl_agg, cl_int, toL, List.map_cons, List.map_nil, putAt, List.set_cons_zero, List.set_cons_succ, and_self, Nat.le_refl, evStore, app_get, app_set, g_agg, run_nil, run_cons, stp_plain, stp_guard, put_some, pass_eq, pick_tt, pick_ff, pick_tf, pick_ft, pick_u, reg_some, thn_normal, thn_exit, thn_ret, cnd_t, cnd_f, blk_normal, blk_ret, blk_exit, x_seq, x_region, x_cond, x_block, x_loop, x_ret, x_exit, x_skip, e_mov, e_pick, pk_t, pk_f, withH_some, e_box, bx_some, e_load, e_store, stH_some, e_nil, e_bin, e_eqv, eqH_f, eqH_t, e_un, e_fa, e_ia, ia_eq, nat_eq, natV_nat, e_len, lnH_some, e_extract, ex_0, ex_1, e_call0, e_call1, e_call2, e_call3, pc0_eq, pc1_some, pc2_some, pc3_some, fin_some, g_var0, g_vars, g_loc0, g_locs, g_int, g_bool, g_str, g_sl, s_none, s_zero, s_succ, cl_nil, cl_str, cl_bool, cl_slc, cl_own, evFa, evNil, evLoad, asEl, evBin, intBin, strBin, evUn, len_nil, len_slc, len_str, clr, List.length_nil, List.length_cons, List.getElem?_cons_zero, List.getElem?_cons_succ, Nat.reduceAdd, Nat.zero_add, Nat.add_zero, Nat.reduceLeDiff, Nat.reduceSub, ↓reduceIte, List.drop_succ_cons, List.drop_zero, List.take_succ_cons, List.take_zero, Bool.false_eq_true, List.nil_append, List.cons_append, Bool.not_true, Bool.not_false, cond_true, cond_false, bne, lv_ret, lv_normal, res1, res2, lv2_some, res_var, res_cell, lvf_v, lvf_slc, res1c, lvo1_some, e_mm, mm_max, mm_min]
      rw [loop_cong (v2 := L35 x (.v (.slice none 0 0)) c es.length 0) (by rfl), g1]
      simp only [blk_exit, thn_normal]
    · have h1 : (k == 1) = false := by simpa using hk
      obtain ⟨acc', ds', h', x5, x6, x10, g1, g2, g3, g4, g5⟩ := key n
      obtain ⟨r, hr, hlv⟩ := last _ acc' x5 x6 x10 ds' h' g2 g3 g4 g5
      refine ⟨r, by rw [shiftT, if_neg hk]; exact hr, callW_pure (c := c35) rfl rfl (l.length + 1) ?_⟩
      rw [← hlv]
      show lv [.cell 3 true 4] (exec (callW F) (l.length + 1) (.seq (.region [] [] c35_0) (.seq (.seq (.region [] [] c35_1) (.cond (.var 6) (.region [] [] c35_2) .skip)) (.seq (.region [] [] c35_3) (.seq (.seq (.region [] [] c35_4) (.block 0 (.loop K35 [] c35_9))) (.seq (.region [] [] c35_10) (.seq (.region [] [] c35_11) .ret)))))) _ _) = _
      generalize (CC.seq (.region [] [] c35_10) (.seq (.region [] [] c35_11) .ret)) = rest
      simp only [zeroC] at g1
      simp only [c35, start, List.replicate, c35_0, c35_1, c35_3, c35_4, h1, hs.len, q9z, evStore, e_bslice1, e_bslice2, bs1, bs2, e_build, bdH_some, bd_nil, bd_cons, bd1, cl_agg, cl_int, toL, List.map_cons, List.map_nil, putAt, List.set_cons_zero, List.set_cons_succ, and_self, Nat.le_refl, evStore, app_get, app_set, g_agg, run_nil, run_cons, stp_plain, stp_guard, put_some, pass_eq, pick_tt, pick_ff, pick_tf, pick_ft, pick_u, reg_some, thn_normal, thn_exit, thn_ret, cnd_t, cnd_f, blk_normal, blk_ret, blk_exit, x_seq, x_region, x_cond, x_block, x_loop, x_ret, x_exit, x_skip, e_mov, e_pick, pk_t, pk_f, withH_some, e_box, bx_some, e_load, e_store, stH_some, e_nil, e_bin, e_eqv, eqH_f, eqH_t, e_un, e_fa, e_ia, ia_eq, nat_eq, natV_nat, e_len, lnH_some, e_extract, ex_0, ex_1, e_call0, e_call1, e_call2, e_call3, pc0_eq, pc1_some, pc2_some, pc3_some, fin_some, g_var0, g_vars, g_loc0, g_locs, g_int, g_bool, g_str, g_sl, s_none, s_zero, s_succ, cl_nil, cl_str, cl_bool, cl_slc, cl_own, evFa, evNil, evLoad, asEl, evBin, intBin, strBin, evUn, len_nil, len_slc, len_str, clr, List.length_nil, List.length_cons, List.getElem?_cons_zero, List.getElem?_cons_succ, Nat.reduceAdd, Nat.zero_add, Nat.add_zero, Nat.reduceLeDiff, Nat.reduceSub, ↓reduceIte, List.drop_succ_cons, List.drop_zero, List.take_succ_cons, List.take_zero, Bool.false_eq_true, List.nil_append, List.cons_append, Bool.not_true, Bool.not_false, cond_true, cond_false, bne, lv_ret, lv_normal, res1, res2, lv2_some, res_var, res_cell, lvf_v, lvf_slc, res1c, lvo1_some, e_mm, mm_max, mm_min]
      rw [loop_cong (v2 := L35 x (.v (.slice none 0 0)) c es.length 0) (by rfl), g1]
      simp only [blk_exit, thn_normal]
end Go.AE.Ytpgoibncgekflaa
end

/-! Fresh of the program: it shifts the numbers of all Vars. -/
section
set_option linter.unusedVariables false
set_option linter.unusedSimpArgs false
namespace Go.AE.Ytpgoibncgekflaa
open Go Go.AE Go.Proofs.Ytpgoibncgekflaa

theorem turn_ok {H : List AO} {id : Nat} {x : Int} (hid : H[id]? = some (.box [.v (.int .i64 x)])) (hb : H.all (AO.below H.length) = true) (n : Int) : callW F 50 [.v (.int .i64 n), .ptr id 0] H = some (.v (.int .i64 (IntKind.i64.wrap (n + x))), H) := by
  refine callW_own (c := c50) rfl rfl 0 ?_
  have l1 := bx_ld (h := H ++ []) (id := id) (by rw [List.append_nil]; exact hid) (a := false) (n := 1) (o := 0)
  have body : exec (callW F) 0 c50.body (start c50 [.v (.int .i64 n), .ptr id 0]) (H ++ []) = some (.ret, [.v (.int .i64 n), .ptr id 0, .v (.int .i64 (IntKind.i64.wrap (n + x)))], H ++ []) := by
    simp only [c50, start, List.replicate, c50_0, c50_1, l1, e_bslice1, e_bslice2, bs1, bs2, e_build, bdH_some, bd_nil, bd_cons, bd1, cl_agg, cl_int, toL, List.map_cons, List.map_nil, putAt, List.set_cons_zero, List.set_cons_succ, and_self, Nat.le_refl, app_get, app_set, g_agg, run_nil, run_cons, stp_plain, stp_guard, put_some, pass_eq, pick_tt, pick_ff, pick_tf, pick_ft, pick_u, reg_some, thn_normal, thn_exit, thn_ret, cnd_t, cnd_f, blk_normal, blk_ret, blk_exit, x_seq, x_region, x_cond, x_block, x_loop, x_ret, x_exit, x_skip, e_mov, e_pick, pk_t, pk_f, withH_some, e_box, e_load, e_store, stH_some, e_nil, e_bin, e_eqv, eqH_f, eqH_t, e_un, e_fa, e_ia, ia_eq, nat_eq, natV_nat, e_len, lnH_some, e_extract, ex_0, ex_1, e_call0, e_call1, e_call2, e_call3, pc0_eq, pc1_some, pc2_some, pc3_some, fin_some, g_var0, g_vars, g_loc0, g_locs, g_int, g_bool, g_str, g_sl, s_none, s_zero, s_succ, cl_nil, cl_str, cl_bool, cl_slc, cl_own, evFa, evNil, asEl, evBin, intBin, strBin, evUn, len_nil, len_slc, len_str, clr, List.length_nil, List.length_cons, List.getElem?_cons_zero, List.getElem?_cons_succ, Nat.reduceAdd, Nat.zero_add, Nat.add_zero, Nat.reduceLeDiff, Nat.reduceSub, ↓reduceIte, List.drop_succ_cons, List.drop_zero, List.take_succ_cons, List.take_zero, Bool.false_eq_true, List.nil_append, List.cons_append, Bool.not_true, Bool.not_false, cond_true, cond_false, bne, lv_ret, lv_normal, res1, res2, lv2_some, res_var, res_cell, lvf_v, lvf_slc, res1c, lvo1_some, e_mm, mm_max, mm_min]
  rw [body, leave_own rfl hb]
  exact lvo_one rfl

theorem e_mkfn {call : CallF} {vars env : List AV} {h : List AO} {f : Fn} {first cap : List Opd} : evOp call vars env h (.mkfn f first cap) = some (.fn f (first.map (getO vars env)) (cap.map (getO vars env)), h) := rfl
def cv (call : CallF) (h : List AO) (xs : List AV) : AV → Option (AV × List AO)
  | .fn (.func f) first cap => call f (first ++ xs ++ cap) h
  | _ => none
theorem e_callv {call : CallF} {vars env : List AV} {h : List AO} {x : Opd} {args : List Opd} : evOp call vars env h (.callv x args) = cv call h (args.map (getO vars env)) (getO vars env x) := by
  simp only [evOp, cv]
  rfl
theorem cv_fn {call : CallF} {h : List AO} {f : FuncId} {xs first cap : List AV} : cv call h xs (.fn (.func f) first cap) = call f (first ++ xs ++ cap) h := rfl

section
variable {H : List AO} {l : List AO}
theorem h_ld {a : Bool} {sz k o : Nat} : evLoad (H ++ l) a sz (.ptr (H.length + k) o) = ldAt l k a sz o := own_ld rfl
theorem h_ld0 {a : Bool} {sz o : Nat} : evLoad (H ++ l) a sz (.ptr H.length o) = ldAt l 0 a sz o := own_ld0 rfl
theorem h_st {sz k o : Nat} {x : AV} : evStore (H ++ l) sz (.ptr (H.length + k) o) x = preH H (stAt l sz k o x) := own_st rfl
theorem h_st0 {sz o : Nat} {x : AV} : evStore (H ++ l) sz (.ptr H.length o) x = preH H (stAt l sz 0 o x) := own_st0 rfl
theorem h_bx {cs : List AV} : bx (H ++ l) (some cs) = some (.ptr (H.length + l.length) 0, H ++ (l ++ [.box cs])) := own_bx rfl

def K49 : List Bool := [false, true, true, true, true, false, false, false, false, true, true, true, false]
def fnV (id : Nat) : AV := .fn (.func 50) [] [.ptr id 0]
def L49 (id B n : Nat) (c : AV) (i : Int) : List AV := [.junk, fnV id, .ptr B 0, .ptr (B + 1) 0, .own 4 (B + 2) 0 0 n, .junk, .junk, .junk, .junk, c, .v (.int .i64 n), .v (.int .i64 i), .junk]

theorem zeroEl4 : zeroEl [(.int .i64 0), (.string ⟨#[]⟩), (.int .i64 0), (.slice none 0 0)] = .agg zeroC := rfl
theorem IsT.eta {a : AV} {t : Tm} (ht : IsT a t) : AV.agg a.cells = a := by
  cases ht; rfl
theorem IsT.cellB {a : AV} {t : Tm} (ht : IsT a t) : a.cells.all AV.isCell = true := by
  cases ht with
  | mk k s n c l hc => cases hc <;> rfl
theorem app_set_one {x : AO} {l : List AO} {k : Nat} (h : k < l.length) {y : AO} : (l ++ [x]).set k y = l.set k y ++ [x] := List.set_append_left _ _ h

theorem each_loop {K : Nat} {id : Nat} {c : AV} {es : List AV} {cs0 cs1 : List AV} (hs : Sl 4 c es) (hm : es.length ≤ 100000) (x : Int) (hid : H[id]? = some (.box [.v (.int .i64 x)])) (hb : H.all (AO.below H.length) = true) (hb0 : (AO.box cs0).below 0 = true) (hb1 : (AO.box cs1).below 0 = true) :
    ∀ (l : List Tm) (i : Nat) (ds : List AV) (dl : List Tm) (tail : List AO) (vars : List AV), i + l.length = es.length → ds.length = i → All2 (es.drop i) l → All2 ds dl → tail.all (AO.below 0) = true →
      (∀ t ∈ l, ∀ (e : AV) (H' : List AO), IsT e t → H'[id]? = some (.box [.v (.int .i64 x)]) → H'.all (AO.below H'.length) = true → ∃ r, IsT r (shiftT x t) ∧ callW F 49 [e, fnV id] H' = some (r, H')) →
      clr K49 vars = L49 id H.length es.length c i →
      ∃ ds' tail' x5 x6 x7 x8 x12, loopN (exec (callW F) K c49_12) K49 (l.length + 1) vars (H ++ (.box cs0 :: .box cs1 :: .row 4 0 (ds ++ List.replicate l.length (.agg zeroC)) 0 :: tail)) = some (.exit 0, [.junk, fnV id, .ptr H.length 0, .ptr (H.length + 1) 0, .own 4 (H.length + 2) 0 0 es.length, x5, x6, x7, x8, c, .v (.int .i64 es.length), .v (.int .i64 es.length), x12], H ++ (.box cs0 :: .box cs1 :: .row 4 0 ds' 0 :: tail')) ∧ All2 ds' (dl ++ shiftL x l) ∧ ds'.length = es.length := by
  intro l
  induction l with
  | nil =>
    intro i ds dl tail vars hi hds _ hall htl _ hv
    have hil : i = es.length := by simpa using hi
    subst hil
    have hlt : decide ((es.length : Int) < (es.length : Int)) = false := by simp
    refine ⟨ds, tail, .junk, .junk, .junk, .junk, .v (.bool false), loop_exit ?_, by simpa [shiftL] using hall, hds⟩
    rw [hv]
    simp only [L49, c49_12, c49_8, hlt, List.replicate, List.append_nil, e_bslice1, e_bslice2, bs1, bs2, e_build, bdH_some, bd_nil, bd_cons, bd1, cl_agg, cl_int, toL, List.map_cons, List.map_nil, putAt, List.set_cons_zero, List.set_cons_succ, and_self, Nat.le_refl, app_get, app_set, g_agg, run_nil, run_cons, stp_plain, stp_guard, put_some, pass_eq, pick_tt, pick_ff, pick_tf, pick_ft, pick_u, reg_some, thn_normal, thn_exit, thn_ret, cnd_t, cnd_f, blk_normal, blk_ret, blk_exit, x_seq, x_region, x_cond, x_block, x_loop, x_ret, x_exit, x_skip, e_mov, e_pick, pk_t, pk_f, withH_some, e_box, e_load, e_store, stH_some, e_nil, e_bin, e_eqv, eqH_f, eqH_t, e_un, e_fa, e_ia, ia_eq, nat_eq, natV_nat, e_len, lnH_some, e_extract, ex_0, ex_1, e_call0, e_call1, e_call2, e_call3, pc0_eq, pc1_some, pc2_some, pc3_some, fin_some, g_var0, g_vars, g_loc0, g_locs, g_int, g_bool, g_str, g_sl, s_none, s_zero, s_succ, cl_nil, cl_str, cl_bool, cl_slc, cl_own, evFa, evNil, asEl, evBin, intBin, strBin, evUn, len_nil, len_slc, len_str, clr, List.length_nil, List.length_cons, List.getElem?_cons_zero, List.getElem?_cons_succ, Nat.reduceAdd, Nat.zero_add, Nat.add_zero, Nat.reduceLeDiff, Nat.reduceSub, ↓reduceIte, List.drop_succ_cons, List.drop_zero, List.take_succ_cons, List.take_zero, Bool.false_eq_true, List.nil_append, List.cons_append, Bool.not_true, Bool.not_false, cond_true, cond_false, bne, lv_ret, lv_normal, res1, res2, lv2_some, res_var, res_cell, lvf_v, lvf_slc, res1c, lvo1_some, e_mm, mm_max, mm_min]
  | cons t l ih =>
    intro i ds dl tail vars hi hds hes hall htl hcall hv
    have hil : i < es.length := by simp at hi; omega
    have he : es[i]? = some (es[i]'hil) := List.getElem?_eq_getElem _
    have hd : es.drop i = es[i] :: es.drop (i + 1) := List.drop_eq_getElem_cons hil
    rw [hd] at hes
    generalize es[i]'hil = e at hes he
    cases hes with
    | cons _ _ _ _ hT hs' =>
    have hlt : (decide ((i : Int) < (es.length : Int))) = true := by simp; omega
    have hlen : (ds ++ List.replicate (t :: l).length (AV.agg zeroC)).length = es.length := by simp at hi ⊢; omega
    have tl2 : (tail ++ [AO.box e.cells]).all (AO.below 0) = true := by
      have := hT.bel
      simp only [List.all_append, List.all_cons, List.all_nil, htl, this, Bool.and_true]
    have hbl : (H ++ (.box cs0 :: .box cs1 :: .row 4 0 (ds ++ List.replicate (t :: l).length (.agg zeroC)) 0 :: (tail ++ [AO.box e.cells])) : List AO).all (AO.below (H ++ (.box cs0 :: .box cs1 :: .row 4 0 (ds ++ List.replicate (t :: l).length (.agg zeroC)) 0 :: (tail ++ [AO.box e.cells])) : List AO).length) = true := by
      rw [List.all_append, Bool.and_eq_true]
      refine ⟨all_below_mono (by simp) hb, all_below_mono (Nat.zero_le _) ?_⟩
      have hr : ∀ L : List AV, (AO.row 4 0 L 0).below 0 = true := fun _ => rfl
      simp only [List.all_cons, hb0, hb1, hr, tl2, Bool.and_true]
    obtain ⟨r, hr, hc⟩ := hcall t (by simp) _ _ hT (his_get hid) hbl
    have q1 := hs.ia he
    have q3 : ∀ h : List AO, evLoad h true 4 (.ip e.cells) = some e := fun h => hT.load
    have q4 : e.cl = some e.cells := hT.cl.1
    have q4b : e.cells.length = 4 := hT.cl.2
    have q5 := hT.asEl
    -- the row
    have row : ∀ tl : List AO, (AO.box cs0 :: .box cs1 :: .row 4 0 (ds ++ List.replicate (t :: l).length (.agg zeroC)) 0 :: tl : List AO)[2]? = some (.row 4 0 (ds ++ List.replicate (t :: l).length (.agg zeroC)) 0) := fun _ => rfl
    have q7 := own_ia (sz := 4) (H := H) rfl (row (tail ++ [AO.box e.cells])) (n := es.length) (by omega) hil
    have hel : (ds ++ List.replicate (t :: l).length (AV.agg zeroC))[i]? = some (.agg zeroC) := by
      rw [List.getElem?_append_right (by omega)]
      simp [hds, List.replicate]
    have q8 := own_est (sz := 4) (H := H) rfl (row (tail ++ [AO.box e.cells])) hel rfl (x := r) (hr.snap) hr.cl.1 hr.cl.2 hr.cellB
    have hset : (ds ++ List.replicate (t :: l).length (AV.agg zeroC)).set i (AV.agg r.cells) = (ds ++ [r]) ++ List.replicate l.length (AV.agg zeroC) := by
      rw [List.set_append_right _ _ (by omega)]
      have : AV.agg r.cells = r := hr.eta
      rw [this]
      simp [hds, List.replicate]
    rw [hset] at q8
    simp only [List.set_cons_succ, List.set_cons_zero] at q8
    have st : ∀ R R2, R = ds ++ List.replicate (t :: l).length (AV.agg zeroC) → R2 = (ds ++ [r]) ++ List.replicate l.length (AV.agg zeroC) → exec (callW F) K c49_12 (L49 id H.length es.length c i) (H ++ (.box cs0 :: .box cs1 :: .row 4 0 R 0 :: tail)) = some (.normal, [.junk, fnV id, .ptr H.length 0, .ptr (H.length + 1) 0, .own 4 (H.length + 2) 0 0 es.length, .v (.int .i64 i), .ptr (H.length + (tail.length + 1 + 1 + 1)) 0, .junk, .junk, c, .v (.int .i64 es.length), .v (.int .i64 ((i + 1 : Nat) : Int)), .v (.bool true)], H ++ (.box cs0 :: .box cs1 :: .row 4 0 R2 0 :: (tail ++ [AO.box e.cells]))) := by
      intro R R2 hR hR2
      rw [← hR] at hc q7 q8
      rw [← hR2] at q8
      have hst : ∀ (q : AV), evStore (H ++ (.box cs0 :: .box cs1 :: .row 4 0 R 0 :: (tail ++ [AO.box zeroC]))) 4 (.ptr (H.length + (tail.length + 1 + 1 + 1)) 0) e = some (H ++ (.box cs0 :: .box cs1 :: .row 4 0 R 0 :: (tail ++ [AO.box e.cells]))) := by
        intro q
        have hg := hT
        cases hg with
        | mk k s n c2 l2 hc2 =>
        simp only [h_st, stAt, zeroC, AV.cells, e_bslice1, e_bslice2, bs1, bs2, e_build, bdH_some, bd_nil, bd_cons, bd1, cl_agg, cl_int, toL, List.map_cons, List.map_nil, putAt, List.set_cons_zero, List.set_cons_succ, and_self, Nat.le_refl, app_get, app_set, g_agg, run_nil, run_cons, stp_plain, stp_guard, put_some, pass_eq, pick_tt, pick_ff, pick_tf, pick_ft, pick_u, reg_some, thn_normal, thn_exit, thn_ret, cnd_t, cnd_f, blk_normal, blk_ret, blk_exit, x_seq, x_region, x_cond, x_block, x_loop, x_ret, x_exit, x_skip, e_mov, e_pick, pk_t, pk_f, withH_some, e_box, e_load, e_store, stH_some, e_nil, e_bin, e_eqv, eqH_f, eqH_t, e_un, e_fa, e_ia, ia_eq, nat_eq, natV_nat, e_len, lnH_some, e_extract, ex_0, ex_1, e_call0, e_call1, e_call2, e_call3, pc0_eq, pc1_some, pc2_some, pc3_some, fin_some, g_var0, g_vars, g_loc0, g_locs, g_int, g_bool, g_str, g_sl, s_none, s_zero, s_succ, cl_nil, cl_str, cl_bool, cl_slc, cl_own, evFa, evNil, asEl, evBin, intBin, strBin, evUn, len_nil, len_slc, len_str, clr, List.length_nil, List.length_cons, List.getElem?_cons_zero, List.getElem?_cons_succ, Nat.reduceAdd, Nat.zero_add, Nat.add_zero, Nat.reduceLeDiff, Nat.reduceSub, ↓reduceIte, List.drop_succ_cons, List.drop_zero, List.take_succ_cons, List.take_zero, Bool.false_eq_true, List.nil_append, List.cons_append, Bool.not_true, Bool.not_false, cond_true, cond_false, bne, lv_ret, lv_normal, res1, res2, lv2_some, res_var, res_cell, lvf_v, lvf_slc, res1c, lvo1_some, e_mm, mm_max, mm_min]
        rfl
      have hld : evLoad (H ++ (.box cs0 :: .box cs1 :: .row 4 0 R 0 :: (tail ++ [AO.box e.cells]))) true 4 (.ptr (H.length + (tail.length + 1 + 1 + 1)) 0) = some e := by
        rw [h_ld]
        simp only [ldAt, List.getElem?_cons_succ, app_get, q4b, List.drop_zero, q5]
        rfl
      have hst' := hst .junk
      simp only [zeroC] at hst'
      simp only [L49, zeroC, c49_12, c49_8, c49_9, c49_10, c49_11, hlt, wrap_succ hil (small_max hm), q1, q3, q7, q8, hc, hst', hld, e_callh, q9z, h_bx, e_bslice1, e_bslice2, bs1, bs2, e_build, bdH_some, bd_nil, bd_cons, bd1, cl_agg, cl_int, toL, List.map_cons, List.map_nil, putAt, List.set_cons_zero, List.set_cons_succ, and_self, Nat.le_refl, app_get, app_set, g_agg, run_nil, run_cons, stp_plain, stp_guard, put_some, pass_eq, pick_tt, pick_ff, pick_tf, pick_ft, pick_u, reg_some, thn_normal, thn_exit, thn_ret, cnd_t, cnd_f, blk_normal, blk_ret, blk_exit, x_seq, x_region, x_cond, x_block, x_loop, x_ret, x_exit, x_skip, e_mov, e_pick, pk_t, pk_f, withH_some, e_box, e_load, e_store, stH_some, e_nil, e_bin, e_eqv, eqH_f, eqH_t, e_un, e_fa, e_ia, ia_eq, nat_eq, natV_nat, e_len, lnH_some, e_extract, ex_0, ex_1, e_call0, e_call1, e_call2, e_call3, pc0_eq, pc1_some, pc2_some, pc3_some, fin_some, g_var0, g_vars, g_loc0, g_locs, g_int, g_bool, g_str, g_sl, s_none, s_zero, s_succ, cl_nil, cl_str, cl_bool, cl_slc, cl_own, evFa, evNil, asEl, evBin, intBin, strBin, evUn, len_nil, len_slc, len_str, clr, List.length_nil, List.length_cons, List.getElem?_cons_zero, List.getElem?_cons_succ, Nat.reduceAdd, Nat.zero_add, Nat.add_zero, Nat.reduceLeDiff, Nat.reduceSub, ↓reduceIte, List.drop_succ_cons, List.drop_zero, List.take_succ_cons, List.take_zero, Bool.false_eq_true, List.nil_append, List.cons_append, Bool.not_true, Bool.not_false, cond_true, cond_false, bne, lv_ret, lv_normal, res1, res2, lv2_some, res_var, res_cell, lvf_v, lvf_slc, res1c, lvo1_some, e_mm, mm_max, mm_min]
    rw [show (t :: l).length + 1 = (l.length + 1) + 1 from rfl, loop_normal (by rw [hv]; exact st _ _ rfl rfl)]
    obtain ⟨ds', tail', x5, x6, x7, x8, x12, g1, g2, g3⟩ := ih (i + 1) (ds ++ [r]) (dl ++ [shiftT x t]) (tail ++ [AO.box e.cells]) [.junk, fnV id, .ptr H.length 0, .ptr (H.length + 1) 0, .own 4 (H.length + 2) 0 0 es.length, .v (.int .i64 i), .ptr (H.length + (tail.length + 1 + 1 + 1)) 0, .junk, .junk, c, .v (.int .i64 es.length), .v (.int .i64 ((i + 1 : Nat) : Int)), .v (.bool true)] (by simp at hi; omega) (by simp [hds]) hs' (hall.app (.one hr)) tl2 (fun t ht => hcall t (by simp [ht])) rfl
    refine ⟨ds', tail', x5, x6, x7, x8, x12, g1, ?_, g3⟩
    rw [shiftL]
    simpa using g2

theorem start49 (a b : AV) : start c49 [a, b] = [a, b, .v undef, .v undef, .v undef, .v undef, .v undef, .v undef, .v undef, .v undef, .v undef, .v undef, .v undef] := rfl
theorem each49 (x : Int) (id : Nat) : ∀ (N : Nat) (t : Tm) (a : AV) (H : List AO), SizeOf.sizeOf t < N → size t ≤ 100000 → IsT a t → H[id]? = some (.box [.v (.int .i64 x)]) → H.all (AO.below H.length) = true → ∃ r, IsT r (shiftT x t) ∧ callW F 49 [a, fnV id] H = some (r, H) := by
  intro N
  induction N with
  | zero => intro t a H h; omega
  | succ N ih =>
    intro t a H hN hsz ha hid hb
    have hbela := ha.bel
    cases ha with
    | mk k s n c l hc =>
    have h5 := Tm.mk.sizeOf_spec k s n l
    simp only [size] at hsz
    have hll := sizeL_len l
    have hcall : ∀ t ∈ l, ∀ (e : AV) (H' : List AO), IsT e t → H'[id]? = some (.box [.v (.int .i64 x)]) → H'.all (AO.below H'.length) = true → ∃ r, IsT r (shiftT x t) ∧ callW F 49 [e, fnV id] H' = some (r, H') := by
      intro t ht e H' hT
      have h6 := List.sizeOf_lt_of_mem ht
      have h7 := size_mem ht
      exact ih t e H' (by omega) (by omega) hT
    obtain ⟨es, hs, hes, hm⟩ := hc.sl
    have e1 := hes.length
    -- behind the number
    have rest : ∀ (n' : Int) (y : AV) (m : Bool), ∃ r, IsT r (.mk k s n' (shiftL x l)) ∧ leave H.length c49 (exec (callW F) (l.length + 1) (.seq (.seq (.region [] [] c49_3) (.cond (.var 8) (.seq (.region [] [] c49_4) (.seq (.region [] [] c49_5) .ret)) .skip)) (.seq (.region [] [] c49_6) (.seq (.seq (.region [] [] c49_7) (.block 0 (.loop K49 [] c49_12))) (.seq (.region [] [] c49_13) (.seq (.region [] [] c49_14) .ret)))))
        [y, fnV id, .ptr H.length 0, .ptr (H.length + 1) 0, .v undef, .v undef, .v undef, .v (.bool m), .v undef, .v undef, .v undef, .v undef, .v undef] (H ++ [.box [.v (.int .i64 k), .v (.string s), .v (.int .i64 n'), c], .box zeroC])) = some (r, H) := by
      intro n' y m
      have hres : c49.res = [.cell 3 true 4] := rfl
      rcases Nat.eq_zero_or_pos l.length with h0 | h0
      · have hl0 : l = [] := List.length_eq_zero_iff.1 h0
        subst hl0
        have he0 : es = [] := List.length_eq_zero_iff.1 (by simpa using e1)
        subst he0
        have h1 : (((0 : Nat) : Int) == 0) = true := rfl
        refine ⟨.agg [.v (.int .i64 k), .v (.string s), .v (.int .i64 n'), .v (.slice none 0 0)], by rw [shiftL]; exact .mk _ _ _ _ _ .nil, ?_⟩
        simp only [zeroC, c49_3, c49_4, c49_5, h1, hs.len, h_ld, h_ld0, h_st, h_st0, h_bx, ldAt, stAt, preH_some, List.append_assoc, e_bslice1, e_bslice2, bs1, bs2, e_build, bdH_some, bd_nil, bd_cons, bd1, cl_agg, cl_int, toL, List.map_cons, List.map_nil, putAt, List.set_cons_zero, List.set_cons_succ, and_self, Nat.le_refl, app_get, app_set, g_agg, run_nil, run_cons, stp_plain, stp_guard, put_some, pass_eq, pick_tt, pick_ff, pick_tf, pick_ft, pick_u, reg_some, thn_normal, thn_exit, thn_ret, cnd_t, cnd_f, blk_normal, blk_ret, blk_exit, x_seq, x_region, x_cond, x_block, x_loop, x_ret, x_exit, x_skip, e_mov, e_pick, pk_t, pk_f, withH_some, e_box, e_load, e_store, stH_some, e_nil, e_bin, e_eqv, eqH_f, eqH_t, e_un, e_fa, e_ia, ia_eq, nat_eq, natV_nat, e_len, lnH_some, e_extract, ex_0, ex_1, e_call0, e_call1, e_call2, e_call3, pc0_eq, pc1_some, pc2_some, pc3_some, fin_some, g_var0, g_vars, g_loc0, g_locs, g_int, g_bool, g_str, g_sl, s_none, s_zero, s_succ, cl_nil, cl_str, cl_bool, cl_slc, cl_own, evFa, evNil, asEl, evBin, intBin, strBin, evUn, len_nil, len_slc, len_str, clr, List.length_nil, List.length_cons, List.getElem?_cons_zero, List.getElem?_cons_succ, Nat.reduceAdd, Nat.zero_add, Nat.add_zero, Nat.reduceLeDiff, Nat.reduceSub, ↓reduceIte, List.drop_succ_cons, List.drop_zero, List.take_succ_cons, List.take_zero, Bool.false_eq_true, List.nil_append, List.cons_append, Bool.not_true, Bool.not_false, cond_true, cond_false, bne, lv_ret, lv_normal, res1, res2, lv2_some, res_var, res_cell, lvf_v, lvf_slc, res1c, lvo1_some, e_mm, mm_max, mm_min]
        rw [leave_own rfl hb, hres, own_res1 (x := .agg [.v (.int .i64 k), .v (.string s), .v (.int .i64 n'), .v (.slice none 0 0)]) _]
        · exact lvo_one rfl
        · simp only [res_cell, h_ld, ldAt, e_bslice1, e_bslice2, bs1, bs2, e_build, bdH_some, bd_nil, bd_cons, bd1, cl_agg, cl_int, toL, List.map_cons, List.map_nil, putAt, List.set_cons_zero, List.set_cons_succ, and_self, Nat.le_refl, app_get, app_set, g_agg, run_nil, run_cons, stp_plain, stp_guard, put_some, pass_eq, pick_tt, pick_ff, pick_tf, pick_ft, pick_u, reg_some, thn_normal, thn_exit, thn_ret, cnd_t, cnd_f, blk_normal, blk_ret, blk_exit, x_seq, x_region, x_cond, x_block, x_loop, x_ret, x_exit, x_skip, e_mov, e_pick, pk_t, pk_f, withH_some, e_box, e_load, e_store, stH_some, e_nil, e_bin, e_eqv, eqH_f, eqH_t, e_un, e_fa, e_ia, ia_eq, nat_eq, natV_nat, e_len, lnH_some, e_extract, ex_0, ex_1, e_call0, e_call1, e_call2, e_call3, pc0_eq, pc1_some, pc2_some, pc3_some, fin_some, g_var0, g_vars, g_loc0, g_locs, g_int, g_bool, g_str, g_sl, s_none, s_zero, s_succ, cl_nil, cl_str, cl_bool, cl_slc, cl_own, evFa, evNil, asEl, evBin, intBin, strBin, evUn, len_nil, len_slc, len_str, clr, List.length_nil, List.length_cons, List.getElem?_cons_zero, List.getElem?_cons_succ, Nat.reduceAdd, Nat.zero_add, Nat.add_zero, Nat.reduceLeDiff, Nat.reduceSub, ↓reduceIte, List.drop_succ_cons, List.drop_zero, List.take_succ_cons, List.take_zero, Bool.false_eq_true, List.nil_append, List.cons_append, Bool.not_true, Bool.not_false, cond_true, cond_false, bne, lv_ret, lv_normal, res1, res2, lv2_some, res_var, res_cell, lvf_v, lvf_slc, res1c, lvo1_some, e_mm, mm_max, mm_min]
      · have h1 : ((es.length : Int) == 0) = false := by rw [beq_eq_false_iff_ne]; omega
        obtain ⟨ds', tail', x5, x6, x7, x8, x12, g1, g2, g3⟩ := each_loop (H := H) (K := l.length + 1) (id := id) (cs0 := [.v (.int .i64 k), .v (.string s), .v (.int .i64 n'), c]) (cs1 := zeroC) hs (by omega) x hid hb (by
            have : ∀ n', IsT (.agg [.v (.int .i64 k), .v (.string s), .v (.int .i64 n'), c]) (.mk k s n' l) := fun n' => .mk k s n' c l hc
            exact (this n').bel) rfl l 0 [] [] [] (L49 id H.length es.length c (0 : Nat)) (by omega) rfl (by simpa using hes) .nil rfl hcall rfl
        have hrow : (List.replicate es.length (AV.agg zeroC)) = [] ++ List.replicate l.length (AV.agg zeroC) := by rw [e1]; rfl
        have mk := mkS_own (sz := 4) (H := H) (l := [.box [.v (.int .i64 k), .v (.string s), .v (.int .i64 n'), c], .box zeroC]) (B := H.length) rfl (bytes := 56) (zero := [(.int .i64 0), (.string ⟨#[]⟩), (.int .i64 0), (.slice none 0 0)]) (n := es.length) (by have : maxLen = 9223372036854775807 := rfl; omega) (by omega)
        rw [zeroEl4, hrow] at mk
        generalize hR : ([] ++ List.replicate l.length (AV.agg zeroC)) = R at mk g1
        have hz2 : ∀ c' : AV, (AV.own 4 (H.length + 2) 0 0 es.length).cl = some [.own 4 (H.length + 2) 0 0 es.length] := fun _ => rfl
        have hds : ∀ h0 : List AO, (H ++ (.box [.v (.int .i64 k), .v (.string s), .v (.int .i64 n'), .own 4 (H.length + 2) 0 0 es.length] :: .box [.v (.int .i64 k), .v (.string s), .v (.int .i64 n'), .own 4 (H.length + 2) 0 0 es.length] :: .row 4 0 ds' 0 :: tail'))[H.length + 2]? = some (.row 4 0 ds' 0) := fun _ => obj_get rfl
        refine ⟨.agg [.v (.int .i64 k), .v (.string s), .v (.int .i64 n'), .slc 4 false false ds'], .mk _ _ _ _ _ (.slc _ _ _ _ (by simpa using g2) (by omega)), ?_⟩
        generalize hrest : (CC.seq (.region [] [] c49_13) (.seq (.region [] [] c49_14) .ret)) = rest
        simp only [zeroC] at mk g1
        simp only [zeroC, c49_3, c49_6, c49_7, h1, hs.len, mk, e_mkslice, h_ld, h_ld0, h_st, h_st0, h_bx, ldAt, stAt, preH_some, List.append_assoc, e_bslice1, e_bslice2, bs1, bs2, e_build, bdH_some, bd_nil, bd_cons, bd1, cl_agg, cl_int, toL, List.map_cons, List.map_nil, putAt, List.set_cons_zero, List.set_cons_succ, and_self, Nat.le_refl, app_get, app_set, g_agg, run_nil, run_cons, stp_plain, stp_guard, put_some, pass_eq, pick_tt, pick_ff, pick_tf, pick_ft, pick_u, reg_some, thn_normal, thn_exit, thn_ret, cnd_t, cnd_f, blk_normal, blk_ret, blk_exit, x_seq, x_region, x_cond, x_block, x_loop, x_ret, x_exit, x_skip, e_mov, e_pick, pk_t, pk_f, withH_some, e_box, e_load, e_store, stH_some, e_nil, e_bin, e_eqv, eqH_f, eqH_t, e_un, e_fa, e_ia, ia_eq, nat_eq, natV_nat, e_len, lnH_some, e_extract, ex_0, ex_1, e_call0, e_call1, e_call2, e_call3, pc0_eq, pc1_some, pc2_some, pc3_some, fin_some, g_var0, g_vars, g_loc0, g_locs, g_int, g_bool, g_str, g_sl, s_none, s_zero, s_succ, cl_nil, cl_str, cl_bool, cl_slc, cl_own, evFa, evNil, asEl, evBin, intBin, strBin, evUn, len_nil, len_slc, len_str, clr, List.length_nil, List.length_cons, List.getElem?_cons_zero, List.getElem?_cons_succ, Nat.reduceAdd, Nat.zero_add, Nat.add_zero, Nat.reduceLeDiff, Nat.reduceSub, ↓reduceIte, List.drop_succ_cons, List.drop_zero, List.take_succ_cons, List.take_zero, Bool.false_eq_true, List.nil_append, List.cons_append, Bool.not_true, Bool.not_false, cond_true, cond_false, bne, lv_ret, lv_normal, res1, res2, lv2_some, res_var, res_cell, lvf_v, lvf_slc, res1c, lvo1_some, e_mm, mm_max, mm_min]
        rw [loop_cong (v2 := L49 id H.length es.length c ((0 : Nat) : Int)) (by rfl), g1, ← hrest]
        simp only [c49_13, c49_14, hz2 .junk, h_ld, h_ld0, h_st, h_st0, h_bx, ldAt, stAt, preH_some, List.append_assoc, e_bslice1, e_bslice2, bs1, bs2, e_build, bdH_some, bd_nil, bd_cons, bd1, cl_agg, cl_int, toL, List.map_cons, List.map_nil, putAt, List.set_cons_zero, List.set_cons_succ, and_self, Nat.le_refl, app_get, app_set, g_agg, run_nil, run_cons, stp_plain, stp_guard, put_some, pass_eq, pick_tt, pick_ff, pick_tf, pick_ft, pick_u, reg_some, thn_normal, thn_exit, thn_ret, cnd_t, cnd_f, blk_normal, blk_ret, blk_exit, x_seq, x_region, x_cond, x_block, x_loop, x_ret, x_exit, x_skip, e_mov, e_pick, pk_t, pk_f, withH_some, e_box, e_load, e_store, stH_some, e_nil, e_bin, e_eqv, eqH_f, eqH_t, e_un, e_fa, e_ia, ia_eq, nat_eq, natV_nat, e_len, lnH_some, e_extract, ex_0, ex_1, e_call0, e_call1, e_call2, e_call3, pc0_eq, pc1_some, pc2_some, pc3_some, fin_some, g_var0, g_vars, g_loc0, g_locs, g_int, g_bool, g_str, g_sl, s_none, s_zero, s_succ, cl_nil, cl_str, cl_bool, cl_slc, cl_own, evFa, evNil, asEl, evBin, intBin, strBin, evUn, len_nil, len_slc, len_str, clr, List.length_nil, List.length_cons, List.getElem?_cons_zero, List.getElem?_cons_succ, Nat.reduceAdd, Nat.zero_add, Nat.add_zero, Nat.reduceLeDiff, Nat.reduceSub, ↓reduceIte, List.drop_succ_cons, List.drop_zero, List.take_succ_cons, List.take_zero, Bool.false_eq_true, List.nil_append, List.cons_append, Bool.not_true, Bool.not_false, cond_true, cond_false, bne, lv_ret, lv_normal, res1, res2, lv2_some, res_var, res_cell, lvf_v, lvf_slc, res1c, lvo1_some, e_mm, mm_max, mm_min]
        rw [leave_own rfl hb, hres, own_res1 (x := .agg [.v (.int .i64 k), .v (.string s), .v (.int .i64 n'), .own 4 (H.length + 2) 0 0 es.length]) _]
        · refine lvo_one ?_
          have hn : ¬ (H.length + 2 < H.length) := by omega
          simp [AV.frz2, AV.frz1, AV.frz0, hn, rowAt, hds [], g3]
          rw [← g3]; simp
        · simp only [res_cell, h_ld, ldAt, e_bslice1, e_bslice2, bs1, bs2, e_build, bdH_some, bd_nil, bd_cons, bd1, cl_agg, cl_int, toL, List.map_cons, List.map_nil, putAt, List.set_cons_zero, List.set_cons_succ, and_self, Nat.le_refl, app_get, app_set, g_agg, run_nil, run_cons, stp_plain, stp_guard, put_some, pass_eq, pick_tt, pick_ff, pick_tf, pick_ft, pick_u, reg_some, thn_normal, thn_exit, thn_ret, cnd_t, cnd_f, blk_normal, blk_ret, blk_exit, x_seq, x_region, x_cond, x_block, x_loop, x_ret, x_exit, x_skip, e_mov, e_pick, pk_t, pk_f, withH_some, e_box, e_load, e_store, stH_some, e_nil, e_bin, e_eqv, eqH_f, eqH_t, e_un, e_fa, e_ia, ia_eq, nat_eq, natV_nat, e_len, lnH_some, e_extract, ex_0, ex_1, e_call0, e_call1, e_call2, e_call3, pc0_eq, pc1_some, pc2_some, pc3_some, fin_some, g_var0, g_vars, g_loc0, g_locs, g_int, g_bool, g_str, g_sl, s_none, s_zero, s_succ, cl_nil, cl_str, cl_bool, cl_slc, cl_own, evFa, evNil, asEl, evBin, intBin, strBin, evUn, len_nil, len_slc, len_str, clr, List.length_nil, List.length_cons, List.getElem?_cons_zero, List.getElem?_cons_succ, Nat.reduceAdd, Nat.zero_add, Nat.add_zero, Nat.reduceLeDiff, Nat.reduceSub, ↓reduceIte, List.drop_succ_cons, List.drop_zero, List.take_succ_cons, List.take_zero, Bool.false_eq_true, List.nil_append, List.cons_append, Bool.not_true, Bool.not_false, cond_true, cond_false, bne, lv_ret, lv_normal, res1, res2, lv2_some, res_var, res_cell, lvf_v, lvf_slc, res1c, lvo1_some, e_mm, mm_max, mm_min]
    have hstart : ∀ (r : AV) , leave H.length c49 (exec (callW F) (l.length + 1) (.seq (.region [] [] c49_0) (.seq (.seq (.region [] [] c49_1) (.cond (.var 7) (.region [] [] c49_2) .skip)) (.seq (.seq (.region [] [] c49_3) (.cond (.var 8) (.seq (.region [] [] c49_4) (.seq (.region [] [] c49_5) .ret)) .skip)) (.seq (.region [] [] c49_6) (.seq (.seq (.region [] [] c49_7) (.block 0 (.loop K49 [] c49_12))) (.seq (.region [] [] c49_13) (.seq (.region [] [] c49_14) .ret))))))) (start c49 [.agg [.v (.int .i64 k), .v (.string s), .v (.int .i64 n), c], fnV id]) (H ++ [])) = some (r, H) → callW F 49 [.agg [.v (.int .i64 k), .v (.string s), .v (.int .i64 n), c], fnV id] H = some (r, H) :=
      fun r hr => callW_own (c := c49) rfl rfl (l.length + 1) hr
    by_cases hk : k = 1
    · have h1 : (k == 1) = true := by simpa using hk
      obtain ⟨r, hr, hlv⟩ := rest (IntKind.i64.wrap (n + x)) (.agg [.v (.int .i64 k), .v (.string s), .v (.int .i64 n), c]) true
      refine ⟨r, by rw [shiftT, if_pos hk]; exact hr, hstart r ?_⟩
      rw [← hlv]
      generalize (CC.seq (.seq (.region [] [] c49_3) (.cond (.var 8) (.seq (.region [] [] c49_4) (.seq (.region [] [] c49_5) .ret)) .skip)) (.seq (.region [] [] c49_6) (.seq (.seq (.region [] [] c49_7) (.block 0 (.loop K49 [] c49_12))) (.seq (.region [] [] c49_13) (.seq (.region [] [] c49_14) .ret))))) = rest'
      have hb2 : (H ++ [.box [.v (.int .i64 k), .v (.string s), .v (.int .i64 n), c], .box zeroC] : List AO).all (AO.below (H ++ [.box [.v (.int .i64 k), .v (.string s), .v (.int .i64 n), c], .box zeroC] : List AO).length) = true := by
        rw [List.all_append, Bool.and_eq_true]
        refine ⟨all_below_mono (by simp) hb, all_below_mono (Nat.zero_le _) ?_⟩
        have hz : (AO.box zeroC).below 0 = true := rfl
        simp only [AV.cells] at hbela
        simp only [List.all_cons, List.all_nil, hbela, hz, Bool.and_true]
      have ht := turn_ok (x := x) (his_get hid) hb2 n
      simp only [zeroC] at ht
      simp only [start49, fnV, zeroC, c49_0, c49_1, c49_2, h1, ht, q9z, e_callv, cv_fn, h_ld, h_ld0, h_st, h_st0, h_bx, ldAt, stAt, preH_some, List.append_assoc, e_bslice1, e_bslice2, bs1, bs2, e_build, bdH_some, bd_nil, bd_cons, bd1, cl_agg, cl_int, toL, List.map_cons, List.map_nil, putAt, List.set_cons_zero, List.set_cons_succ, and_self, Nat.le_refl, app_get, app_set, g_agg, run_nil, run_cons, stp_plain, stp_guard, put_some, pass_eq, pick_tt, pick_ff, pick_tf, pick_ft, pick_u, reg_some, thn_normal, thn_exit, thn_ret, cnd_t, cnd_f, blk_normal, blk_ret, blk_exit, x_seq, x_region, x_cond, x_block, x_loop, x_ret, x_exit, x_skip, e_mov, e_pick, pk_t, pk_f, withH_some, e_box, e_load, e_store, stH_some, e_nil, e_bin, e_eqv, eqH_f, eqH_t, e_un, e_fa, e_ia, ia_eq, nat_eq, natV_nat, e_len, lnH_some, e_extract, ex_0, ex_1, e_call0, e_call1, e_call2, e_call3, pc0_eq, pc1_some, pc2_some, pc3_some, fin_some, g_var0, g_vars, g_loc0, g_locs, g_int, g_bool, g_str, g_sl, s_none, s_zero, s_succ, cl_nil, cl_str, cl_bool, cl_slc, cl_own, evFa, evNil, asEl, evBin, intBin, strBin, evUn, len_nil, len_slc, len_str, clr, List.length_nil, List.length_cons, List.getElem?_cons_zero, List.getElem?_cons_succ, Nat.reduceAdd, Nat.zero_add, Nat.add_zero, Nat.reduceLeDiff, Nat.reduceSub, ↓reduceIte, List.drop_succ_cons, List.drop_zero, List.take_succ_cons, List.take_zero, Bool.false_eq_true, List.nil_append, List.cons_append, Bool.not_true, Bool.not_false, cond_true, cond_false, bne, lv_ret, lv_normal, res1, res2, lv2_some, res_var, res_cell, lvf_v, lvf_slc, res1c, lvo1_some, e_mm, mm_max, mm_min]
    · have h1 : (k == 1) = false := by simpa using hk
      obtain ⟨r, hr, hlv⟩ := rest n (.agg [.v (.int .i64 k), .v (.string s), .v (.int .i64 n), c]) false
      refine ⟨r, by rw [shiftT, if_neg hk]; exact hr, hstart r ?_⟩
      rw [← hlv]
      generalize (CC.seq (.seq (.region [] [] c49_3) (.cond (.var 8) (.seq (.region [] [] c49_4) (.seq (.region [] [] c49_5) .ret)) .skip)) (.seq (.region [] [] c49_6) (.seq (.seq (.region [] [] c49_7) (.block 0 (.loop K49 [] c49_12))) (.seq (.region [] [] c49_13) (.seq (.region [] [] c49_14) .ret))))) = rest'
      simp only [start49, fnV, zeroC, c49_0, c49_1, h1, q9z, h_ld, h_ld0, h_st, h_st0, h_bx, ldAt, stAt, preH_some, List.append_assoc, e_bslice1, e_bslice2, bs1, bs2, e_build, bdH_some, bd_nil, bd_cons, bd1, cl_agg, cl_int, toL, List.map_cons, List.map_nil, putAt, List.set_cons_zero, List.set_cons_succ, and_self, Nat.le_refl, app_get, app_set, g_agg, run_nil, run_cons, stp_plain, stp_guard, put_some, pass_eq, pick_tt, pick_ff, pick_tf, pick_ft, pick_u, reg_some, thn_normal, thn_exit, thn_ret, cnd_t, cnd_f, blk_normal, blk_ret, blk_exit, x_seq, x_region, x_cond, x_block, x_loop, x_ret, x_exit, x_skip, e_mov, e_pick, pk_t, pk_f, withH_some, e_box, e_load, e_store, stH_some, e_nil, e_bin, e_eqv, eqH_f, eqH_t, e_un, e_fa, e_ia, ia_eq, nat_eq, natV_nat, e_len, lnH_some, e_extract, ex_0, ex_1, e_call0, e_call1, e_call2, e_call3, pc0_eq, pc1_some, pc2_some, pc3_some, fin_some, g_var0, g_vars, g_loc0, g_locs, g_int, g_bool, g_str, g_sl, s_none, s_zero, s_succ, cl_nil, cl_str, cl_bool, cl_slc, cl_own, evFa, evNil, asEl, evBin, intBin, strBin, evUn, len_nil, len_slc, len_str, clr, List.length_nil, List.length_cons, List.getElem?_cons_zero, List.getElem?_cons_succ, Nat.reduceAdd, Nat.zero_add, Nat.add_zero, Nat.reduceLeDiff, Nat.reduceSub, ↓reduceIte, List.drop_succ_cons, List.drop_zero, List.take_succ_cons, List.take_zero, Bool.false_eq_true, List.nil_append, List.cons_append, Bool.not_true, Bool.not_false, cond_true, cond_false, bne, lv_ret, lv_normal, res1, res2, lv2_some, res_var, res_cell, lvf_v, lvf_slc, res1c, lvo1_some, e_mm, mm_max, mm_min]

theorem shift34 (x : Int) {t : Tm} {a : AV} (hsz : size t ≤ 100000) (ha : IsT a t) : ∃ r, IsT r (shiftT x t) ∧ callW F 34 [a, .v (.int .i64 x)] [] = some (r, []) := by
  have hb : ([.box a.cells, .box [.v (.int .i64 x)], .box zeroC] : List AO).all (AO.below 3) = true := by
    have := below_mono (Nat.zero_le 3) _ ha.bel
    simp only [List.all_cons, List.all_nil, this, Bool.and_true]; rfl
  obtain ⟨r, hr, hc⟩ := each49 x 1 _ t a [.box a.cells, .box [.v (.int .i64 x)], .box zeroC] (Nat.lt_succ_self _) hsz ha rfl hb
  refine ⟨r, hr, callW_pure (c := c34) rfl rfl 0 ?_⟩
  have g := lv1 hr
  generalize shiftT x t = u at hr
  cases hr
  cases ha
  simp only [AV.cells, zeroC, fnV] at hc
  simp only [c34, start, List.replicate, c34_0, c34_1, hc, g, e_mkfn, e_callh, q9z, e_bslice1, e_bslice2, bs1, bs2, e_build, bdH_some, bd_nil, bd_cons, bd1, cl_agg, cl_int, toL, List.map_cons, List.map_nil, putAt, List.set_cons_zero, List.set_cons_succ, and_self, Nat.le_refl, evStore, app_get, app_set, g_agg, run_nil, run_cons, stp_plain, stp_guard, put_some, pass_eq, pick_tt, pick_ff, pick_tf, pick_ft, pick_u, reg_some, thn_normal, thn_exit, thn_ret, cnd_t, cnd_f, blk_normal, blk_ret, blk_exit, x_seq, x_region, x_cond, x_block, x_loop, x_ret, x_exit, x_skip, e_mov, e_pick, pk_t, pk_f, withH_some, e_box, bx_some, e_load, e_store, stH_some, e_nil, e_bin, e_eqv, eqH_f, eqH_t, e_un, e_fa, e_ia, ia_eq, nat_eq, natV_nat, e_len, lnH_some, e_extract, ex_0, ex_1, e_call0, e_call1, e_call2, e_call3, pc0_eq, pc1_some, pc2_some, pc3_some, fin_some, g_var0, g_vars, g_loc0, g_locs, g_int, g_bool, g_str, g_sl, s_none, s_zero, s_succ, cl_nil, cl_str, cl_bool, cl_slc, cl_own, evFa, evNil, evLoad, asEl, evBin, intBin, strBin, evUn, len_nil, len_slc, len_str, clr, List.length_nil, List.length_cons, List.getElem?_cons_zero, List.getElem?_cons_succ, Nat.reduceAdd, Nat.zero_add, Nat.add_zero, Nat.reduceLeDiff, Nat.reduceSub, ↓reduceIte, List.drop_succ_cons, List.drop_zero, List.take_succ_cons, List.take_zero, Bool.false_eq_true, List.nil_append, List.cons_append, Bool.not_true, Bool.not_false, cond_true, cond_false, bne, lv_ret, lv_normal, res1, res2, lv2_some, res_var, res_cell, lvf_v, lvf_slc, res1c, lvo1_some, e_mm, mm_max, mm_min]
theorem shift16 (x : Int) {t : Tm} {a : AV} (hsz : size t ≤ 100000) (ha : IsT a t) : ∃ r, IsT r (shiftT x t) ∧ callW F 16 [a, .v (.int .i64 x)] [] = some (r, []) := by
  obtain ⟨r, hr, hc⟩ := shift34 x hsz ha
  refine ⟨r, hr, callW_pure (c := c16) rfl rfl 0 ?_⟩
  have g := lv1 hr
  have q5 : ∀ h : List AO, a.snap1 h = some a := fun h => ha.snap
  generalize shiftT x t = u at hr
  cases hr
  cases ha
  simp only [c16, start, List.replicate, c16_0, c16_1, q5, hc, g, snapv, q9z, e_bslice1, e_bslice2, bs1, bs2, e_build, bdH_some, bd_nil, bd_cons, bd1, cl_agg, cl_int, toL, List.map_cons, List.map_nil, putAt, List.set_cons_zero, List.set_cons_succ, and_self, Nat.le_refl, evStore, app_get, app_set, g_agg, run_nil, run_cons, stp_plain, stp_guard, put_some, pass_eq, pick_tt, pick_ff, pick_tf, pick_ft, pick_u, reg_some, thn_normal, thn_exit, thn_ret, cnd_t, cnd_f, blk_normal, blk_ret, blk_exit, x_seq, x_region, x_cond, x_block, x_loop, x_ret, x_exit, x_skip, e_mov, e_pick, pk_t, pk_f, withH_some, e_box, bx_some, e_load, e_store, stH_some, e_nil, e_bin, e_eqv, eqH_f, eqH_t, e_un, e_fa, e_ia, ia_eq, nat_eq, natV_nat, e_len, lnH_some, e_extract, ex_0, ex_1, e_call0, e_call1, e_call2, e_call3, pc0_eq, pc1_some, pc2_some, pc3_some, fin_some, g_var0, g_vars, g_loc0, g_locs, g_int, g_bool, g_str, g_sl, s_none, s_zero, s_succ, cl_nil, cl_str, cl_bool, cl_slc, cl_own, evFa, evNil, evLoad, asEl, evBin, intBin, strBin, evUn, len_nil, len_slc, len_str, clr, List.length_nil, List.length_cons, List.getElem?_cons_zero, List.getElem?_cons_succ, Nat.reduceAdd, Nat.zero_add, Nat.add_zero, Nat.reduceLeDiff, Nat.reduceSub, ↓reduceIte, List.drop_succ_cons, List.drop_zero, List.take_succ_cons, List.take_zero, Bool.false_eq_true, List.nil_append, List.cons_append, Bool.not_true, Bool.not_false, cond_true, cond_false, bne, lv_ret, lv_normal, res1, res2, lv2_some, res_var, res_cell, lvf_v, lvf_slc, res1c, lvo1_some, e_mm, mm_max, mm_min]
end
end Go.AE.Ytpgoibncgekflaa
end

/-! Copy of the program: the same term. -/
section
set_option linter.unusedVariables false
set_option linter.unusedSimpArgs false
namespace Go.AE.Ytpgoibncgekflaa
open Go Go.AE Go.Proofs.Ytpgoibncgekflaa

def fnC : AV := .fn (.func 54) [] []
theorem turnc_ok {H : List AO} (hb : H.all (AO.below H.length) = true) (n : Int) : callW F 54 [.v (.int .i64 n)] H = some (.v (.int .i64 n), H) := by
  refine callW_own (c := c54) rfl rfl 0 ?_
  have body : exec (callW F) 0 c54.body (start c54 [.v (.int .i64 n)]) (H ++ []) = some (.ret, [.v (.int .i64 n), .v (.int .i64 n)], H ++ []) := by
    simp only [c54, start, List.replicate, c54_0, c54_1, e_bslice1, e_bslice2, bs1, bs2, e_build, bdH_some, bd_nil, bd_cons, bd1, cl_agg, cl_int, toL, List.map_cons, List.map_nil, putAt, List.set_cons_zero, List.set_cons_succ, and_self, Nat.le_refl, app_get, app_set, g_agg, run_nil, run_cons, stp_plain, stp_guard, put_some, pass_eq, pick_tt, pick_ff, pick_tf, pick_ft, pick_u, reg_some, thn_normal, thn_exit, thn_ret, cnd_t, cnd_f, blk_normal, blk_ret, blk_exit, x_seq, x_region, x_cond, x_block, x_loop, x_ret, x_exit, x_skip, e_mov, e_pick, pk_t, pk_f, withH_some, e_box, bx_some, e_load, e_store, stH_some, e_nil, e_bin, e_eqv, eqH_f, eqH_t, e_un, e_fa, e_ia, ia_eq, nat_eq, natV_nat, e_len, lnH_some, e_extract, ex_0, ex_1, e_call0, e_call1, e_call2, e_call3, pc0_eq, pc1_some, pc2_some, pc3_some, fin_some, g_var0, g_vars, g_loc0, g_locs, g_int, g_bool, g_str, g_sl, s_none, s_zero, s_succ, cl_nil, cl_str, cl_bool, cl_slc, cl_own, evFa, evNil, asEl, evBin, intBin, strBin, evUn, len_nil, len_slc, len_str, clr, List.length_nil, List.length_cons, List.getElem?_cons_zero, List.getElem?_cons_succ, Nat.reduceAdd, Nat.zero_add, Nat.add_zero, Nat.reduceLeDiff, Nat.reduceSub, ↓reduceIte, List.drop_succ_cons, List.drop_zero, List.take_succ_cons, List.take_zero, Bool.false_eq_true, List.nil_append, List.cons_append, Bool.not_true, Bool.not_false, cond_true, cond_false, bne, lv_ret, lv_normal, res1, res2, lv2_some, res_var, res_cell, lvf_v, lvf_slc, res1c, lvo1_some, e_mm, mm_max, mm_min]
  rw [body, leave_own rfl hb]
  exact lvo_one rfl
section
variable {H : List AO} {l : List AO}
def L49c (B n : Nat) (c : AV) (i : Int) : List AV := [.junk, fnC, .ptr B 0, .ptr (B + 1) 0, .own 4 (B + 2) 0 0 n, .junk, .junk, .junk, .junk, c, .v (.int .i64 n), .v (.int .i64 i), .junk]
theorem eachc_loop {K : Nat} {c : AV} {es : List AV} {cs0 cs1 : List AV} (hs : Sl 4 c es) (hm : es.length ≤ 100000) (hb : H.all (AO.below H.length) = true) (hb0 : (AO.box cs0).below 0 = true) (hb1 : (AO.box cs1).below 0 = true) :
    ∀ (l : List Tm) (i : Nat) (ds : List AV) (dl : List Tm) (tail : List AO) (vars : List AV), i + l.length = es.length → ds.length = i → All2 (es.drop i) l → All2 ds dl → tail.all (AO.below 0) = true →
      (∀ t ∈ l, ∀ (e : AV) (H' : List AO), IsT e t → H'.all (AO.below H'.length) = true → ∃ r, IsT r (t) ∧ callW F 49 [e, fnC] H' = some (r, H')) →
      clr K49 vars = L49c H.length es.length c i →
      ∃ ds' tail' x5 x6 x7 x8 x12, loopN (exec (callW F) K c49_12) K49 (l.length + 1) vars (H ++ (.box cs0 :: .box cs1 :: .row 4 0 (ds ++ List.replicate l.length (.agg zeroC)) 0 :: tail)) = some (.exit 0, [.junk, fnC, .ptr H.length 0, .ptr (H.length + 1) 0, .own 4 (H.length + 2) 0 0 es.length, x5, x6, x7, x8, c, .v (.int .i64 es.length), .v (.int .i64 es.length), x12], H ++ (.box cs0 :: .box cs1 :: .row 4 0 ds' 0 :: tail')) ∧ All2 ds' (dl ++ l) ∧ ds'.length = es.length := by
  intro l
  induction l with
  | nil =>
    intro i ds dl tail vars hi hds _ hall htl _ hv
    have hil : i = es.length := by simpa using hi
    subst hil
    have hlt : decide ((es.length : Int) < (es.length : Int)) = false := by simp
    refine ⟨ds, tail, .junk, .junk, .junk, .junk, .v (.bool false), loop_exit ?_, by simpa using hall, hds⟩
    rw [hv]
    simp only [L49c, c49_12, c49_8, hlt, List.replicate, List.append_nil, e_bslice1, e_bslice2, bs1, bs2, e_build, bdH_some, bd_nil, bd_cons, bd1, cl_agg, cl_int, toL, List.map_cons, List.map_nil, putAt, List.set_cons_zero, List.set_cons_succ, and_self, Nat.le_refl, app_get, app_set, g_agg, run_nil, run_cons, stp_plain, stp_guard, put_some, pass_eq, pick_tt, pick_ff, pick_tf, pick_ft, pick_u, reg_some, thn_normal, thn_exit, thn_ret, cnd_t, cnd_f, blk_normal, blk_ret, blk_exit, x_seq, x_region, x_cond, x_block, x_loop, x_ret, x_exit, x_skip, e_mov, e_pick, pk_t, pk_f, withH_some, e_box, e_load, e_store, stH_some, e_nil, e_bin, e_eqv, eqH_f, eqH_t, e_un, e_fa, e_ia, ia_eq, nat_eq, natV_nat, e_len, lnH_some, e_extract, ex_0, ex_1, e_call0, e_call1, e_call2, e_call3, pc0_eq, pc1_some, pc2_some, pc3_some, fin_some, g_var0, g_vars, g_loc0, g_locs, g_int, g_bool, g_str, g_sl, s_none, s_zero, s_succ, cl_nil, cl_str, cl_bool, cl_slc, cl_own, evFa, evNil, asEl, evBin, intBin, strBin, evUn, len_nil, len_slc, len_str, clr, List.length_nil, List.length_cons, List.getElem?_cons_zero, List.getElem?_cons_succ, Nat.reduceAdd, Nat.zero_add, Nat.add_zero, Nat.reduceLeDiff, Nat.reduceSub, ↓reduceIte, List.drop_succ_cons, List.drop_zero, List.take_succ_cons, List.take_zero, Bool.false_eq_true, List.nil_append, List.cons_append, Bool.not_true, Bool.not_false, cond_true, cond_false, bne, lv_ret, lv_normal, res1, res2, lv2_some, res_var, res_cell, lvf_v, lvf_slc, res1c, lvo1_some, e_mm, mm_max, mm_min]
  | cons t l ih =>
    intro i ds dl tail vars hi hds hes hall htl hcall hv
    have hil : i < es.length := by simp at hi; omega
    have he : es[i]? = some (es[i]'hil) := List.getElem?_eq_getElem _
    have hd : es.drop i = es[i] :: es.drop (i + 1) := List.drop_eq_getElem_cons hil
    rw [hd] at hes
    generalize es[i]'hil = e at hes he
    cases hes with
    | cons _ _ _ _ hT hs' =>
    have hlt : (decide ((i : Int) < (es.length : Int))) = true := by simp; omega
    have hlen : (ds ++ List.replicate (t :: l).length (AV.agg zeroC)).length = es.length := by simp at hi ⊢; omega
    have tl2 : (tail ++ [AO.box e.cells]).all (AO.below 0) = true := by
      have := hT.bel
      simp only [List.all_append, List.all_cons, List.all_nil, htl, this, Bool.and_true]
    have hbl : (H ++ (.box cs0 :: .box cs1 :: .row 4 0 (ds ++ List.replicate (t :: l).length (.agg zeroC)) 0 :: (tail ++ [AO.box e.cells])) : List AO).all (AO.below (H ++ (.box cs0 :: .box cs1 :: .row 4 0 (ds ++ List.replicate (t :: l).length (.agg zeroC)) 0 :: (tail ++ [AO.box e.cells])) : List AO).length) = true := by
      rw [List.all_append, Bool.and_eq_true]
      refine ⟨all_below_mono (by simp) hb, all_below_mono (Nat.zero_le _) ?_⟩
      have hr : ∀ L : List AV, (AO.row 4 0 L 0).below 0 = true := fun _ => rfl
      simp only [List.all_cons, hb0, hb1, hr, tl2, Bool.and_true]
    obtain ⟨r, hr, hc⟩ := hcall t (by simp) _ _ hT hbl
    have q1 := hs.ia he
    have q3 : ∀ h : List AO, evLoad h true 4 (.ip e.cells) = some e := fun h => hT.load
    have q4 : e.cl = some e.cells := hT.cl.1
    have q4b : e.cells.length = 4 := hT.cl.2
    have q5 := hT.asEl
    -- the row
    have row : ∀ tl : List AO, (AO.box cs0 :: .box cs1 :: .row 4 0 (ds ++ List.replicate (t :: l).length (.agg zeroC)) 0 :: tl : List AO)[2]? = some (.row 4 0 (ds ++ List.replicate (t :: l).length (.agg zeroC)) 0) := fun _ => rfl
    have q7 := own_ia (sz := 4) (H := H) rfl (row (tail ++ [AO.box e.cells])) (n := es.length) (by omega) hil
    have hel : (ds ++ List.replicate (t :: l).length (AV.agg zeroC))[i]? = some (.agg zeroC) := by
      rw [List.getElem?_append_right (by omega)]
      simp [hds, List.replicate]
    have q8 := own_est (sz := 4) (H := H) rfl (row (tail ++ [AO.box e.cells])) hel rfl (x := r) (hr.snap) hr.cl.1 hr.cl.2 hr.cellB
    have hset : (ds ++ List.replicate (t :: l).length (AV.agg zeroC)).set i (AV.agg r.cells) = (ds ++ [r]) ++ List.replicate l.length (AV.agg zeroC) := by
      rw [List.set_append_right _ _ (by omega)]
      have : AV.agg r.cells = r := hr.eta
      rw [this]
      simp [hds, List.replicate]
    rw [hset] at q8
    simp only [List.set_cons_succ, List.set_cons_zero] at q8
    have st : ∀ R R2, R = ds ++ List.replicate (t :: l).length (AV.agg zeroC) → R2 = (ds ++ [r]) ++ List.replicate l.length (AV.agg zeroC) → exec (callW F) K c49_12 (L49c H.length es.length c i) (H ++ (.box cs0 :: .box cs1 :: .row 4 0 R 0 :: tail)) = some (.normal, [.junk, fnC, .ptr H.length 0, .ptr (H.length + 1) 0, .own 4 (H.length + 2) 0 0 es.length, .v (.int .i64 i), .ptr (H.length + (tail.length + 1 + 1 + 1)) 0, .junk, .junk, c, .v (.int .i64 es.length), .v (.int .i64 ((i + 1 : Nat) : Int)), .v (.bool true)], H ++ (.box cs0 :: .box cs1 :: .row 4 0 R2 0 :: (tail ++ [AO.box e.cells]))) := by
      intro R R2 hR hR2
      rw [← hR] at hc q7 q8
      rw [← hR2] at q8
      have hst : ∀ (q : AV), evStore (H ++ (.box cs0 :: .box cs1 :: .row 4 0 R 0 :: (tail ++ [AO.box zeroC]))) 4 (.ptr (H.length + (tail.length + 1 + 1 + 1)) 0) e = some (H ++ (.box cs0 :: .box cs1 :: .row 4 0 R 0 :: (tail ++ [AO.box e.cells]))) := by
        intro q
        have hg := hT
        cases hg with
        | mk k s n c2 l2 hc2 =>
        simp only [h_st, stAt, zeroC, AV.cells, e_bslice1, e_bslice2, bs1, bs2, e_build, bdH_some, bd_nil, bd_cons, bd1, cl_agg, cl_int, toL, List.map_cons, List.map_nil, putAt, List.set_cons_zero, List.set_cons_succ, and_self, Nat.le_refl, app_get, app_set, g_agg, run_nil, run_cons, stp_plain, stp_guard, put_some, pass_eq, pick_tt, pick_ff, pick_tf, pick_ft, pick_u, reg_some, thn_normal, thn_exit, thn_ret, cnd_t, cnd_f, blk_normal, blk_ret, blk_exit, x_seq, x_region, x_cond, x_block, x_loop, x_ret, x_exit, x_skip, e_mov, e_pick, pk_t, pk_f, withH_some, e_box, e_load, e_store, stH_some, e_nil, e_bin, e_eqv, eqH_f, eqH_t, e_un, e_fa, e_ia, ia_eq, nat_eq, natV_nat, e_len, lnH_some, e_extract, ex_0, ex_1, e_call0, e_call1, e_call2, e_call3, pc0_eq, pc1_some, pc2_some, pc3_some, fin_some, g_var0, g_vars, g_loc0, g_locs, g_int, g_bool, g_str, g_sl, s_none, s_zero, s_succ, cl_nil, cl_str, cl_bool, cl_slc, cl_own, evFa, evNil, asEl, evBin, intBin, strBin, evUn, len_nil, len_slc, len_str, clr, List.length_nil, List.length_cons, List.getElem?_cons_zero, List.getElem?_cons_succ, Nat.reduceAdd, Nat.zero_add, Nat.add_zero, Nat.reduceLeDiff, Nat.reduceSub, ↓reduceIte, List.drop_succ_cons, List.drop_zero, List.take_succ_cons, List.take_zero, Bool.false_eq_true, List.nil_append, List.cons_append, Bool.not_true, Bool.not_false, cond_true, cond_false, bne, lv_ret, lv_normal, res1, res2, lv2_some, res_var, res_cell, lvf_v, lvf_slc, res1c, lvo1_some, e_mm, mm_max, mm_min]
        rfl
      have hld : evLoad (H ++ (.box cs0 :: .box cs1 :: .row 4 0 R 0 :: (tail ++ [AO.box e.cells]))) true 4 (.ptr (H.length + (tail.length + 1 + 1 + 1)) 0) = some e := by
        rw [h_ld]
        simp only [ldAt, List.getElem?_cons_succ, app_get, q4b, List.drop_zero, q5]
        rfl
      have hst' := hst .junk
      simp only [zeroC] at hst'
      simp only [L49c, zeroC, c49_12, c49_8, c49_9, c49_10, c49_11, hlt, wrap_succ hil (small_max hm), q1, q3, q7, q8, hc, hst', hld, e_callh, q9z, h_bx, e_bslice1, e_bslice2, bs1, bs2, e_build, bdH_some, bd_nil, bd_cons, bd1, cl_agg, cl_int, toL, List.map_cons, List.map_nil, putAt, List.set_cons_zero, List.set_cons_succ, and_self, Nat.le_refl, app_get, app_set, g_agg, run_nil, run_cons, stp_plain, stp_guard, put_some, pass_eq, pick_tt, pick_ff, pick_tf, pick_ft, pick_u, reg_some, thn_normal, thn_exit, thn_ret, cnd_t, cnd_f, blk_normal, blk_ret, blk_exit, x_seq, x_region, x_cond, x_block, x_loop, x_ret, x_exit, x_skip, e_mov, e_pick, pk_t, pk_f, withH_some, e_box, e_load, e_store, stH_some, e_nil, e_bin, e_eqv, eqH_f, eqH_t, e_un, e_fa, e_ia, ia_eq, nat_eq, natV_nat, e_len, lnH_some, e_extract, ex_0, ex_1, e_call0, e_call1, e_call2, e_call3, pc0_eq, pc1_some, pc2_some, pc3_some, fin_some, g_var0, g_vars, g_loc0, g_locs, g_int, g_bool, g_str, g_sl, s_none, s_zero, s_succ, cl_nil, cl_str, cl_bool, cl_slc, cl_own, evFa, evNil, asEl, evBin, intBin, strBin, evUn, len_nil, len_slc, len_str, clr, List.length_nil, List.length_cons, List.getElem?_cons_zero, List.getElem?_cons_succ, Nat.reduceAdd, Nat.zero_add, Nat.add_zero, Nat.reduceLeDiff, Nat.reduceSub, ↓reduceIte, List.drop_succ_cons, List.drop_zero, List.take_succ_cons, List.take_zero, Bool.false_eq_true, List.nil_append, List.cons_append, Bool.not_true, Bool.not_false, cond_true, cond_false, bne, lv_ret, lv_normal, res1, res2, lv2_some, res_var, res_cell, lvf_v, lvf_slc, res1c, lvo1_some, e_mm, mm_max, mm_min]
    rw [show (t :: l).length + 1 = (l.length + 1) + 1 from rfl, loop_normal (by rw [hv]; exact st _ _ rfl rfl)]
    obtain ⟨ds', tail', x5, x6, x7, x8, x12, g1, g2, g3⟩ := ih (i + 1) (ds ++ [r]) (dl ++ [t]) (tail ++ [AO.box e.cells]) [.junk, fnC, .ptr H.length 0, .ptr (H.length + 1) 0, .own 4 (H.length + 2) 0 0 es.length, .v (.int .i64 i), .ptr (H.length + (tail.length + 1 + 1 + 1)) 0, .junk, .junk, c, .v (.int .i64 es.length), .v (.int .i64 ((i + 1 : Nat) : Int)), .v (.bool true)] (by simp at hi; omega) (by simp [hds]) hs' (hall.app (.one hr)) tl2 (fun t ht => hcall t (by simp [ht])) rfl
    refine ⟨ds', tail', x5, x6, x7, x8, x12, g1, ?_, g3⟩
    simpa using g2

theorem eachc : ∀ (N : Nat) (t : Tm) (a : AV) (H : List AO), SizeOf.sizeOf t < N → size t ≤ 100000 → IsT a t → H.all (AO.below H.length) = true → ∃ r, IsT r (t) ∧ callW F 49 [a, fnC] H = some (r, H) := by
  intro N
  induction N with
  | zero => intro t a H h; omega
  | succ N ih =>
    intro t a H hN hsz ha hb
    have hbela := ha.bel
    cases ha with
    | mk k s n c l hc =>
    have h5 := Tm.mk.sizeOf_spec k s n l
    simp only [size] at hsz
    have hll := sizeL_len l
    have hcall : ∀ t ∈ l, ∀ (e : AV) (H' : List AO), IsT e t → H'.all (AO.below H'.length) = true → ∃ r, IsT r (t) ∧ callW F 49 [e, fnC] H' = some (r, H') := by
      intro t ht e H' hT
      have h6 := List.sizeOf_lt_of_mem ht
      have h7 := size_mem ht
      exact ih t e H' (by omega) (by omega) hT
    obtain ⟨es, hs, hes, hm⟩ := hc.sl
    have e1 := hes.length
    -- behind the number
    have rest : ∀ (n' : Int) (y : AV) (m : Bool), ∃ r, IsT r (.mk k s n' (l)) ∧ leave H.length c49 (exec (callW F) (l.length + 1) (.seq (.seq (.region [] [] c49_3) (.cond (.var 8) (.seq (.region [] [] c49_4) (.seq (.region [] [] c49_5) .ret)) .skip)) (.seq (.region [] [] c49_6) (.seq (.seq (.region [] [] c49_7) (.block 0 (.loop K49 [] c49_12))) (.seq (.region [] [] c49_13) (.seq (.region [] [] c49_14) .ret)))))
        [y, fnC, .ptr H.length 0, .ptr (H.length + 1) 0, .v undef, .v undef, .v undef, .v (.bool m), .v undef, .v undef, .v undef, .v undef, .v undef] (H ++ [.box [.v (.int .i64 k), .v (.string s), .v (.int .i64 n'), c], .box zeroC])) = some (r, H) := by
      intro n' y m
      have hres : c49.res = [.cell 3 true 4] := rfl
      rcases Nat.eq_zero_or_pos l.length with h0 | h0
      · have hl0 : l = [] := List.length_eq_zero_iff.1 h0
        subst hl0
        have he0 : es = [] := List.length_eq_zero_iff.1 (by simpa using e1)
        subst he0
        have h1 : (((0 : Nat) : Int) == 0) = true := rfl
        refine ⟨.agg [.v (.int .i64 k), .v (.string s), .v (.int .i64 n'), .v (.slice none 0 0)], .mk _ _ _ _ _ .nil, ?_⟩
        simp only [zeroC, c49_3, c49_4, c49_5, h1, hs.len, h_ld, h_ld0, h_st, h_st0, h_bx, ldAt, stAt, preH_some, List.append_assoc, e_bslice1, e_bslice2, bs1, bs2, e_build, bdH_some, bd_nil, bd_cons, bd1, cl_agg, cl_int, toL, List.map_cons, List.map_nil, putAt, List.set_cons_zero, List.set_cons_succ, and_self, Nat.le_refl, app_get, app_set, g_agg, run_nil, run_cons, stp_plain, stp_guard, put_some, pass_eq, pick_tt, pick_ff, pick_tf, pick_ft, pick_u, reg_some, thn_normal, thn_exit, thn_ret, cnd_t, cnd_f, blk_normal, blk_ret, blk_exit, x_seq, x_region, x_cond, x_block, x_loop, x_ret, x_exit, x_skip, e_mov, e_pick, pk_t, pk_f, withH_some, e_box, e_load, e_store, stH_some, e_nil, e_bin, e_eqv, eqH_f, eqH_t, e_un, e_fa, e_ia, ia_eq, nat_eq, natV_nat, e_len, lnH_some, e_extract, ex_0, ex_1, e_call0, e_call1, e_call2, e_call3, pc0_eq, pc1_some, pc2_some, pc3_some, fin_some, g_var0, g_vars, g_loc0, g_locs, g_int, g_bool, g_str, g_sl, s_none, s_zero, s_succ, cl_nil, cl_str, cl_bool, cl_slc, cl_own, evFa, evNil, asEl, evBin, intBin, strBin, evUn, len_nil, len_slc, len_str, clr, List.length_nil, List.length_cons, List.getElem?_cons_zero, List.getElem?_cons_succ, Nat.reduceAdd, Nat.zero_add, Nat.add_zero, Nat.reduceLeDiff, Nat.reduceSub, ↓reduceIte, List.drop_succ_cons, List.drop_zero, List.take_succ_cons, List.take_zero, Bool.false_eq_true, List.nil_append, List.cons_append, Bool.not_true, Bool.not_false, cond_true, cond_false, bne, lv_ret, lv_normal, res1, res2, lv2_some, res_var, res_cell, lvf_v, lvf_slc, res1c, lvo1_some, e_mm, mm_max, mm_min]
        rw [leave_own rfl hb, hres, own_res1 (x := .agg [.v (.int .i64 k), .v (.string s), .v (.int .i64 n'), .v (.slice none 0 0)]) _]
        · exact lvo_one rfl
        · simp only [res_cell, h_ld, ldAt, e_bslice1, e_bslice2, bs1, bs2, e_build, bdH_some, bd_nil, bd_cons, bd1, cl_agg, cl_int, toL, List.map_cons, List.map_nil, putAt, List.set_cons_zero, List.set_cons_succ, and_self, Nat.le_refl, app_get, app_set, g_agg, run_nil, run_cons, stp_plain, stp_guard, put_some, pass_eq, pick_tt, pick_ff, pick_tf, pick_ft, pick_u, reg_some, thn_normal, thn_exit, thn_ret, cnd_t, cnd_f, blk_normal, blk_ret, blk_exit, x_seq, x_region, x_cond, x_block, x_loop, x_ret, x_exit, x_skip, e_mov, e_pick, pk_t, pk_f, withH_some, e_box, e_load, e_store, stH_some, e_nil, e_bin, e_eqv, eqH_f, eqH_t, e_un, e_fa, e_ia, ia_eq, nat_eq, natV_nat, e_len, lnH_some, e_extract, ex_0, ex_1, e_call0, e_call1, e_call2, e_call3, pc0_eq, pc1_some, pc2_some, pc3_some, fin_some, g_var0, g_vars, g_loc0, g_locs, g_int, g_bool, g_str, g_sl, s_none, s_zero, s_succ, cl_nil, cl_str, cl_bool, cl_slc, cl_own, evFa, evNil, asEl, evBin, intBin, strBin, evUn, len_nil, len_slc, len_str, clr, List.length_nil, List.length_cons, List.getElem?_cons_zero, List.getElem?_cons_succ, Nat.reduceAdd, Nat.zero_add, Nat.add_zero, Nat.reduceLeDiff, Nat.reduceSub, ↓reduceIte, List.drop_succ_cons, List.drop_zero, List.take_succ_cons, List.take_zero, Bool.false_eq_true, List.nil_append, List.cons_append, Bool.not_true, Bool.not_false, cond_true, cond_false, bne, lv_ret, lv_normal, res1, res2, lv2_some, res_var, res_cell, lvf_v, lvf_slc, res1c, lvo1_some, e_mm, mm_max, mm_min]
      · have h1 : ((es.length : Int) == 0) = false := by rw [beq_eq_false_iff_ne]; omega
        obtain ⟨ds', tail', x5, x6, x7, x8, x12, g1, g2, g3⟩ := eachc_loop (H := H) (K := l.length + 1) (cs0 := [.v (.int .i64 k), .v (.string s), .v (.int .i64 n'), c]) (cs1 := zeroC) hs (by omega) hb (by
            have : ∀ n', IsT (.agg [.v (.int .i64 k), .v (.string s), .v (.int .i64 n'), c]) (.mk k s n' l) := fun n' => .mk k s n' c l hc
            exact (this n').bel) rfl l 0 [] [] [] (L49c H.length es.length c (0 : Nat)) (by omega) rfl (by simpa using hes) .nil rfl hcall rfl
        have hrow : (List.replicate es.length (AV.agg zeroC)) = [] ++ List.replicate l.length (AV.agg zeroC) := by rw [e1]; rfl
        have mk := mkS_own (sz := 4) (H := H) (l := [.box [.v (.int .i64 k), .v (.string s), .v (.int .i64 n'), c], .box zeroC]) (B := H.length) rfl (bytes := 56) (zero := [(.int .i64 0), (.string ⟨#[]⟩), (.int .i64 0), (.slice none 0 0)]) (n := es.length) (by have : maxLen = 9223372036854775807 := rfl; omega) (by omega)
        rw [zeroEl4, hrow] at mk
        generalize hR : ([] ++ List.replicate l.length (AV.agg zeroC)) = R at mk g1
        have hz2 : ∀ c' : AV, (AV.own 4 (H.length + 2) 0 0 es.length).cl = some [.own 4 (H.length + 2) 0 0 es.length] := fun _ => rfl
        have hds : ∀ h0 : List AO, (H ++ (.box [.v (.int .i64 k), .v (.string s), .v (.int .i64 n'), .own 4 (H.length + 2) 0 0 es.length] :: .box [.v (.int .i64 k), .v (.string s), .v (.int .i64 n'), .own 4 (H.length + 2) 0 0 es.length] :: .row 4 0 ds' 0 :: tail'))[H.length + 2]? = some (.row 4 0 ds' 0) := fun _ => obj_get rfl
        refine ⟨.agg [.v (.int .i64 k), .v (.string s), .v (.int .i64 n'), .slc 4 false false ds'], .mk _ _ _ _ _ (.slc _ _ _ _ (by simpa using g2) (by omega)), ?_⟩
        generalize hrest : (CC.seq (.region [] [] c49_13) (.seq (.region [] [] c49_14) .ret)) = rest
        simp only [zeroC] at mk g1
        simp only [zeroC, c49_3, c49_6, c49_7, h1, hs.len, mk, e_mkslice, h_ld, h_ld0, h_st, h_st0, h_bx, ldAt, stAt, preH_some, List.append_assoc, e_bslice1, e_bslice2, bs1, bs2, e_build, bdH_some, bd_nil, bd_cons, bd1, cl_agg, cl_int, toL, List.map_cons, List.map_nil, putAt, List.set_cons_zero, List.set_cons_succ, and_self, Nat.le_refl, app_get, app_set, g_agg, run_nil, run_cons, stp_plain, stp_guard, put_some, pass_eq, pick_tt, pick_ff, pick_tf, pick_ft, pick_u, reg_some, thn_normal, thn_exit, thn_ret, cnd_t, cnd_f, blk_normal, blk_ret, blk_exit, x_seq, x_region, x_cond, x_block, x_loop, x_ret, x_exit, x_skip, e_mov, e_pick, pk_t, pk_f, withH_some, e_box, e_load, e_store, stH_some, e_nil, e_bin, e_eqv, eqH_f, eqH_t, e_un, e_fa, e_ia, ia_eq, nat_eq, natV_nat, e_len, lnH_some, e_extract, ex_0, ex_1, e_call0, e_call1, e_call2, e_call3, pc0_eq, pc1_some, pc2_some, pc3_some, fin_some, g_var0, g_vars, g_loc0, g_locs, g_int, g_bool, g_str, g_sl, s_none, s_zero, s_succ, cl_nil, cl_str, cl_bool, cl_slc, cl_own, evFa, evNil, asEl, evBin, intBin, strBin, evUn, len_nil, len_slc, len_str, clr, List.length_nil, List.length_cons, List.getElem?_cons_zero, List.getElem?_cons_succ, Nat.reduceAdd, Nat.zero_add, Nat.add_zero, Nat.reduceLeDiff, Nat.reduceSub, ↓reduceIte, List.drop_succ_cons, List.drop_zero, List.take_succ_cons, List.take_zero, Bool.false_eq_true, List.nil_append, List.cons_append, Bool.not_true, Bool.not_false, cond_true, cond_false, bne, lv_ret, lv_normal, res1, res2, lv2_some, res_var, res_cell, lvf_v, lvf_slc, res1c, lvo1_some, e_mm, mm_max, mm_min]
        rw [loop_cong (v2 := L49c H.length es.length c ((0 : Nat) : Int)) (by rfl), g1, ← hrest]
        simp only [c49_13, c49_14, hz2 .junk, h_ld, h_ld0, h_st, h_st0, h_bx, ldAt, stAt, preH_some, List.append_assoc, e_bslice1, e_bslice2, bs1, bs2, e_build, bdH_some, bd_nil, bd_cons, bd1, cl_agg, cl_int, toL, List.map_cons, List.map_nil, putAt, List.set_cons_zero, List.set_cons_succ, and_self, Nat.le_refl, app_get, app_set, g_agg, run_nil, run_cons, stp_plain, stp_guard, put_some, pass_eq, pick_tt, pick_ff, pick_tf, pick_ft, pick_u, reg_some, thn_normal, thn_exit, thn_ret, cnd_t, cnd_f, blk_normal, blk_ret, blk_exit, x_seq, x_region, x_cond, x_block, x_loop, x_ret, x_exit, x_skip, e_mov, e_pick, pk_t, pk_f, withH_some, e_box, e_load, e_store, stH_some, e_nil, e_bin, e_eqv, eqH_f, eqH_t, e_un, e_fa, e_ia, ia_eq, nat_eq, natV_nat, e_len, lnH_some, e_extract, ex_0, ex_1, e_call0, e_call1, e_call2, e_call3, pc0_eq, pc1_some, pc2_some, pc3_some, fin_some, g_var0, g_vars, g_loc0, g_locs, g_int, g_bool, g_str, g_sl, s_none, s_zero, s_succ, cl_nil, cl_str, cl_bool, cl_slc, cl_own, evFa, evNil, asEl, evBin, intBin, strBin, evUn, len_nil, len_slc, len_str, clr, List.length_nil, List.length_cons, List.getElem?_cons_zero, List.getElem?_cons_succ, Nat.reduceAdd, Nat.zero_add, Nat.add_zero, Nat.reduceLeDiff, Nat.reduceSub, ↓reduceIte, List.drop_succ_cons, List.drop_zero, List.take_succ_cons, List.take_zero, Bool.false_eq_true, List.nil_append, List.cons_append, Bool.not_true, Bool.not_false, cond_true, cond_false, bne, lv_ret, lv_normal, res1, res2, lv2_some, res_var, res_cell, lvf_v, lvf_slc, res1c, lvo1_some, e_mm, mm_max, mm_min]
        rw [leave_own rfl hb, hres, own_res1 (x := .agg [.v (.int .i64 k), .v (.string s), .v (.int .i64 n'), .own 4 (H.length + 2) 0 0 es.length]) _]
        · refine lvo_one ?_
          have hn : ¬ (H.length + 2 < H.length) := by omega
          simp [AV.frz2, AV.frz1, AV.frz0, hn, rowAt, hds [], g3]
          rw [← g3]; simp
        · simp only [res_cell, h_ld, ldAt, e_bslice1, e_bslice2, bs1, bs2, e_build, bdH_some, bd_nil, bd_cons, bd1, cl_agg, cl_int, toL, List.map_cons, List.map_nil, putAt, List.set_cons_zero, List.set_cons_succ, and_self, Nat.le_refl, app_get, app_set, g_agg, run_nil, run_cons, stp_plain, stp_guard, put_some, pass_eq, pick_tt, pick_ff, pick_tf, pick_ft, pick_u, reg_some, thn_normal, thn_exit, thn_ret, cnd_t, cnd_f, blk_normal, blk_ret, blk_exit, x_seq, x_region, x_cond, x_block, x_loop, x_ret, x_exit, x_skip, e_mov, e_pick, pk_t, pk_f, withH_some, e_box, e_load, e_store, stH_some, e_nil, e_bin, e_eqv, eqH_f, eqH_t, e_un, e_fa, e_ia, ia_eq, nat_eq, natV_nat, e_len, lnH_some, e_extract, ex_0, ex_1, e_call0, e_call1, e_call2, e_call3, pc0_eq, pc1_some, pc2_some, pc3_some, fin_some, g_var0, g_vars, g_loc0, g_locs, g_int, g_bool, g_str, g_sl, s_none, s_zero, s_succ, cl_nil, cl_str, cl_bool, cl_slc, cl_own, evFa, evNil, asEl, evBin, intBin, strBin, evUn, len_nil, len_slc, len_str, clr, List.length_nil, List.length_cons, List.getElem?_cons_zero, List.getElem?_cons_succ, Nat.reduceAdd, Nat.zero_add, Nat.add_zero, Nat.reduceLeDiff, Nat.reduceSub, ↓reduceIte, List.drop_succ_cons, List.drop_zero, List.take_succ_cons, List.take_zero, Bool.false_eq_true, List.nil_append, List.cons_append, Bool.not_true, Bool.not_false, cond_true, cond_false, bne, lv_ret, lv_normal, res1, res2, lv2_some, res_var, res_cell, lvf_v, lvf_slc, res1c, lvo1_some, e_mm, mm_max, mm_min]
    have hstart : ∀ (r : AV) , leave H.length c49 (exec (callW F) (l.length + 1) (.seq (.region [] [] c49_0) (.seq (.seq (.region [] [] c49_1) (.cond (.var 7) (.region [] [] c49_2) .skip)) (.seq (.seq (.region [] [] c49_3) (.cond (.var 8) (.seq (.region [] [] c49_4) (.seq (.region [] [] c49_5) .ret)) .skip)) (.seq (.region [] [] c49_6) (.seq (.seq (.region [] [] c49_7) (.block 0 (.loop K49 [] c49_12))) (.seq (.region [] [] c49_13) (.seq (.region [] [] c49_14) .ret))))))) (start c49 [.agg [.v (.int .i64 k), .v (.string s), .v (.int .i64 n), c], fnC]) (H ++ [])) = some (r, H) → callW F 49 [.agg [.v (.int .i64 k), .v (.string s), .v (.int .i64 n), c], fnC] H = some (r, H) :=
      fun r hr => callW_own (c := c49) rfl rfl (l.length + 1) hr
    by_cases hk : k = 1
    · have h1 : (k == 1) = true := by simpa using hk
      obtain ⟨r, hr, hlv⟩ := rest (n) (.agg [.v (.int .i64 k), .v (.string s), .v (.int .i64 n), c]) true
      refine ⟨r, hr, hstart r ?_⟩
      rw [← hlv]
      generalize (CC.seq (.seq (.region [] [] c49_3) (.cond (.var 8) (.seq (.region [] [] c49_4) (.seq (.region [] [] c49_5) .ret)) .skip)) (.seq (.region [] [] c49_6) (.seq (.seq (.region [] [] c49_7) (.block 0 (.loop K49 [] c49_12))) (.seq (.region [] [] c49_13) (.seq (.region [] [] c49_14) .ret))))) = rest'
      have hb2 : (H ++ [.box [.v (.int .i64 k), .v (.string s), .v (.int .i64 n), c], .box zeroC] : List AO).all (AO.below (H ++ [.box [.v (.int .i64 k), .v (.string s), .v (.int .i64 n), c], .box zeroC] : List AO).length) = true := by
        rw [List.all_append, Bool.and_eq_true]
        refine ⟨all_below_mono (by simp) hb, all_below_mono (Nat.zero_le _) ?_⟩
        have hz : (AO.box zeroC).below 0 = true := rfl
        simp only [AV.cells] at hbela
        simp only [List.all_cons, List.all_nil, hbela, hz, Bool.and_true]
      have ht := turnc_ok hb2 n
      simp only [zeroC] at ht
      simp only [start49, fnC, zeroC, c49_0, c49_1, c49_2, h1, ht, q9z, e_callv, cv_fn, h_ld, h_ld0, h_st, h_st0, h_bx, ldAt, stAt, preH_some, List.append_assoc, e_bslice1, e_bslice2, bs1, bs2, e_build, bdH_some, bd_nil, bd_cons, bd1, cl_agg, cl_int, toL, List.map_cons, List.map_nil, putAt, List.set_cons_zero, List.set_cons_succ, and_self, Nat.le_refl, app_get, app_set, g_agg, run_nil, run_cons, stp_plain, stp_guard, put_some, pass_eq, pick_tt, pick_ff, pick_tf, pick_ft, pick_u, reg_some, thn_normal, thn_exit, thn_ret, cnd_t, cnd_f, blk_normal, blk_ret, blk_exit, x_seq, x_region, x_cond, x_block, x_loop, x_ret, x_exit, x_skip, e_mov, e_pick, pk_t, pk_f, withH_some, e_box, e_load, e_store, stH_some, e_nil, e_bin, e_eqv, eqH_f, eqH_t, e_un, e_fa, e_ia, ia_eq, nat_eq, natV_nat, e_len, lnH_some, e_extract, ex_0, ex_1, e_call0, e_call1, e_call2, e_call3, pc0_eq, pc1_some, pc2_some, pc3_some, fin_some, g_var0, g_vars, g_loc0, g_locs, g_int, g_bool, g_str, g_sl, s_none, s_zero, s_succ, cl_nil, cl_str, cl_bool, cl_slc, cl_own, evFa, evNil, asEl, evBin, intBin, strBin, evUn, len_nil, len_slc, len_str, clr, List.length_nil, List.length_cons, List.getElem?_cons_zero, List.getElem?_cons_succ, Nat.reduceAdd, Nat.zero_add, Nat.add_zero, Nat.reduceLeDiff, Nat.reduceSub, ↓reduceIte, List.drop_succ_cons, List.drop_zero, List.take_succ_cons, List.take_zero, Bool.false_eq_true, List.nil_append, List.cons_append, Bool.not_true, Bool.not_false, cond_true, cond_false, bne, lv_ret, lv_normal, res1, res2, lv2_some, res_var, res_cell, lvf_v, lvf_slc, res1c, lvo1_some, e_mm, mm_max, mm_min]
    · have h1 : (k == 1) = false := by simpa using hk
      obtain ⟨r, hr, hlv⟩ := rest n (.agg [.v (.int .i64 k), .v (.string s), .v (.int .i64 n), c]) false
      refine ⟨r, hr, hstart r ?_⟩
      rw [← hlv]
      generalize (CC.seq (.seq (.region [] [] c49_3) (.cond (.var 8) (.seq (.region [] [] c49_4) (.seq (.region [] [] c49_5) .ret)) .skip)) (.seq (.region [] [] c49_6) (.seq (.seq (.region [] [] c49_7) (.block 0 (.loop K49 [] c49_12))) (.seq (.region [] [] c49_13) (.seq (.region [] [] c49_14) .ret))))) = rest'
      simp only [start49, fnC, zeroC, c49_0, c49_1, h1, q9z, h_ld, h_ld0, h_st, h_st0, h_bx, ldAt, stAt, preH_some, List.append_assoc, e_bslice1, e_bslice2, bs1, bs2, e_build, bdH_some, bd_nil, bd_cons, bd1, cl_agg, cl_int, toL, List.map_cons, List.map_nil, putAt, List.set_cons_zero, List.set_cons_succ, and_self, Nat.le_refl, app_get, app_set, g_agg, run_nil, run_cons, stp_plain, stp_guard, put_some, pass_eq, pick_tt, pick_ff, pick_tf, pick_ft, pick_u, reg_some, thn_normal, thn_exit, thn_ret, cnd_t, cnd_f, blk_normal, blk_ret, blk_exit, x_seq, x_region, x_cond, x_block, x_loop, x_ret, x_exit, x_skip, e_mov, e_pick, pk_t, pk_f, withH_some, e_box, e_load, e_store, stH_some, e_nil, e_bin, e_eqv, eqH_f, eqH_t, e_un, e_fa, e_ia, ia_eq, nat_eq, natV_nat, e_len, lnH_some, e_extract, ex_0, ex_1, e_call0, e_call1, e_call2, e_call3, pc0_eq, pc1_some, pc2_some, pc3_some, fin_some, g_var0, g_vars, g_loc0, g_locs, g_int, g_bool, g_str, g_sl, s_none, s_zero, s_succ, cl_nil, cl_str, cl_bool, cl_slc, cl_own, evFa, evNil, asEl, evBin, intBin, strBin, evUn, len_nil, len_slc, len_str, clr, List.length_nil, List.length_cons, List.getElem?_cons_zero, List.getElem?_cons_succ, Nat.reduceAdd, Nat.zero_add, Nat.add_zero, Nat.reduceLeDiff, Nat.reduceSub, ↓reduceIte, List.drop_succ_cons, List.drop_zero, List.take_succ_cons, List.take_zero, Bool.false_eq_true, List.nil_append, List.cons_append, Bool.not_true, Bool.not_false, cond_true, cond_false, bne, lv_ret, lv_normal, res1, res2, lv2_some, res_var, res_cell, lvf_v, lvf_slc, res1c, lvo1_some, e_mm, mm_max, mm_min]


theorem copy_ok {t : Tm} {a : AV} (hsz : size t ≤ 100000) (ha : IsT a t) : ∃ r, IsT r t ∧ callW F 42 [a] [] = some (r, []) := by
  have hb : ([.box a.cells, .box zeroC] : List AO).all (AO.below 2) = true := by
    have := below_mono (Nat.zero_le 2) _ ha.bel
    simp only [List.all_cons, List.all_nil, this, Bool.and_true]; rfl
  obtain ⟨r, hr, hc⟩ := eachc _ t a [.box a.cells, .box zeroC] (Nat.lt_succ_self _) hsz ha hb
  refine ⟨r, hr, callW_pure (c := c42) rfl rfl 0 ?_⟩
  have g := lv1 hr
  have ha2 := ha
  cases ha
  cases hr
  simp only [AV.cells, zeroC, fnC] at hc
  have gf : ∀ vars env : List AV, getO vars env (.fn 54) = .fn (.func 54) [] [] := fun _ _ => rfl
  simp only [c42, start, List.replicate, c42_0, c42_1, gf, hc, g, e_mkfn, e_callh, q9z, e_bslice1, e_bslice2, bs1, bs2, e_build, bdH_some, bd_nil, bd_cons, bd1, cl_agg, cl_int, toL, List.map_cons, List.map_nil, putAt, List.set_cons_zero, List.set_cons_succ, and_self, Nat.le_refl, evStore, app_get, app_set, g_agg, run_nil, run_cons, stp_plain, stp_guard, put_some, pass_eq, pick_tt, pick_ff, pick_tf, pick_ft, pick_u, reg_some, thn_normal, thn_exit, thn_ret, cnd_t, cnd_f, blk_normal, blk_ret, blk_exit, x_seq, x_region, x_cond, x_block, x_loop, x_ret, x_exit, x_skip, e_mov, e_pick, pk_t, pk_f, withH_some, e_box, bx_some, e_load, e_store, stH_some, e_nil, e_bin, e_eqv, eqH_f, eqH_t, e_un, e_fa, e_ia, ia_eq, nat_eq, natV_nat, e_len, lnH_some, e_extract, ex_0, ex_1, e_call0, e_call1, e_call2, e_call3, pc0_eq, pc1_some, pc2_some, pc3_some, fin_some, g_var0, g_vars, g_loc0, g_locs, g_int, g_bool, g_str, g_sl, s_none, s_zero, s_succ, cl_nil, cl_str, cl_bool, cl_slc, cl_own, evFa, evNil, evLoad, asEl, evBin, intBin, strBin, evUn, len_nil, len_slc, len_str, clr, List.length_nil, List.length_cons, List.getElem?_cons_zero, List.getElem?_cons_succ, Nat.reduceAdd, Nat.zero_add, Nat.add_zero, Nat.reduceLeDiff, Nat.reduceSub, ↓reduceIte, List.drop_succ_cons, List.drop_zero, List.take_succ_cons, List.take_zero, Bool.false_eq_true, List.nil_append, List.cons_append, Bool.not_true, Bool.not_false, cond_true, cond_false, bne, lv_ret, lv_normal, res1, res2, lv2_some, res_var, res_cell, lvf_v, lvf_slc, res1c, lvo1_some, e_mm, mm_max, mm_min]
end
end Go.AE.Ytpgoibncgekflaa
end

/-! Meet; a counter behind other objects. -/
section
set_option linter.unusedVariables false
set_option linter.unusedSimpArgs false
namespace Go.AE.Ytpgoibncgekflaa
open Go Go.AE Go.Proofs.Ytpgoibncgekflaa

section
variable {h : List AO} {id off : Nat} {ms : List AV} {m : Int} {l : List AO}
theorem ctr_app (hlt : id < h.length) : ctr (h ++ l) id off ms m = ctr h id off ms m ++ l := by
  simp only [ctr]
  exact his_set hlt
theorem Ctr.app (c : Ctr h id off ms) (hl : l.all (AO.below (h.length + l.length)) = true) : Ctr (h ++ l) id off ms := by
  refine ⟨by have := c.lt; simp; omega, c.le, ?_, ?_⟩
  · rw [List.all_append, Bool.and_eq_true, List.length_append]
    exact ⟨all_below_mono (by omega) c.bel, hl⟩
  · have := c.mb
    simp only [List.all_eq_true] at this ⊢
    exact fun x hx => below1_mono (by simp) x (this x hx)
theorem Ctr.app0 (c : Ctr h id off ms) (hl : l.all (AO.below 0) = true) : Ctr (h ++ l) id off ms := c.app (all_below_mono (Nat.zero_le _) hl)

/-- a term met: one step, then its bindings followed -/
def meetT (rs : List (Int × Tm)) : Nat → Tm → Tm × Int × Nat
  | 0, _ => (zeroT, 140, 0)
  | m + 1, t => walkT rs m t

theorem meet_ok (c : Ctr h id off ms) {b a : AV} {es : List AV} {rs : List (Int × Tm)} (hes : AllB es rs) {b' : AV} (hbs : ∀ (m : Int) (l : List AO), b.snap1 (ctr h id off ms m ++ l) = some b') (hlook : ∀ n, callW F 13 [b', .v (.int .i64 n)] [] = some (lookA n es, []))
    (m : Nat) (hm : m ≤ 5000) {t : Tm} (ht : IsT a t) : ∃ rc, IsT (.agg rc) (meetT rs m t).1 ∧ callW F 51 [b, a, .ptr id off] (ctr h id off ms m) = some (.tup [.agg rc, .v (.int .i64 (meetT rs m t).2.1)], ctr h id off ms (meetT rs m t).2.2) := by
  have hres : c51.res = [.cell 4 true 4, .var 5] := rfl
  have hbel := ht.bel
  have hl : ([.box a.cells, .box zeroC] : List AO).all (AO.below 0) = true := by
    have hz : (AO.box zeroC).below 0 = true := rfl
    simp only [List.all_cons, List.all_nil, hbel, hz, Bool.and_true]
  cases m with
  | zero =>
    refine ⟨zeroC, isT_zero, callW_own (c := c51) rfl rfl 0 ?_⟩
    have h0 : (((0 : Nat) : Int) == 0) = true := rfl
    have body : exec (callW F) 0 c51.body (start c51 [b, a, .ptr id off]) (ctr h id off ms ((0 : Nat) : Int) ++ []) = some (.ret, [b, a, .ptr id off, .ptr h.length 0, .ptr (h.length + 1) 0, .v (.int .i64 140), .v (.bool true)], ctr h id off ms ((0 : Nat) : Int) ++ [.box a.cells, .box zeroC]) := by
      cases ht
      simp only [c51, start, zeroC, List.replicate, c51_0, c51_1, c51_2, h0, q9z, AV.cells, c.load, evNil, c_ld, c_ld0, c_st, c_st0, c_bx, ldAt, stAt, preH_some, List.append_assoc, e_bslice1, e_bslice2, bs1, bs2, e_build, bdH_some, bd_nil, bd_cons, bd1, cl_agg, cl_int, toL, List.map_cons, List.map_nil, putAt, List.set_cons_zero, List.set_cons_succ, and_self, Nat.le_refl, app_get, app_set, g_agg, run_nil, run_cons, stp_plain, stp_guard, put_some, pass_eq, pick_tt, pick_ff, pick_tf, pick_ft, pick_u, reg_some, thn_normal, thn_exit, thn_ret, cnd_t, cnd_f, blk_normal, blk_ret, blk_exit, x_seq, x_region, x_cond, x_block, x_loop, x_ret, x_exit, x_skip, e_mov, e_pick, pk_t, pk_f, withH_some, e_box, e_load, e_store, stH_some, e_nil, e_bin, e_eqv, eqH_f, eqH_t, e_un, e_fa, e_ia, ia_eq, nat_eq, natV_nat, e_len, lnH_some, e_extract, ex_0, ex_1, e_call0, e_call1, e_call2, e_call3, pc0_eq, pc1_some, pc2_some, pc3_some, fin_some, g_var0, g_vars, g_loc0, g_locs, g_int, g_bool, g_str, g_sl, s_none, s_zero, s_succ, cl_nil, cl_str, cl_bool, cl_slc, cl_own, evFa, evNil, asEl, evBin, intBin, strBin, evUn, len_nil, len_slc, len_str, clr, List.length_nil, List.length_cons, List.getElem?_cons_zero, List.getElem?_cons_succ, Nat.reduceAdd, Nat.zero_add, Nat.add_zero, Nat.reduceLeDiff, Nat.reduceSub, ↓reduceIte, List.drop_succ_cons, List.drop_zero, List.take_succ_cons, List.take_zero, Bool.false_eq_true, List.nil_append, List.cons_append, Bool.not_true, Bool.not_false, cond_true, cond_false, bne, lv_ret, lv_normal, res1, res2, lv2_some, res_var, res_cell, lvf_v, lvf_slc, res1c, lvo1_some, e_mm, mm_max, mm_min]
    rw [body, ctr_len, leave_own ctr_len (c.all _), hres, own_res2 (x := .agg zeroC) (y := .v (.int .i64 140)) _ _]
    · exact lvo_two (isT_zero.frz _ _) rfl
    · simp only [res_cell, c_ld, ldAt, zeroC, e_bslice1, e_bslice2, bs1, bs2, e_build, bdH_some, bd_nil, bd_cons, bd1, cl_agg, cl_int, toL, List.map_cons, List.map_nil, putAt, List.set_cons_zero, List.set_cons_succ, and_self, Nat.le_refl, app_get, app_set, g_agg, run_nil, run_cons, stp_plain, stp_guard, put_some, pass_eq, pick_tt, pick_ff, pick_tf, pick_ft, pick_u, reg_some, thn_normal, thn_exit, thn_ret, cnd_t, cnd_f, blk_normal, blk_ret, blk_exit, x_seq, x_region, x_cond, x_block, x_loop, x_ret, x_exit, x_skip, e_mov, e_pick, pk_t, pk_f, withH_some, e_box, e_load, e_store, stH_some, e_nil, e_bin, e_eqv, eqH_f, eqH_t, e_un, e_fa, e_ia, ia_eq, nat_eq, natV_nat, e_len, lnH_some, e_extract, ex_0, ex_1, e_call0, e_call1, e_call2, e_call3, pc0_eq, pc1_some, pc2_some, pc3_some, fin_some, g_var0, g_vars, g_loc0, g_locs, g_int, g_bool, g_str, g_sl, s_none, s_zero, s_succ, cl_nil, cl_str, cl_bool, cl_slc, cl_own, evFa, evNil, asEl, evBin, intBin, strBin, evUn, len_nil, len_slc, len_str, clr, List.length_nil, List.length_cons, List.getElem?_cons_zero, List.getElem?_cons_succ, Nat.reduceAdd, Nat.zero_add, Nat.add_zero, Nat.reduceLeDiff, Nat.reduceSub, ↓reduceIte, List.drop_succ_cons, List.drop_zero, List.take_succ_cons, List.take_zero, Bool.false_eq_true, List.nil_append, List.cons_append, Bool.not_true, Bool.not_false, cond_true, cond_false, bne, lv_ret, lv_normal, res1, res2, lv2_some, res_var, res_cell, lvf_v, lvf_slc, res1c, lvo1_some, e_mm, mm_max, mm_min]
    · rfl
  | succ m =>
    obtain ⟨rc, hrc, hf⟩ := follow_ok (c.app0 hl) hes (b' := b') (fun m l => by rw [ctr_app c.lt, List.append_assoc]; exact hbs m _) hlook m (by omega) ht
    rw [ctr_app c.lt, ctr_app c.lt] at hf
    refine ⟨rc, hrc, callW_own (c := c51) rfl rfl 0 ?_⟩
    have h0 : (((m + 1 : Nat) : Int) == 0) = false := by rw [beq_eq_false_iff_ne]; omega
    have hw : IntKind.i64.wrap (((m + 1 : Nat) : Int) - 1) = (m : Int) := by rw [wrap_ok (by omega) (by omega)]; omega
    simp only [meetT]
    generalize walkT rs m t = w at hrc hf ⊢
    obtain ⟨w1, w2, w3⟩ := w
    have body : exec (callW F) 0 c51.body (start c51 [b, a, .ptr id off]) (ctr h id off ms ((m + 1 : Nat) : Int) ++ []) = some (.ret, [b, a, .ptr id off, .ptr h.length 0, .ptr (h.length + 1) 0, .v (.int .i64 w2), .v (.bool false)], ctr h id off ms w3 ++ [.box a.cells, .box rc]) := by
      cases hrc
      cases ht
      simp only [AV.cells, zeroC] at hf
      simp only [c51, start, zeroC, List.replicate, c51_0, c51_1, c51_3, c51_4, h0, hw, hf, e_callh, q9z, AV.cells, c.load, c.store, evNil, c_ld, c_ld0, c_st, c_st0, c_bx, ldAt, stAt, preH_some, List.append_assoc, e_bslice1, e_bslice2, bs1, bs2, e_build, bdH_some, bd_nil, bd_cons, bd1, cl_agg, cl_int, toL, List.map_cons, List.map_nil, putAt, List.set_cons_zero, List.set_cons_succ, and_self, Nat.le_refl, app_get, app_set, g_agg, run_nil, run_cons, stp_plain, stp_guard, put_some, pass_eq, pick_tt, pick_ff, pick_tf, pick_ft, pick_u, reg_some, thn_normal, thn_exit, thn_ret, cnd_t, cnd_f, blk_normal, blk_ret, blk_exit, x_seq, x_region, x_cond, x_block, x_loop, x_ret, x_exit, x_skip, e_mov, e_pick, pk_t, pk_f, withH_some, e_box, e_load, e_store, stH_some, e_nil, e_bin, e_eqv, eqH_f, eqH_t, e_un, e_fa, e_ia, ia_eq, nat_eq, natV_nat, e_len, lnH_some, e_extract, ex_0, ex_1, e_call0, e_call1, e_call2, e_call3, pc0_eq, pc1_some, pc2_some, pc3_some, fin_some, g_var0, g_vars, g_loc0, g_locs, g_int, g_bool, g_str, g_sl, s_none, s_zero, s_succ, cl_nil, cl_str, cl_bool, cl_slc, cl_own, evFa, evNil, asEl, evBin, intBin, strBin, evUn, len_nil, len_slc, len_str, clr, List.length_nil, List.length_cons, List.getElem?_cons_zero, List.getElem?_cons_succ, Nat.reduceAdd, Nat.zero_add, Nat.add_zero, Nat.reduceLeDiff, Nat.reduceSub, ↓reduceIte, List.drop_succ_cons, List.drop_zero, List.take_succ_cons, List.take_zero, Bool.false_eq_true, List.nil_append, List.cons_append, Bool.not_true, Bool.not_false, cond_true, cond_false, bne, lv_ret, lv_normal, res1, res2, lv2_some, res_var, res_cell, lvf_v, lvf_slc, res1c, lvo1_some, e_mm, mm_max, mm_min]
    rw [body, ctr_len, leave_own ctr_len (c.all _), hres, own_res2 (x := .agg rc) (y := .v (.int .i64 w2)) _ _]
    · exact lvo_two (hrc.frz _ _) rfl
    · cases hrc; simp only [res_cell, c_ld, ldAt, e_bslice1, e_bslice2, bs1, bs2, e_build, bdH_some, bd_nil, bd_cons, bd1, cl_agg, cl_int, toL, List.map_cons, List.map_nil, putAt, List.set_cons_zero, List.set_cons_succ, and_self, Nat.le_refl, app_get, app_set, g_agg, run_nil, run_cons, stp_plain, stp_guard, put_some, pass_eq, pick_tt, pick_ff, pick_tf, pick_ft, pick_u, reg_some, thn_normal, thn_exit, thn_ret, cnd_t, cnd_f, blk_normal, blk_ret, blk_exit, x_seq, x_region, x_cond, x_block, x_loop, x_ret, x_exit, x_skip, e_mov, e_pick, pk_t, pk_f, withH_some, e_box, e_load, e_store, stH_some, e_nil, e_bin, e_eqv, eqH_f, eqH_t, e_un, e_fa, e_ia, ia_eq, nat_eq, natV_nat, e_len, lnH_some, e_extract, ex_0, ex_1, e_call0, e_call1, e_call2, e_call3, pc0_eq, pc1_some, pc2_some, pc3_some, fin_some, g_var0, g_vars, g_loc0, g_locs, g_int, g_bool, g_str, g_sl, s_none, s_zero, s_succ, cl_nil, cl_str, cl_bool, cl_slc, cl_own, evFa, evNil, asEl, evBin, intBin, strBin, evUn, len_nil, len_slc, len_str, clr, List.length_nil, List.length_cons, List.getElem?_cons_zero, List.getElem?_cons_succ, Nat.reduceAdd, Nat.zero_add, Nat.add_zero, Nat.reduceLeDiff, Nat.reduceSub, ↓reduceIte, List.drop_succ_cons, List.drop_zero, List.take_succ_cons, List.take_zero, Bool.false_eq_true, List.nil_append, List.cons_append, Bool.not_true, Bool.not_false, cond_true, cond_false, bne, lv_ret, lv_normal, res1, res2, lv2_some, res_var, res_cell, lvf_v, lvf_slc, res1c, lvo1_some, e_mm, mm_max, mm_min]
    · rfl
end
end Go.AE.Ytpgoibncgekflaa
end

/- Few. -/
import Derived.Test.YtpgoibncgekflaaTm
set_option linter.unusedVariables false
set_option linter.unusedSimpArgs false
namespace Go.AE.Ytpgoibncgekflaa
open Go Go.AE Go.Proofs.Ytpgoibncgekflaa

mutual
def left : Tm → Int → Int
  | .mk _ _ _ l, m => leftL l (IntKind.i64.wrap (m - 1))
def leftL : List Tm → Int → Int
  | [], m => m
  | a :: l, m => if m < 0 then m else leftL l (left a m)
end

theorem IsT.cl {a : AV} {t : Tm} (ht : IsT a t) : a.cl = some a.cells ∧ a.cells.length = 4 := by
  cases ht with
  | mk k s n c l hc => exact ⟨rfl, rfl⟩
theorem IsT.asEl {a : AV} {t : Tm} (ht : IsT a t) : asEl true (a.cells.take 4) = some a := by
  cases ht with
  | mk k s n c l hc => rfl

def K46 : List Bool := [false, true, false, false, false, true, true, true, false, false]
def L46 (c : AV) (len i m : Int) : List AV := [.junk, .v (.int .i64 m), .junk, .junk, .junk, c, .v (.int .i64 len), .v (.int .i64 i), .junk, .junk]

theorem left_step {K : Nat} {ex nn : Bool} {es : List AV} {h : List AO} {i : Nat} {e : AV} {t : Tm} {m r : Int} (he : es[i]? = some e) (ht : IsT e t) (hm : 0 ≤ m) (hc : callW F 46 [e, .v (.int .i64 m)] [] = some (.v (.int .i64 r), [])) :
    exec (callW F) K c46_9 (L46 (.slc 4 ex nn es) es.length i m) h = some (.normal, [.junk, .v (.int .i64 r), .junk, .junk, .ptr h.length 0, .slc 4 ex nn es, .v (.int .i64 es.length), .v (.int .i64 (IntKind.i64.wrap (i + 1))), .v (.bool true), .v (.bool false)], h ++ [.box e.cells]) := by
  have hlt : (decide ((i : Int) < (es.length : Int))) = true := by
    have := (List.getElem?_eq_some_iff.1 he).1
    simp; omega
  have hneg : decide (m < 0) = false := by simp; omega
  have q1 : ∀ h, iaV h 4 (.slc 4 ex nn es) (some i) = some (.ip e.cells) := fun h => iaV_slc he
  have q3 : ∀ h : List AO, evLoad h true 4 (.ip e.cells) = some e := fun h => ht.load
  have q5 : ∀ h : List AO, e.snap1 h = some e := fun h => ht.snap
  have q6 : ∀ (h : List AO) (cs : List AV), cs.length = 4 → evStore (h ++ [.box cs]) 4 (.ptr h.length 0) e = some (h ++ [.box e.cells]) := fun h cs hl => st_new ht.cl.1 ht.cl.2 hl
  have q7 : ∀ h : List AO, evLoad (h ++ [.box e.cells]) true 4 (.ptr h.length 0) = some e := fun h => by rw [ld_new, if_pos (by rw [ht.cl.2]; omega), List.drop_zero]; exact ht.asEl
  have q8 : ∀ (h : List AO) (x : Int), (AV.v (.int .i64 x)).snap1 h = some (.v (.int .i64 x)) := fun _ _ => rfl
  have q9 : (ofVal (.agg #[(.int .i64 0), (.string ⟨#[]⟩), (.int .i64 0), (.slice none 0 0)])).cl = some [.v (.int .i64 0), .v (.string ⟨#[]⟩), .v (.int .i64 0), .v (.slice none 0 0)] := by simp [ofVal, AV.cl, Value.oneCell']
  simp only [L46, c46_9, c46_3, c46_4, c46_5, c46_6, c46_7, c46_8, hlt, hneg, q1, q3, q5, q6, q7, q8, q9, g_agg, hc, run_nil, run_cons, stp_plain, stp_guard, put_some, pass_eq, pick_tt, pick_ff, pick_tf, pick_ft, pick_u, reg_some, thn_normal, thn_exit, thn_ret, cnd_t, cnd_f, blk_normal, blk_ret, blk_exit, x_seq, x_region, x_cond, x_block, x_loop, x_ret, x_exit, x_skip, e_mov, e_pick, pk_t, pk_f, withH_some, e_box, bx_some, e_load, e_store, stH_some, e_nil, e_bin, e_eqv, eqH_f, eqH_t, e_un, e_fa, e_ia, ia_eq, nat_eq, natV_nat, e_len, lnH_some, e_extract, ex_0, ex_1, e_call0, e_call1, e_call2, e_call3, pc0_eq, pc1_some, pc2_some, pc3_some, fin_some, g_var0, g_vars, g_loc0, g_locs, g_int, g_bool, g_str, g_sl, s_none, s_zero, s_succ, evFa, evNil, asEl, evBin, intBin, strBin, evUn, len_nil, len_slc, len_str, clr, List.length_nil, List.length_cons, List.getElem?_cons_zero, List.getElem?_cons_succ, Nat.reduceAdd, Nat.zero_add, Nat.add_zero, Nat.reduceLeDiff, Nat.reduceSub, ↓reduceIte, List.drop_succ_cons, List.drop_zero, List.take_succ_cons, List.take_zero, Bool.false_eq_true, List.nil_append, List.cons_append, Bool.not_true, Bool.not_false, cond_true, cond_false, bne, lv_ret, lv_normal, res1, res2, lv2_some, res_var, res_cell, lvf_v, lvf_slc]

/-- a loop's rounds look at nothing but what it goes on with -/
theorem loop_cong {call : CallF} {K : Nat} {b : CC} {keep : List Bool} {m : Nat} {v1 v2 : List AV} {h : List AO} (e : clr keep v1 = clr keep v2) : loopN (exec call K b) keep (m + 1) v1 h = loopN (exec call K b) keep (m + 1) v2 h := by
  simp only [loopN, e]

theorem wrap_succ {i len : Nat} (h : i < len) (hm : len ≤ maxLen) : IntKind.i64.wrap ((i : Int) + 1) = ((i + 1 : Nat) : Int) := by
  rw [wrap_ok (by omega) (by have : maxLen = 9223372036854775807 := rfl; omega)]; simp

theorem left_loop {K : Nat} {ex nn : Bool} {es : List AV} (hmax : es.length ≤ maxLen) :
    ∀ (l : List Tm) (i : Nat) (m : Int) (h : List AO), i + l.length = es.length → All2 (es.drop i) l → (∀ t ∈ l, ∀ (e : AV) (m : Int), IsT e t → callW F 46 [e, .v (.int .i64 m)] [] = some (.v (.int .i64 (left t m)), [])) →
      ∃ h', loopN (exec (callW F) K c46_9) K46 (l.length + 1) (L46 (.slc 4 ex nn es) es.length i m) h = some (.exit 0, [.junk, .v (.int .i64 (leftL l m)), .junk, .junk, .junk, .slc 4 ex nn es, .v (.int .i64 es.length), .v (.int .i64 es.length), .v (.bool false), .junk], h') ∨
        ∃ vs, loopN (exec (callW F) K c46_9) K46 (l.length + 1) (L46 (.slc 4 ex nn es) es.length i m) h = some (.ret, vs, h') ∧ getO vs [] (.var 3) = .v (.int .i64 (leftL l m)) := by
  intro l
  induction l with
  | nil =>
    intro i m h hi _ _
    refine ⟨h, .inl (loop_exit ?_)⟩
    have hil : i = es.length := by simpa using hi
    subst hil
    have hlt : decide ((es.length : Int) < (es.length : Int)) = false := by simp
    simp only [K46, L46, leftL, c46_9, c46_3, hlt, run_nil, run_cons, stp_plain, stp_guard, put_some, pass_eq, pick_tt, pick_ff, pick_tf, pick_ft, pick_u, reg_some, thn_normal, thn_exit, thn_ret, cnd_t, cnd_f, blk_normal, blk_ret, blk_exit, x_seq, x_region, x_cond, x_block, x_loop, x_ret, x_exit, x_skip, e_mov, e_pick, pk_t, pk_f, withH_some, e_box, bx_some, e_load, e_store, stH_some, e_nil, e_bin, e_eqv, eqH_f, eqH_t, e_un, e_fa, e_ia, ia_eq, nat_eq, natV_nat, e_len, lnH_some, e_extract, ex_0, ex_1, e_call0, e_call1, e_call2, e_call3, pc0_eq, pc1_some, pc2_some, pc3_some, fin_some, g_var0, g_vars, g_loc0, g_locs, g_int, g_bool, g_str, g_sl, s_none, s_zero, s_succ, AV.cl, evFa, evNil, evLoad, asEl, evBin, intBin, strBin, evUn, len_nil, len_slc, len_str, clr, List.length_nil, List.length_cons, List.getElem?_cons_zero, List.getElem?_cons_succ, Nat.reduceAdd, Nat.zero_add, Nat.add_zero, Nat.reduceLeDiff, Nat.reduceSub, ↓reduceIte, List.drop_succ_cons, List.drop_zero, List.take_succ_cons, List.take_zero, Bool.false_eq_true, List.nil_append, List.cons_append, Bool.not_true, Bool.not_false, cond_true, cond_false, bne, lv_ret, lv_normal, res1, res2, lv2_some, res_var, res_cell, lvf_v, lvf_slc]
  | cons t l ih =>
    intro i m h hi hes hcall
    have hil : i < es.length := by simp at hi; omega
    have he : es[i]? = some (es[i]'hil) := List.getElem?_eq_getElem _
    have hd : es.drop i = es[i] :: es.drop (i + 1) := List.drop_eq_getElem_cons hil
    rw [hd] at hes
    cases hes with
    | cons _ _ _ _ hT hs =>
    by_cases hm : m < 0
    · -- below 0: it leaves
      refine ⟨h ++ [.box (es[i]).cells], .inr ⟨_, loop_ret (v' := [.junk, .v (.int .i64 m), .junk, .v (.int .i64 m), .ptr h.length 0, .slc 4 ex nn es, .v (.int .i64 es.length), .v (.int .i64 i), .v (.bool true), .v (.bool true)]) ?_, ?_⟩⟩
      · have hlt : (decide ((i : Int) < (es.length : Int))) = true := by simp; omega
        have hneg : decide (m < 0) = true := by simpa using hm
        have q1 : ∀ h, iaV h 4 (.slc 4 ex nn es) (some i) = some (.ip (es[i]).cells) := fun h => iaV_slc he
        have q3 : ∀ h : List AO, evLoad h true 4 (.ip (es[i]).cells) = some es[i] := fun h => hT.load
        have q6 : ∀ (h : List AO) (cs : List AV), cs.length = 4 → evStore (h ++ [.box cs]) 4 (.ptr h.length 0) es[i] = some (h ++ [.box (es[i]).cells]) := fun h cs hl => st_new hT.cl.1 hT.cl.2 hl
        have q9 : (ofVal (.agg #[(.int .i64 0), (.string ⟨#[]⟩), (.int .i64 0), (.slice none 0 0)])).cl = some [.v (.int .i64 0), .v (.string ⟨#[]⟩), .v (.int .i64 0), .v (.slice none 0 0)] := by simp [ofVal, AV.cl, Value.oneCell']
        simp only [K46, L46, c46_9, c46_3, c46_4, c46_5, c46_6, hlt, hneg, q1, q3, q6, q9, g_agg, run_nil, run_cons, stp_plain, stp_guard, put_some, pass_eq, pick_tt, pick_ff, pick_tf, pick_ft, pick_u, reg_some, thn_normal, thn_exit, thn_ret, cnd_t, cnd_f, blk_normal, blk_ret, blk_exit, x_seq, x_region, x_cond, x_block, x_loop, x_ret, x_exit, x_skip, e_mov, e_pick, pk_t, pk_f, withH_some, e_box, bx_some, e_load, e_store, stH_some, e_nil, e_bin, e_eqv, eqH_f, eqH_t, e_un, e_fa, e_ia, ia_eq, nat_eq, natV_nat, e_len, lnH_some, e_extract, ex_0, ex_1, e_call0, e_call1, e_call2, e_call3, pc0_eq, pc1_some, pc2_some, pc3_some, fin_some, g_var0, g_vars, g_loc0, g_locs, g_int, g_bool, g_str, g_sl, s_none, s_zero, s_succ, evFa, evNil, asEl, evBin, intBin, strBin, evUn, len_nil, len_slc, len_str, clr, List.length_nil, List.length_cons, List.getElem?_cons_zero, List.getElem?_cons_succ, Nat.reduceAdd, Nat.zero_add, Nat.add_zero, Nat.reduceLeDiff, Nat.reduceSub, ↓reduceIte, List.drop_succ_cons, List.drop_zero, List.take_succ_cons, List.take_zero, Bool.false_eq_true, List.nil_append, List.cons_append, Bool.not_true, Bool.not_false, cond_true, cond_false, bne, lv_ret, lv_normal, res1, res2, lv2_some, res_var, res_cell, lvf_v, lvf_slc]
      · simp only [leftL, if_pos hm, g_vars, g_var0]
    · have st := left_step (K := K) (ex := ex) (nn := nn) (h := h) he hT (by omega) (hcall t (by simp) _ m hT)
      rw [wrap_succ hil hmax] at st
      have e1 : clr K46 (L46 (.slc 4 ex nn es) es.length i m) = L46 (.slc 4 ex nn es) es.length i m := rfl
      rw [show (t :: l).length + 1 = (l.length + 1) + 1 from rfl, loop_normal (by rw [e1]; exact st)]
      obtain ⟨h', hh⟩ := ih (i + 1) (left t m) (h ++ [.box (es[i]).cells]) (by simp at hi; omega) hs (fun t ht => hcall t (by simp [ht]))
      refine ⟨h', ?_⟩
      rw [loop_cong (v2 := L46 (.slc 4 ex nn es) es.length ((i + 1 : Nat) : Int) (left t m)) (by rfl), leftL, if_neg hm]
      exact hh

theorem left_ok : ∀ (N : Nat) (t : Tm) (a : AV) (m : Int), SizeOf.sizeOf t < N → IsT a t → callW F 46 [a, .v (.int .i64 m)] [] = some (.v (.int .i64 (left t m)), []) := by
  intro N
  induction N with
  | zero => intro t a m h; omega
  | succ N ih =>
    intro t a m hN ha
    cases ha with
    | mk k s n c l hc =>
    have h5 := Tm.mk.sizeOf_spec k s n l
    have hcall : ∀ t ∈ l, ∀ (e : AV) (m : Int), IsT e t → callW F 46 [e, .v (.int .i64 m)] [] = some (.v (.int .i64 (left t m)), []) := by
      intro t ht e m hT
      have := List.sizeOf_lt_of_mem ht
      exact ih t e m (by omega) hT
    refine callW_pure (c := c46) rfl rfl (l.length + 1) ?_
    rw [left]
    cases hc with
    | nil =>
      have hlt : decide ((0 : Int) < 0) = false := by simp
      have hl : ∀ (K : Nat) (vars : List AV) (h : List AO) (m : Int), clr [false, true, false, false, false, true, true, true, false, false] vars = [.junk, .v (.int .i64 m), .junk, .junk, .junk, .v (.slice none 0 0), .v (.int .i64 ((0 : Nat) : Int)), .v (.int .i64 0), .junk, .junk] →
          loopN (exec (callW F) K c46_9) [false, true, false, false, false, true, true, true, false, false] 1 vars h = some (.exit 0, [.junk, .v (.int .i64 m), .junk, .junk, .junk, .v (.slice none 0 0), .v (.int .i64 ((0 : Nat) : Int)), .v (.int .i64 0), .v (.bool false), .junk], h) := by
        intro K vars h m hv
        refine loop_exit (n := 0) ?_
        rw [hv]
        have hlt : decide ((0 : Int) < ((0 : Nat) : Int)) = false := by simp
        simp only [c46_9, c46_3, hlt, run_nil, run_cons, stp_plain, stp_guard, put_some, pass_eq, pick_tt, pick_ff, pick_tf, pick_ft, pick_u, reg_some, thn_normal, thn_exit, thn_ret, cnd_t, cnd_f, blk_normal, blk_ret, blk_exit, x_seq, x_region, x_cond, x_block, x_loop, x_ret, x_exit, x_skip, e_mov, e_pick, pk_t, pk_f, withH_some, e_box, bx_some, e_load, e_store, stH_some, e_nil, e_bin, e_eqv, eqH_f, eqH_t, e_un, e_fa, e_ia, ia_eq, nat_eq, natV_nat, e_len, lnH_some, e_extract, ex_0, ex_1, e_call0, e_call1, e_call2, e_call3, pc0_eq, pc1_some, pc2_some, pc3_some, fin_some, g_var0, g_vars, g_loc0, g_locs, g_int, g_bool, g_str, g_sl, s_none, s_zero, s_succ, AV.cl, evFa, evNil, evLoad, asEl, evBin, intBin, strBin, evUn, len_nil, len_slc, len_str, clr, List.length_nil, List.length_cons, List.getElem?_cons_zero, List.getElem?_cons_succ, Nat.reduceAdd, Nat.zero_add, Nat.add_zero, Nat.reduceLeDiff, Nat.reduceSub, ↓reduceIte, List.drop_succ_cons, List.drop_zero, List.take_succ_cons, List.take_zero, Bool.false_eq_true, List.nil_append, List.cons_append, Bool.not_true, Bool.not_false, cond_true, cond_false, bne, lv_ret, lv_normal, res1, res2, lv2_some, res_var, res_cell, lvf_v, lvf_slc]
      simp only [c46, start, List.replicate, c46_0, c46_1, c46_2, c46_10, leftL, run_nil, run_cons, stp_plain, stp_guard, put_some, pass_eq, pick_tt, pick_ff, pick_tf, pick_ft, pick_u, reg_some, thn_normal, thn_exit, thn_ret, cnd_t, cnd_f, blk_normal, blk_ret, blk_exit, x_seq, x_region, x_cond, x_block, x_loop, x_ret, x_exit, x_skip, e_mov, e_pick, pk_t, pk_f, withH_some, e_box, bx_some, e_load, e_store, stH_some, e_nil, e_bin, e_eqv, eqH_f, eqH_t, e_un, e_fa, e_ia, ia_eq, nat_eq, natV_nat, e_len, lnH_some, e_extract, ex_0, ex_1, e_call0, e_call1, e_call2, e_call3, pc0_eq, pc1_some, pc2_some, pc3_some, fin_some, g_var0, g_vars, g_loc0, g_locs, g_int, g_bool, g_str, g_sl, s_none, s_zero, s_succ, AV.cl, evFa, evNil, evLoad, asEl, evBin, intBin, strBin, evUn, len_nil, len_slc, len_str, clr, List.length_nil, List.length_cons, List.getElem?_cons_zero, List.getElem?_cons_succ, Nat.reduceAdd, Nat.zero_add, Nat.add_zero, Nat.reduceLeDiff, Nat.reduceSub, ↓reduceIte, List.drop_succ_cons, List.drop_zero, List.take_succ_cons, List.take_zero, Bool.false_eq_true, List.nil_append, List.cons_append, Bool.not_true, Bool.not_false, cond_true, cond_false, bne, lv_ret, lv_normal, res1, res2, lv2_some, res_var, res_cell, lvf_v, lvf_slc]
      rw [hl _ _ _ (IntKind.i64.wrap (m - 1)) (by rfl)]
      simp only [run_nil, run_cons, stp_plain, stp_guard, put_some, pass_eq, pick_tt, pick_ff, pick_tf, pick_ft, pick_u, reg_some, thn_normal, thn_exit, thn_ret, cnd_t, cnd_f, blk_normal, blk_ret, blk_exit, x_seq, x_region, x_cond, x_block, x_loop, x_ret, x_exit, x_skip, e_mov, e_pick, pk_t, pk_f, withH_some, e_box, bx_some, e_load, e_store, stH_some, e_nil, e_bin, e_eqv, eqH_f, eqH_t, e_un, e_fa, e_ia, ia_eq, nat_eq, natV_nat, e_len, lnH_some, e_extract, ex_0, ex_1, e_call0, e_call1, e_call2, e_call3, pc0_eq, pc1_some, pc2_some, pc3_some, fin_some, g_var0, g_vars, g_loc0, g_locs, g_int, g_bool, g_str, g_sl, s_none, s_zero, s_succ, AV.cl, evFa, evNil, evLoad, asEl, evBin, intBin, strBin, evUn, len_nil, len_slc, len_str, clr, List.length_nil, List.length_cons, List.getElem?_cons_zero, List.getElem?_cons_succ, Nat.reduceAdd, Nat.zero_add, Nat.add_zero, Nat.reduceLeDiff, Nat.reduceSub, ↓reduceIte, List.drop_succ_cons, List.drop_zero, List.take_succ_cons, List.take_zero, Bool.false_eq_true, List.nil_append, List.cons_append, Bool.not_true, Bool.not_false, cond_true, cond_false, bne, lv_ret, lv_normal, res1, res2, lv2_some, res_var, res_cell, lvf_v, lvf_slc]
    | slc ex nn es l hes hm =>
      have e1 := hes.length
      simp only [c46, start, List.replicate, c46_0, c46_1, c46_2, c46_10, run_nil, run_cons, stp_plain, stp_guard, put_some, pass_eq, pick_tt, pick_ff, pick_tf, pick_ft, pick_u, reg_some, thn_normal, thn_exit, thn_ret, cnd_t, cnd_f, blk_normal, blk_ret, blk_exit, x_seq, x_region, x_cond, x_block, x_loop, x_ret, x_exit, x_skip, e_mov, e_pick, pk_t, pk_f, withH_some, e_box, bx_some, e_load, e_store, stH_some, e_nil, e_bin, e_eqv, eqH_f, eqH_t, e_un, e_fa, e_ia, ia_eq, nat_eq, natV_nat, e_len, lnH_some, e_extract, ex_0, ex_1, e_call0, e_call1, e_call2, e_call3, pc0_eq, pc1_some, pc2_some, pc3_some, fin_some, g_var0, g_vars, g_loc0, g_locs, g_int, g_bool, g_str, g_sl, s_none, s_zero, s_succ, AV.cl, evFa, evNil, evLoad, asEl, evBin, intBin, strBin, evUn, len_nil, len_slc, len_str, clr, List.length_nil, List.length_cons, List.getElem?_cons_zero, List.getElem?_cons_succ, Nat.reduceAdd, Nat.zero_add, Nat.add_zero, Nat.reduceLeDiff, Nat.reduceSub, ↓reduceIte, List.drop_succ_cons, List.drop_zero, List.take_succ_cons, List.take_zero, Bool.false_eq_true, List.nil_append, List.cons_append, Bool.not_true, Bool.not_false, cond_true, cond_false, bne, lv_ret, lv_normal, res1, res2, lv2_some, res_var, res_cell, lvf_v, lvf_slc]
      obtain ⟨h', hh⟩ := left_loop (K := l.length + 1) (ex := ex) (nn := nn) hm l 0 (IntKind.i64.wrap (m - 1)) [.box [.v (.int .i64 k), .v (.string s), .v (.int .i64 n), .slc 4 ex nn es]] (by omega) (by simpa using hes) hcall
      rw [show ([false, true, false, false, false, true, true, true, false, false] : List Bool) = K46 from rfl, loop_cong (v2 := L46 (.slc 4 ex nn es) es.length ((0 : Nat) : Int) (IntKind.i64.wrap (m - 1))) (by rfl)]
      rcases hh with hh | ⟨vs, hh, hv⟩
      · rw [hh]
        simp only [run_nil, run_cons, stp_plain, stp_guard, put_some, pass_eq, pick_tt, pick_ff, pick_tf, pick_ft, pick_u, reg_some, thn_normal, thn_exit, thn_ret, cnd_t, cnd_f, blk_normal, blk_ret, blk_exit, x_seq, x_region, x_cond, x_block, x_loop, x_ret, x_exit, x_skip, e_mov, e_pick, pk_t, pk_f, withH_some, e_box, bx_some, e_load, e_store, stH_some, e_nil, e_bin, e_eqv, eqH_f, eqH_t, e_un, e_fa, e_ia, ia_eq, nat_eq, natV_nat, e_len, lnH_some, e_extract, ex_0, ex_1, e_call0, e_call1, e_call2, e_call3, pc0_eq, pc1_some, pc2_some, pc3_some, fin_some, g_var0, g_vars, g_loc0, g_locs, g_int, g_bool, g_str, g_sl, s_none, s_zero, s_succ, AV.cl, evFa, evNil, evLoad, asEl, evBin, intBin, strBin, evUn, len_nil, len_slc, len_str, clr, List.length_nil, List.length_cons, List.getElem?_cons_zero, List.getElem?_cons_succ, Nat.reduceAdd, Nat.zero_add, Nat.add_zero, Nat.reduceLeDiff, Nat.reduceSub, ↓reduceIte, List.drop_succ_cons, List.drop_zero, List.take_succ_cons, List.take_zero, Bool.false_eq_true, List.nil_append, List.cons_append, Bool.not_true, Bool.not_false, cond_true, cond_false, bne, lv_ret, lv_normal, res1, res2, lv2_some, res_var, res_cell, lvf_v, lvf_slc]
      · rw [hh]
        simp only [hv, run_nil, run_cons, stp_plain, stp_guard, put_some, pass_eq, pick_tt, pick_ff, pick_tf, pick_ft, pick_u, reg_some, thn_normal, thn_exit, thn_ret, cnd_t, cnd_f, blk_normal, blk_ret, blk_exit, x_seq, x_region, x_cond, x_block, x_loop, x_ret, x_exit, x_skip, e_mov, e_pick, pk_t, pk_f, withH_some, e_box, bx_some, e_load, e_store, stH_some, e_nil, e_bin, e_eqv, eqH_f, eqH_t, e_un, e_fa, e_ia, ia_eq, nat_eq, natV_nat, e_len, lnH_some, e_extract, ex_0, ex_1, e_call0, e_call1, e_call2, e_call3, pc0_eq, pc1_some, pc2_some, pc3_some, fin_some, g_var0, g_vars, g_loc0, g_locs, g_int, g_bool, g_str, g_sl, s_none, s_zero, s_succ, AV.cl, evFa, evNil, evLoad, asEl, evBin, intBin, strBin, evUn, len_nil, len_slc, len_str, clr, List.length_nil, List.length_cons, List.getElem?_cons_zero, List.getElem?_cons_succ, Nat.reduceAdd, Nat.zero_add, Nat.add_zero, Nat.reduceLeDiff, Nat.reduceSub, ↓reduceIte, List.drop_succ_cons, List.drop_zero, List.take_succ_cons, List.take_zero, Bool.false_eq_true, List.nil_append, List.cons_append, Bool.not_true, Bool.not_false, cond_true, cond_false, bne, lv_ret, lv_normal, res1, res2, lv2_some, res_var, res_cell, lvf_v, lvf_slc]

theorem few_ok (t : Tm) (a : AV) (m : Int) (ha : IsT a t) : callW F 30 [a, .v (.int .i64 m)] [] = some (.v (.bool (decide (left t m ≥ 0))), []) := by
  refine callW_pure (c := c30) rfl rfl 0 ?_
  have q5 : ∀ h : List AO, a.snap1 h = some a := fun h => ha.snap
  have q8 : ∀ (h : List AO) (x : Int), (AV.v (.int .i64 x)).snap1 h = some (.v (.int .i64 x)) := fun _ _ => rfl
  have hc := left_ok _ t a m (Nat.lt_succ_self _) ha
  cases ha
  simp only [c30, start, List.replicate, c30_0, c30_1, q5, q8, hc, run_nil, run_cons, stp_plain, stp_guard, put_some, pass_eq, pick_tt, pick_ff, pick_tf, pick_ft, pick_u, reg_some, thn_normal, thn_exit, thn_ret, cnd_t, cnd_f, blk_normal, blk_ret, blk_exit, x_seq, x_region, x_cond, x_block, x_loop, x_ret, x_exit, x_skip, e_mov, e_pick, pk_t, pk_f, withH_some, e_box, bx_some, e_load, e_store, stH_some, e_nil, e_bin, e_eqv, eqH_f, eqH_t, e_un, e_fa, e_ia, ia_eq, nat_eq, natV_nat, e_len, lnH_some, e_extract, ex_0, ex_1, e_call0, e_call1, e_call2, e_call3, pc0_eq, pc1_some, pc2_some, pc3_some, fin_some, g_var0, g_vars, g_loc0, g_locs, g_int, g_bool, g_str, g_sl, s_none, s_zero, s_succ, AV.cl, evFa, evNil, evLoad, asEl, evBin, intBin, strBin, evUn, len_nil, len_slc, len_str, clr, List.length_nil, List.length_cons, List.getElem?_cons_zero, List.getElem?_cons_succ, Nat.reduceAdd, Nat.zero_add, Nat.add_zero, Nat.reduceLeDiff, Nat.reduceSub, ↓reduceIte, List.drop_succ_cons, List.drop_zero, List.take_succ_cons, List.take_zero, Bool.false_eq_true, List.nil_append, List.cons_append, Bool.not_true, Bool.not_false, cond_true, cond_false, bne, lv_ret, lv_normal, res1, res2, lv2_some, res_var, res_cell, lvf_v, lvf_slc]
end Go.AE.Ytpgoibncgekflaa

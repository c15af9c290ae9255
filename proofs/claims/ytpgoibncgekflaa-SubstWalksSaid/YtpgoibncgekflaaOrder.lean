/- SubstOrder, in plain Lean. -/
import Derived.Test.YtpgoibncgekflaaFew
set_option linter.unusedVariables false
set_option linter.unusedSimpArgs false
namespace Go.AE.Ytpgoibncgekflaa
open Go Go.AE Go.Proofs.Ytpgoibncgekflaa

/-- A binding: the Var, the term. -/
inductive IsBd : AV → Int → Tm → Prop
  | mk (v : Int) (cs : List AV) (t : Tm) (h : IsT (.agg cs) t) : IsBd (.agg (.v (.int .i64 v) :: cs)) v t
theorem IsBd.load {h : List AO} {a : AV} {v : Int} {t : Tm} (hb : IsBd a v t) : evLoad h true 5 (.ip a.cells) = some a := by
  cases hb with
  | mk v cs t h => cases h with | mk k s n c l hc => rfl
theorem IsBd.cl {a : AV} {v : Int} {t : Tm} (hb : IsBd a v t) : a.cl = some a.cells ∧ a.cells.length = 5 := by
  cases hb with
  | mk v cs t h => cases h with | mk k s n c l hc => exact ⟨rfl, rfl⟩

def K10 : List Bool := [false, true, false, false, false, false, true, true, true, false, false, false, false, false, false, false]
def L10 (ts c : AV) (len i : Int) : List AV := [.junk, ts, .junk, .junk, .junk, .junk, c, .v (.int .i64 len), .v (.int .i64 i), .junk, .junk, .junk, .junk, .junk, .junk, .junk]

theorem big_step {K : Nat} {ts : AV} {ex nn : Bool} {es : List AV} {h : List AO} {i : Nat} {e : AV} {v : Int} {t : Tm} (he : es[i]? = some e) (hb : IsBd e v t) :
    exec (callW F) K c10_9 (L10 ts (.slc 5 ex nn es) es.length i) h = if 0 ≤ left t 300 then
        some (.normal, [.junk, ts, .junk, .ptr h.length 0, .junk, .junk, .slc 5 ex nn es, .v (.int .i64 es.length), .v (.int .i64 (IntKind.i64.wrap (i + 1))), .v (.bool true), .v (.bool false), .junk, .junk, .junk, .junk, .junk], h ++ [.box e.cells])
      else some (.ret, [.junk, ts, .v (.bool true), .ptr h.length 0, .junk, .junk, .slc 5 ex nn es, .v (.int .i64 es.length), .v (.int .i64 i), .v (.bool true), .v (.bool true), .junk, .junk, .junk, .junk, .junk], h ++ [.box e.cells]) := by
  have hlt : (decide ((i : Int) < (es.length : Int))) = true := by
    have := (List.getElem?_eq_some_iff.1 he).1
    simp; omega
  have q1 : ∀ h, iaV h 5 (.slc 5 ex nn es) (some i) = some (.ip e.cells) := fun h => iaV_slc he
  have q3 : ∀ h : List AO, evLoad h true 5 (.ip e.cells) = some e := fun h => hb.load
  have q6 : ∀ (h : List AO) (cs : List AV), cs.length = 5 → evStore (h ++ [.box cs]) 5 (.ptr h.length 0) e = some (h ++ [.box e.cells]) := fun h cs hl => st_new hb.cl.1 hb.cl.2 hl
  have q9 : (ofVal (.agg #[(.int .i64 0), (.int .i64 0), (.string ⟨#[]⟩), (.int .i64 0), (.slice none 0 0)])).cl = some [.v (.int .i64 0), .v (.int .i64 0), .v (.string ⟨#[]⟩), .v (.int .i64 0), .v (.slice none 0 0)] := by simp [ofVal, AV.cl, Value.oneCell']
  cases hb with
  | mk v cs t ht =>
  have hf := few_ok t _ 300 ht
  have q5 : ∀ h : List AO, (AV.agg cs).snap1 h = some (.agg cs) := fun h => ht.snap
  have q7 : ∀ h : List AO, evLoad (h ++ [.box (AV.agg (.v (.int .i64 v) :: cs)).cells]) true 4 (.ptr h.length 1) = some (.agg cs) := by
    intro h; rw [ld_new]
    cases ht with | mk k s n c l hc => rfl
  have q8 : ∀ (h : List AO) (x : Int), (AV.v (.int .i64 x)).snap1 h = some (.v (.int .i64 x)) := fun _ _ => rfl
  by_cases hp : 0 ≤ left t 300
  · have hd : decide (left t 300 ≥ 0) = true := by simpa using hp
    rw [hd] at hf
    rw [if_pos hp]
    simp only [L10, c10_9, c10_4, c10_5, c10_6, c10_7, c10_8, hlt, q1, q3, q5, q6, q7, q8, q9, g_agg, hf, run_nil, run_cons, stp_plain, stp_guard, put_some, pass_eq, pick_tt, pick_ff, pick_tf, pick_ft, pick_u, reg_some, thn_normal, thn_exit, thn_ret, cnd_t, cnd_f, blk_normal, blk_ret, blk_exit, x_seq, x_region, x_cond, x_block, x_loop, x_ret, x_exit, x_skip, e_mov, e_pick, pk_t, pk_f, withH_some, e_box, bx_some, e_load, e_store, stH_some, e_nil, e_bin, e_eqv, eqH_f, eqH_t, e_un, e_fa, e_ia, ia_eq, nat_eq, natV_nat, e_len, lnH_some, e_extract, ex_0, ex_1, e_call0, e_call1, e_call2, e_call3, pc0_eq, pc1_some, pc2_some, pc3_some, fin_some, g_var0, g_vars, g_loc0, g_locs, g_int, g_bool, g_str, g_sl, s_none, s_zero, s_succ, evFa, evNil, asEl, evBin, intBin, strBin, evUn, len_nil, len_slc, len_str, clr, List.length_nil, List.length_cons, List.getElem?_cons_zero, List.getElem?_cons_succ, Nat.reduceAdd, Nat.zero_add, Nat.add_zero, Nat.reduceLeDiff, Nat.reduceSub, ↓reduceIte, List.drop_succ_cons, List.drop_zero, List.take_succ_cons, List.take_zero, Bool.false_eq_true, List.nil_append, List.cons_append, Bool.not_true, Bool.not_false, cond_true, cond_false, bne, lv_ret, lv_normal, res1, res2, lv2_some, res_var, res_cell, lvf_v, lvf_slc]
  · have hd : decide (left t 300 ≥ 0) = false := by simpa using hp
    rw [hd] at hf
    rw [if_neg hp]
    simp only [L10, c10_9, c10_4, c10_5, c10_6, c10_7, c10_8, hlt, q1, q3, q5, q6, q7, q8, q9, g_agg, hf, run_nil, run_cons, stp_plain, stp_guard, put_some, pass_eq, pick_tt, pick_ff, pick_tf, pick_ft, pick_u, reg_some, thn_normal, thn_exit, thn_ret, cnd_t, cnd_f, blk_normal, blk_ret, blk_exit, x_seq, x_region, x_cond, x_block, x_loop, x_ret, x_exit, x_skip, e_mov, e_pick, pk_t, pk_f, withH_some, e_box, bx_some, e_load, e_store, stH_some, e_nil, e_bin, e_eqv, eqH_f, eqH_t, e_un, e_fa, e_ia, ia_eq, nat_eq, natV_nat, e_len, lnH_some, e_extract, ex_0, ex_1, e_call0, e_call1, e_call2, e_call3, pc0_eq, pc1_some, pc2_some, pc3_some, fin_some, g_var0, g_vars, g_loc0, g_locs, g_int, g_bool, g_str, g_sl, s_none, s_zero, s_succ, evFa, evNil, asEl, evBin, intBin, strBin, evUn, len_nil, len_slc, len_str, clr, List.length_nil, List.length_cons, List.getElem?_cons_zero, List.getElem?_cons_succ, Nat.reduceAdd, Nat.zero_add, Nat.add_zero, Nat.reduceLeDiff, Nat.reduceSub, ↓reduceIte, List.drop_succ_cons, List.drop_zero, List.take_succ_cons, List.take_zero, Bool.false_eq_true, List.nil_append, List.cons_append, Bool.not_true, Bool.not_false, cond_true, cond_false, bne, lv_ret, lv_normal, res1, res2, lv2_some, res_var, res_cell, lvf_v, lvf_slc]

inductive AllB : List AV → List (Int × Tm) → Prop
  | nil : AllB [] []
  | cons (a : AV) (v : Int) (t : Tm) (es : List AV) (bs : List (Int × Tm)) (h : IsBd a v t) (hs : AllB es bs) : AllB (a :: es) ((v, t) :: bs)
theorem AllB.length : ∀ {es : List AV} {l : List (Int × Tm)}, AllB es l → es.length = l.length
  | _, _, .nil => rfl
  | _, _, .cons _ _ _ _ _ _ hs => by simp [hs.length]
/-- A slice of bindings. -/
inductive IsB : AV → List (Int × Tm) → Prop
  | nil : IsB (.v (.slice none 0 0)) []
  | slc (ex nn : Bool) (es : List AV) (l : List (Int × Tm)) (h : AllB es l) (hb : es.length ≤ maxLen) : IsB (.slc 5 ex nn es) l

theorem big_loop1 {K : Nat} {ts : AV} {ex nn : Bool} {es : List AV} (hmax : es.length ≤ maxLen) :
    ∀ (l : List (Int × Tm)) (i : Nat) (h : List AO), i + l.length = es.length → AllB (es.drop i) l →
      ∃ h', if l.all (fun p => decide (0 ≤ left p.2 300)) = true then
          loopN (exec (callW F) K c10_9) K10 (l.length + 1) (L10 ts (.slc 5 ex nn es) es.length i) h = some (.exit 0, [.junk, ts, .junk, .junk, .junk, .junk, .slc 5 ex nn es, .v (.int .i64 es.length), .v (.int .i64 es.length), .v (.bool false), .junk, .junk, .junk, .junk, .junk, .junk], h')
        else ∃ vs, loopN (exec (callW F) K c10_9) K10 (l.length + 1) (L10 ts (.slc 5 ex nn es) es.length i) h = some (.ret, vs, h') ∧ getO vs [] (.var 2) = .v (.bool true) := by
  intro l
  induction l with
  | nil =>
    intro i h hi _
    refine ⟨h, ?_⟩
    rw [if_pos (by rfl)]
    refine loop_exit ?_
    have hil : i = es.length := by simpa using hi
    subst hil
    have hlt : decide ((es.length : Int) < (es.length : Int)) = false := by simp
    simp only [K10, L10, c10_9, c10_4, hlt, run_nil, run_cons, stp_plain, stp_guard, put_some, pass_eq, pick_tt, pick_ff, pick_tf, pick_ft, pick_u, reg_some, thn_normal, thn_exit, thn_ret, cnd_t, cnd_f, blk_normal, blk_ret, blk_exit, x_seq, x_region, x_cond, x_block, x_loop, x_ret, x_exit, x_skip, e_mov, e_pick, pk_t, pk_f, withH_some, e_box, bx_some, e_load, e_store, stH_some, e_nil, e_bin, e_eqv, eqH_f, eqH_t, e_un, e_fa, e_ia, ia_eq, nat_eq, natV_nat, e_len, lnH_some, e_extract, ex_0, ex_1, e_call0, e_call1, e_call2, e_call3, pc0_eq, pc1_some, pc2_some, pc3_some, fin_some, g_var0, g_vars, g_loc0, g_locs, g_int, g_bool, g_str, g_sl, s_none, s_zero, s_succ, AV.cl, evFa, evNil, evLoad, asEl, evBin, intBin, strBin, evUn, len_nil, len_slc, len_str, clr, List.length_nil, List.length_cons, List.getElem?_cons_zero, List.getElem?_cons_succ, Nat.reduceAdd, Nat.zero_add, Nat.add_zero, Nat.reduceLeDiff, Nat.reduceSub, ↓reduceIte, List.drop_succ_cons, List.drop_zero, List.take_succ_cons, List.take_zero, Bool.false_eq_true, List.nil_append, List.cons_append, Bool.not_true, Bool.not_false, cond_true, cond_false, bne, lv_ret, lv_normal, res1, res2, lv2_some, res_var, res_cell, lvf_v, lvf_slc]
  | cons p l ih =>
    intro i h hi hes
    have hil : i < es.length := by simp at hi; omega
    have he : es[i]? = some (es[i]'hil) := List.getElem?_eq_getElem _
    have hd : es.drop i = es[i] :: es.drop (i + 1) := List.drop_eq_getElem_cons hil
    rw [hd] at hes
    cases hes with
    | cons _ v t _ _ hT hs =>
    have st := big_step (K := K) (ts := ts) (ex := ex) (nn := nn) (h := h) he hT
    have e1 : clr K10 (L10 ts (.slc 5 ex nn es) es.length i) = L10 ts (.slc 5 ex nn es) es.length i := rfl
    by_cases hp : 0 ≤ left t 300
    · rw [if_pos hp, wrap_succ hil hmax] at st
      obtain ⟨h', hh⟩ := ih (i + 1) (h ++ [.box (es[i]).cells]) (by simp at hi; omega) hs
      refine ⟨h', ?_⟩
      rw [show (((v, t) :: l).length + 1) = (l.length + 1) + 1 from rfl, loop_normal (by rw [e1]; exact st), loop_cong (v2 := L10 ts (.slc 5 ex nn es) es.length ((i + 1 : Nat) : Int)) (by rfl)]
      have : ((v, t) :: l).all (fun p => decide (0 ≤ left p.2 300)) = l.all (fun p => decide (0 ≤ left p.2 300)) := by simp [hp]
      rw [this]
      exact hh
    · rw [if_neg hp] at st
      refine ⟨h ++ [.box (es[i]).cells], ?_⟩
      have : ((v, t) :: l).all (fun p => decide (0 ≤ left p.2 300)) = false := by simp [hp]
      rw [this, if_neg (by simp)]
      exact ⟨_, loop_ret (by rw [e1]; exact st), rfl⟩

def K10b : List Bool := [false, false, false, false, false, false, false, false, false, false, false, true, true, true, false, false]
def L10b (c : AV) (len i : Int) : List AV := [.junk, .junk, .junk, .junk, .junk, .junk, .junk, .junk, .junk, .junk, .junk, c, .v (.int .i64 len), .v (.int .i64 i), .junk, .junk]

theorem big_step2 {K : Nat} {ex nn : Bool} {es : List AV} {h : List AO} {i : Nat} {e : AV} {t : Tm} (he : es[i]? = some e) (ht : IsT e t) :
    exec (callW F) K c10_16 (L10b (.slc 4 ex nn es) es.length i) h = if 0 ≤ left t 3000 then
        some (.normal, [.junk, .junk, .junk, .junk, .ptr h.length 0, .junk, .junk, .junk, .junk, .junk, .junk, .slc 4 ex nn es, .v (.int .i64 es.length), .v (.int .i64 (IntKind.i64.wrap (i + 1))), .v (.bool true), .v (.bool false)], h ++ [.box e.cells])
      else some (.ret, [.junk, .junk, .v (.bool true), .junk, .ptr h.length 0, .junk, .junk, .junk, .junk, .junk, .junk, .slc 4 ex nn es, .v (.int .i64 es.length), .v (.int .i64 i), .v (.bool true), .v (.bool true)], h ++ [.box e.cells]) := by
  have hlt : (decide ((i : Int) < (es.length : Int))) = true := by
    have := (List.getElem?_eq_some_iff.1 he).1
    simp; omega
  have q1 : ∀ h, iaV h 4 (.slc 4 ex nn es) (some i) = some (.ip e.cells) := fun h => iaV_slc he
  have q3 : ∀ h : List AO, evLoad h true 4 (.ip e.cells) = some e := fun h => ht.load
  have q5 : ∀ h : List AO, e.snap1 h = some e := fun h => ht.snap
  have q6 : ∀ (h : List AO) (cs : List AV), cs.length = 4 → evStore (h ++ [.box cs]) 4 (.ptr h.length 0) e = some (h ++ [.box e.cells]) := fun h cs hl => st_new ht.cl.1 ht.cl.2 hl
  have q7 : ∀ h : List AO, evLoad (h ++ [.box e.cells]) true 4 (.ptr h.length 0) = some e := fun h => by rw [ld_new, if_pos (by rw [ht.cl.2]; omega), List.drop_zero]; exact ht.asEl
  have q8 : ∀ (h : List AO) (x : Int), (AV.v (.int .i64 x)).snap1 h = some (.v (.int .i64 x)) := fun _ _ => rfl
  have q9 : (ofVal (.agg #[(.int .i64 0), (.string ⟨#[]⟩), (.int .i64 0), (.slice none 0 0)])).cl = some [.v (.int .i64 0), .v (.string ⟨#[]⟩), .v (.int .i64 0), .v (.slice none 0 0)] := by simp [ofVal, AV.cl, Value.oneCell']
  have hf := few_ok t _ 3000 ht
  by_cases hp : 0 ≤ left t 3000
  · have hd : decide (left t 3000 ≥ 0) = true := by simpa using hp
    rw [hd] at hf
    rw [if_pos hp]
    simp only [L10b, c10_16, c10_11, c10_12, c10_13, c10_14, c10_15, hlt, q1, q3, q5, q6, q7, q8, q9, g_agg, hf, run_nil, run_cons, stp_plain, stp_guard, put_some, pass_eq, pick_tt, pick_ff, pick_tf, pick_ft, pick_u, reg_some, thn_normal, thn_exit, thn_ret, cnd_t, cnd_f, blk_normal, blk_ret, blk_exit, x_seq, x_region, x_cond, x_block, x_loop, x_ret, x_exit, x_skip, e_mov, e_pick, pk_t, pk_f, withH_some, e_box, bx_some, e_load, e_store, stH_some, e_nil, e_bin, e_eqv, eqH_f, eqH_t, e_un, e_fa, e_ia, ia_eq, nat_eq, natV_nat, e_len, lnH_some, e_extract, ex_0, ex_1, e_call0, e_call1, e_call2, e_call3, pc0_eq, pc1_some, pc2_some, pc3_some, fin_some, g_var0, g_vars, g_loc0, g_locs, g_int, g_bool, g_str, g_sl, s_none, s_zero, s_succ, evFa, evNil, asEl, evBin, intBin, strBin, evUn, len_nil, len_slc, len_str, clr, List.length_nil, List.length_cons, List.getElem?_cons_zero, List.getElem?_cons_succ, Nat.reduceAdd, Nat.zero_add, Nat.add_zero, Nat.reduceLeDiff, Nat.reduceSub, ↓reduceIte, List.drop_succ_cons, List.drop_zero, List.take_succ_cons, List.take_zero, Bool.false_eq_true, List.nil_append, List.cons_append, Bool.not_true, Bool.not_false, cond_true, cond_false, bne, lv_ret, lv_normal, res1, res2, lv2_some, res_var, res_cell, lvf_v, lvf_slc]
  · have hd : decide (left t 3000 ≥ 0) = false := by simpa using hp
    rw [hd] at hf
    rw [if_neg hp]
    simp only [L10b, c10_16, c10_11, c10_12, c10_13, c10_14, c10_15, hlt, q1, q3, q5, q6, q7, q8, q9, g_agg, hf, run_nil, run_cons, stp_plain, stp_guard, put_some, pass_eq, pick_tt, pick_ff, pick_tf, pick_ft, pick_u, reg_some, thn_normal, thn_exit, thn_ret, cnd_t, cnd_f, blk_normal, blk_ret, blk_exit, x_seq, x_region, x_cond, x_block, x_loop, x_ret, x_exit, x_skip, e_mov, e_pick, pk_t, pk_f, withH_some, e_box, bx_some, e_load, e_store, stH_some, e_nil, e_bin, e_eqv, eqH_f, eqH_t, e_un, e_fa, e_ia, ia_eq, nat_eq, natV_nat, e_len, lnH_some, e_extract, ex_0, ex_1, e_call0, e_call1, e_call2, e_call3, pc0_eq, pc1_some, pc2_some, pc3_some, fin_some, g_var0, g_vars, g_loc0, g_locs, g_int, g_bool, g_str, g_sl, s_none, s_zero, s_succ, evFa, evNil, asEl, evBin, intBin, strBin, evUn, len_nil, len_slc, len_str, clr, List.length_nil, List.length_cons, List.getElem?_cons_zero, List.getElem?_cons_succ, Nat.reduceAdd, Nat.zero_add, Nat.add_zero, Nat.reduceLeDiff, Nat.reduceSub, ↓reduceIte, List.drop_succ_cons, List.drop_zero, List.take_succ_cons, List.take_zero, Bool.false_eq_true, List.nil_append, List.cons_append, Bool.not_true, Bool.not_false, cond_true, cond_false, bne, lv_ret, lv_normal, res1, res2, lv2_some, res_var, res_cell, lvf_v, lvf_slc]

theorem big_loop2 {K : Nat} {ex nn : Bool} {es : List AV} (hmax : es.length ≤ maxLen) :
    ∀ (l : List Tm) (i : Nat) (h : List AO), i + l.length = es.length → All2 (es.drop i) l →
      ∃ h', if l.all (fun t => decide (0 ≤ left t 3000)) = true then
          loopN (exec (callW F) K c10_16) K10b (l.length + 1) (L10b (.slc 4 ex nn es) es.length i) h = some (.exit 2, [.junk, .junk, .junk, .junk, .junk, .junk, .junk, .junk, .junk, .junk, .junk, .slc 4 ex nn es, .v (.int .i64 es.length), .v (.int .i64 es.length), .v (.bool false), .junk], h')
        else ∃ vs, loopN (exec (callW F) K c10_16) K10b (l.length + 1) (L10b (.slc 4 ex nn es) es.length i) h = some (.ret, vs, h') ∧ getO vs [] (.var 2) = .v (.bool true) := by
  intro l
  induction l with
  | nil =>
    intro i h hi _
    refine ⟨h, ?_⟩
    rw [if_pos (by rfl)]
    refine loop_exit ?_
    have hil : i = es.length := by simpa using hi
    subst hil
    have hlt : decide ((es.length : Int) < (es.length : Int)) = false := by simp
    simp only [K10b, L10b, c10_16, c10_11, hlt, run_nil, run_cons, stp_plain, stp_guard, put_some, pass_eq, pick_tt, pick_ff, pick_tf, pick_ft, pick_u, reg_some, thn_normal, thn_exit, thn_ret, cnd_t, cnd_f, blk_normal, blk_ret, blk_exit, x_seq, x_region, x_cond, x_block, x_loop, x_ret, x_exit, x_skip, e_mov, e_pick, pk_t, pk_f, withH_some, e_box, bx_some, e_load, e_store, stH_some, e_nil, e_bin, e_eqv, eqH_f, eqH_t, e_un, e_fa, e_ia, ia_eq, nat_eq, natV_nat, e_len, lnH_some, e_extract, ex_0, ex_1, e_call0, e_call1, e_call2, e_call3, pc0_eq, pc1_some, pc2_some, pc3_some, fin_some, g_var0, g_vars, g_loc0, g_locs, g_int, g_bool, g_str, g_sl, s_none, s_zero, s_succ, AV.cl, evFa, evNil, evLoad, asEl, evBin, intBin, strBin, evUn, len_nil, len_slc, len_str, clr, List.length_nil, List.length_cons, List.getElem?_cons_zero, List.getElem?_cons_succ, Nat.reduceAdd, Nat.zero_add, Nat.add_zero, Nat.reduceLeDiff, Nat.reduceSub, ↓reduceIte, List.drop_succ_cons, List.drop_zero, List.take_succ_cons, List.take_zero, Bool.false_eq_true, List.nil_append, List.cons_append, Bool.not_true, Bool.not_false, cond_true, cond_false, bne, lv_ret, lv_normal, res1, res2, lv2_some, res_var, res_cell, lvf_v, lvf_slc]
  | cons t l ih =>
    intro i h hi hes
    have hil : i < es.length := by simp at hi; omega
    have he : es[i]? = some (es[i]'hil) := List.getElem?_eq_getElem _
    have hd : es.drop i = es[i] :: es.drop (i + 1) := List.drop_eq_getElem_cons hil
    rw [hd] at hes
    cases hes with
    | cons _ _ _ _ hT hs =>
    have st := big_step2 (K := K) (ex := ex) (nn := nn) (h := h) he hT
    have e1 : clr K10b (L10b (.slc 4 ex nn es) es.length i) = L10b (.slc 4 ex nn es) es.length i := rfl
    by_cases hp : 0 ≤ left t 3000
    · rw [if_pos hp, wrap_succ hil hmax] at st
      obtain ⟨h', hh⟩ := ih (i + 1) (h ++ [.box (es[i]).cells]) (by simp at hi; omega) hs
      refine ⟨h', ?_⟩
      rw [show ((t :: l).length + 1) = (l.length + 1) + 1 from rfl, loop_normal (by rw [e1]; exact st), loop_cong (v2 := L10b (.slc 4 ex nn es) es.length ((i + 1 : Nat) : Int)) (by rfl)]
      have : (t :: l).all (fun t => decide (0 ≤ left t 3000)) = l.all (fun t => decide (0 ≤ left t 3000)) := by simp [hp]
      rw [this]
      exact hh
    · rw [if_neg hp] at st
      refine ⟨h ++ [.box (es[i]).cells], ?_⟩
      have : (t :: l).all (fun t => decide (0 ≤ left t 3000)) = false := by simp [hp]
      rw [this, if_neg (by simp)]
      exact ⟨_, loop_ret (by rw [e1]; exact st), rfl⟩

def big (bs : List (Int × Tm)) (l : List Tm) : Bool := decide (100 < bs.length) || !(bs.all fun p => decide (0 ≤ left p.2 300)) || !(l.all fun t => decide (0 ≤ left t 3000))

theorem loop_more {step : List AV → List AO → CRun} {keep : List Bool} {n m : Nat} {v : List AV} {h : List AO} {r : AXit × List AV × List AO} (he : loopN step keep n v h = some r) (hle : n ≤ m) : loopN step keep m v h = some r :=
  loopN_mono (fun _ _ _ h => h) n m hle v h r he

/-- the second half -/
theorem big_rest {K : Nat} {ex nn : Bool} {es : List AV} {l : List Tm} (hes : All2 es l) (hm : es.length ≤ maxLen) (hK : l.length ≤ K) (x0 x2 x3 x4 x5 x6 x7 x8 x9 x10 x11 x12 x13 x14 x15 : AV) (h : List AO) :
    ∃ vs h', exec (callW F) (K + 1) (.seq (.seq (.region [] [] c10_10) (.block 2 (.loop [false, false, false, false, false, false, false, false, false, false, false, true, true, true, false, false] [] c10_16))) (.seq (.region [] [] c10_17) .ret)) [x0, .slc 4 ex nn es, x2, x3, x4, x5, x6, x7, x8, x9, x10, x11, x12, x13, x14, x15] h = some (.ret, vs, h') ∧ getO vs [] (.var 2) = .v (.bool !(l.all fun t => decide (0 ≤ left t 3000))) := by
  have e1 := hes.length
  obtain ⟨h', hh⟩ := big_loop2 (K := K + 1) (ex := ex) (nn := nn) hm l 0 h (by omega) (by simpa using hes)
  have start2 : exec (callW F) (K + 1) (.seq (.seq (.region [] [] c10_10) (.block 2 (.loop [false, false, false, false, false, false, false, false, false, false, false, true, true, true, false, false] [] c10_16))) (.seq (.region [] [] c10_17) .ret)) [x0, .slc 4 ex nn es, x2, x3, x4, x5, x6, x7, x8, x9, x10, x11, x12, x13, x14, x15] h =
      thn (callW F) (K + 1) (.seq (.region [] [] c10_17) .ret) (blk 2 (loopN (exec (callW F) (K + 1) c10_16) K10b (K + 1) [x0, .slc 4 ex nn es, x2, x3, x4, x5, x6, x7, x8, x9, x10, .slc 4 ex nn es, .v (.int .i64 es.length), .v (.int .i64 0), x14, x15] h)) := by
    simp only [K10b, c10_10, run_nil, run_cons, stp_plain, stp_guard, put_some, pass_eq, pick_tt, pick_ff, pick_tf, pick_ft, pick_u, reg_some, thn_normal, thn_exit, thn_ret, cnd_t, cnd_f, blk_normal, blk_ret, blk_exit, x_seq, x_region, x_cond, x_block, x_loop, x_ret, x_exit, x_skip, e_mov, e_pick, pk_t, pk_f, withH_some, e_box, bx_some, e_load, e_store, stH_some, e_nil, e_bin, e_eqv, eqH_f, eqH_t, e_un, e_fa, e_ia, ia_eq, nat_eq, natV_nat, e_len, lnH_some, e_extract, ex_0, ex_1, e_call0, e_call1, e_call2, e_call3, pc0_eq, pc1_some, pc2_some, pc3_some, fin_some, g_var0, g_vars, g_loc0, g_locs, g_int, g_bool, g_str, g_sl, s_none, s_zero, s_succ, AV.cl, evFa, evNil, evLoad, asEl, evBin, intBin, strBin, evUn, len_nil, len_slc, len_str, clr, List.length_nil, List.length_cons, List.getElem?_cons_zero, List.getElem?_cons_succ, Nat.reduceAdd, Nat.zero_add, Nat.add_zero, Nat.reduceLeDiff, Nat.reduceSub, ↓reduceIte, List.drop_succ_cons, List.drop_zero, List.take_succ_cons, List.take_zero, Bool.false_eq_true, List.nil_append, List.cons_append, Bool.not_true, Bool.not_false, cond_true, cond_false, bne, lv_ret, lv_normal, res1, res2, lv2_some, res_var, res_cell, lvf_v, lvf_slc]
  rw [start2, loop_cong (v2 := L10b (.slc 4 ex nn es) es.length ((0 : Nat) : Int)) (by rfl)]
  cases hall : l.all (fun t => decide (0 ≤ left t 3000)) with
  | true =>
    rw [hall, if_pos rfl] at hh
    rw [loop_more hh (by omega)]
    refine ⟨[.junk, .junk, .v (.bool false), .junk, .junk, .junk, .junk, .junk, .junk, .junk, .junk, .slc 4 ex nn es, .v (.int .i64 es.length), .v (.int .i64 es.length), .v (.bool false), .junk], h', ?_, rfl⟩
    simp only [c10_17, run_nil, run_cons, stp_plain, stp_guard, put_some, pass_eq, pick_tt, pick_ff, pick_tf, pick_ft, pick_u, reg_some, thn_normal, thn_exit, thn_ret, cnd_t, cnd_f, blk_normal, blk_ret, blk_exit, x_seq, x_region, x_cond, x_block, x_loop, x_ret, x_exit, x_skip, e_mov, e_pick, pk_t, pk_f, withH_some, e_box, bx_some, e_load, e_store, stH_some, e_nil, e_bin, e_eqv, eqH_f, eqH_t, e_un, e_fa, e_ia, ia_eq, nat_eq, natV_nat, e_len, lnH_some, e_extract, ex_0, ex_1, e_call0, e_call1, e_call2, e_call3, pc0_eq, pc1_some, pc2_some, pc3_some, fin_some, g_var0, g_vars, g_loc0, g_locs, g_int, g_bool, g_str, g_sl, s_none, s_zero, s_succ, AV.cl, evFa, evNil, evLoad, asEl, evBin, intBin, strBin, evUn, len_nil, len_slc, len_str, clr, List.length_nil, List.length_cons, List.getElem?_cons_zero, List.getElem?_cons_succ, Nat.reduceAdd, Nat.zero_add, Nat.add_zero, Nat.reduceLeDiff, Nat.reduceSub, ↓reduceIte, List.drop_succ_cons, List.drop_zero, List.take_succ_cons, List.take_zero, Bool.false_eq_true, List.nil_append, List.cons_append, Bool.not_true, Bool.not_false, cond_true, cond_false, bne, lv_ret, lv_normal, res1, res2, lv2_some, res_var, res_cell, lvf_v, lvf_slc]
  | false =>
    rw [hall, if_neg (by simp)] at hh
    obtain ⟨vs, h1, h2⟩ := hh
    rw [loop_more h1 (by omega)]
    exact ⟨vs, h', by simp only [run_nil, run_cons, stp_plain, stp_guard, put_some, pass_eq, pick_tt, pick_ff, pick_tf, pick_ft, pick_u, reg_some, thn_normal, thn_exit, thn_ret, cnd_t, cnd_f, blk_normal, blk_ret, blk_exit, x_seq, x_region, x_cond, x_block, x_loop, x_ret, x_exit, x_skip, e_mov, e_pick, pk_t, pk_f, withH_some, e_box, bx_some, e_load, e_store, stH_some, e_nil, e_bin, e_eqv, eqH_f, eqH_t, e_un, e_fa, e_ia, ia_eq, nat_eq, natV_nat, e_len, lnH_some, e_extract, ex_0, ex_1, e_call0, e_call1, e_call2, e_call3, pc0_eq, pc1_some, pc2_some, pc3_some, fin_some, g_var0, g_vars, g_loc0, g_locs, g_int, g_bool, g_str, g_sl, s_none, s_zero, s_succ, AV.cl, evFa, evNil, evLoad, asEl, evBin, intBin, strBin, evUn, len_nil, len_slc, len_str, clr, List.length_nil, List.length_cons, List.getElem?_cons_zero, List.getElem?_cons_succ, Nat.reduceAdd, Nat.zero_add, Nat.add_zero, Nat.reduceLeDiff, Nat.reduceSub, ↓reduceIte, List.drop_succ_cons, List.drop_zero, List.take_succ_cons, List.take_zero, Bool.false_eq_true, List.nil_append, List.cons_append, Bool.not_true, Bool.not_false, cond_true, cond_false, bne, lv_ret, lv_normal, res1, res2, lv2_some, res_var, res_cell, lvf_v, lvf_slc], h2⟩

theorem big_ok {b ts : AV} {bs : List (Int × Tm)} {l : List Tm} (hb : IsB b bs) {ex nn : Bool} {es : List AV} (hts : ts = .slc 4 ex nn es) (hes : All2 es l) (hm : es.length ≤ maxLen) : callW F 10 [b, ts] [] = some (.v (.bool (big bs l)), []) := by
  subst hts
  by_cases h100 : 100 < bs.length
  · -- too many
    have hbig : big bs l = true := by simp [big, h100]
    rw [hbig]
    cases hb with
    | nil => simp at h100
    | slc ex' nn' es' _ hes' hm' =>
      have hgt : decide ((es'.length : Int) > 100) = true := by have := hes'.length; simp; omega
      refine callW_pure (c := c10) rfl rfl 0 ?_
      simp only [c10, start, List.replicate, c10_0, c10_1, c10_2, hgt, run_nil, run_cons, stp_plain, stp_guard, put_some, pass_eq, pick_tt, pick_ff, pick_tf, pick_ft, pick_u, reg_some, thn_normal, thn_exit, thn_ret, cnd_t, cnd_f, blk_normal, blk_ret, blk_exit, x_seq, x_region, x_cond, x_block, x_loop, x_ret, x_exit, x_skip, e_mov, e_pick, pk_t, pk_f, withH_some, e_box, bx_some, e_load, e_store, stH_some, e_nil, e_bin, e_eqv, eqH_f, eqH_t, e_un, e_fa, e_ia, ia_eq, nat_eq, natV_nat, e_len, lnH_some, e_extract, ex_0, ex_1, e_call0, e_call1, e_call2, e_call3, pc0_eq, pc1_some, pc2_some, pc3_some, fin_some, g_var0, g_vars, g_loc0, g_locs, g_int, g_bool, g_str, g_sl, s_none, s_zero, s_succ, AV.cl, evFa, evNil, evLoad, asEl, evBin, intBin, strBin, evUn, len_nil, len_slc, len_str, clr, List.length_nil, List.length_cons, List.getElem?_cons_zero, List.getElem?_cons_succ, Nat.reduceAdd, Nat.zero_add, Nat.add_zero, Nat.reduceLeDiff, Nat.reduceSub, ↓reduceIte, List.drop_succ_cons, List.drop_zero, List.take_succ_cons, List.take_zero, Bool.false_eq_true, List.nil_append, List.cons_append, Bool.not_true, Bool.not_false, cond_true, cond_false, bne, lv_ret, lv_normal, res1, res2, lv2_some, res_var, res_cell, lvf_v, lvf_slc]
  · cases hb with
    | nil =>
      have hbig : big [] l = !(l.all fun t => decide (0 ≤ left t 3000)) := by simp [big]
      rw [hbig]
      have hgt : decide (((0 : Nat) : Int) > 100) = false := by simp
      have hl : ∀ (K : Nat) (vars : List AV) (h : List AO), clr [false, true, false, false, false, false, true, true, true, false, false, false, false, false, false, false] vars = [.junk, .slc 4 ex nn es, .junk, .junk, .junk, .junk, .v (.slice none 0 0), .v (.int .i64 ((0 : Nat) : Int)), .v (.int .i64 0), .junk, .junk, .junk, .junk, .junk, .junk, .junk] →
          loopN (exec (callW F) K c10_9) [false, true, false, false, false, false, true, true, true, false, false, false, false, false, false, false] (l.length + 1) vars h = some (.exit 0, [.junk, .slc 4 ex nn es, .junk, .junk, .junk, .junk, .v (.slice none 0 0), .v (.int .i64 ((0 : Nat) : Int)), .v (.int .i64 0), .v (.bool false), .junk, .junk, .junk, .junk, .junk, .junk], h) := by
        intro K vars h hv
        refine loop_exit ?_
        rw [hv]
        have hlt : decide ((0 : Int) < ((0 : Nat) : Int)) = false := by simp
        simp only [c10_9, c10_4, hlt, run_nil, run_cons, stp_plain, stp_guard, put_some, pass_eq, pick_tt, pick_ff, pick_tf, pick_ft, pick_u, reg_some, thn_normal, thn_exit, thn_ret, cnd_t, cnd_f, blk_normal, blk_ret, blk_exit, x_seq, x_region, x_cond, x_block, x_loop, x_ret, x_exit, x_skip, e_mov, e_pick, pk_t, pk_f, withH_some, e_box, bx_some, e_load, e_store, stH_some, e_nil, e_bin, e_eqv, eqH_f, eqH_t, e_un, e_fa, e_ia, ia_eq, nat_eq, natV_nat, e_len, lnH_some, e_extract, ex_0, ex_1, e_call0, e_call1, e_call2, e_call3, pc0_eq, pc1_some, pc2_some, pc3_some, fin_some, g_var0, g_vars, g_loc0, g_locs, g_int, g_bool, g_str, g_sl, s_none, s_zero, s_succ, AV.cl, evFa, evNil, evLoad, asEl, evBin, intBin, strBin, evUn, len_nil, len_slc, len_str, clr, List.length_nil, List.length_cons, List.getElem?_cons_zero, List.getElem?_cons_succ, Nat.reduceAdd, Nat.zero_add, Nat.add_zero, Nat.reduceLeDiff, Nat.reduceSub, ↓reduceIte, List.drop_succ_cons, List.drop_zero, List.take_succ_cons, List.take_zero, Bool.false_eq_true, List.nil_append, List.cons_append, Bool.not_true, Bool.not_false, cond_true, cond_false, bne, lv_ret, lv_normal, res1, res2, lv2_some, res_var, res_cell, lvf_v, lvf_slc]
      obtain ⟨vs, h', hx, hv⟩ := big_rest (K := l.length) (ex := ex) (nn := nn) hes hm (Nat.le_refl _) .junk .junk .junk .junk .junk (.v (.slice none 0 0)) (.v (.int .i64 ((0 : Nat) : Int))) (.v (.int .i64 0)) (.v (.bool false)) .junk .junk .junk .junk .junk .junk []
      refine callW_pure (c := c10) rfl rfl (l.length + 1) ?_
      have body : exec (callW F) (l.length + 1) c10.body (start c10 [.v (.slice none 0 0), .slc 4 ex nn es]) [] = exec (callW F) (l.length + 1) (.seq (.seq (.region [] [] c10_10) (.block 2 (.loop [false, false, false, false, false, false, false, false, false, false, false, true, true, true, false, false] [] c10_16))) (.seq (.region [] [] c10_17) .ret))
          [.junk, .slc 4 ex nn es, .junk, .junk, .junk, .junk, .v (.slice none 0 0), .v (.int .i64 ((0 : Nat) : Int)), .v (.int .i64 0), .v (.bool false), .junk, .junk, .junk, .junk, .junk, .junk] [] := by
        show exec (callW F) (l.length + 1) (.seq (.region [] [] c10_0) (.seq (.seq (.region [] [] c10_1) (.cond (.var 5) (.seq (.region [] [] c10_2) .ret) .skip)) (.seq (.seq (.region [] [] c10_3) (.block 0 (.loop [false, true, false, false, false, false, true, true, true, false, false, false, false, false, false, false] [] c10_9))) (.seq (.seq (.region [] [] c10_10) (.block 2 (.loop [false, false, false, false, false, false, false, false, false, false, false, true, true, true, false, false] [] c10_16))) (.seq (.region [] [] c10_17) .ret))))) _ _ = _
        generalize (CC.seq (.seq (.region [] [] c10_10) (.block 2 (.loop [false, false, false, false, false, false, false, false, false, false, false, true, true, true, false, false] [] c10_16))) (.seq (.region [] [] c10_17) .ret)) = rest
        simp only [c10, start, List.replicate, c10_0, c10_1, c10_3, hgt, run_nil, run_cons, stp_plain, stp_guard, put_some, pass_eq, pick_tt, pick_ff, pick_tf, pick_ft, pick_u, reg_some, thn_normal, thn_exit, thn_ret, cnd_t, cnd_f, blk_normal, blk_ret, blk_exit, x_seq, x_region, x_cond, x_block, x_loop, x_ret, x_exit, x_skip, e_mov, e_pick, pk_t, pk_f, withH_some, e_box, bx_some, e_load, e_store, stH_some, e_nil, e_bin, e_eqv, eqH_f, eqH_t, e_un, e_fa, e_ia, ia_eq, nat_eq, natV_nat, e_len, lnH_some, e_extract, ex_0, ex_1, e_call0, e_call1, e_call2, e_call3, pc0_eq, pc1_some, pc2_some, pc3_some, fin_some, g_var0, g_vars, g_loc0, g_locs, g_int, g_bool, g_str, g_sl, s_none, s_zero, s_succ, AV.cl, evFa, evNil, evLoad, asEl, evBin, intBin, strBin, evUn, len_nil, len_slc, len_str, clr, List.length_nil, List.length_cons, List.getElem?_cons_zero, List.getElem?_cons_succ, Nat.reduceAdd, Nat.zero_add, Nat.add_zero, Nat.reduceLeDiff, Nat.reduceSub, ↓reduceIte, List.drop_succ_cons, List.drop_zero, List.take_succ_cons, List.take_zero, Bool.false_eq_true, List.nil_append, List.cons_append, Bool.not_true, Bool.not_false, cond_true, cond_false, bne, lv_ret, lv_normal, res1, res2, lv2_some, res_var, res_cell, lvf_v, lvf_slc]
        rw [hl _ _ _ (by rfl)]
        simp only [run_nil, run_cons, stp_plain, stp_guard, put_some, pass_eq, pick_tt, pick_ff, pick_tf, pick_ft, pick_u, reg_some, thn_normal, thn_exit, thn_ret, cnd_t, cnd_f, blk_normal, blk_ret, blk_exit, x_seq, x_region, x_cond, x_block, x_loop, x_ret, x_exit, x_skip, e_mov, e_pick, pk_t, pk_f, withH_some, e_box, bx_some, e_load, e_store, stH_some, e_nil, e_bin, e_eqv, eqH_f, eqH_t, e_un, e_fa, e_ia, ia_eq, nat_eq, natV_nat, e_len, lnH_some, e_extract, ex_0, ex_1, e_call0, e_call1, e_call2, e_call3, pc0_eq, pc1_some, pc2_some, pc3_some, fin_some, g_var0, g_vars, g_loc0, g_locs, g_int, g_bool, g_str, g_sl, s_none, s_zero, s_succ, AV.cl, evFa, evNil, evLoad, asEl, evBin, intBin, strBin, evUn, len_nil, len_slc, len_str, clr, List.length_nil, List.length_cons, List.getElem?_cons_zero, List.getElem?_cons_succ, Nat.reduceAdd, Nat.zero_add, Nat.add_zero, Nat.reduceLeDiff, Nat.reduceSub, ↓reduceIte, List.drop_succ_cons, List.drop_zero, List.take_succ_cons, List.take_zero, Bool.false_eq_true, List.nil_append, List.cons_append, Bool.not_true, Bool.not_false, cond_true, cond_false, bne, lv_ret, lv_normal, res1, res2, lv2_some, res_var, res_cell, lvf_v, lvf_slc]
      rw [body, hx]
      have : c10.res = [.var 2] := rfl
      simp only [this, hv, run_nil, run_cons, stp_plain, stp_guard, put_some, pass_eq, pick_tt, pick_ff, pick_tf, pick_ft, pick_u, reg_some, thn_normal, thn_exit, thn_ret, cnd_t, cnd_f, blk_normal, blk_ret, blk_exit, x_seq, x_region, x_cond, x_block, x_loop, x_ret, x_exit, x_skip, e_mov, e_pick, pk_t, pk_f, withH_some, e_box, bx_some, e_load, e_store, stH_some, e_nil, e_bin, e_eqv, eqH_f, eqH_t, e_un, e_fa, e_ia, ia_eq, nat_eq, natV_nat, e_len, lnH_some, e_extract, ex_0, ex_1, e_call0, e_call1, e_call2, e_call3, pc0_eq, pc1_some, pc2_some, pc3_some, fin_some, g_var0, g_vars, g_loc0, g_locs, g_int, g_bool, g_str, g_sl, s_none, s_zero, s_succ, AV.cl, evFa, evNil, evLoad, asEl, evBin, intBin, strBin, evUn, len_nil, len_slc, len_str, clr, List.length_nil, List.length_cons, List.getElem?_cons_zero, List.getElem?_cons_succ, Nat.reduceAdd, Nat.zero_add, Nat.add_zero, Nat.reduceLeDiff, Nat.reduceSub, ↓reduceIte, List.drop_succ_cons, List.drop_zero, List.take_succ_cons, List.take_zero, Bool.false_eq_true, List.nil_append, List.cons_append, Bool.not_true, Bool.not_false, cond_true, cond_false, bne, lv_ret, lv_normal, res1, res2, lv2_some, res_var, res_cell, lvf_v, lvf_slc]
    | slc ex' nn' es' _ hes' hm' =>
      have e1 := hes'.length
      have hgt : decide ((es'.length : Int) > 100) = false := by simp; omega
      refine callW_pure (c := c10) rfl rfl (bs.length + l.length + 1) ?_
      obtain ⟨h1, hh⟩ := big_loop1 (K := bs.length + l.length + 1) (ts := .slc 4 ex nn es) (ex := ex') (nn := nn') hm' bs 0 [] (by omega) (by simpa using hes')
      have c10res : c10.res = [.var 2] := rfl
      have body : exec (callW F) (bs.length + l.length + 1) c10.body (start c10 [.slc 5 ex' nn' es', .slc 4 ex nn es]) [] = thn (callW F) (bs.length + l.length + 1) (.seq (.seq (.region [] [] c10_10) (.block 2 (.loop [false, false, false, false, false, false, false, false, false, false, false, true, true, true, false, false] [] c10_16))) (.seq (.region [] [] c10_17) .ret))
          (blk 0 (loopN (exec (callW F) (bs.length + l.length + 1) c10_9) K10 (bs.length + l.length + 1) (L10 (.slc 4 ex nn es) (.slc 5 ex' nn' es') es'.length ((0 : Nat) : Int)) [])) := by
        show exec (callW F) (bs.length + l.length + 1) (.seq (.region [] [] c10_0) (.seq (.seq (.region [] [] c10_1) (.cond (.var 5) (.seq (.region [] [] c10_2) .ret) .skip)) (.seq (.seq (.region [] [] c10_3) (.block 0 (.loop K10 [] c10_9))) (.seq (.seq (.region [] [] c10_10) (.block 2 (.loop [false, false, false, false, false, false, false, false, false, false, false, true, true, true, false, false] [] c10_16))) (.seq (.region [] [] c10_17) .ret))))) _ _ = _
        generalize (CC.seq (.seq (.region [] [] c10_10) (.block 2 (.loop [false, false, false, false, false, false, false, false, false, false, false, true, true, true, false, false] [] c10_16))) (.seq (.region [] [] c10_17) .ret)) = rest
        simp only [c10, start, List.replicate, c10_0, c10_1, c10_3, hgt, run_nil, run_cons, stp_plain, stp_guard, put_some, pass_eq, pick_tt, pick_ff, pick_tf, pick_ft, pick_u, reg_some, thn_normal, thn_exit, thn_ret, cnd_t, cnd_f, blk_normal, blk_ret, blk_exit, x_seq, x_region, x_cond, x_block, x_loop, x_ret, x_exit, x_skip, e_mov, e_pick, pk_t, pk_f, withH_some, e_box, bx_some, e_load, e_store, stH_some, e_nil, e_bin, e_eqv, eqH_f, eqH_t, e_un, e_fa, e_ia, ia_eq, nat_eq, natV_nat, e_len, lnH_some, e_extract, ex_0, ex_1, e_call0, e_call1, e_call2, e_call3, pc0_eq, pc1_some, pc2_some, pc3_some, fin_some, g_var0, g_vars, g_loc0, g_locs, g_int, g_bool, g_str, g_sl, s_none, s_zero, s_succ, AV.cl, evFa, evNil, evLoad, asEl, evBin, intBin, strBin, evUn, len_nil, len_slc, len_str, clr, List.length_nil, List.length_cons, List.getElem?_cons_zero, List.getElem?_cons_succ, Nat.reduceAdd, Nat.zero_add, Nat.add_zero, Nat.reduceLeDiff, Nat.reduceSub, ↓reduceIte, List.drop_succ_cons, List.drop_zero, List.take_succ_cons, List.take_zero, Bool.false_eq_true, List.nil_append, List.cons_append, Bool.not_true, Bool.not_false, cond_true, cond_false, bne, lv_ret, lv_normal, res1, res2, lv2_some, res_var, res_cell, lvf_v, lvf_slc]
        rw [loop_cong (v2 := L10 (.slc 4 ex nn es) (.slc 5 ex' nn' es') es'.length ((0 : Nat) : Int)) (by rfl)]
      rw [body]
      cases hall : bs.all (fun p => decide (0 ≤ left p.2 300)) with
      | false =>
        rw [hall, if_neg (by simp)] at hh
        obtain ⟨vs, h2, h3⟩ := hh
        rw [loop_more h2 (by omega)]
        have hbig : big bs l = true := by simp [big, hall]
        rw [hbig]
        simp only [c10res, h3, run_nil, run_cons, stp_plain, stp_guard, put_some, pass_eq, pick_tt, pick_ff, pick_tf, pick_ft, pick_u, reg_some, thn_normal, thn_exit, thn_ret, cnd_t, cnd_f, blk_normal, blk_ret, blk_exit, x_seq, x_region, x_cond, x_block, x_loop, x_ret, x_exit, x_skip, e_mov, e_pick, pk_t, pk_f, withH_some, e_box, bx_some, e_load, e_store, stH_some, e_nil, e_bin, e_eqv, eqH_f, eqH_t, e_un, e_fa, e_ia, ia_eq, nat_eq, natV_nat, e_len, lnH_some, e_extract, ex_0, ex_1, e_call0, e_call1, e_call2, e_call3, pc0_eq, pc1_some, pc2_some, pc3_some, fin_some, g_var0, g_vars, g_loc0, g_locs, g_int, g_bool, g_str, g_sl, s_none, s_zero, s_succ, AV.cl, evFa, evNil, evLoad, asEl, evBin, intBin, strBin, evUn, len_nil, len_slc, len_str, clr, List.length_nil, List.length_cons, List.getElem?_cons_zero, List.getElem?_cons_succ, Nat.reduceAdd, Nat.zero_add, Nat.add_zero, Nat.reduceLeDiff, Nat.reduceSub, ↓reduceIte, List.drop_succ_cons, List.drop_zero, List.take_succ_cons, List.take_zero, Bool.false_eq_true, List.nil_append, List.cons_append, Bool.not_true, Bool.not_false, cond_true, cond_false, bne, lv_ret, lv_normal, res1, res2, lv2_some, res_var, res_cell, lvf_v, lvf_slc]
      | true =>
        rw [hall, if_pos rfl] at hh
        rw [loop_more hh (by omega)]
        have hbig : big bs l = !(l.all fun t => decide (0 ≤ left t 3000)) := by simp [big, hall, h100]
        rw [hbig]
        obtain ⟨vs, h', hx, hv⟩ := big_rest (K := bs.length + l.length) (ex := ex) (nn := nn) hes hm (by omega) .junk .junk .junk .junk .junk (.slc 5 ex' nn' es') (.v (.int .i64 es'.length)) (.v (.int .i64 es'.length)) (.v (.bool false)) .junk .junk .junk .junk .junk .junk h1
        simp only [blk_exit, thn_normal]
        rw [hx]
        simp only [c10res, hv, run_nil, run_cons, stp_plain, stp_guard, put_some, pass_eq, pick_tt, pick_ff, pick_tf, pick_ft, pick_u, reg_some, thn_normal, thn_exit, thn_ret, cnd_t, cnd_f, blk_normal, blk_ret, blk_exit, x_seq, x_region, x_cond, x_block, x_loop, x_ret, x_exit, x_skip, e_mov, e_pick, pk_t, pk_f, withH_some, e_box, bx_some, e_load, e_store, stH_some, e_nil, e_bin, e_eqv, eqH_f, eqH_t, e_un, e_fa, e_ia, ia_eq, nat_eq, natV_nat, e_len, lnH_some, e_extract, ex_0, ex_1, e_call0, e_call1, e_call2, e_call3, pc0_eq, pc1_some, pc2_some, pc3_some, fin_some, g_var0, g_vars, g_loc0, g_locs, g_int, g_bool, g_str, g_sl, s_none, s_zero, s_succ, AV.cl, evFa, evNil, evLoad, asEl, evBin, intBin, strBin, evUn, len_nil, len_slc, len_str, clr, List.length_nil, List.length_cons, List.getElem?_cons_zero, List.getElem?_cons_succ, Nat.reduceAdd, Nat.zero_add, Nat.add_zero, Nat.reduceLeDiff, Nat.reduceSub, ↓reduceIte, List.drop_succ_cons, List.drop_zero, List.take_succ_cons, List.take_zero, Bool.false_eq_true, List.nil_append, List.cons_append, Bool.not_true, Bool.not_false, cond_true, cond_false, bne, lv_ret, lv_normal, res1, res2, lv2_some, res_var, res_cell, lvf_v, lvf_slc]

mutual
theorem same_refl : ∀ t : Tm, same t t = true
  | .mk k s n l => by simp [same, sameL_refl l]
theorem sameL_refl : ∀ l : List Tm, sameL l l = true
  | [] => by simp [sameL]
  | t :: l => by simp [sameL, same_refl t, sameL_refl l]
end

def zeroT : Tm := .mk 0 ⟨#[]⟩ 0 []
theorem look_form (w : Int) : ∀ {es : List AV} {bs : List (Int × Tm)}, AllB es bs → ∃ cs u f, lookA w es = .tup [.agg cs, .v (.bool f)] ∧ IsT (.agg cs) u
  | _, _, .nil => ⟨_, zeroT, false, rfl, .mk _ _ _ _ _ .nil⟩
  | _, _, .cons a v t es bs h hs => by
    cases h with
    | mk v cs t ht =>
      rw [lookA]
      split
      · exact ⟨cs, t, true, rfl, ht⟩
      · exact look_form w hs
theorem AllB.append : ∀ {es es' : List AV} {l l' : List (Int × Tm)}, AllB es l → AllB es' l' → AllB (es ++ es') (l ++ l')
  | _, _, _, _, .nil, h => h
  | _, _, _, _, .cons a v t es bs h hs, h' => .cons a v t _ _ h (hs.append h')
theorem AllB.reverse : ∀ {es : List AV} {l : List (Int × Tm)}, AllB es l → AllB es.reverse l.reverse
  | _, _, .nil => .nil
  | _, _, .cons a v t es bs h hs => by
    rw [List.reverse_cons, List.reverse_cons]
    exact hs.reverse.append (.cons a v t [] [] h .nil)
theorem AllB.isB : ∀ {es : List AV} {l : List (Int × Tm)}, AllB es l → es.all isB = true
  | _, _, .nil => rfl
  | _, _, .cons a v t es bs h hs => by
    rw [List.all_cons, hs.isB, Bool.and_true]
    cases h with
    | mk v cs t ht => cases ht with | mk k s n c l hc => cases hc <;> rfl

theorem look_call {es : List AV} {bs : List (Int × Tm)} (h : AllB es bs) (hl : es.length ≤ 1000000) (ex nn : Bool) (w : Int) : callW F 13 [.slc 5 ex nn es, .v (.int .i64 w)] [] = some (lookA w es.reverse, []) := by
  refine callW_oracle (g := lookG) rfl ?_
  simp only [lookG, if_pos (And.intro hl h.isB)]
theorem look_call_nil (w : Int) : callW F 13 [.v (.slice none 0 0), .v (.int .i64 w)] [] = some (lookA w [], []) :=
  callW_oracle (g := lookG) rfl rfl

/-- the bindings and one more, as they lie -/
theorem order_rest {K : Nat} {b t : AV} {T : Tm} {es : List AV} {bs : List (Int × Tm)} {v w : Int} (ht : IsT t T) (hes : AllB es bs) (h100 : es.length ≤ 100) (ver : Nat) {zb : AV} (hzb : zb = b) (hlook : ∀ w, callW F 13 [b, .v (.int .i64 w)] [] = some (lookA w es.reverse, [])) (hsn : ∀ h : List AO, b.snap1 h = some b) (e : AV) (he : e = .agg (.v (.int .i64 v) :: t.cells)) (x8 x9 x10 x11 x12 x13 x14 : AV) :
    lv [.var 5] (exec (callW F) K (.seq (.region [.v 7] [] c5_5) (.seq (.region [] [] c5_6) (.seq (.region [] [] c5_7) (.seq (.region [] [] c5_8) .ret))))
      [b, .v (.int .i64 v), .v (.int .i64 w), t, .ptr 0 0, .v (.bool false), .v (.bool true), .own 5 1 ver 0 (es ++ [e]).length, x8, x9, x10, x11, x12, x13, x14] [.box t.cells, .row 5 ver (es ++ [e]) 0]) = some (.v (.bool true), []) := by
  have hE : IsBd e v T := by
    rw [he]
    cases ht with
    | mk k s n c l hc => exact .mk v _ _ (.mk k s n c l hc)
  have hall : AllB (es ++ [e]) (bs ++ [(v, T)]) := hes.append (.cons e v T [] [] hE .nil)
  have hlen : (es ++ [e]).length ≤ 1000000 := by simp; omega
  have r1 : raise0 [.box t.cells, .row 5 ver (es ++ [e]) 0] (.own 5 1 ver 0 (es ++ [e]).length) = [.box t.cells, .row 5 ver (es ++ [e]) (es ++ [e]).length] := by
    simp [raise0, raise, rowAt]
  have r2 : ∀ tail : List AO, (AV.own 5 1 ver 0 (es ++ [e]).length).snap1 (.box t.cells :: .row 5 ver (es ++ [e]) (es ++ [e]).length :: tail) = some (.slc 5 false false (es ++ [e])) := by
    intro tail
    simp [AV.snap1, AV.snap0, rowAt]
    exact List.take_of_length_le (by simp)
  have q8 : ∀ (h : List AO) (x : Int), (AV.v (.int .i64 x)).snap1 h = some (.v (.int .i64 x)) := fun _ _ => rfl
  have hv : lookA v (es ++ [e]).reverse = .tup [t, .v (.bool true)] := by
    rw [List.reverse_append, he]
    cases ht with
    | mk k s n c l hc => simp [lookA, AV.cells]
  have lc := fun w => look_call hall hlen false false w
  have lcv := lc v
  rw [hv] at lcv
  have q9 : (ofVal (.agg #[(.int .i64 0), (.string ⟨#[]⟩), (.int .i64 0), (.slice none 0 0)])).cl = some [.v (.int .i64 0), .v (.string ⟨#[]⟩), .v (.int .i64 0), .v (.slice none 0 0)] := by simp [ofVal, AV.cl, Value.oneCell']
  have hcl : ∀ cs, (AV.agg cs).cl = some cs := fun _ => rfl
  have hw : lookA w (es ++ [e]).reverse = if v = w then .tup [t, .v (.bool true)] else lookA w es.reverse := by
    rw [List.reverse_append, he]
    cases ht with
    | mk k s n c l hc => simp [lookA, AV.cells]
  obtain ⟨cs, u, f, hf, hu⟩ := look_form w hes.reverse
  have same1 := same_ok _ T T t t (Nat.lt_succ_self _) ht ht
  rw [same_refl] at same1
  have same1' : callW F 15 [t, t] [] = some (.v (.bool true), []) := same1
  have same2 := same_ok _ u u (.agg cs) (.agg cs) (Nat.lt_succ_self _) hu hu
  rw [same_refl] at same2
  have same2' : callW F 15 [.agg cs, .agg cs] [] = some (.v (.bool true), []) := same2
  have lcw := lc w
  have lb := hlook w
  rw [hw] at lcw
  rw [hf] at lcw lb
  have s1 : ∀ h : List AO, t.snap1 h = some t := fun h => ht.snap
  have s2 : ∀ h : List AO, (AV.agg cs).snap1 h = some (.agg cs) := fun h => hu.snap
  cases ht with
  | mk k s n c l hc =>
  cases hu with
  | mk k2 s2' n2 c2 l2 hc2 =>
  have hff : ∀ b : Bool, (b == b) = true := by intro b; cases b <;> rfl
  have hun : ∀ (w : Bool) (y n : Option St), pick1 (.v undef) w y n = n := fun _ _ _ => rfl
  by_cases hvw : v = w
  · have h1 : (w == v) = true := by simp [hvw]
    rw [if_pos hvw] at lcw
    simp only [AV.cells] at r1 r2
    simp only [x_region_m, marked_eq, marked, List.foldl_cons, List.foldl_nil, doMark, raise1, List.getD_cons_zero, List.getD_cons_succ, r1, AV.cells, c5_5, c5_6, c5_7, c5_8, r2, q8, q9, hcl, s1, s2, hsn, lcv, lcw, lb, same1', same2', h1, hff, hun, g_agg, evStore, eqNil, putAt, List.set_cons_zero, List.set_cons_succ, and_self, Nat.le_refl, run_nil, run_cons, stp_plain, stp_guard, put_some, pass_eq, pick_tt, pick_ff, pick_tf, pick_ft, pick_u, reg_some, thn_normal, thn_exit, thn_ret, cnd_t, cnd_f, blk_normal, blk_ret, blk_exit, x_seq, x_region, x_cond, x_block, x_loop, x_ret, x_exit, x_skip, e_mov, e_pick, pk_t, pk_f, withH_some, e_box, bx_some, e_load, e_store, stH_some, e_nil, e_bin, e_eqv, eqH_f, eqH_t, e_un, e_fa, e_ia, ia_eq, nat_eq, natV_nat, e_len, lnH_some, e_extract, ex_0, ex_1, e_call0, e_call1, e_call2, e_call3, pc0_eq, pc1_some, pc2_some, pc3_some, fin_some, g_var0, g_vars, g_loc0, g_locs, g_int, g_bool, g_str, g_sl, s_none, s_zero, s_succ, evFa, evNil, evLoad, asEl, evBin, intBin, strBin, evUn, len_nil, len_slc, len_str, clr, List.length_nil, List.length_cons, List.getElem?_cons_zero, List.getElem?_cons_succ, Nat.reduceAdd, Nat.zero_add, Nat.add_zero, Nat.reduceLeDiff, Nat.reduceSub, ↓reduceIte, List.drop_succ_cons, List.drop_zero, List.take_succ_cons, List.take_zero, Bool.false_eq_true, List.nil_append, List.cons_append, Bool.not_true, Bool.not_false, cond_true, cond_false, bne, lv_ret, lv_normal, res1, res2, lv2_some, res_var, res_cell, lvf_v, lvf_slc]
  · have h1 : (w == v) = false := by simp; omega
    rw [if_neg hvw] at lcw
    simp only [AV.cells] at r1 r2
    simp only [x_region_m, marked_eq, marked, List.foldl_cons, List.foldl_nil, doMark, raise1, List.getD_cons_zero, List.getD_cons_succ, r1, AV.cells, c5_5, c5_6, c5_7, c5_8, r2, q8, q9, hcl, s1, s2, hsn, lcv, lcw, lb, same1', same2', h1, hff, hun, g_agg, evStore, eqNil, putAt, List.set_cons_zero, List.set_cons_succ, and_self, Nat.le_refl, run_nil, run_cons, stp_plain, stp_guard, put_some, pass_eq, pick_tt, pick_ff, pick_tf, pick_ft, pick_u, reg_some, thn_normal, thn_exit, thn_ret, cnd_t, cnd_f, blk_normal, blk_ret, blk_exit, x_seq, x_region, x_cond, x_block, x_loop, x_ret, x_exit, x_skip, e_mov, e_pick, pk_t, pk_f, withH_some, e_box, bx_some, e_load, e_store, stH_some, e_nil, e_bin, e_eqv, eqH_f, eqH_t, e_un, e_fa, e_ia, ia_eq, nat_eq, natV_nat, e_len, lnH_some, e_extract, ex_0, ex_1, e_call0, e_call1, e_call2, e_call3, pc0_eq, pc1_some, pc2_some, pc3_some, fin_some, g_var0, g_vars, g_loc0, g_locs, g_int, g_bool, g_str, g_sl, s_none, s_zero, s_succ, evFa, evNil, evLoad, asEl, evBin, intBin, strBin, evUn, len_nil, len_slc, len_str, clr, List.length_nil, List.length_cons, List.getElem?_cons_zero, List.getElem?_cons_succ, Nat.reduceAdd, Nat.zero_add, Nat.add_zero, Nat.reduceLeDiff, Nat.reduceSub, ↓reduceIte, List.drop_succ_cons, List.drop_zero, List.take_succ_cons, List.take_zero, Bool.false_eq_true, List.nil_append, List.cons_append, Bool.not_true, Bool.not_false, cond_true, cond_false, bne, lv_ret, lv_normal, res1, res2, lv2_some, res_var, res_cell, lvf_v, lvf_slc]

theorem fits_ok {n : Nat} (h : n ≤ 1000000) : fits n 64 = true := by
  simp only [fits]
  exact decide_eq_true ⟨by simp only [room]; omega, by simp only [room]; omega⟩
theorem ap_own {x : AO} {y : AV} {L : List AV} (hl : L.length ≤ 1000) : evAppend [x, .row 5 0 L 0] 5 64 (.own 5 1 0 0 L.length) (.slc 5 true true [y]) = some (.own 5 1 1 0 (L ++ [y]).length, [x, .row 5 1 (L ++ [y]) 0]) := by
  have hf : fits (L.length + 1) 64 = true := fits_ok (by omega)
  have hrow : rowAt [x, .row 5 0 L 0] 5 1 0 (0 + L.length) = some (L, 0) := by simp [rowAt]
  simp only [evAppend, elemsOf, if_true, hrow]
  rw [if_pos (Nat.zero_le _), if_neg (by simp)]
  simp [hf]

theorem order_ok (hlive : callW F 9 [] [] = some (.v (.bool true), [])) {b t : AV} {T : Tm} {bs : List (Int × Tm)} (hb : IsB b bs) (ht : IsT t T) (v w : Int) : callW F 5 [b, .v (.int .i64 v), .v (.int .i64 w), t] [] = some (.v (.bool true), []) := by
  have hbig := big_ok (ts := .slc 4 true true [t]) hb rfl (All2.cons t T [] [] ht .nil) (by simp [maxLen])
  have s1 : ∀ h : List AO, t.snap1 h = some t := fun h => ht.snap
  have sb : ∀ h : List AO, b.snap1 h = some b := by intro h; cases hb <;> rfl
  have sl : ∀ h : List AO, (AV.slc 4 true true [t]).snap1 h = some (.slc 4 true true [t]) := fun _ => rfl
  have ht' := ht
  have hrest := fun (hn : (big bs [T]) = false) (es : List AV) (hes : AllB es bs) (hl : ∀ w, callW F 13 [b, .v (.int .i64 w)] [] = some (lookA w es.reverse, [])) (ver : Nat) => order_rest (K := 0) (b := b) (v := v) (w := w) ht hes (by
      have h1 : ¬ 100 < bs.length := by
        intro h
        simp [big, h] at hn
      have := hes.length
      omega) ver rfl hl sb _ rfl
  cases ht with
  | mk k s n c l hc =>
  have b1 : ∀ h : List AO, bs1 h 4 (some (.agg [.v (.int .i64 k), .v (.string s), .v (.int .i64 n), c])) = some (.slc 4 true true [.agg [.v (.int .i64 k), .v (.string s), .v (.int .i64 n), c]], h) := fun h => bs1_some rfl rfl
  have b2 : ∀ h : List AO, bs1 h 5 (some (.agg [.v (.int .i64 v), .v (.int .i64 k), .v (.string s), .v (.int .i64 n), c])) = some (.slc 5 true true [.agg [.v (.int .i64 v), .v (.int .i64 k), .v (.string s), .v (.int .i64 n), c]], h) := fun h => bs1_some rfl rfl
  have s3 : ∀ h : List AO, (AV.agg [.v (.int .i64 v), .v (.int .i64 k), .v (.string s), .v (.int .i64 n), c]).snap1 h = some (.agg [.v (.int .i64 v), .v (.int .i64 k), .v (.string s), .v (.int .i64 n), c]) := by
    intro h; cases hc <;> rfl
  refine callW_pure (c := c5) rfl rfl 0 ?_
  cases hB : big bs [Tm.mk k s n l] with
  | true =>
    rw [hB] at hbig
    simp only [c5, start, List.replicate, c5_0, c5_1, c5_2, c5_3, hlive, s1, sb, sl, b1, hbig, e_bslice1, e_build, bdH_some, bd_nil, bd_cons, bd1, e_append, cl_agg, cl_int, toL, List.map_cons, List.map_nil, putAt, List.set_cons_zero, List.set_cons_succ, and_self, Nat.le_refl, run_nil, run_cons, stp_plain, stp_guard, put_some, pass_eq, pick_tt, pick_ff, pick_tf, pick_ft, pick_u, reg_some, thn_normal, thn_exit, thn_ret, cnd_t, cnd_f, blk_normal, blk_ret, blk_exit, x_seq, x_region, x_cond, x_block, x_loop, x_ret, x_exit, x_skip, e_mov, e_pick, pk_t, pk_f, withH_some, e_box, bx_some, e_load, e_store, stH_some, e_nil, e_bin, e_eqv, eqH_f, eqH_t, e_un, e_fa, e_ia, ia_eq, nat_eq, natV_nat, e_len, lnH_some, e_extract, ex_0, ex_1, e_call0, e_call1, e_call2, e_call3, pc0_eq, pc1_some, pc2_some, pc3_some, fin_some, g_var0, g_vars, g_loc0, g_locs, g_int, g_bool, g_str, g_sl, s_none, s_zero, s_succ, evFa, evNil, evLoad, asEl, evBin, intBin, strBin, evUn, len_nil, len_slc, len_str, clr, List.length_nil, List.length_cons, List.getElem?_cons_zero, List.getElem?_cons_succ, Nat.reduceAdd, Nat.zero_add, Nat.add_zero, Nat.reduceLeDiff, Nat.reduceSub, ↓reduceIte, List.drop_succ_cons, List.drop_zero, List.take_succ_cons, List.take_zero, Bool.false_eq_true, List.nil_append, List.cons_append, Bool.not_true, Bool.not_false, cond_true, cond_false, bne, lv_ret, lv_normal, res1, res2, lv2_some, res_var, res_cell, lvf_v, lvf_slc]
  | false =>
    rw [hB] at hbig
    have hrest := hrest hB
    show lv [.var 5] (exec (callW F) 0 (.seq (.region [] [] c5_0) (.seq (.region [] [] c5_1) (.seq (.seq (.region [] [] c5_2) (.cond (.var 14) (.seq (.region [] [] c5_3) .ret) .skip)) (.seq (.region [] [] c5_4) (.seq (.region [.v 7] [] c5_5) (.seq (.region [] [] c5_6) (.seq (.region [] [] c5_7) (.seq (.region [] [] c5_8) .ret)))))))) _ _) = _
    generalize hr : (CC.seq (.region [.v 7] [] c5_5) (.seq (.region [] [] c5_6) (.seq (.region [] [] c5_7) (.seq (.region [] [] c5_8) .ret)))) = rest at hrest ⊢
    simp only [AV.cells] at hrest
    cases hb with
    | nil =>
      have hap : ∀ (h : List AO) (x : AV), evAppend h 5 64 (.v (.slice none 0 0)) (.slc 5 true true [x]) = some (.own 5 h.length 0 0 1, h ++ [.row 5 0 [x] 0]) := fun h x => ap_new (by simp) (by simp only [List.length_cons, List.length_nil]; decide)
      simp only [c5, start, List.replicate, c5_0, c5_1, c5_2, c5_4, hlive, s1, s3, sb, sl, b1, b2, hbig, ap_nil, hap, e_bslice1, e_build, bdH_some, bd_nil, bd_cons, bd1, e_append, cl_agg, cl_int, toL, List.map_cons, List.map_nil, putAt, List.set_cons_zero, List.set_cons_succ, and_self, Nat.le_refl, run_nil, run_cons, stp_plain, stp_guard, put_some, pass_eq, pick_tt, pick_ff, pick_tf, pick_ft, pick_u, reg_some, thn_normal, thn_exit, thn_ret, cnd_t, cnd_f, blk_normal, blk_ret, blk_exit, x_seq, x_region, x_cond, x_block, x_loop, x_ret, x_exit, x_skip, e_mov, e_pick, pk_t, pk_f, withH_some, e_box, bx_some, e_load, e_store, stH_some, e_nil, e_bin, e_eqv, eqH_f, eqH_t, e_un, e_fa, e_ia, ia_eq, nat_eq, natV_nat, e_len, lnH_some, e_extract, ex_0, ex_1, e_call0, e_call1, e_call2, e_call3, pc0_eq, pc1_some, pc2_some, pc3_some, fin_some, g_var0, g_vars, g_loc0, g_locs, g_int, g_bool, g_str, g_sl, s_none, s_zero, s_succ, evFa, evNil, evLoad, asEl, evBin, intBin, strBin, evUn, len_nil, len_slc, len_str, clr, List.length_nil, List.length_cons, List.getElem?_cons_zero, List.getElem?_cons_succ, Nat.reduceAdd, Nat.zero_add, Nat.add_zero, Nat.reduceLeDiff, Nat.reduceSub, ↓reduceIte, List.drop_succ_cons, List.drop_zero, List.take_succ_cons, List.take_zero, Bool.false_eq_true, List.nil_append, List.cons_append, Bool.not_true, Bool.not_false, cond_true, cond_false, bne, lv_ret, lv_normal, res1, res2, lv2_some, res_var, res_cell, lvf_v, lvf_slc]
      exact hrest [] .nil look_call_nil 0 _ _ _ _ _ _ _
    | slc ex nn es _ hes hm =>
      have hlk := hes.length
      have h100 : ¬ 100 < bs.length := by intro h; simp [big, h] at hB
      cases es with
      | nil =>
        have hap : ∀ (h : List AO) (x : AV), evAppend h 5 64 (.v (.slice none 0 0)) (.slc 5 true true [x]) = some (.own 5 h.length 0 0 1, h ++ [.row 5 0 [x] 0]) := fun h x => ap_new (by simp) (by simp only [List.length_cons, List.length_nil]; decide)
        simp only [c5, start, List.replicate, c5_0, c5_1, c5_2, c5_4, hlive, s1, s3, sb, sl, b1, b2, hbig, ap_empty, hap, e_bslice1, e_build, bdH_some, bd_nil, bd_cons, bd1, e_append, cl_agg, cl_int, toL, List.map_cons, List.map_nil, putAt, List.set_cons_zero, List.set_cons_succ, and_self, Nat.le_refl, run_nil, run_cons, stp_plain, stp_guard, put_some, pass_eq, pick_tt, pick_ff, pick_tf, pick_ft, pick_u, reg_some, thn_normal, thn_exit, thn_ret, cnd_t, cnd_f, blk_normal, blk_ret, blk_exit, x_seq, x_region, x_cond, x_block, x_loop, x_ret, x_exit, x_skip, e_mov, e_pick, pk_t, pk_f, withH_some, e_box, bx_some, e_load, e_store, stH_some, e_nil, e_bin, e_eqv, eqH_f, eqH_t, e_un, e_fa, e_ia, ia_eq, nat_eq, natV_nat, e_len, lnH_some, e_extract, ex_0, ex_1, e_call0, e_call1, e_call2, e_call3, pc0_eq, pc1_some, pc2_some, pc3_some, fin_some, g_var0, g_vars, g_loc0, g_locs, g_int, g_bool, g_str, g_sl, s_none, s_zero, s_succ, evFa, evNil, evLoad, asEl, evBin, intBin, strBin, evUn, len_nil, len_slc, len_str, clr, List.length_nil, List.length_cons, List.getElem?_cons_zero, List.getElem?_cons_succ, Nat.reduceAdd, Nat.zero_add, Nat.add_zero, Nat.reduceLeDiff, Nat.reduceSub, ↓reduceIte, List.drop_succ_cons, List.drop_zero, List.take_succ_cons, List.take_zero, Bool.false_eq_true, List.nil_append, List.cons_append, Bool.not_true, Bool.not_false, cond_true, cond_false, bne, lv_ret, lv_normal, res1, res2, lv2_some, res_var, res_cell, lvf_v, lvf_slc]
        exact hrest [] hes (look_call hes (by simp) ex nn) 0 _ _ _ _ _ _ _
      | cons e0 es0 =>
        have hap : ∀ (h : List AO), evAppend h 5 64 (.v (.slice none 0 0)) (.slc 5 ex nn (e0 :: es0)) = some (.own 5 h.length 0 0 (e0 :: es0).length, h ++ [.row 5 0 (e0 :: es0) 0]) := fun h => ap_new (by simp) (fits_ok (by omega))
        have hap2 := fun (x : AO) (y : AV) => ap_own (x := x) (y := y) (L := e0 :: es0) (by omega)
        have hrest := hrest _ hes (look_call hes (by omega) ex nn) 1
        generalize e0 :: es0 = L at hap hap2 hrest sb hbig ⊢
        simp only [c5, start, List.replicate, c5_0, c5_1, c5_2, c5_4, hlive, s1, s3, sb, sl, b1, b2, hbig, hap, hap2, e_bslice1, e_build, bdH_some, bd_nil, bd_cons, bd1, e_append, cl_agg, cl_int, toL, List.map_cons, List.map_nil, putAt, List.set_cons_zero, List.set_cons_succ, and_self, Nat.le_refl, run_nil, run_cons, stp_plain, stp_guard, put_some, pass_eq, pick_tt, pick_ff, pick_tf, pick_ft, pick_u, reg_some, thn_normal, thn_exit, thn_ret, cnd_t, cnd_f, blk_normal, blk_ret, blk_exit, x_seq, x_region, x_cond, x_block, x_loop, x_ret, x_exit, x_skip, e_mov, e_pick, pk_t, pk_f, withH_some, e_box, bx_some, e_load, e_store, stH_some, e_nil, e_bin, e_eqv, eqH_f, eqH_t, e_un, e_fa, e_ia, ia_eq, nat_eq, natV_nat, e_len, lnH_some, e_extract, ex_0, ex_1, e_call0, e_call1, e_call2, e_call3, pc0_eq, pc1_some, pc2_some, pc3_some, fin_some, g_var0, g_vars, g_loc0, g_locs, g_int, g_bool, g_str, g_sl, s_none, s_zero, s_succ, evFa, evNil, evLoad, asEl, evBin, intBin, strBin, evUn, len_nil, len_slc, len_str, clr, List.length_nil, List.length_cons, List.getElem?_cons_zero, List.getElem?_cons_succ, Nat.reduceAdd, Nat.zero_add, Nat.add_zero, Nat.reduceLeDiff, Nat.reduceSub, ↓reduceIte, List.drop_succ_cons, List.drop_zero, List.take_succ_cons, List.take_zero, Bool.false_eq_true, List.nil_append, List.cons_append, Bool.not_true, Bool.not_false, cond_true, cond_false, bne, lv_ret, lv_normal, res1, res2, lv2_some, res_var, res_cell, lvf_v, lvf_slc]
        exact hrest _ _ _ _ _ _ _
end Go.AE.Ytpgoibncgekflaa

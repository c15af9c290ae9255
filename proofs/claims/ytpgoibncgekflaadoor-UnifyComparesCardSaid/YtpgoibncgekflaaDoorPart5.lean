/- Texts of this claim, put together. -/
import Derived.Test.YtpgoibncgekflaaDoorPart3
import Derived.Test.YtpgoibncgekflaaDoorPart4
import Derived.Test.YtpgoibncgekflaaDoorPart2
import Derived.Test.YtpgoibncgekflaaDoorPart1
import Derived.Test.YtpgoibncgekflaaDoorRows
import Derived.WalkKit
import Derived.ProofKit
import Derived.OpenShut
import Derived.ShutString
import Derived.ChangeOld
import Derived.Below
import Derived.SizedLaws
import Derived.Test.YtpgoibncgekflaaDoorTie
import Derived.Test.YtpgoibncgekflaaDoorCards
import Derived.Lib.LaidIn
import Derived.Lib.LaidU8T
import Derived.Handed
import Derived.SevenTiedAt
/-! Whether two lists of bindings are the same; whether bindings and terms may be. -/
section
set_option linter.unusedVariables false
set_option linter.unusedSimpArgs false
namespace Go.AE.YtpgoibncgekflaaDoor
open Go Go.AE Go.Proofs.YtpgoibncgekflaaDoor

theorem IsB.sl' {c : AV} {l : List (Int × Tm)} (h : IsB c l) : ∃ es, Sl 5 c es ∧ AllB es l ∧ es.length ≤ maxLen := by
  cases h with
  | nil => exact ⟨[], .nil, .nil, by simp⟩
  | slc ex nn es l h hb => exact ⟨es, .slc ex nn es, h, hb⟩
def sameBL : List (Int × Tm) → List (Int × Tm) → Bool
  | (v, t) :: l, (v', t') :: l' => (v == v') && same t t' && sameBL l l'
  | _, _ => true
def sameB (l l' : List (Int × Tm)) : Bool := decide (l.length = l'.length) && sameBL l l'
def K24 : List Bool := [true, true, false, false, false, true, true, false, false]
def L24 (a b : AV) (len i : Int) : List AV := [a, b, .junk, .junk, .junk, .v (.int .i64 len), .v (.int .i64 i), .junk, .junk]
theorem sb_loop {K : Nat} {a b : AV} {es es' : List AV} (hs : Sl 5 a es) (hs' : Sl 5 b es') (hlen : es.length = es'.length) (hm : es.length ≤ 200000) :
    ∀ (l l' : List (Int × Tm)) (i : Nat) (h : List AO) (vars : List AV), i + l.length = es.length → AllB (es.drop i) l → AllB (es'.drop i) l' → clr K24 vars = L24 a b es.length i →
      (sameBL l l' = true ∧ ∃ vs h', loopN (exec (callW F) K c24_9) K24 (l.length + 1) vars h = some (.exit 0, vs, h') ∧ vs.length = 9) ∨
      (sameBL l l' = false ∧ ∃ vs h', loopN (exec (callW F) K c24_9) K24 (l.length + 1) vars h = some (.ret, vs, h') ∧ getO vs [] (.var 2) = .v (.bool false)) := by
  intro l
  induction l with
  | nil =>
    intro l' i h vars hi _ _ hv
    have hil : i = es.length := by simpa using hi
    subst hil
    have hlt : decide ((es.length : Int) < (es.length : Int)) = false := by simp
    refine .inl ⟨rfl, [a, b, .junk, .junk, .junk, .v (.int .i64 es.length), .v (.int .i64 es.length), .v (.bool false), .junk], h, loop_exit ?_, rfl⟩
    rw [hv]
    simp only [L24, c24_9, c24_4, hlt, e_bslice1, e_bslice2, bs1, bs2, e_build, bdH_some, bd_nil, bd_cons, bd1, cl_agg, cl_int, toL, List.map_cons, List.map_nil, putAt, List.set_cons_zero, List.set_cons_succ, and_self, Nat.le_refl, app_get, app_set, g_agg, run_nil, run_cons, stp_plain, stp_guard, put_some, pass_eq, pick_tt, pick_ff, pick_tf, pick_ft, pick_u, reg_some, thn_normal, thn_exit, thn_ret, cnd_t, cnd_f, blk_normal, blk_ret, blk_exit, x_seq, x_region, x_cond, x_block, x_loop, x_ret, x_exit, x_skip, e_mov, e_pick, pk_t, pk_f, withH_some, e_box, bx_some, e_load, e_store, stH_some, e_nil, e_bin, e_eqv, eqH_f, eqH_t, e_un, e_fa, e_ia, ia_eq, nat_eq, natV_nat, e_len, lnH_some, e_extract, ex_0, ex_1, e_call0, e_call1, e_call2, e_call3, pc0_eq, pc1_some, pc2_some, pc3_some, fin_some, g_var0, g_vars, g_loc0, g_locs, g_int, g_bool, g_str, g_sl, s_none, s_zero, s_succ, cl_nil, cl_str, cl_bool, cl_slc, cl_own, evFa, evNil, asEl, evBin, intBin, strBin, evUn, len_nil, len_slc, len_str, clr, List.length_nil, List.length_cons, List.getElem?_cons_zero, List.getElem?_cons_succ, Nat.reduceAdd, Nat.zero_add, Nat.add_zero, Nat.reduceLeDiff, Nat.reduceSub, ↓reduceIte, List.drop_succ_cons, List.drop_zero, List.take_succ_cons, List.take_zero, Bool.false_eq_true, List.nil_append, List.cons_append, Bool.not_true, Bool.not_false, cond_true, cond_false, bne, lv_ret, lv_normal, res1, res2, lv2_some, res_var, res_cell, lvf_v, lvf_slc, res1c, lvo1_some, e_mm, mm_max, mm_min]
  | cons p l ih =>
    intro l' i h vars hi hes hes' hv
    obtain ⟨v, t⟩ := p
    have hil : i < es.length := by simp at hi; omega
    have hil' : i < es'.length := by omega
    have he : es[i]? = some (es[i]'hil) := List.getElem?_eq_getElem _
    have he' : es'[i]? = some (es'[i]'hil') := List.getElem?_eq_getElem _
    have hd : es.drop i = es[i] :: es.drop (i + 1) := List.drop_eq_getElem_cons hil
    have hd' : es'.drop i = es'[i] :: es'.drop (i + 1) := List.drop_eq_getElem_cons hil'
    rw [hd] at hes
    rw [hd'] at hes'
    generalize es[i]'hil = e at hes he
    generalize es'[i]'hil' = e' at hes' he'
    cases hes with
    | cons _ _ _ _ _ hT hsr =>
    cases hes' with
    | cons _ v' t' _ l' hT' hsr' =>
    cases hT with
    | mk v cs t ht =>
    cases hT' with
    | mk v' cs' t' ht' =>
    have hlt : (decide ((i : Int) < (es.length : Int))) = true := by simp; omega
    have q1 := hs.ia he
    have q2 := hs'.ia he'
    have hcs : cs.length = 4 := ht.cl.2
    have hcs' : cs'.length = 4 := ht'.cl.2
    have q3 : ∀ h : List AO, evLoad h true 4 (.ip cs) = some (.agg cs) := fun h => ht.load
    have q4 : ∀ h : List AO, evLoad h true 4 (.ip cs') = some (.agg cs') := fun h => ht'.load
    have q5 : ∀ (h : List AO) (x : AV) (cs : List AV), evLoad h false 1 (.ip (x :: cs)) = some x := by
      intro h x cs; simp [evLoad, asEl]
    have s1 : ∀ h : List AO, (AV.agg cs).snap1 h = some (.agg cs) := fun h => ht.snap
    have s2 : ∀ h : List AO, (AV.agg cs').snap1 h = some (.agg cs') := fun h => ht'.snap
    have hsm := same_ok _ t t' _ _ (Nat.lt_succ_self _) ht ht'
    have hsm : callW F 16 [.agg cs, .agg cs'] [] = some (.v (.bool (same t t')), []) := hsm
    simp only [AV.cells] at q1 q2
    cases hvv : (v == v') with
    | false =>
      refine .inr ⟨by simp [sameBL, hvv], [a, b, .v (.bool false), .v (.int .i64 i), .junk, .v (.int .i64 es.length), .v (.int .i64 i), .v (.bool true), .v (.bool true)], h, loop_ret ?_, rfl⟩
      rw [hv]
      simp only [L24, AV.cells, c24_9, c24_4, c24_5, c24_6, c24_7, hlt, q1, q2, q3, q4, q5, hvv, e_bslice1, e_bslice2, bs1, bs2, e_build, bdH_some, bd_nil, bd_cons, bd1, cl_agg, cl_int, toL, List.map_cons, List.map_nil, putAt, List.set_cons_zero, List.set_cons_succ, and_self, Nat.le_refl, app_get, app_set, g_agg, run_nil, run_cons, stp_plain, stp_guard, put_some, pass_eq, pick_tt, pick_ff, pick_tf, pick_ft, pick_u, reg_some, thn_normal, thn_exit, thn_ret, cnd_t, cnd_f, blk_normal, blk_ret, blk_exit, x_seq, x_region, x_cond, x_block, x_loop, x_ret, x_exit, x_skip, e_mov, e_pick, pk_t, pk_f, withH_some, e_box, bx_some, e_load, e_store, stH_some, e_nil, e_bin, e_eqv, eqH_f, eqH_t, e_un, e_fa, e_ia, ia_eq, nat_eq, natV_nat, e_len, lnH_some, e_extract, ex_0, ex_1, e_call0, e_call1, e_call2, e_call3, pc0_eq, pc1_some, pc2_some, pc3_some, fin_some, g_var0, g_vars, g_loc0, g_locs, g_int, g_bool, g_str, g_sl, s_none, s_zero, s_succ, cl_nil, cl_str, cl_bool, cl_slc, cl_own, evFa, evNil, asEl, evBin, intBin, strBin, evUn, len_nil, len_slc, len_str, clr, List.length_nil, List.length_cons, List.getElem?_cons_zero, List.getElem?_cons_succ, Nat.reduceAdd, Nat.zero_add, Nat.add_zero, Nat.reduceLeDiff, Nat.reduceSub, ↓reduceIte, List.drop_succ_cons, List.drop_zero, List.take_succ_cons, List.take_zero, Bool.false_eq_true, List.nil_append, List.cons_append, Bool.not_true, Bool.not_false, cond_true, cond_false, bne, lv_ret, lv_normal, res1, res2, lv2_some, res_var, res_cell, lvf_v, lvf_slc, res1c, lvo1_some, e_mm, mm_max, mm_min]
    | true =>
    cases hsv : same t t' with
    | false =>
      rw [hsv] at hsm
      refine .inr ⟨by simp [sameBL, hsv], [a, b, .v (.bool false), .v (.int .i64 i), .junk, .v (.int .i64 es.length), .v (.int .i64 i), .v (.bool true), .v (.bool true)], h, loop_ret ?_, rfl⟩
      rw [hv]
      simp only [L24, AV.cells, c24_9, c24_4, c24_5, c24_6, c24_7, hlt, q1, q2, q3, q4, q5, s1, s2, hvv, hsm, e_bslice1, e_bslice2, bs1, bs2, e_build, bdH_some, bd_nil, bd_cons, bd1, cl_agg, cl_int, toL, List.map_cons, List.map_nil, putAt, List.set_cons_zero, List.set_cons_succ, and_self, Nat.le_refl, app_get, app_set, g_agg, run_nil, run_cons, stp_plain, stp_guard, put_some, pass_eq, pick_tt, pick_ff, pick_tf, pick_ft, pick_u, reg_some, thn_normal, thn_exit, thn_ret, cnd_t, cnd_f, blk_normal, blk_ret, blk_exit, x_seq, x_region, x_cond, x_block, x_loop, x_ret, x_exit, x_skip, e_mov, e_pick, pk_t, pk_f, withH_some, e_box, bx_some, e_load, e_store, stH_some, e_nil, e_bin, e_eqv, eqH_f, eqH_t, e_un, e_fa, e_ia, ia_eq, nat_eq, natV_nat, e_len, lnH_some, e_extract, ex_0, ex_1, e_call0, e_call1, e_call2, e_call3, pc0_eq, pc1_some, pc2_some, pc3_some, fin_some, g_var0, g_vars, g_loc0, g_locs, g_int, g_bool, g_str, g_sl, s_none, s_zero, s_succ, cl_nil, cl_str, cl_bool, cl_slc, cl_own, evFa, evNil, asEl, evBin, intBin, strBin, evUn, len_nil, len_slc, len_str, clr, List.length_nil, List.length_cons, List.getElem?_cons_zero, List.getElem?_cons_succ, Nat.reduceAdd, Nat.zero_add, Nat.add_zero, Nat.reduceLeDiff, Nat.reduceSub, ↓reduceIte, List.drop_succ_cons, List.drop_zero, List.take_succ_cons, List.take_zero, Bool.false_eq_true, List.nil_append, List.cons_append, Bool.not_true, Bool.not_false, cond_true, cond_false, bne, lv_ret, lv_normal, res1, res2, lv2_some, res_var, res_cell, lvf_v, lvf_slc, res1c, lvo1_some, e_mm, mm_max, mm_min]
    | true =>
      rw [hsv] at hsm
      have hw : IntKind.i64.wrap ((i : Int) + 1) = ((i + 1 : Nat) : Int) := by rw [wrap_ok (by omega) (by omega)]; omega
      have st : exec (callW F) K c24_9 (L24 a b es.length i) h = some (.normal, [a, b, .junk, .v (.int .i64 i), .junk, .v (.int .i64 es.length), .v (.int .i64 ((i + 1 : Nat) : Int)), .v (.bool true), .v (.bool false)], h) := by
        simp only [L24, AV.cells, c24_9, c24_4, c24_5, c24_6, c24_8, hlt, hw, q1, q2, q3, q4, q5, s1, s2, hvv, hsm, e_bslice1, e_bslice2, bs1, bs2, e_build, bdH_some, bd_nil, bd_cons, bd1, cl_agg, cl_int, toL, List.map_cons, List.map_nil, putAt, List.set_cons_zero, List.set_cons_succ, and_self, Nat.le_refl, app_get, app_set, g_agg, run_nil, run_cons, stp_plain, stp_guard, put_some, pass_eq, pick_tt, pick_ff, pick_tf, pick_ft, pick_u, reg_some, thn_normal, thn_exit, thn_ret, cnd_t, cnd_f, blk_normal, blk_ret, blk_exit, x_seq, x_region, x_cond, x_block, x_loop, x_ret, x_exit, x_skip, e_mov, e_pick, pk_t, pk_f, withH_some, e_box, bx_some, e_load, e_store, stH_some, e_nil, e_bin, e_eqv, eqH_f, eqH_t, e_un, e_fa, e_ia, ia_eq, nat_eq, natV_nat, e_len, lnH_some, e_extract, ex_0, ex_1, e_call0, e_call1, e_call2, e_call3, pc0_eq, pc1_some, pc2_some, pc3_some, fin_some, g_var0, g_vars, g_loc0, g_locs, g_int, g_bool, g_str, g_sl, s_none, s_zero, s_succ, cl_nil, cl_str, cl_bool, cl_slc, cl_own, evFa, evNil, asEl, evBin, intBin, strBin, evUn, len_nil, len_slc, len_str, clr, List.length_nil, List.length_cons, List.getElem?_cons_zero, List.getElem?_cons_succ, Nat.reduceAdd, Nat.zero_add, Nat.add_zero, Nat.reduceLeDiff, Nat.reduceSub, ↓reduceIte, List.drop_succ_cons, List.drop_zero, List.take_succ_cons, List.take_zero, Bool.false_eq_true, List.nil_append, List.cons_append, Bool.not_true, Bool.not_false, cond_true, cond_false, bne, lv_ret, lv_normal, res1, res2, lv2_some, res_var, res_cell, lvf_v, lvf_slc, res1c, lvo1_some, e_mm, mm_max, mm_min]
      rw [show ((v, t) :: l).length + 1 = (l.length + 1) + 1 from rfl, loop_normal (by rw [hv]; exact st)]
      have e1 : sameBL ((v, t) :: l) ((v', t') :: l') = sameBL l l' := by simp [sameBL, hvv, hsv]
      rw [e1]
      exact ih l' (i + 1) h _ (by simp at hi; omega) hsr hsr' rfl
theorem sameB_ok {a b : AV} {bs bs' : List (Int × Tm)} (ha : IsB a bs) (hb : IsB b bs') (hl : bs.length ≤ 200000) : callW F 24 [a, b] [] = some (.v (.bool (sameB bs bs')), []) := by
  obtain ⟨es, hs, hes, hm⟩ := ha.sl'
  obtain ⟨es', hs', hes', hm'⟩ := hb.sl'
  have l1 := hs.len
  have l2 := hs'.len
  have e1 := hes.length
  have e2 := hes'.length
  by_cases hlen : es.length = es'.length
  · have h1 : ((es.length : Int) == (es'.length : Int)) = true := by rw [hlen]; simp
    have eb : sameB bs bs' = sameBL bs bs' := by
      have : bs.length = bs'.length := by omega
      simp [sameB, this]
    rw [eb]
    have key := sb_loop (K := bs.length + 1) hs hs' hlen (by omega) bs bs' 0 [] (L24 a b es.length (0 : Nat)) (by omega) (by simpa using hes) (by simpa using hes') rfl
    refine callW_pure (c := c24) rfl rfl (bs.length + 1) ?_
    show lv [.var 2] (exec (callW F) (bs.length + 1) (.seq (.region [] [] c24_0) (.seq (.seq (.region [] [] c24_1) (.cond (.var 4) (.seq (.region [] [] c24_2) .ret) .skip)) (.seq (.seq (.region [] [] c24_3) (.block 0 (.loop K24 [] c24_9))) (.seq (.region [] [] c24_10) .ret)))) _ _) = _
    generalize hrest : (CC.seq (.region [] [] c24_10) .ret) = rest
    simp only [c24, start, List.replicate, c24_0, c24_1, c24_3, l1, l2, h1, e_bslice1, e_bslice2, bs1, bs2, e_build, bdH_some, bd_nil, bd_cons, bd1, cl_agg, cl_int, toL, List.map_cons, List.map_nil, putAt, List.set_cons_zero, List.set_cons_succ, and_self, Nat.le_refl, evStore, app_get, app_set, g_agg, run_nil, run_cons, stp_plain, stp_guard, put_some, pass_eq, pick_tt, pick_ff, pick_tf, pick_ft, pick_u, reg_some, thn_normal, thn_exit, thn_ret, cnd_t, cnd_f, blk_normal, blk_ret, blk_exit, x_seq, x_region, x_cond, x_block, x_loop, x_ret, x_exit, x_skip, e_mov, e_pick, pk_t, pk_f, withH_some, e_box, bx_some, e_load, e_store, stH_some, e_nil, e_bin, e_eqv, eqH_f, eqH_t, e_un, e_fa, e_ia, ia_eq, nat_eq, natV_nat, e_len, lnH_some, e_extract, ex_0, ex_1, e_call0, e_call1, e_call2, e_call3, pc0_eq, pc1_some, pc2_some, pc3_some, fin_some, g_var0, g_vars, g_loc0, g_locs, g_int, g_bool, g_str, g_sl, s_none, s_zero, s_succ, cl_nil, cl_str, cl_bool, cl_slc, cl_own, evFa, evNil, evLoad, asEl, evBin, intBin, strBin, evUn, len_nil, len_slc, len_str, clr, List.length_nil, List.length_cons, List.getElem?_cons_zero, List.getElem?_cons_succ, Nat.reduceAdd, Nat.zero_add, Nat.add_zero, Nat.reduceLeDiff, Nat.reduceSub, ↓reduceIte, List.drop_succ_cons, List.drop_zero, List.take_succ_cons, List.take_zero, Bool.false_eq_true, List.nil_append, List.cons_append, Bool.not_true, Bool.not_false, cond_true, cond_false, bne, lv_ret, lv_normal, res1, res2, lv2_some, res_var, res_cell, lvf_v, lvf_slc, res1c, lvo1_some, e_mm, mm_max, mm_min]
    rw [loop_cong (v2 := L24 a b es.length ((0 : Nat) : Int)) (by rfl)]
    rcases key with ⟨h0, vs, h', g1, g2⟩ | ⟨h0, vs, h', g1, g2⟩
    · rw [g1, h0, ← hrest]
      match vs, g2 with
      | [a0, a1, a2, a3, a4, a5, a6, a7, a8], _ => simp only [blk_exit, thn_normal, blk_ret, thn_ret, c24_10, run_nil, run_cons, stp_plain, stp_guard, put_some, pass_eq, pick_tt, pick_ff, pick_tf, pick_ft, pick_u, reg_some, thn_normal, thn_exit, thn_ret, cnd_t, cnd_f, blk_normal, blk_ret, blk_exit, x_seq, x_region, x_cond, x_block, x_loop, x_ret, x_exit, x_skip, e_mov, e_pick, pk_t, pk_f, withH_some, e_box, bx_some, e_load, e_store, stH_some, e_nil, e_bin, e_eqv, eqH_f, eqH_t, e_un, e_fa, e_ia, ia_eq, nat_eq, natV_nat, e_len, lnH_some, e_extract, ex_0, ex_1, e_call0, e_call1, e_call2, e_call3, pc0_eq, pc1_some, pc2_some, pc3_some, fin_some, g_var0, g_vars, g_loc0, g_locs, g_int, g_bool, g_str, g_sl, s_none, s_zero, s_succ, cl_nil, cl_str, cl_bool, cl_slc, cl_own, evFa, evNil, evLoad, asEl, evBin, intBin, strBin, evUn, len_nil, len_slc, len_str, clr, List.length_nil, List.length_cons, List.getElem?_cons_zero, List.getElem?_cons_succ, Nat.reduceAdd, Nat.zero_add, Nat.add_zero, Nat.reduceLeDiff, Nat.reduceSub, ↓reduceIte, List.drop_succ_cons, List.drop_zero, List.take_succ_cons, List.take_zero, Bool.false_eq_true, List.nil_append, List.cons_append, Bool.not_true, Bool.not_false, cond_true, cond_false, bne, lv_ret, lv_normal, res1, res2, lv2_some, res_var, res_cell, lvf_v, lvf_slc, res1c, lvo1_some, e_mm, mm_max, mm_min]
    · rw [g1, h0]
      simp only [blk_ret, thn_ret, g2, run_nil, run_cons, stp_plain, stp_guard, put_some, pass_eq, pick_tt, pick_ff, pick_tf, pick_ft, pick_u, reg_some, thn_normal, thn_exit, thn_ret, cnd_t, cnd_f, blk_normal, blk_ret, blk_exit, x_seq, x_region, x_cond, x_block, x_loop, x_ret, x_exit, x_skip, e_mov, e_pick, pk_t, pk_f, withH_some, e_box, bx_some, e_load, e_store, stH_some, e_nil, e_bin, e_eqv, eqH_f, eqH_t, e_un, e_fa, e_ia, ia_eq, nat_eq, natV_nat, e_len, lnH_some, e_extract, ex_0, ex_1, e_call0, e_call1, e_call2, e_call3, pc0_eq, pc1_some, pc2_some, pc3_some, fin_some, g_var0, g_vars, g_loc0, g_locs, g_int, g_bool, g_str, g_sl, s_none, s_zero, s_succ, cl_nil, cl_str, cl_bool, cl_slc, cl_own, evFa, evNil, evLoad, asEl, evBin, intBin, strBin, evUn, len_nil, len_slc, len_str, clr, List.length_nil, List.length_cons, List.getElem?_cons_zero, List.getElem?_cons_succ, Nat.reduceAdd, Nat.zero_add, Nat.add_zero, Nat.reduceLeDiff, Nat.reduceSub, ↓reduceIte, List.drop_succ_cons, List.drop_zero, List.take_succ_cons, List.take_zero, Bool.false_eq_true, List.nil_append, List.cons_append, Bool.not_true, Bool.not_false, cond_true, cond_false, bne, lv_ret, lv_normal, res1, res2, lv2_some, res_var, res_cell, lvf_v, lvf_slc, res1c, lvo1_some, e_mm, mm_max, mm_min]
  · have h1 : ((es.length : Int) == (es'.length : Int)) = false := by
      rw [beq_eq_false_iff_ne]; omega
    have eb : sameB bs bs' = false := by
      have : ¬ bs.length = bs'.length := by omega
      simp [sameB, this]
    rw [eb]
    refine callW_pure (c := c24) rfl rfl 0 ?_
    simp only [c24, start, List.replicate, c24_0, c24_1, c24_2, l1, l2, h1, e_bslice1, e_bslice2, bs1, bs2, e_build, bdH_some, bd_nil, bd_cons, bd1, cl_agg, cl_int, toL, List.map_cons, List.map_nil, putAt, List.set_cons_zero, List.set_cons_succ, and_self, Nat.le_refl, evStore, app_get, app_set, g_agg, run_nil, run_cons, stp_plain, stp_guard, put_some, pass_eq, pick_tt, pick_ff, pick_tf, pick_ft, pick_u, reg_some, thn_normal, thn_exit, thn_ret, cnd_t, cnd_f, blk_normal, blk_ret, blk_exit, x_seq, x_region, x_cond, x_block, x_loop, x_ret, x_exit, x_skip, e_mov, e_pick, pk_t, pk_f, withH_some, e_box, bx_some, e_load, e_store, stH_some, e_nil, e_bin, e_eqv, eqH_f, eqH_t, e_un, e_fa, e_ia, ia_eq, nat_eq, natV_nat, e_len, lnH_some, e_extract, ex_0, ex_1, e_call0, e_call1, e_call2, e_call3, pc0_eq, pc1_some, pc2_some, pc3_some, fin_some, g_var0, g_vars, g_loc0, g_locs, g_int, g_bool, g_str, g_sl, s_none, s_zero, s_succ, cl_nil, cl_str, cl_bool, cl_slc, cl_own, evFa, evNil, evLoad, asEl, evBin, intBin, strBin, evUn, len_nil, len_slc, len_str, clr, List.length_nil, List.length_cons, List.getElem?_cons_zero, List.getElem?_cons_succ, Nat.reduceAdd, Nat.zero_add, Nat.add_zero, Nat.reduceLeDiff, Nat.reduceSub, ↓reduceIte, List.drop_succ_cons, List.drop_zero, List.take_succ_cons, List.take_zero, Bool.false_eq_true, List.nil_append, List.cons_append, Bool.not_true, Bool.not_false, cond_true, cond_false, bne, lv_ret, lv_normal, res1, res2, lv2_some, res_var, res_cell, lvf_v, lvf_slc, res1c, lvo1_some, e_mm, mm_max, mm_min]

/-! ### good -/
def goodB (bs : List (Int × Tm)) : Bool := bs.all fun p => checkT p.2 == 0
def goodT (l : List Tm) : Bool := l.all fun t => checkT t == 0
def K19a : List Bool := [false, true, false, false, false, true, true, true, false, false, false, false, false, false, false]
def L19a (ts c : AV) (len i : Int) : List AV := [.junk, ts, .junk, .junk, .junk, c, .v (.int .i64 len), .v (.int .i64 i), .junk, .junk, .junk, .junk, .junk, .junk, .junk]
def zeroB5 : List AV := [.v (.int .i64 0), .v (.int .i64 0), .v (.string ⟨#[]⟩), .v (.int .i64 0), .v (.slice none 0 0)]
theorem q9b5 : (ofVal (.agg #[(.int .i64 0), (.int .i64 0), (.string ⟨#[]⟩), (.int .i64 0), (.slice none 0 0)])).cl = some zeroB5 := by simp [ofVal, AV.cl, Value.oneCell', zeroB5]
theorem good_loop {K : Nat} {c ts : AV} {es : List AV} (hs : Sl 5 c es) (hm : es.length ≤ 200000) :
    ∀ (l : List (Int × Tm)) (i : Nat) (h : List AO) (vars : List AV), i + l.length = es.length → AllB (es.drop i) l → (∀ p ∈ l, size p.2 ≤ 100000) → clr K19a vars = L19a ts c es.length i →
      (goodB l = true ∧ ∃ x h', loopN (exec (callW F) K c19_7) K19a (l.length + 1) vars h = some (.exit 0, [.junk, ts, .junk, .junk, .junk, c, .v (.int .i64 es.length), .v (.int .i64 es.length), x, .junk, .junk, .junk, .junk, .junk, .junk], h')) ∨
      (goodB l = false ∧ ∃ vs h', loopN (exec (callW F) K c19_7) K19a (l.length + 1) vars h = some (.ret, vs, h') ∧ getO vs [] (.var 2) = .v (.bool false)) := by
  intro l
  induction l with
  | nil =>
    intro i h vars hi _ _ hv
    have hil : i = es.length := by simpa using hi
    subst hil
    have hlt : decide ((es.length : Int) < (es.length : Int)) = false := by simp
    refine .inl ⟨rfl, .v (.bool false), h, loop_exit ?_⟩
    rw [hv]
    simp only [L19a, c19_7, c19_2, hlt, e_bslice1, e_bslice2, bs1, bs2, e_build, bdH_some, bd_nil, bd_cons, bd1, cl_agg, cl_int, toL, List.map_cons, List.map_nil, putAt, List.set_cons_zero, List.set_cons_succ, and_self, Nat.le_refl, app_get, app_set, g_agg, run_nil, run_cons, stp_plain, stp_guard, put_some, pass_eq, pick_tt, pick_ff, pick_tf, pick_ft, pick_u, reg_some, thn_normal, thn_exit, thn_ret, cnd_t, cnd_f, blk_normal, blk_ret, blk_exit, x_seq, x_region, x_cond, x_block, x_loop, x_ret, x_exit, x_skip, e_mov, e_pick, pk_t, pk_f, withH_some, e_box, bx_some, e_load, e_store, stH_some, e_nil, e_bin, e_eqv, eqH_f, eqH_t, e_un, e_fa, e_ia, ia_eq, nat_eq, natV_nat, e_len, lnH_some, e_extract, ex_0, ex_1, e_call0, e_call1, e_call2, e_call3, pc0_eq, pc1_some, pc2_some, pc3_some, fin_some, g_var0, g_vars, g_loc0, g_locs, g_int, g_bool, g_str, g_sl, s_none, s_zero, s_succ, cl_nil, cl_str, cl_bool, cl_slc, cl_own, evFa, evNil, asEl, evBin, intBin, strBin, evUn, len_nil, len_slc, len_str, clr, List.length_nil, List.length_cons, List.getElem?_cons_zero, List.getElem?_cons_succ, Nat.reduceAdd, Nat.zero_add, Nat.add_zero, Nat.reduceLeDiff, Nat.reduceSub, ↓reduceIte, List.drop_succ_cons, List.drop_zero, List.take_succ_cons, List.take_zero, Bool.false_eq_true, List.nil_append, List.cons_append, Bool.not_true, Bool.not_false, cond_true, cond_false, bne, lv_ret, lv_normal, res1, res2, lv2_some, res_var, res_cell, lvf_v, lvf_slc, res1c, lvo1_some, e_mm, mm_max, mm_min]
  | cons p l ih =>
    intro i h vars hi hes hsz hv
    obtain ⟨v, t⟩ := p
    have hil : i < es.length := by simp at hi; omega
    have he : es[i]? = some (es[i]'hil) := List.getElem?_eq_getElem _
    have hd : es.drop i = es[i] :: es.drop (i + 1) := List.drop_eq_getElem_cons hil
    rw [hd] at hes
    generalize es[i]'hil = e at hes he
    cases hes with
    | cons _ _ _ _ _ hT hsr =>
    have hT0 := hT
    cases hT with
    | mk v cs t ht =>
    have hlt : (decide ((i : Int) < (es.length : Int))) = true := by simp; omega
    have q1 := hs.ia he
    have hcsl : cs.length = 4 := ht.cl.2
    have q3 : ∀ h : List AO, evLoad h true 5 (.ip (.v (.int .i64 v) :: cs)) = some (.agg (.v (.int .i64 v) :: cs)) := fun h => hT0.load
    have q6 : ∀ h : List AO, evStore (h ++ [.box zeroB5]) 5 (.ptr h.length 0) (.agg (.v (.int .i64 v) :: cs)) = some (h ++ [.box (.v (.int .i64 v) :: cs)]) := fun h => st_new cl_agg (by simp [hcsl]) rfl
    have q7 : ∀ h : List AO, evLoad (h ++ [.box (.v (.int .i64 v) :: cs)]) true 4 (.ptr h.length 1) = some (.agg cs) := by
      intro h; rw [ld_new, if_pos (by simp [hcsl])]
      simp only [List.drop_succ_cons, List.drop_zero, List.take_of_length_le (show cs.length ≤ 4 by omega), asEl, if_true]
    have s1 : ∀ h : List AO, (AV.agg cs).snap1 h = some (.agg cs) := fun h => ht.snap
    have hck := check_ok (hsz (v, t) (by simp)) ht
    simp only [zeroB5] at q6
    have q9 := q9b5
    simp only [zeroB5] at q9
    simp only [AV.cells] at q1
    cases hz : (checkT t == 0) with
    | false =>
      refine .inr ⟨by simp [goodB, hz], [.junk, ts, .v (.bool false), .ptr h.length 0, .junk, c, .v (.int .i64 es.length), .v (.int .i64 i), .v (.bool true), .v (.bool true), .junk, .junk, .junk, .junk, .junk], h ++ [.box (.v (.int .i64 v) :: cs)], loop_ret ?_, rfl⟩
      rw [hv]
      simp only [L19a, AV.cells, c19_7, c19_2, c19_3, c19_4, c19_5, hlt, q1, q3, q6, q7, q9, s1, hck, hz, e_bslice1, e_bslice2, bs1, bs2, e_build, bdH_some, bd_nil, bd_cons, bd1, cl_agg, cl_int, toL, List.map_cons, List.map_nil, putAt, List.set_cons_zero, List.set_cons_succ, and_self, Nat.le_refl, app_get, app_set, g_agg, run_nil, run_cons, stp_plain, stp_guard, put_some, pass_eq, pick_tt, pick_ff, pick_tf, pick_ft, pick_u, reg_some, thn_normal, thn_exit, thn_ret, cnd_t, cnd_f, blk_normal, blk_ret, blk_exit, x_seq, x_region, x_cond, x_block, x_loop, x_ret, x_exit, x_skip, e_mov, e_pick, pk_t, pk_f, withH_some, e_box, bx_some, e_load, e_store, stH_some, e_nil, e_bin, e_eqv, eqH_f, eqH_t, e_un, e_fa, e_ia, ia_eq, nat_eq, natV_nat, e_len, lnH_some, e_extract, ex_0, ex_1, e_call0, e_call1, e_call2, e_call3, pc0_eq, pc1_some, pc2_some, pc3_some, fin_some, g_var0, g_vars, g_loc0, g_locs, g_int, g_bool, g_str, g_sl, s_none, s_zero, s_succ, cl_nil, cl_str, cl_bool, cl_slc, cl_own, evFa, evNil, asEl, evBin, intBin, strBin, evUn, len_nil, len_slc, len_str, clr, List.length_nil, List.length_cons, List.getElem?_cons_zero, List.getElem?_cons_succ, Nat.reduceAdd, Nat.zero_add, Nat.add_zero, Nat.reduceLeDiff, Nat.reduceSub, ↓reduceIte, List.drop_succ_cons, List.drop_zero, List.take_succ_cons, List.take_zero, Bool.false_eq_true, List.nil_append, List.cons_append, Bool.not_true, Bool.not_false, cond_true, cond_false, bne, lv_ret, lv_normal, res1, res2, lv2_some, res_var, res_cell, lvf_v, lvf_slc, res1c, lvo1_some, e_mm, mm_max, mm_min]
    | true =>
      have hw : IntKind.i64.wrap ((i : Int) + 1) = ((i + 1 : Nat) : Int) := by rw [wrap_ok (by omega) (by omega)]; omega
      have st : exec (callW F) K c19_7 (L19a ts c es.length i) h = some (.normal, [.junk, ts, .junk, .ptr h.length 0, .junk, c, .v (.int .i64 es.length), .v (.int .i64 ((i + 1 : Nat) : Int)), .v (.bool true), .v (.bool false), .junk, .junk, .junk, .junk, .junk], h ++ [.box (.v (.int .i64 v) :: cs)]) := by
        simp only [L19a, AV.cells, c19_7, c19_2, c19_3, c19_4, c19_6, hlt, hw, q1, q3, q6, q7, q9, s1, hck, hz, e_bslice1, e_bslice2, bs1, bs2, e_build, bdH_some, bd_nil, bd_cons, bd1, cl_agg, cl_int, toL, List.map_cons, List.map_nil, putAt, List.set_cons_zero, List.set_cons_succ, and_self, Nat.le_refl, app_get, app_set, g_agg, run_nil, run_cons, stp_plain, stp_guard, put_some, pass_eq, pick_tt, pick_ff, pick_tf, pick_ft, pick_u, reg_some, thn_normal, thn_exit, thn_ret, cnd_t, cnd_f, blk_normal, blk_ret, blk_exit, x_seq, x_region, x_cond, x_block, x_loop, x_ret, x_exit, x_skip, e_mov, e_pick, pk_t, pk_f, withH_some, e_box, bx_some, e_load, e_store, stH_some, e_nil, e_bin, e_eqv, eqH_f, eqH_t, e_un, e_fa, e_ia, ia_eq, nat_eq, natV_nat, e_len, lnH_some, e_extract, ex_0, ex_1, e_call0, e_call1, e_call2, e_call3, pc0_eq, pc1_some, pc2_some, pc3_some, fin_some, g_var0, g_vars, g_loc0, g_locs, g_int, g_bool, g_str, g_sl, s_none, s_zero, s_succ, cl_nil, cl_str, cl_bool, cl_slc, cl_own, evFa, evNil, asEl, evBin, intBin, strBin, evUn, len_nil, len_slc, len_str, clr, List.length_nil, List.length_cons, List.getElem?_cons_zero, List.getElem?_cons_succ, Nat.reduceAdd, Nat.zero_add, Nat.add_zero, Nat.reduceLeDiff, Nat.reduceSub, ↓reduceIte, List.drop_succ_cons, List.drop_zero, List.take_succ_cons, List.take_zero, Bool.false_eq_true, List.nil_append, List.cons_append, Bool.not_true, Bool.not_false, cond_true, cond_false, bne, lv_ret, lv_normal, res1, res2, lv2_some, res_var, res_cell, lvf_v, lvf_slc, res1c, lvo1_some, e_mm, mm_max, mm_min]
      rw [show ((v, t) :: l).length + 1 = (l.length + 1) + 1 from rfl, loop_normal (by rw [hv]; exact st)]
      have e1 : goodB ((v, t) :: l) = goodB l := by simp only [goodB, List.all_cons, hz, Bool.true_and]
      rw [e1]
      exact ih (i + 1) _ _ (by simp at hi; omega) hsr (fun p hp => hsz p (by simp [hp])) rfl
def K19b : List Bool := [false, false, false, false, false, false, false, false, false, false, true, true, true, false, false]
def L19b (c : AV) (len i : Int) : List AV := [.junk, .junk, .junk, .junk, .junk, .junk, .junk, .junk, .junk, .junk, c, .v (.int .i64 len), .v (.int .i64 i), .junk, .junk]
theorem good_loop2 {K : Nat} {c : AV} {es : List AV} (hs : Sl 4 c es) (hm : es.length ≤ 200000) :
    ∀ (l : List Tm) (i : Nat) (h : List AO) (vars : List AV), i + l.length = es.length → All2 (es.drop i) l → (∀ p ∈ l, size p ≤ 100000) → clr K19b vars = L19b c es.length i →
      (goodT l = true ∧ ∃ x h', loopN (exec (callW F) K c19_14) K19b (l.length + 1) vars h = some (.exit 2, [.junk, .junk, .junk, .junk, .junk, .junk, .junk, .junk, .junk, .junk, c, .v (.int .i64 es.length), .v (.int .i64 es.length), x, .junk], h')) ∨
      (goodT l = false ∧ ∃ vs h', loopN (exec (callW F) K c19_14) K19b (l.length + 1) vars h = some (.ret, vs, h') ∧ getO vs [] (.var 2) = .v (.bool false)) := by
  intro l
  induction l with
  | nil =>
    intro i h vars hi _ _ hv
    have hil : i = es.length := by simpa using hi
    subst hil
    have hlt : decide ((es.length : Int) < (es.length : Int)) = false := by simp
    refine .inl ⟨rfl, .v (.bool false), h, loop_exit ?_⟩
    rw [hv]
    simp only [L19b, c19_14, c19_9, hlt, e_bslice1, e_bslice2, bs1, bs2, e_build, bdH_some, bd_nil, bd_cons, bd1, cl_agg, cl_int, toL, List.map_cons, List.map_nil, putAt, List.set_cons_zero, List.set_cons_succ, and_self, Nat.le_refl, app_get, app_set, g_agg, run_nil, run_cons, stp_plain, stp_guard, put_some, pass_eq, pick_tt, pick_ff, pick_tf, pick_ft, pick_u, reg_some, thn_normal, thn_exit, thn_ret, cnd_t, cnd_f, blk_normal, blk_ret, blk_exit, x_seq, x_region, x_cond, x_block, x_loop, x_ret, x_exit, x_skip, e_mov, e_pick, pk_t, pk_f, withH_some, e_box, bx_some, e_load, e_store, stH_some, e_nil, e_bin, e_eqv, eqH_f, eqH_t, e_un, e_fa, e_ia, ia_eq, nat_eq, natV_nat, e_len, lnH_some, e_extract, ex_0, ex_1, e_call0, e_call1, e_call2, e_call3, pc0_eq, pc1_some, pc2_some, pc3_some, fin_some, g_var0, g_vars, g_loc0, g_locs, g_int, g_bool, g_str, g_sl, s_none, s_zero, s_succ, cl_nil, cl_str, cl_bool, cl_slc, cl_own, evFa, evNil, asEl, evBin, intBin, strBin, evUn, len_nil, len_slc, len_str, clr, List.length_nil, List.length_cons, List.getElem?_cons_zero, List.getElem?_cons_succ, Nat.reduceAdd, Nat.zero_add, Nat.add_zero, Nat.reduceLeDiff, Nat.reduceSub, ↓reduceIte, List.drop_succ_cons, List.drop_zero, List.take_succ_cons, List.take_zero, Bool.false_eq_true, List.nil_append, List.cons_append, Bool.not_true, Bool.not_false, cond_true, cond_false, bne, lv_ret, lv_normal, res1, res2, lv2_some, res_var, res_cell, lvf_v, lvf_slc, res1c, lvo1_some, e_mm, mm_max, mm_min]
  | cons t l ih =>
    intro i h vars hi hes hsz hv
    have hil : i < es.length := by simp at hi; omega
    have he : es[i]? = some (es[i]'hil) := List.getElem?_eq_getElem _
    have hd : es.drop i = es[i] :: es.drop (i + 1) := List.drop_eq_getElem_cons hil
    rw [hd] at hes
    generalize es[i]'hil = e at hes he
    cases hes with
    | cons _ _ _ _ hT hsr =>
    have hlt : (decide ((i : Int) < (es.length : Int))) = true := by simp; omega
    have q1 := hs.ia he
    have q3 : ∀ h : List AO, evLoad h true 4 (.ip e.cells) = some e := fun h => hT.load
    have q5 : ∀ h : List AO, e.snap1 h = some e := fun h => hT.snap
    have hzz : ([.v (.int .i64 0), .v (.string ⟨#[]⟩), .v (.int .i64 0), .v (.slice none 0 0)] : List AV).length = 4 := rfl
    have hck := check_ok (hsz t (by simp)) hT
    cases hz : (checkT t == 0) with
    | false =>
      refine .inr ⟨by simp [goodT, hz], [.junk, .junk, .v (.bool false), .junk, .ptr h.length 0, .junk, .junk, .junk, .junk, .junk, c, .v (.int .i64 es.length), .v (.int .i64 i), .v (.bool true), .v (.bool true)], h ++ [.box e.cells], loop_ret ?_, rfl⟩
      rw [hv]
      simp only [L19b, c19_14, c19_9, c19_10, c19_11, c19_12, hlt, q1, q3, q5, hck, hz, hT.st _ _ hzz, hT.ld, q9z, e_bslice1, e_bslice2, bs1, bs2, e_build, bdH_some, bd_nil, bd_cons, bd1, cl_agg, cl_int, toL, List.map_cons, List.map_nil, putAt, List.set_cons_zero, List.set_cons_succ, and_self, Nat.le_refl, app_get, app_set, g_agg, run_nil, run_cons, stp_plain, stp_guard, put_some, pass_eq, pick_tt, pick_ff, pick_tf, pick_ft, pick_u, reg_some, thn_normal, thn_exit, thn_ret, cnd_t, cnd_f, blk_normal, blk_ret, blk_exit, x_seq, x_region, x_cond, x_block, x_loop, x_ret, x_exit, x_skip, e_mov, e_pick, pk_t, pk_f, withH_some, e_box, bx_some, e_load, e_store, stH_some, e_nil, e_bin, e_eqv, eqH_f, eqH_t, e_un, e_fa, e_ia, ia_eq, nat_eq, natV_nat, e_len, lnH_some, e_extract, ex_0, ex_1, e_call0, e_call1, e_call2, e_call3, pc0_eq, pc1_some, pc2_some, pc3_some, fin_some, g_var0, g_vars, g_loc0, g_locs, g_int, g_bool, g_str, g_sl, s_none, s_zero, s_succ, cl_nil, cl_str, cl_bool, cl_slc, cl_own, evFa, evNil, asEl, evBin, intBin, strBin, evUn, len_nil, len_slc, len_str, clr, List.length_nil, List.length_cons, List.getElem?_cons_zero, List.getElem?_cons_succ, Nat.reduceAdd, Nat.zero_add, Nat.add_zero, Nat.reduceLeDiff, Nat.reduceSub, ↓reduceIte, List.drop_succ_cons, List.drop_zero, List.take_succ_cons, List.take_zero, Bool.false_eq_true, List.nil_append, List.cons_append, Bool.not_true, Bool.not_false, cond_true, cond_false, bne, lv_ret, lv_normal, res1, res2, lv2_some, res_var, res_cell, lvf_v, lvf_slc, res1c, lvo1_some, e_mm, mm_max, mm_min]
    | true =>
      have hw : IntKind.i64.wrap ((i : Int) + 1) = ((i + 1 : Nat) : Int) := by rw [wrap_ok (by omega) (by omega)]; omega
      have st : exec (callW F) K c19_14 (L19b c es.length i) h = some (.normal, [.junk, .junk, .junk, .junk, .ptr h.length 0, .junk, .junk, .junk, .junk, .junk, c, .v (.int .i64 es.length), .v (.int .i64 ((i + 1 : Nat) : Int)), .v (.bool true), .v (.bool false)], h ++ [.box e.cells]) := by
        simp only [L19b, c19_14, c19_9, c19_10, c19_11, c19_13, hlt, hw, q1, q3, q5, hck, hz, hT.st _ _ hzz, hT.ld, q9z, e_bslice1, e_bslice2, bs1, bs2, e_build, bdH_some, bd_nil, bd_cons, bd1, cl_agg, cl_int, toL, List.map_cons, List.map_nil, putAt, List.set_cons_zero, List.set_cons_succ, and_self, Nat.le_refl, app_get, app_set, g_agg, run_nil, run_cons, stp_plain, stp_guard, put_some, pass_eq, pick_tt, pick_ff, pick_tf, pick_ft, pick_u, reg_some, thn_normal, thn_exit, thn_ret, cnd_t, cnd_f, blk_normal, blk_ret, blk_exit, x_seq, x_region, x_cond, x_block, x_loop, x_ret, x_exit, x_skip, e_mov, e_pick, pk_t, pk_f, withH_some, e_box, bx_some, e_load, e_store, stH_some, e_nil, e_bin, e_eqv, eqH_f, eqH_t, e_un, e_fa, e_ia, ia_eq, nat_eq, natV_nat, e_len, lnH_some, e_extract, ex_0, ex_1, e_call0, e_call1, e_call2, e_call3, pc0_eq, pc1_some, pc2_some, pc3_some, fin_some, g_var0, g_vars, g_loc0, g_locs, g_int, g_bool, g_str, g_sl, s_none, s_zero, s_succ, cl_nil, cl_str, cl_bool, cl_slc, cl_own, evFa, evNil, asEl, evBin, intBin, strBin, evUn, len_nil, len_slc, len_str, clr, List.length_nil, List.length_cons, List.getElem?_cons_zero, List.getElem?_cons_succ, Nat.reduceAdd, Nat.zero_add, Nat.add_zero, Nat.reduceLeDiff, Nat.reduceSub, ↓reduceIte, List.drop_succ_cons, List.drop_zero, List.take_succ_cons, List.take_zero, Bool.false_eq_true, List.nil_append, List.cons_append, Bool.not_true, Bool.not_false, cond_true, cond_false, bne, lv_ret, lv_normal, res1, res2, lv2_some, res_var, res_cell, lvf_v, lvf_slc, res1c, lvo1_some, e_mm, mm_max, mm_min]
      rw [show (t :: l).length + 1 = (l.length + 1) + 1 from rfl, loop_normal (by rw [hv]; exact st)]
      have e1 : goodT (t :: l) = goodT l := by simp only [goodT, List.all_cons, hz, Bool.true_and]
      rw [e1]
      exact ih (i + 1) _ _ (by simp at hi; omega) hsr (fun p hp => hsz p (by simp [hp])) rfl
theorem good_ok {b ts : AV} {bs : List (Int × Tm)} {l : List Tm} (hb : IsB b bs) {es : List AV} (hs2 : Sl 4 ts es) (hes2 : All2 es l) (hl : bs.length ≤ 100000) (hl2 : l.length ≤ 100000) (hz1 : ∀ p ∈ bs, size p.2 ≤ 100000) (hz2 : ∀ p ∈ l, size p ≤ 100000) : callW F 19 [b, ts] [] = some (.v (.bool (goodB bs && goodT l)), []) := by
  obtain ⟨es1, hs, hes, hm⟩ := hb.sl'
  have l1 := hs.len
  have l2 := hs2.len
  have e1 := hes.length
  have e2 := hes2.length
  have key := good_loop (K := bs.length + l.length + 1) (ts := ts) hs (by omega) bs 0 [] (L19a ts b es1.length (0 : Nat)) (by omega) (by simpa using hes) hz1 rfl
  have mono : ∀ {step : List AV → List AO → CRun} {keep : List Bool} (n d : Nat) (v : List AV) (h : List AO) (q : AXit × List AV × List AO), loopN step keep n v h = some q → loopN step keep (n + d) v h = some q := by
    intro step keep n
    induction n with
    | zero => intro d v h q hq; cases hq
    | succ n ih =>
      intro d v h q hq
      rw [show n + 1 + d = (n + d) + 1 by omega]
      simp only [loopN] at hq ⊢
      cases hstep : step (clr keep v) h with
      | none => rw [hstep] at hq; cases hq
      | some w =>
        obtain ⟨x, v', h'⟩ := w
        rw [hstep] at hq
        cases x with
        | normal => exact ih d v' h' q hq
        | exit id => exact hq
        | ret => exact hq
  refine callW_pure (c := c19) rfl rfl (bs.length + l.length + 1) ?_
  show lv [.var 2] (exec (callW F) (bs.length + l.length + 1) (.seq (.region [] [] c19_0) (.seq (.seq (.region [] [] c19_1) (.block 0 (.loop K19a [] c19_7))) (.seq (.seq (.region [] [] c19_8) (.block 2 (.loop K19b [] c19_14))) (.seq (.region [] [] c19_15) .ret)))) _ _) = _
  generalize hrest : (CC.seq (.seq (.region [] [] c19_8) (.block 2 (.loop K19b [] c19_14))) (.seq (.region [] [] c19_15) .ret)) = rest
  simp only [c19, start, List.replicate, c19_0, c19_1, l1, e_bslice1, e_bslice2, bs1, bs2, e_build, bdH_some, bd_nil, bd_cons, bd1, cl_agg, cl_int, toL, List.map_cons, List.map_nil, putAt, List.set_cons_zero, List.set_cons_succ, and_self, Nat.le_refl, evStore, app_get, app_set, g_agg, run_nil, run_cons, stp_plain, stp_guard, put_some, pass_eq, pick_tt, pick_ff, pick_tf, pick_ft, pick_u, reg_some, thn_normal, thn_exit, thn_ret, cnd_t, cnd_f, blk_normal, blk_ret, blk_exit, x_seq, x_region, x_cond, x_block, x_loop, x_ret, x_exit, x_skip, e_mov, e_pick, pk_t, pk_f, withH_some, e_box, bx_some, e_load, e_store, stH_some, e_nil, e_bin, e_eqv, eqH_f, eqH_t, e_un, e_fa, e_ia, ia_eq, nat_eq, natV_nat, e_len, lnH_some, e_extract, ex_0, ex_1, e_call0, e_call1, e_call2, e_call3, pc0_eq, pc1_some, pc2_some, pc3_some, fin_some, g_var0, g_vars, g_loc0, g_locs, g_int, g_bool, g_str, g_sl, s_none, s_zero, s_succ, cl_nil, cl_str, cl_bool, cl_slc, cl_own, evFa, evNil, evLoad, asEl, evBin, intBin, strBin, evUn, len_nil, len_slc, len_str, clr, List.length_nil, List.length_cons, List.getElem?_cons_zero, List.getElem?_cons_succ, Nat.reduceAdd, Nat.zero_add, Nat.add_zero, Nat.reduceLeDiff, Nat.reduceSub, ↓reduceIte, List.drop_succ_cons, List.drop_zero, List.take_succ_cons, List.take_zero, Bool.false_eq_true, List.nil_append, List.cons_append, Bool.not_true, Bool.not_false, cond_true, cond_false, bne, lv_ret, lv_normal, res1, res2, lv2_some, res_var, res_cell, lvf_v, lvf_slc, res1c, lvo1_some, e_mm, mm_max, mm_min]
  rw [loop_cong (v2 := L19a ts b es1.length ((0 : Nat) : Int)) (by rfl)]
  rcases key with ⟨h0, x, h', g1⟩ | ⟨h0, vs, h', g1, g2⟩
  · have g1 := mono _ l.length _ _ _ g1
    rw [show bs.length + 1 + l.length = bs.length + l.length + 1 by omega] at g1
    rw [g1, h0, ← hrest]
    have key2 := good_loop2 (K := bs.length + l.length + 1) hs2 (by omega) l 0 h' (L19b ts es.length (0 : Nat)) (by omega) (by simpa using hes2) hz2 rfl
    simp only [blk_exit, thn_normal, c19_8, l2, e_bslice1, e_bslice2, bs1, bs2, e_build, bdH_some, bd_nil, bd_cons, bd1, cl_agg, cl_int, toL, List.map_cons, List.map_nil, putAt, List.set_cons_zero, List.set_cons_succ, and_self, Nat.le_refl, evStore, app_get, app_set, g_agg, run_nil, run_cons, stp_plain, stp_guard, put_some, pass_eq, pick_tt, pick_ff, pick_tf, pick_ft, pick_u, reg_some, thn_normal, thn_exit, thn_ret, cnd_t, cnd_f, blk_normal, blk_ret, blk_exit, x_seq, x_region, x_cond, x_block, x_loop, x_ret, x_exit, x_skip, e_mov, e_pick, pk_t, pk_f, withH_some, e_box, bx_some, e_load, e_store, stH_some, e_nil, e_bin, e_eqv, eqH_f, eqH_t, e_un, e_fa, e_ia, ia_eq, nat_eq, natV_nat, e_len, lnH_some, e_extract, ex_0, ex_1, e_call0, e_call1, e_call2, e_call3, pc0_eq, pc1_some, pc2_some, pc3_some, fin_some, g_var0, g_vars, g_loc0, g_locs, g_int, g_bool, g_str, g_sl, s_none, s_zero, s_succ, cl_nil, cl_str, cl_bool, cl_slc, cl_own, evFa, evNil, evLoad, asEl, evBin, intBin, strBin, evUn, len_nil, len_slc, len_str, clr, List.length_nil, List.length_cons, List.getElem?_cons_zero, List.getElem?_cons_succ, Nat.reduceAdd, Nat.zero_add, Nat.add_zero, Nat.reduceLeDiff, Nat.reduceSub, ↓reduceIte, List.drop_succ_cons, List.drop_zero, List.take_succ_cons, List.take_zero, Bool.false_eq_true, List.nil_append, List.cons_append, Bool.not_true, Bool.not_false, cond_true, cond_false, bne, lv_ret, lv_normal, res1, res2, lv2_some, res_var, res_cell, lvf_v, lvf_slc, res1c, lvo1_some, e_mm, mm_max, mm_min]
    rw [loop_cong (v2 := L19b ts es.length ((0 : Nat) : Int)) (by rfl)]
    rcases key2 with ⟨h1, x, h'', g2⟩ | ⟨h1, vs, h'', g2, g3⟩
    · have g2 := mono _ bs.length _ _ _ g2
      rw [show l.length + 1 + bs.length = bs.length + l.length + 1 by omega] at g2
      rw [g2, h1]
      simp only [blk_exit, thn_normal, c19_15, Bool.and_true, run_nil, run_cons, stp_plain, stp_guard, put_some, pass_eq, pick_tt, pick_ff, pick_tf, pick_ft, pick_u, reg_some, thn_normal, thn_exit, thn_ret, cnd_t, cnd_f, blk_normal, blk_ret, blk_exit, x_seq, x_region, x_cond, x_block, x_loop, x_ret, x_exit, x_skip, e_mov, e_pick, pk_t, pk_f, withH_some, e_box, bx_some, e_load, e_store, stH_some, e_nil, e_bin, e_eqv, eqH_f, eqH_t, e_un, e_fa, e_ia, ia_eq, nat_eq, natV_nat, e_len, lnH_some, e_extract, ex_0, ex_1, e_call0, e_call1, e_call2, e_call3, pc0_eq, pc1_some, pc2_some, pc3_some, fin_some, g_var0, g_vars, g_loc0, g_locs, g_int, g_bool, g_str, g_sl, s_none, s_zero, s_succ, cl_nil, cl_str, cl_bool, cl_slc, cl_own, evFa, evNil, evLoad, asEl, evBin, intBin, strBin, evUn, len_nil, len_slc, len_str, clr, List.length_nil, List.length_cons, List.getElem?_cons_zero, List.getElem?_cons_succ, Nat.reduceAdd, Nat.zero_add, Nat.add_zero, Nat.reduceLeDiff, Nat.reduceSub, ↓reduceIte, List.drop_succ_cons, List.drop_zero, List.take_succ_cons, List.take_zero, Bool.false_eq_true, List.nil_append, List.cons_append, Bool.not_true, Bool.not_false, cond_true, cond_false, bne, lv_ret, lv_normal, res1, res2, lv2_some, res_var, res_cell, lvf_v, lvf_slc, res1c, lvo1_some, e_mm, mm_max, mm_min]
    · have g2 := mono _ bs.length _ _ _ g2
      rw [show l.length + 1 + bs.length = bs.length + l.length + 1 by omega] at g2
      rw [g2, h1]
      simp only [blk_ret, thn_ret, g3, Bool.and_false, run_nil, run_cons, stp_plain, stp_guard, put_some, pass_eq, pick_tt, pick_ff, pick_tf, pick_ft, pick_u, reg_some, thn_normal, thn_exit, thn_ret, cnd_t, cnd_f, blk_normal, blk_ret, blk_exit, x_seq, x_region, x_cond, x_block, x_loop, x_ret, x_exit, x_skip, e_mov, e_pick, pk_t, pk_f, withH_some, e_box, bx_some, e_load, e_store, stH_some, e_nil, e_bin, e_eqv, eqH_f, eqH_t, e_un, e_fa, e_ia, ia_eq, nat_eq, natV_nat, e_len, lnH_some, e_extract, ex_0, ex_1, e_call0, e_call1, e_call2, e_call3, pc0_eq, pc1_some, pc2_some, pc3_some, fin_some, g_var0, g_vars, g_loc0, g_locs, g_int, g_bool, g_str, g_sl, s_none, s_zero, s_succ, cl_nil, cl_str, cl_bool, cl_slc, cl_own, evFa, evNil, evLoad, asEl, evBin, intBin, strBin, evUn, len_nil, len_slc, len_str, clr, List.length_nil, List.length_cons, List.getElem?_cons_zero, List.getElem?_cons_succ, Nat.reduceAdd, Nat.zero_add, Nat.add_zero, Nat.reduceLeDiff, Nat.reduceSub, ↓reduceIte, List.drop_succ_cons, List.drop_zero, List.take_succ_cons, List.take_zero, Bool.false_eq_true, List.nil_append, List.cons_append, Bool.not_true, Bool.not_false, cond_true, cond_false, bne, lv_ret, lv_normal, res1, res2, lv2_some, res_var, res_cell, lvf_v, lvf_slc, res1c, lvo1_some, e_mm, mm_max, mm_min]
  · have g1 := mono _ l.length _ _ _ g1
    rw [show bs.length + 1 + l.length = bs.length + l.length + 1 by omega] at g1
    rw [g1, h0]
    simp only [blk_ret, thn_ret, g2, Bool.false_and, run_nil, run_cons, stp_plain, stp_guard, put_some, pass_eq, pick_tt, pick_ff, pick_tf, pick_ft, pick_u, reg_some, thn_normal, thn_exit, thn_ret, cnd_t, cnd_f, blk_normal, blk_ret, blk_exit, x_seq, x_region, x_cond, x_block, x_loop, x_ret, x_exit, x_skip, e_mov, e_pick, pk_t, pk_f, withH_some, e_box, bx_some, e_load, e_store, stH_some, e_nil, e_bin, e_eqv, eqH_f, eqH_t, e_un, e_fa, e_ia, ia_eq, nat_eq, natV_nat, e_len, lnH_some, e_extract, ex_0, ex_1, e_call0, e_call1, e_call2, e_call3, pc0_eq, pc1_some, pc2_some, pc3_some, fin_some, g_var0, g_vars, g_loc0, g_locs, g_int, g_bool, g_str, g_sl, s_none, s_zero, s_succ, cl_nil, cl_str, cl_bool, cl_slc, cl_own, evFa, evNil, evLoad, asEl, evBin, intBin, strBin, evUn, len_nil, len_slc, len_str, clr, List.length_nil, List.length_cons, List.getElem?_cons_zero, List.getElem?_cons_succ, Nat.reduceAdd, Nat.zero_add, Nat.add_zero, Nat.reduceLeDiff, Nat.reduceSub, ↓reduceIte, List.drop_succ_cons, List.drop_zero, List.take_succ_cons, List.take_zero, Bool.false_eq_true, List.nil_append, List.cons_append, Bool.not_true, Bool.not_false, cond_true, cond_false, bne, lv_ret, lv_normal, res1, res2, lv2_some, res_var, res_cell, lvf_v, lvf_slc, res1c, lvo1_some, e_mm, mm_max, mm_min]
end Go.AE.YtpgoibncgekflaaDoor
end

/-! Bindings and terms that may be. -/
section
set_option linter.unusedVariables false
set_option linter.unusedSimpArgs false
namespace Go.AE.YtpgoibncgekflaaDoor
open Go Go.AE Go.Proofs.YtpgoibncgekflaaDoor

theorem check_may {t : Tm} (h : checkT t = 0) : mayT t = true := by
  unfold checkT at h
  split at h
  · assumption
  · omega
theorem goodB_may {bs : List (Int × Tm)} (h : goodB bs = true) : ∀ p ∈ bs, mayT p.2 = true := by
  intro p hp
  simp only [goodB, List.all_eq_true, beq_iff_eq] at h
  exact check_may (h p hp)
theorem goodT_may {l : List Tm} (h : goodT l = true) : ∀ p ∈ l, mayT p = true := by
  intro p hp
  simp only [goodT, List.all_eq_true, beq_iff_eq] at h
  exact check_may (h p hp)
theorem IsB.snap' {c : AV} {bs : List (Int × Tm)} (h : IsB c bs) (H : List AO) : c.snap1 H = some c := by cases h <;> rfl
end Go.AE.YtpgoibncgekflaaDoor
end

/-! The examples of Unify; what is too great. -/
section
set_option linter.unusedVariables false
set_option linter.unusedSimpArgs false
namespace Go.AE.YtpgoibncgekflaaDoor
open Go Go.AE Go.Proofs.YtpgoibncgekflaaDoor
set_option maxRecDepth 1000000 in
theorem live17_n : callN F 60 17 [] [] = some (.v (.bool true), []) := by kernel_rfl
theorem live17 : callW F 17 [] [] = some (.v (.bool true), []) := callW_iff.2 ⟨_, live17_n⟩
theorem call_same {f g : FuncId} {c : CFun} (hf : F f = some (.code c)) (hg : F g = some (.code c)) (args : List AV) (h : List AO) (r : AV × List AO) : callW F f args h = some r → callW F g args h = some r := by
  intro hr
  obtain ⟨n, hn⟩ := callW_iff.1 hr
  refine callW_iff.2 ⟨n, ?_⟩
  cases n with
  | zero => cases hn
  | succ n => simp only [callN, hf] at hn; simp only [callN, hg]; exact hn
theorem c18_10 : c18 = c10 := rfl
theorem big18 {b ts : AV} {bs : List (Int × Tm)} {l : List Tm} (hb : IsB b bs) {ex nn : Bool} {es : List AV} (hts : ts = .slc 4 ex nn es) (hes : All2 es l) (hm : es.length ≤ maxLen) : callW F 18 [b, ts] [] = some (.v (.bool (big bs l)), []) :=
  call_same (c := c10) rfl rfl _ _ _ (big_ok hb hts hes hm)
end Go.AE.YtpgoibncgekflaaDoor
end

/-! What all rows of this program need. -/
section
set_option linter.unusedVariables false
namespace Go.Proofs.YtpgoibncgekflaaDoor
open Go Go.AE Go.Proofs Go.ChangeShapes Go.WideShapes Go.ChangeAt Go.RowKit
open Go.ChangeMaps (open_string shut_string)

theorem own : ownKnob Tryd.prog.godebug = none := by kernel_rfl
theorem laidOut : laidOutB Tryd.prog = true := by kernel_rfl
theorem mixed : Tryd.prog.follows .mixedOrders = true := by kernel_rfl
def G : List TypeId := [2, 3, 9, 22, 23, 25, 32]
theorem hG : goodB T G = true := by kernel_rfl

/-- What a call comes to that is handed what came in. -/
theorem law_calls {f : FuncId} {args : List AV} {vals : Array Value} {W : World} (hK : K W.heap.size W) (ha : ArgsRep (AllCells W) W [] args vals) {n : Nat} (he : callN F n f args [] = some (.v (.bool true), [])) :
    Calls Tryd.prog f vals W fun e W' => e = .returned (.bool true) ∧ Below W.heap.size W W' := by
  have hI : AE.Inv W.heap.size W (AllCells W) [] W [] := ⟨Below.refl _ _, Nat.le_refl _, rfl, fun id o L h => by simp at h, fun id L h => by simp at h, fun i j Li Lj h => by simp at h, fun b x h => h⟩
  refine ((callN_ok mixed hT hKs hF n W.heap.size W hK).calls f args [] _ _ he (AllCells W) [] W vals hI ha).mono fun e W' h => ?_
  obtain ⟨v, I', σ', rfl, hI', _, hr⟩ := h
  cases hr
  exact ⟨rfl, hI'.below⟩
end Go.Proofs.YtpgoibncgekflaaDoor
end

/-! SubstOrder holds at every input: the law returns true, and what was handed in reads as it did. -/
section
set_option linter.unusedVariables false
set_option linter.unusedSimpArgs false
namespace Go.AE.YtpgoibncgekflaaDoor
open Go Go.AE Go.Proofs.YtpgoibncgekflaaDoor

theorem t25 : T.ty 25 = some ti25 := rfl
theorem t23 : T.ty 23 = some ti23 := rfl
theorem t2 : T.ty 2 = some ti2 := rfl
theorem t3 : T.ty 3 = some ti3 := rfl
theorem t9 : T.ty 9 = some ti9 := rfl
theorem t22 : T.ty 22 = some ti22 := rfl
theorem t32 : T.ty 32 = some ti32 := rfl

theorem all2_of : ∀ {l : List AV}, (∀ el ∈ l, ∃ t, IsT el t) → ∃ ts, All2 l ts
  | [], _ => ⟨[], .nil⟩
  | a :: l, h => by
    obtain ⟨t, ht⟩ := h a (by simp)
    obtain ⟨ts, hts⟩ := all2_of (l := l) (fun el hm => h el (by simp [hm]))
    exact ⟨t :: ts, .cons a t l ts ht hts⟩
theorem allB_of : ∀ {l : List AV}, (∀ el ∈ l, ∃ v t, IsBd el v t) → ∃ ts, AllB l ts
  | [], _ => ⟨[], .nil⟩
  | a :: l, h => by
    obtain ⟨v, t, ht⟩ := h a (by simp)
    obtain ⟨ts, hts⟩ := allB_of (l := l) (fun el hm => h el (by simp [hm]))
    exact ⟨(v, t) :: ts, .cons a v t l ts ht hts⟩

def Good (t : TypeId) (cs : List AV) : Prop :=
  (t = 25 → ∃ x, IsT (.agg cs) x) ∧ (t = 23 → ∃ c l, cs = [c] ∧ IsL c l) ∧ (t = 2 → ∃ n, cs = [.v (.int .i64 n)]) ∧ (t = 3 → ∃ n, cs = [.v (.int .i64 n)]) ∧ (t = 9 → ∃ s, cs = [.v (.string s)]) ∧
  (t = 32 → ∃ v x, IsBd (.agg cs) v x) ∧ (t = 22 → ∃ c l, cs = [c] ∧ IsB c l)

theorem wt_good : ∀ {t : TypeId} {cs : List AV}, WT T t cs → Good t cs := by
  intro t cs h
  induction h with
  | bool t i b ht hd =>
    refine ⟨?_, ?_, ?_, ?_, ?_, ?_, ?_⟩ <;> (rintro rfl; first | (rw [t25] at ht; cases ht; cases hd) | (rw [t23] at ht; cases ht; cases hd) | (rw [t2] at ht; cases ht; cases hd) | (rw [t3] at ht; cases ht; cases hd) | (rw [t9] at ht; cases ht; cases hd) | (rw [t32] at ht; cases ht; cases hd) | (rw [t22] at ht; cases ht; cases hd))
  | int t i k n ht hd hw =>
    refine ⟨?_, ?_, ?_, ?_, ?_, ?_, ?_⟩ <;> (rintro rfl; first | (rw [t25] at ht; cases ht; cases hd; done) | (rw [t23] at ht; cases ht; cases hd; done) | (rw [t9] at ht; cases ht; cases hd; done) | (rw [t32] at ht; cases ht; cases hd; done) | (rw [t22] at ht; cases ht; cases hd; done) | (rw [t2] at ht; cases ht; cases hd; exact ⟨n, rfl⟩) | (rw [t3] at ht; cases ht; cases hd; exact ⟨n, rfl⟩))
  | str t i s ht hd hs =>
    refine ⟨?_, ?_, ?_, ?_, ?_, ?_, ?_⟩ <;> (rintro rfl; first | (rw [t25] at ht; cases ht; cases hd; done) | (rw [t23] at ht; cases ht; cases hd; done) | (rw [t2] at ht; cases ht; cases hd; done) | (rw [t3] at ht; cases ht; cases hd; done) | (rw [t32] at ht; cases ht; cases hd; done) | (rw [t22] at ht; cases ht; cases hd; done) | (rw [t9] at ht; cases ht; cases hd; exact ⟨s, rfl⟩))
  | nil t i e ht hd =>
    refine ⟨?_, ?_, ?_, ?_, ?_, ?_, ?_⟩ <;> (rintro rfl; first | (rw [t25] at ht; cases ht; cases hd; done) | (rw [t9] at ht; cases ht; cases hd; done) | (rw [t2] at ht; cases ht; cases hd; done) | (rw [t3] at ht; cases ht; cases hd; done) | (rw [t32] at ht; cases ht; cases hd; done) | exact ⟨_, [], rfl, .nil⟩)
  | slc t i e j l ht hd he hl hel has ih =>
    refine ⟨?_, ?_, ?_, ?_, ?_, ?_, ?_⟩
    · rintro rfl; rw [t25] at ht; cases ht; cases hd
    · rintro rfl
      rw [t23] at ht; cases ht; cases hd
      rw [t25] at he; cases he
      obtain ⟨ts, hts⟩ := all2_of (l := l) (fun el hm => by
        obtain ⟨x, hx⟩ := (ih el hm).1 rfl
        have : asEl true el.cells = some el := has el hm
        simp only [asEl, if_true, Option.some.injEq] at this
        rw [this] at hx
        exact ⟨x, hx⟩)
      exact ⟨_, ts, rfl, .slc _ _ _ _ hts hl⟩
    · rintro rfl; rw [t2] at ht; cases ht; cases hd
    · rintro rfl; rw [t3] at ht; cases ht; cases hd
    · rintro rfl; rw [t9] at ht; cases ht; cases hd
    · rintro rfl; rw [t32] at ht; cases ht; cases hd
    · rintro rfl
      rw [t22] at ht; cases ht; cases hd
      rw [t32] at he; cases he
      obtain ⟨ts, hts⟩ := allB_of (l := l) (fun el hm => by
        obtain ⟨v, x, hx⟩ := (ih el hm).2.2.2.2.2.1 rfl
        have : asEl true el.cells = some el := has el hm
        simp only [asEl, if_true, Option.some.injEq] at this
        rw [this] at hx
        exact ⟨v, x, hx⟩)
      exact ⟨_, ts, rfl, .slc _ _ _ _ hts hl⟩
  | struct t i fs pts ht hd hlen hf ih =>
    refine ⟨?_, ?_, ?_, ?_, ?_, ?_, ?_⟩
    · rintro rfl
      rw [t25] at ht; cases ht; cases hd
      match pts, hlen, ih with
      | [a, b, c, d], _, ih =>
        obtain ⟨k, rfl⟩ := (ih 0 _ a rfl rfl).2.2.2.1 rfl
        obtain ⟨s, rfl⟩ := (ih 1 _ b rfl rfl).2.2.2.2.1 rfl
        obtain ⟨n, rfl⟩ := (ih 2 _ c rfl rfl).2.2.1 rfl
        obtain ⟨x, l, rfl, hx⟩ := (ih 3 _ d rfl rfl).2.1 rfl
        exact ⟨_, .mk k s n x l hx⟩
    · rintro rfl; rw [t23] at ht; cases ht; cases hd
    · rintro rfl; rw [t2] at ht; cases ht; cases hd
    · rintro rfl; rw [t3] at ht; cases ht; cases hd
    · rintro rfl; rw [t9] at ht; cases ht; cases hd
    · rintro rfl
      rw [t32] at ht; cases ht; cases hd
      match pts, hlen, ih with
      | [a, b], _, ih =>
        obtain ⟨v, rfl⟩ := (ih 0 _ a rfl rfl).2.2.1 rfl
        obtain ⟨x, hx⟩ := (ih 1 _ b rfl rfl).1 rfl
        refine ⟨v, x, ?_⟩
        have : ([[AV.v (.int .i64 v)], b] : List (List AV)).flatten = .v (.int .i64 v) :: b := by simp
        rw [this]
        exact .mk v b x hx
    · rintro rfl; rw [t22] at ht; cases ht; cases hd

theorem one_cell {a c : AV} (h : asEl false a.cells = some a) (hc : a.cells = [c]) : a = c := by
  rw [hc] at h
  simpa [asEl] using h.symm
end Go.AE.YtpgoibncgekflaaDoor
end

/-! What all rows of this seat need: the world in which the library's two tables lie. -/
section
set_option linter.unusedVariables false
namespace Go.Proofs.YtpgoibncgekflaaDoor
open Go Go.AE Go.Proofs Go.RowKit Go.Lib Go.Shelf

/-- a world in which the two variables hold what their initialisers lay -/
noncomputable def laidWorld (os : Os) : World :=
  let w0 := World.holding Tryd.prog os ⟨#[], #[], []⟩
  let put (h : Array Obj) (g : Nat) (cs : Array Value) : Array Obj := h.modify g fun
    | .cells _ t frozen => .cells cs t frozen
    | o => o
  let h1 := put w0.heap (Tryd.laysValid_ren.g 3) (Lib.firstTab.map fun z => Value.int .u8 z).toArray
  let h2 := put h1 (Tryd.laysValid_ren.g 4) ((List.range 16).flatMap fun i => [Value.int .u8 (Lib.accLo i), Value.int .u8 (Lib.accHi i)]).toArray
  { w0 with heap := h2 }
set_option maxRecDepth 1000000 in
theorem laid_met (os : Os) (args : Array Value) : laidMetH Tryd.prog Rows.substApartRow.laid ((laidWorld os).forCall (fun _ _ => 0) ⟨#[], args, []⟩).memory :=
  (LaidIn.of_run (l := [("unicode/utf8.acceptRanges", Lib.acceptData), ("unicode/utf8.first", Lib.firstData)]) [0, 1] 8 (by kernel_rfl) (by kernel_rfl) (by kernel_rfl) (by kernel_rfl)).met
set_option maxRecDepth 1000000 in
theorem tabs_of {W : World} (hL : laidMetH Tryd.prog Rows.substApartRow.laid W) : Lib.Utf8Tabs (Tryd.laysValid_ren.g 3) (Tryd.laysValid_ren.g 4) W :=
  utf8Tabs_of_readsT (U8Types.of196 Tryd.laysValid) ⟨by kernel_rfl, by kernel_rfl, by kernel_rfl, by kernel_rfl, by kernel_rfl, by kernel_rfl, by kernel_rfl⟩ (Lib.laidMet.reads (l := Rows.substApartRow.laid) hL (.tail _ (.head _))) (Lib.laidMet.reads (l := Rows.substApartRow.laid) hL (.head _))
end Go.Proofs.YtpgoibncgekflaaDoor
end

/-! The row and the card of UnifyCompares, out of its plain law. -/
section
set_option linter.unusedVariables false
namespace Go.Proofs.YtpgoibncgekflaaDoor
open Go Go.AE Go.Proofs Go.ChangeShapes Go.WideShapes Go.ChangeAt Go.RowKit
open Go.ChangeMaps (open_string shut_string)
namespace unifyCompares
theorem args {I : Cells} {W : World} {a0 a1 a2 : AV} {v0 v1 v2 : Value} (r0 : Rep I W [] a0 v0) (r1 : Rep I W [] a1 v1) (r2 : Rep I W [] a2 v2) : ArgsRep I W [] [a0, a1, a2] #[v0, v1, v2] := by
  refine ⟨rfl, fun i a h => ?_⟩
  match i, h with
  | 0, h => cases h; exact r0
  | 1, h => cases h; exact r1
  | 2, h => cases h; exact r2
def Plain : Prop := ∀ a0 a1 a2 : AV, WT T 22 a0.cells → asEl ti22.agg a0.cells = some a0 → WT T 25 a1.cells → asEl ti25.agg a1.cells = some a1 → WT T 25 a2.cells → asEl ti25.agg a2.cells = some a2 →
  ∃ n, callN F n 4 [a0, a1, a2] [] = some (.v (.bool true), [])

set_option maxRecDepth 100000 in
theorem lifted (plain : Plain) (os : Os) (started : os.Started) (H : Type) (enc : TypeId × Value → H) :
    ReturnsInHanded {} Tryd.checked os 4 .any (fun w args => (Rows.unifyComparesSpec.pre enc Tryd.prog Tryd.f4 [] false w args ∧ laidMetH Tryd.prog Rows.unifyComparesRow.laid w) ∧ sizedMet enc Tryd.prog Tryd.f4 (OpenSpec.ofChange Rows.unifyComparesSpec) false w args)
      (Rows.unifyComparesSpec.post enc Tryd.prog Tryd.f4 false true false false) := by
  refine returnsInHanded_of_change_and (C := Tryd.checked) (X := fun w _ => laidMetH Tryd.prog Rows.unifyComparesRow.laid w) (fun _ _ _ hh h => h.of_heap hh) own started (by kernel_rfl) Tryd.func4
    (ChangeSpec.witness_at (enc := enc) (C := Tryd.checked) (os := os) (X := fun w _ => laidMetH Tryd.prog Rows.unifyComparesRow.laid w) false (laidWorld os) #[ti22.zero, ti25.zero, ti25.zero] 8 rfl (by kernel_rfl) (by kernel_rfl) (by kernel_rfl) (by kernel_rfl) (by kernel_rfl) (laid_met os _)) ?_
  intro W base args' ds gs before hval0 hW _ _ hL _
  have hval : ∀ (j : Nat) t v, Tryd.f4.params[j]? = some t → args'[j]? = some v → Value.okWide Tryd.prog W .any base t v := hval0
  have hW' := hW
  obtain ⟨p, q, hA0, hV, rfl, hfz, hnd⟩ := hW
  have hA : DataW.TrodAll enc Tryd.prog W 0 (fun _ => true) true Tryd.f4.params.toList args'.toList ds p := hA0
  rw [Tryd.params4] at hA hval
  obtain ⟨v0, vs0, d0, ds0, p0, q0, hargs, rfl, rfl, h0, r0⟩ := trodAll_cons hA
  obtain ⟨v1, vs1, d1, ds1, p1, q1, rfl, rfl, rfl, h1, r1⟩ := trodAll_cons r0
  obtain ⟨v2, vs2, d2, ds2, p2, q2, rfl, rfl, rfl, h2, r2⟩ := trodAll_cons r1
  obtain ⟨rfl, rfl, rfl⟩ := trodAll_nil r2
  obtain rfl : args' = #[v0, v1, v2] := by cases args'; simp_all
  obtain ⟨rfl, rfl⟩ := trodVars_none hV
  obtain ⟨a0, w0, e0, x0⟩ := trod_arg hT hG (t := 22) (i := ti22) (by decide) rfl (hval 0 22 v0 rfl rfl) h0
  obtain ⟨a1, w1, e1, x1⟩ := trod_arg hT hG (t := 25) (i := ti25) (by decide) rfl (hval 1 25 v1 rfl rfl) h1
  obtain ⟨a2, w2, e2, x2⟩ := trod_arg hT hG (t := 25) (i := ti25) (by decide) rfl (hval 2 25 v2 rfl rfl) h2
  have l0 : ∀ x ∈ p0, x.block < W.heap.size := by obtain ⟨m, hm⟩ := h0; exact DataW.trod_lt m _ _ _ hm
  have l1 : ∀ x ∈ p1, x.block < W.heap.size := by obtain ⟨m, hm⟩ := h1; exact DataW.trod_lt m _ _ _ hm
  have l2 : ∀ x ∈ p2, x.block < W.heap.size := by obtain ⟨m, hm⟩ := h2; exact DataW.trod_lt m _ _ _ hm
  obtain ⟨n, hn⟩ := plain a0 a1 a2 w0 e0 w1 e1 w2 e2
  refine (law_calls ⟨rfl, tabs_of hL⟩ (args x0 x1 x2) hn).mono fun e W' ⟨he, bel⟩ => ?_
  subst he
  exact ⟨_, rfl, _, _, _, [], _, [], hW', trodAll_mk1 (shut_bool Tryd.underlying4 _),
    (trodAll_cons_mk (Below.trod laidOut (by kernel_rfl) (of_decide_eq_true (by kernel_rfl)) h0 bel l0) (trodAll_cons_mk (Below.trod laidOut (by kernel_rfl) (of_decide_eq_true (by kernel_rfl)) h1 bel l1) (trodAll_cons_mk (Below.trod laidOut (by kernel_rfl) (of_decide_eq_true (by kernel_rfl)) h2 bel l2) trodAll_mk0))), rfl, bel.frame _, fun h => by cases h⟩
theorem over (plain : Plain) : Rows.unifyComparesRow.holds Tryd.pinned (OpenSpec.ofChange Rows.unifyComparesSpec) :=
  OpenClaim.holds_of_wide 4 Tryd.f4 rfl rfl rfl rfl rfl rfl rfl ⟨rfl, rfl, rfl, rfl, rfl⟩ rfl rfl rfl rfl rfl (by kernel_rfl) Tryd.func4 (by kernel_rfl)
    (of_decide_eq_true (by kernel_rfl)) (by unfold Func.isWrapper; first | (rw [if_pos (by decide +kernel)]; kernel_rfl) | (rw [if_neg (by decide +kernel)]; exact ⟨rfl, rfl⟩))
    (fun os started H enc _ => lifted plain os started H enc)
theorem proved (plain : Plain) : Rows.UnifyComparesCardSaid :=
  Claim7.holds_tied_plain_at .later [] Rows.unifyComparesCard.laidKinds true Rows.unifyComparesCard.stood.harness Rows.unifyComparesCard.stood.looks
    (over plain) (fun _ h => by cases h) (by kernel_rfl) (fun _ h => by cases h) unifyCompares_row_tie rfl ⟨rfl, rfl⟩ (by kernel_rfl) rfl
    (fun f fn hf hfn => by
      obtain rfl : f = 4 := Option.some.inj ((show Tryd.prog.funcNamed Rows.unifyComparesRow.func = some 4 by kernel_rfl).symm.trans hf) |>.symm
      obtain rfl : fn = Tryd.f4 := (Option.some.inj (Tryd.func4.symm.trans hfn)).symm
      refine ⟨by kernel_rfl, fun j t ht => ?_⟩
      rw [Tryd.params4] at ht
      match j, ht with
      | 0, ht => cases ht; exact (show Tryd.prog.wantsStandIn 22 = false by kernel_rfl)
      | 1, ht => cases ht; exact (show Tryd.prog.wantsStandIn 25 = false by kernel_rfl)
      | 2, ht => cases ht; exact (show Tryd.prog.wantsStandIn 25 = false by kernel_rfl)
      | _ + 3, ht => simp at ht)
    (by kernel_rfl)
end unifyCompares
end Go.Proofs.YtpgoibncgekflaaDoor
end

/- UnifyShifts holds, its card with it: whatever the input, where the library's tables lie as its text lays them, it returns true, and the input reads as it did. Conditions: none beside. (Printed by wip/gen/ushifts2.py.) -/
import Derived.Test.YtpgoibncgekflaaDoorPart5
set_option linter.unusedVariables false
set_option linter.unusedSimpArgs false
namespace Go.AE.YtpgoibncgekflaaDoor
open Go Go.AE Go.Proofs.YtpgoibncgekflaaDoor

mutual
theorem may_nums : ∀ (t : Tm), mayT t = true → ∀ n ∈ placesT t, 0 ≤ n
  | .mk k s n l, h, a, ha => by
    have hl := mayL_nums l (may_sub h)
    simp only [placesT, List.mem_append] at ha
    rcases ha with ha | ha
    · split at ha
      · rename_i hk
        simp only [List.mem_singleton] at ha
        subst ha
        subst hk
        simp only [mayT] at h
        simp at h
        exact h.1.1
      · simp at ha
    · exact hl a ha
theorem mayL_nums : ∀ (l : List Tm), mayL l = true → ∀ n ∈ placesL l, 0 ≤ n
  | [], _, a, ha => by simp [placesL] at ha
  | t :: l, h, a, ha => by
    simp only [mayL, Bool.and_eq_true] at h
    simp only [placesL, List.mem_append] at ha
    rcases ha with ha | ha
    · exact may_nums t h.1 a ha
    · exact mayL_nums l h.2 a ha
end
theorem bd_of {t : Tm} (h : checkT t = 0) (hn : ∀ n ∈ varsT t, n ≤ 1000000) : Bd t := fun n hp => ⟨may_nums t (check_may h) n hp, hn n (vars_mem.2 hp)⟩
theorem back_lv {r : CRun} {K id : Nat} {rest : CC} (hb : Back r) : lv [.var 6] (thn (callW F) K rest (blk id r)) = some (.v (.bool true), []) := by
  obtain ⟨vs, h', rfl, hg⟩ := hb
  rw [blk_ret, thn_ret, lv_ret, res1, hg]
  rfl
theorem acc_fixN {h : List AO} {c : AV} {es : List AV} {bs : List (Int × Tm)} (a : Acc 5 h c es) (hb : AllB es bs) (hm : es.length ≤ maxLen) : Keeps h (raise1 h c) ∧ ∃ c', (∀ l, c.snap1 (raise1 h c ++ l) = some c') ∧ IsN c' bs := by
  obtain ⟨_, f2, _⟩ := a.fix
  refine ⟨f2, ?_⟩
  cases a with
  | nil => cases hb; exact ⟨.v (.slice none 0 0), fun l => rfl, .nil, trivial⟩
  | own id ver k _ hr hk hne =>
    have hlt : id < h.length := (List.getElem?_eq_some_iff.1 hr).1
    have e1 : (raise1 h (.own 5 id ver 0 es.length))[id]? = some (.row 5 ver es es.length) := by
      have e : raise1 h (.own 5 id ver 0 es.length) = h.set id (.row 5 ver es es.length) := by
        simp [raise1, raise0, raise, rowAt, hr, Nat.max_eq_right hk]
      rw [e]; simp [hlt]
    refine ⟨.slc 5 false false es, fun l => ?_, .slc _ _ _ _ hb hm, .inr hne⟩
    have e3 : (raise1 h (.own 5 id ver 0 es.length) ++ l)[id]? = some (.row 5 ver es es.length) := his_get e1
    simp [AV.snap1, AV.snap0, rowAt, e3]

def u3 : CC := .seq (.region [] [] c7_40) (.seq (.region [.v 8] [] c7_41) (.seq (.seq (.region [] [] c7_42) (.cond (.var 46) (.seq (.region [] [] c7_43) .ret) .skip)) (.seq (.seq (.region [] [] c7_44) (.block 10 (.loop KU10 [] c7_50))) (.seq (.region [] [] c7_51) .ret))))
def u2 : CC := .seq (.seq (.region [] [] c7_28) (.block 6 (.loop KU6 [] c7_39))) u3
def u1 : CC := .seq (.seq (.region [] [] c7_14) (.block 2 (.loop KU2 [] c7_27))) u2
def u0 : CC := .seq (.seq (.region [] [] c7_6) (.block 0 (.loop KU0 [] c7_13))) u1
def uh (rest : CC) : CC := .seq (.region [] [] c7_0) (.seq (.region [] [] c7_1) (.seq (.seq (.region [] [] c7_2) (.cond (.var 21) (.seq (.region [] [] c7_3) .ret) .skip)) (.seq (.region [] [] c7_4) (.seq (.region [] [] c7_5) rest))))
theorem body7 : c7.body = uh u0 := rfl

section
variable {N : Nat} {b t t' acc : AV} {T T' : Tm} {bs : List (Int × Tm)} {x : Int}
theorem u3_ok (hN : 150000 ≤ N) (hx : 0 ≤ x ∧ x ≤ 1000000) (hb : IsN b bs) (hbl : bs.length ≤ 100) (hbz : ∀ p ∈ bs, size p.2 ≤ 3000) (hsm : Sm bs) (ht : IsT t T) (ht' : IsT t' T') (hT : size T ≤ 3000) (hT' : size T' ≤ 3000) (hbT : Bd T) (hbT' : Bd T')
    {h : List AO} {ds : List AV} (h0 : h[0]? = some (.box t.cells)) (h1 : h[1]? = some (.box t'.cells)) (ha : Acc 5 h acc ds) (hds : AllB ds (shiftB x bs)) {c : AV} {n : Int} :
    lv [.var 6] (exec (callW F) (N + 1) u3 (b :: .junk :: .junk :: .v (.int .i64 x) :: .ptr 0 0 :: .ptr 1 0 :: .junk :: .v (.bool true) :: acc :: .junk :: .junk :: .junk :: .junk :: .junk :: .junk :: .junk :: .junk :: .junk :: .junk :: .junk :: .junk :: .junk :: .junk :: .junk :: .junk :: .junk :: .junk :: .junk :: .junk :: .junk :: .junk :: .junk :: .junk :: .junk :: .junk :: .junk :: .junk :: c :: .v (.int .i64 n) :: .v (.int .i64 n) :: .v (.bool false) :: .junk :: .junk :: .junk :: .junk :: .junk :: .junk :: .junk :: .junk :: .junk :: .junk :: []) h) = some (.v (.bool true), []) := by
  have hdl := hds.length
  have hsl : (shiftB x bs).length = bs.length := by simp [shiftB]
  obtain ⟨f2, c', f3, hN'⟩ := acc_fixN ha hds (by have : maxLen = 9223372036854775807 := rfl; omega)
  have f3' : acc.snap1 (raise1 h acc) = some c' := by have := f3 []; rwa [List.append_nil] at this
  have hzs : ∀ p ∈ shiftB x bs, size p.2 ≤ 3000 := by
    intro p hp
    simp only [shiftB, List.mem_map] at hp
    obtain ⟨q, hq, rfl⟩ := hp
    rw [shift_size]; exact hbz q hq
  obtain ⟨r1, hr1, hc1⟩ := shift35 x _ T _ (Nat.lt_succ_self _) (by omega) ht
  obtain ⟨r2, hr2, hc2⟩ := shift35 x _ T' _ (Nat.lt_succ_self _) (by omega) ht'
  obtain ⟨l, hl, hU⟩ := unify_ok hb (by omega) hbz ht ht' hT hT'
  obtain ⟨m, hm, hV⟩ := unify_ok hN' (by omega) hzs hr1 hr2 (by rw [shift_size]; exact hT) (by rw [shift_size]; exact hT')
  obtain ⟨us, usm⟩ := uni_sh hx hsm hbT hbT'
  rw [us] at hm hV
  have hlen := uRun_len 2001 bs 2000 [(T, T')]
  have hzz := uRun_size (M := 3000) (by omega) 2001 bs 2000 [(T, T')] hbz (by intro p hp; simp only [List.mem_singleton] at hp; subst hp; exact ⟨hT, hT'⟩)
  change (uniT bs T T').1.length ≤ bs.length + 2001 at hlen
  change ∀ p ∈ (uniT bs T T').1, size p.2 ≤ 3000 at hzz
  generalize uniT bs T T' = u at hl hU hm hV usm hlen hzz
  obtain ⟨lb, is, e⟩ := u
  dsimp only at hl hU hm hV usm hlen hzz
  have g0 := f2.2 0 _ h0
  have g1 := f2.2 1 _ h1
  have m0 : evLoad h true 4 (.ptr 0 0) = some t := by
    rw [bx_ld h0, if_pos (by rw [ht.cl.2]; omega), List.drop_zero]; exact ht.asEl
  have m1 : evLoad h true 4 (.ptr 1 0) = some t' := by
    rw [bx_ld h1, if_pos (by rw [ht'.cl.2]; omega), List.drop_zero]; exact ht'.asEl
  have n0 : evLoad (raise1 h acc) true 4 (.ptr 0 0) = some t := by
    rw [bx_ld g0, if_pos (by rw [ht.cl.2]; omega), List.drop_zero]; exact ht.asEl
  have n1 : evLoad (raise1 h acc) true 4 (.ptr 1 0) = some t' := by
    rw [bx_ld g1, if_pos (by rw [ht'.cl.2]; omega), List.drop_zero]; exact ht'.asEl
  have s1 : ∀ h : List AO, t.snap1 h = some t := fun h => ht.snap
  have s2 : ∀ h : List AO, t'.snap1 h = some t' := fun h => ht'.snap
  have s3 : ∀ h : List AO, r1.snap1 h = some r1 := fun h => hr1.snap
  have s4 : ∀ h : List AO, r2.snap1 h = some r2 := fun h => hr2.snap
  have sb : ∀ h : List AO, b.snap1 h = some b := hb.1.snap'
  have q2 : ∀ h, eqNil h .bool (.v (.bool is)) (.v (.bool is)) = some true := by intro h; simp [eqNil]
  have q3 : (e == e) = true := by simp
  have q4 : ((lb.length : Int) == (lb.length : Int)) = true := by simp
  have ll := hl.1.len
  have lm := hm.1.len
  have e2 : (shiftB x lb).length = lb.length := by simp [shiftB]
  rw [e2] at lm
  obtain ⟨es, hs, hes, hmx⟩ := hl.1.sl'
  obtain ⟨es', hs', hes', hmx'⟩ := hm.1.sl'
  have k1 := hes.length
  have k2 := hes'.length
  have key := last_loop (K := N + 1) (x := x) hs hs' (by omega) (by omega) hx lb 0 (raise1 h acc) (LU10 x l m es.length (0 : Nat)) (by omega) (by simpa using hes) (by simpa using hes') (fun p hp => (usm p hp).1) (fun p hp => by have := hzz p hp; omega) rfl
  have key := loopN_mono _ (N + 1) (by omega) _ _ _ key
  rw [k1] at key
  generalize hrest : (CC.seq (.region [] [] c7_51) .ret) = rest
  have eu : u3 = .seq (.region [] [] c7_40) (.seq (.region [.v 8] [] c7_41) (.seq (.seq (.region [] [] c7_42) (.cond (.var 46) (.seq (.region [] [] c7_43) .ret) .skip)) (.seq (.seq (.region [] [] c7_44) (.block 10 (.loop KU10 [] c7_50))) rest))) := by rw [← hrest]; rfl
  rw [eu]
  simp only [c7_40, c7_41, c7_42, c7_44, x_region_m, marked, List.foldl_cons, List.foldl_nil, doMark, List.getD_cons_zero, List.getD_cons_succ, m0, m1, n0, n1, s1, s2, s3, s4, sb, f3', hU, hV, hc1, hc2, q2, q3, q4, ll, lm, snapv, ex_2, pick_und, e_bslice1, e_bslice2, bs1, bs2, e_build, bdH_some, bd_nil, bd_cons, bd1, cl_agg, cl_int, toL, List.map_cons, List.map_nil, putAt, List.set_cons_zero, List.set_cons_succ, and_self, Nat.le_refl, app_get, app_set, g_agg, run_nil, run_cons, stp_plain, stp_guard, put_some, pass_eq, pick_tt, pick_ff, pick_tf, pick_ft, pick_u, reg_some, thn_normal, thn_exit, thn_ret, cnd_t, cnd_f, blk_normal, blk_ret, blk_exit, x_seq, x_region, x_cond, x_block, x_loop, x_ret, x_exit, x_skip, e_mov, e_pick, pk_t, pk_f, withH_some, e_box, bx_some, e_load, e_store, stH_some, e_nil, e_bin, e_eqv, eqH_f, eqH_t, e_un, e_fa, e_ia, ia_eq, nat_eq, natV_nat, e_len, lnH_some, e_extract, ex_0, ex_1, e_call0, e_call1, e_call2, e_call3, pc0_eq, pc1_some, pc2_some, pc3_some, fin_some, g_var0, g_vars, g_loc0, g_locs, g_int, g_bool, g_str, g_sl, s_none, s_zero, s_succ, cl_nil, cl_str, cl_bool, cl_slc, cl_own, evFa, evNil, asEl, evBin, intBin, strBin, evUn, len_nil, len_slc, len_str, clr, List.length_nil, List.length_cons, List.getElem?_cons_zero, List.getElem?_cons_succ, Nat.reduceAdd, Nat.zero_add, Nat.add_zero, Nat.reduceLeDiff, Nat.reduceSub, ↓reduceIte, List.drop_succ_cons, List.drop_zero, List.take_succ_cons, List.take_zero, Bool.false_eq_true, List.nil_append, List.cons_append, Bool.not_true, Bool.not_false, cond_true, cond_false, bne, lv_ret, lv_normal, res1, res2, lv2_some, res_var, res_cell, lvf_v, lvf_slc, res1c, lvo1_some, e_mm, mm_max, mm_min]
  rw [loop_cong (v2 := LU10 x l m lb.length ((0 : Nat) : Int)) (by rfl), key, ← hrest]
  simp only [blk_exit, thn_normal, c7_51, run_nil, run_cons, stp_plain, stp_guard, put_some, pass_eq, pick_tt, pick_ff, pick_tf, pick_ft, pick_u, reg_some, thn_normal, thn_exit, thn_ret, cnd_t, cnd_f, blk_normal, blk_ret, blk_exit, x_seq, x_region, x_cond, x_block, x_loop, x_ret, x_exit, x_skip, e_mov, e_pick, pk_t, pk_f, withH_some, e_box, bx_some, e_load, e_store, stH_some, e_nil, e_bin, e_eqv, eqH_f, eqH_t, e_un, e_fa, e_ia, ia_eq, nat_eq, natV_nat, e_len, lnH_some, e_extract, ex_0, ex_1, e_call0, e_call1, e_call2, e_call3, pc0_eq, pc1_some, pc2_some, pc3_some, fin_some, g_var0, g_vars, g_loc0, g_locs, g_int, g_bool, g_str, g_sl, s_none, s_zero, s_succ, cl_nil, cl_str, cl_bool, cl_slc, cl_own, evFa, evNil, asEl, evBin, intBin, strBin, evUn, len_nil, len_slc, len_str, clr, List.length_nil, List.length_cons, List.getElem?_cons_zero, List.getElem?_cons_succ, Nat.reduceAdd, Nat.zero_add, Nat.add_zero, Nat.reduceLeDiff, Nat.reduceSub, ↓reduceIte, List.drop_succ_cons, List.drop_zero, List.take_succ_cons, List.take_zero, Bool.false_eq_true, List.nil_append, List.cons_append, Bool.not_true, Bool.not_false, cond_true, cond_false, bne, lv_ret, lv_normal, res1, res2, lv2_some, res_var, res_cell, lvf_v, lvf_slc, res1c, lvo1_some, e_mm, mm_max, mm_min]

theorem u2_ok (hN : 150000 ≤ N) (hx : 0 ≤ x ∧ x ≤ 1000000) (hb : IsN b bs) (hbl : bs.length ≤ 100) (hbz : ∀ p ∈ bs, size p.2 ≤ 3000) (hnum : ∀ p ∈ bs, -1000000 ≤ p.1 ∧ p.1 ≤ 1000000) (ht : IsT t T) (ht' : IsT t' T') (hT : size T ≤ 3000) (hT' : size T' ≤ 3000) (hbT : Bd T) (hbT' : Bd T')
    {h : List AO} {ds : List AV} (h0 : h[0]? = some (.box t.cells)) (h1 : h[1]? = some (.box t'.cells)) (ha : Acc 5 h acc ds) (hds : AllB ds (shiftB x bs)) {c : AV} {n : Int} :
    lv [.var 6] (exec (callW F) (N + 1) u2 (b :: .junk :: .junk :: .v (.int .i64 x) :: .ptr 0 0 :: .ptr 1 0 :: .junk :: .v (.bool true) :: acc :: .junk :: .junk :: .junk :: .junk :: .junk :: .junk :: .junk :: .junk :: .junk :: .junk :: .junk :: .junk :: .junk :: .junk :: .junk :: .junk :: .junk :: .junk :: c :: .v (.int .i64 n) :: .v (.int .i64 n) :: .v (.bool false) :: .junk :: .junk :: .junk :: .junk :: .junk :: .junk :: .junk :: .junk :: .junk :: .junk :: .junk :: .junk :: .junk :: .junk :: .junk :: .junk :: .junk :: .junk :: .junk :: .junk :: []) h) = some (.v (.bool true), []) := by
  obtain ⟨es, hs, hes, hmx⟩ := hb.1.sl'
  have k1 := hes.length
  have hl := hs.len
  have key := binds_loop (N := N) (b := b) (acc := acc) (x := x) hs (by omega) (by omega) bs 0 h (LU6 b x acc b es.length (0 : Nat)) (by omega) (by simpa using hes) (fun p hp => by have := hbz p hp; omega) rfl
  have pre : exec (callW F) (N + 1) u2 (b :: .junk :: .junk :: .v (.int .i64 x) :: .ptr 0 0 :: .ptr 1 0 :: .junk :: .v (.bool true) :: acc :: .junk :: .junk :: .junk :: .junk :: .junk :: .junk :: .junk :: .junk :: .junk :: .junk :: .junk :: .junk :: .junk :: .junk :: .junk :: .junk :: .junk :: .junk :: c :: .v (.int .i64 n) :: .v (.int .i64 n) :: .v (.bool false) :: .junk :: .junk :: .junk :: .junk :: .junk :: .junk :: .junk :: .junk :: .junk :: .junk :: .junk :: .junk :: .junk :: .junk :: .junk :: .junk :: .junk :: .junk :: .junk :: .junk :: []) h = thn (callW F) (N + 1) u3 (blk 6 (loopN (exec (callW F) (N + 1) c7_39) KU6 (N + 1) (LU6 b x acc b es.length ((0 : Nat) : Int)) h)) := by
    unfold u2
    generalize u3 = rest
    simp only [c7_28, hl, e_bslice1, e_bslice2, bs1, bs2, e_build, bdH_some, bd_nil, bd_cons, bd1, cl_agg, cl_int, toL, List.map_cons, List.map_nil, putAt, List.set_cons_zero, List.set_cons_succ, and_self, Nat.le_refl, app_get, app_set, g_agg, run_nil, run_cons, stp_plain, stp_guard, put_some, pass_eq, pick_tt, pick_ff, pick_tf, pick_ft, pick_u, reg_some, thn_normal, thn_exit, thn_ret, cnd_t, cnd_f, blk_normal, blk_ret, blk_exit, x_seq, x_region, x_cond, x_block, x_loop, x_ret, x_exit, x_skip, e_mov, e_pick, pk_t, pk_f, withH_some, e_box, bx_some, e_load, e_store, stH_some, e_nil, e_bin, e_eqv, eqH_f, eqH_t, e_un, e_fa, e_ia, ia_eq, nat_eq, natV_nat, e_len, lnH_some, e_extract, ex_0, ex_1, e_call0, e_call1, e_call2, e_call3, pc0_eq, pc1_some, pc2_some, pc3_some, fin_some, g_var0, g_vars, g_loc0, g_locs, g_int, g_bool, g_str, g_sl, s_none, s_zero, s_succ, cl_nil, cl_str, cl_bool, cl_slc, cl_own, evFa, evNil, asEl, evBin, intBin, strBin, evUn, len_nil, len_slc, len_str, clr, List.length_nil, List.length_cons, List.getElem?_cons_zero, List.getElem?_cons_succ, Nat.reduceAdd, Nat.zero_add, Nat.add_zero, Nat.reduceLeDiff, Nat.reduceSub, ↓reduceIte, List.drop_succ_cons, List.drop_zero, List.take_succ_cons, List.take_zero, Bool.false_eq_true, List.nil_append, List.cons_append, Bool.not_true, Bool.not_false, cond_true, cond_false, bne, lv_ret, lv_normal, res1, res2, lv2_some, res_var, res_cell, lvf_v, lvf_slc, res1c, lvo1_some, e_mm, mm_max, mm_min]
    rw [loop_cong (v2 := LU6 b x acc b es.length ((0 : Nat) : Int)) (by rfl)]
  rw [pre]
  rcases key with ⟨vs, h', g1, g2⟩ | ⟨hP, l2, g1⟩
  · exact back_lv ⟨vs, h', loopN_mono _ (N + 1) (by omega) _ _ _ g1, g2⟩
  · rw [loopN_mono _ (N + 1) (by omega) _ _ _ g1, blk_exit, thn_normal]
    have ha2 : Acc 5 (h ++ l2) acc ds := by
      cases ha with
      | nil => exact .nil
      | own id ver k _ hr hk hne => exact .own id ver k _ (his_get hr) hk hne
    refine u3_ok (c := b) (n := es.length) hN hx hb hbl hbz (fun p hp => ⟨hnum p hp, fun n hn => hP p hp n (vars_mem.2 hn)⟩) ht ht' hT hT' hbT hbT' (his_get h0) (his_get h1) ha2 hds

theorem u1_ok (hN : 150000 ≤ N) (hx : 0 ≤ x ∧ x ≤ 1000000) (hb : IsN b bs) (hbl : bs.length ≤ 100) (hbz : ∀ p ∈ bs, size p.2 ≤ 3000) (hnum : ∀ p ∈ bs, -1000000 ≤ p.1 ∧ p.1 ≤ 1000000) (ht : IsT t T) (ht' : IsT t' T') (hT : size T ≤ 3000) (hT' : size T' ≤ 3000)
    {h : List AO} {ds : List AV} (h0 : h[0]? = some (.box t.cells)) (h1 : h[1]? = some (.box t'.cells)) (ha : Acc 5 h acc ds) (hds : AllB ds (shiftB x bs)) {c : AV} {n : Int} :
    lv [.var 6] (exec (callW F) (N + 1) u1 (b :: .junk :: .junk :: .v (.int .i64 x) :: .ptr 0 0 :: .ptr 1 0 :: .junk :: .v (.bool true) :: acc :: .junk :: .junk :: .junk :: .junk :: .junk :: .junk :: .junk :: .junk :: .junk :: .junk :: .junk :: .junk :: .junk :: c :: .v (.int .i64 n) :: .v (.int .i64 n) :: .v (.bool false) :: .junk :: .junk :: .junk :: .junk :: .junk :: .junk :: .junk :: .junk :: .junk :: .junk :: .junk :: .junk :: .junk :: .junk :: .junk :: .junk :: .junk :: .junk :: .junk :: .junk :: .junk :: .junk :: .junk :: .junk :: .junk :: []) h) = some (.v (.bool true), []) := by
  have s1 : ∀ h : List AO, t.snap1 h = some t := fun h => ht.snap
  have s2 : ∀ h : List AO, t'.snap1 h = some t' := fun h => ht'.snap
  have b2 : ∀ h : List AO, bs2 h 4 (some t) (some t') = some (.slc 4 true true [t, t'], h) := by
    intro h
    simp only [bs2, ht.cl.1, ht'.cl.1, ht.cl.2, ht'.cl.2, if_true]
  have m0 : evLoad h true 4 (.ptr 0 0) = some t := by
    rw [bx_ld h0, if_pos (by rw [ht.cl.2]; omega), List.drop_zero]; exact ht.asEl
  have m1 : evLoad h true 4 (.ptr 1 0) = some t' := by
    rw [bx_ld h1, if_pos (by rw [ht'.cl.2]; omega), List.drop_zero]; exact ht'.asEl
  have key := terms_loop (N := N) (b := b) (acc := acc) (x := x) (c := .slc 4 true true [t, t']) (.slc true true [t, t']) (by simp) (by omega) [T, T'] 0 h (LU2 b x acc (.slc 4 true true [t, t']) (2 : Nat) (0 : Nat)) rfl (.cons t T _ _ ht (.cons t' T' [] [] ht' .nil)) (by intro p hp; simp only [List.mem_cons, List.not_mem_nil, or_false] at hp; rcases hp with rfl | rfl <;> omega) rfl
  have pre : exec (callW F) (N + 1) u1 (b :: .junk :: .junk :: .v (.int .i64 x) :: .ptr 0 0 :: .ptr 1 0 :: .junk :: .v (.bool true) :: acc :: .junk :: .junk :: .junk :: .junk :: .junk :: .junk :: .junk :: .junk :: .junk :: .junk :: .junk :: .junk :: .junk :: c :: .v (.int .i64 n) :: .v (.int .i64 n) :: .v (.bool false) :: .junk :: .junk :: .junk :: .junk :: .junk :: .junk :: .junk :: .junk :: .junk :: .junk :: .junk :: .junk :: .junk :: .junk :: .junk :: .junk :: .junk :: .junk :: .junk :: .junk :: .junk :: .junk :: .junk :: .junk :: .junk :: []) h = thn (callW F) (N + 1) u2 (blk 2 (loopN (exec (callW F) (N + 1) c7_27) KU2 (N + 1) (LU2 b x acc (.slc 4 true true [t, t']) ((2 : Nat) : Int) ((0 : Nat) : Int)) h)) := by
    unfold u1
    generalize u2 = rest
    simp only [c7_14, m0, m1, s1, s2, e_bslice2, b2, run_nil, run_cons, stp_plain, stp_guard, put_some, pass_eq, pick_tt, pick_ff, pick_tf, pick_ft, pick_u, reg_some, thn_normal, thn_exit, thn_ret, cnd_t, cnd_f, blk_normal, blk_ret, blk_exit, x_seq, x_region, x_cond, x_block, x_loop, x_ret, x_exit, x_skip, e_mov, e_pick, pk_t, pk_f, withH_some, e_box, bx_some, e_load, e_store, stH_some, e_nil, e_bin, e_eqv, eqH_f, eqH_t, e_un, e_fa, e_ia, ia_eq, nat_eq, natV_nat, e_len, lnH_some, e_extract, ex_0, ex_1, e_call0, e_call1, e_call2, e_call3, pc0_eq, pc1_some, pc2_some, pc3_some, fin_some, g_var0, g_vars, g_loc0, g_locs, g_int, g_bool, g_str, g_sl, s_none, s_zero, s_succ, cl_nil, cl_str, cl_bool, cl_slc, cl_own, evFa, evNil, asEl, evBin, intBin, strBin, evUn, len_nil, len_slc, len_str, clr, List.length_nil, List.length_cons, List.getElem?_cons_zero, List.getElem?_cons_succ, Nat.reduceAdd, Nat.zero_add, Nat.add_zero, Nat.reduceLeDiff, Nat.reduceSub, ↓reduceIte, List.drop_succ_cons, List.drop_zero, List.take_succ_cons, List.take_zero, Bool.false_eq_true, List.nil_append, List.cons_append, Bool.not_true, Bool.not_false, cond_true, cond_false, bne, lv_ret, lv_normal, res1, res2, lv2_some, res_var, res_cell, lvf_v, lvf_slc, res1c, lvo1_some, e_mm, mm_max, mm_min]
    rw [loop_cong (v2 := LU2 b x acc (.slc 4 true true [t, t']) ((2 : Nat) : Int) ((0 : Nat) : Int)) (by rfl)]
  rw [pre]
  rcases key with ⟨vs, h', g1, g2⟩ | ⟨hP, l2, g1⟩
  · exact back_lv ⟨vs, h', loopN_mono _ (N + 1) (by simp; omega) _ _ _ g1, g2⟩
  · rw [loopN_mono _ (N + 1) (by simp; omega) _ _ _ g1, blk_exit, thn_normal]
    have ha2 : Acc 5 (h ++ l2) acc ds := by
      cases ha with
      | nil => exact .nil
      | own id ver k _ hr hk hne => exact .own id ver k _ (his_get hr) hk hne
    have p1 := hP T (by simp)
    have p2 := hP T' (by simp)
    exact u2_ok (c := .slc 4 true true [t, t']) (n := ([t, t'] : List AV).length) hN hx hb hbl hbz hnum ht ht' hT hT' (bd_of p1.1 p1.2) (bd_of p2.1 p2.2) (his_get h0) (his_get h1) ha2 hds

theorem ushifts_ok (hb : IsN b bs) (ht : IsT t T) (ht' : IsT t' T') (y : Int) : callW F 7 [b, t, t', .v (.int .i64 y)] [] = some (.v (.bool true), []) := by
  have hlive := live17
  have hbig := big18 (ts := .slc 4 true true [t, t']) hb.1 rfl (All2.cons t T _ _ ht (.cons t' T' [] [] ht' .nil)) (by simp [maxLen])
  have s1 : ∀ h : List AO, t.snap1 h = some t := fun h => ht.snap
  have s2 : ∀ h : List AO, t'.snap1 h = some t' := fun h => ht'.snap
  have sb : ∀ h : List AO, b.snap1 h = some b := hb.1.snap'
  have sl : ∀ h : List AO, (AV.slc 4 true true [t, t']).snap1 h = some (.slc 4 true true [t, t']) := fun _ => rfl
  have b2 : ∀ h : List AO, bs2 h 4 (some t) (some t') = some (.slc 4 true true [t, t'], h) := by
    intro h
    simp only [bs2, ht.cl.1, ht'.cl.1, ht.cl.2, ht'.cl.2, if_true]
  have ht0 : ∀ tl : List AO, evLoad (.box t.cells :: tl) true 4 (.ptr 0 0) = some t := by
    intro tl
    rw [bx_ld (cs := t.cells) rfl, if_pos (by rw [ht.cl.2]; omega), List.drop_zero]
    exact ht.asEl
  have ht1 : ∀ (o : AO) (tl : List AO), evLoad (o :: .box t'.cells :: tl) true 4 (.ptr 1 0) = some t' := by
    intro o tl
    rw [bx_ld (cs := t'.cells) rfl, if_pos (by rw [ht'.cl.2]; omega), List.drop_zero]
    exact ht'.asEl
  have htc := ht.cl.1
  have htl := ht.cl.2
  have htc' := ht'.cl.1
  have htl' := ht'.cl.2
  refine callW_pure (c := c7) rfl rfl (150000 + 1) ?_
  cases hB : big bs [T, T'] with
  | true =>
    rw [hB] at hbig
    simp only [c7, start, List.replicate, c7_0, c7_1, c7_2, c7_3, htc, htl, htc', htl', ht0, ht1, hlive, s1, s2, sb, sl, e_bslice2, b2, hbig, run_nil, run_cons, stp_plain, stp_guard, put_some, pass_eq, pick_tt, pick_ff, pick_tf, pick_ft, pick_u, reg_some, thn_normal, thn_exit, thn_ret, cnd_t, cnd_f, blk_normal, blk_ret, blk_exit, x_seq, x_region, x_cond, x_block, x_loop, x_ret, x_exit, x_skip, e_mov, e_pick, pk_t, pk_f, withH_some, e_box, bx_some, e_load, e_store, stH_some, e_nil, e_bin, e_eqv, eqH_f, eqH_t, e_un, e_fa, e_ia, ia_eq, nat_eq, natV_nat, e_len, lnH_some, e_extract, ex_0, ex_1, e_call0, e_call1, e_call2, e_call3, pc0_eq, pc1_some, pc2_some, pc3_some, fin_some, g_var0, g_vars, g_loc0, g_locs, g_int, g_bool, g_str, g_sl, s_none, s_zero, s_succ, cl_nil, cl_str, cl_bool, cl_slc, cl_own, evFa, evNil, asEl, evBin, intBin, strBin, evUn, len_nil, len_slc, len_str, clr, List.length_nil, List.length_cons, List.getElem?_cons_zero, List.getElem?_cons_succ, Nat.reduceAdd, Nat.zero_add, Nat.add_zero, Nat.reduceLeDiff, Nat.reduceSub, ↓reduceIte, List.drop_succ_cons, List.drop_zero, List.take_succ_cons, List.take_zero, Bool.false_eq_true, List.nil_append, List.cons_append, Bool.not_true, Bool.not_false, cond_true, cond_false, bne, lv_ret, lv_normal, res1, res2, lv2_some, res_var, res_cell, lvf_v, lvf_slc, res1c, lvo1_some, e_mm, mm_max, mm_min]
  | false =>
    rw [hB] at hbig
    have hsz := big_size hB
    have hszT : size T ≤ 3000 := hsz.2.2 T (by simp)
    have hszT' : size T' ≤ 3000 := hsz.2.2 T' (by simp)
    have hszB : ∀ p ∈ bs, size p.2 ≤ 3000 := fun p hp => by have := hsz.2.1 p hp; omega
    obtain ⟨x, hx, hxe⟩ : ∃ x : Int, (0 ≤ x ∧ x ≤ 1000000) ∧ min (max y 0) 1000000 = x := ⟨min (max y 0) 1000000, by omega, rfl⟩
    obtain ⟨es, hs, hes, hmx⟩ := hb.1.sl'
    have k1 := hes.length
    have hl := hs.len
    have key := shl_loop (K := 150000 + 1) (x := x) hs (by omega) hx bs 0 (.v (.slice none 0 0)) [] [] [.box t.cells, .box t'.cells] (LU0 b x (.v (.slice none 0 0)) es.length (0 : Nat)) (by omega) rfl (by simpa using hes) .nil (fun p hp => by have := hszB p hp; omega) .nil rfl
    have pre : exec (callW F) (150000 + 1) (uh u0) (start c7 [b, t, t', .v (.int .i64 y)]) [] = thn (callW F) (150000 + 1) u1 (blk 0 (loopN (exec (callW F) (150000 + 1) c7_13) KU0 (150000 + 1) (LU0 b x (.v (.slice none 0 0)) es.length ((0 : Nat) : Int)) [.box t.cells, .box t'.cells])) := by
      unfold uh u0
      generalize u1 = rest
      simp only [c7, start, List.replicate, c7_0, c7_1, c7_2, c7_4, c7_5, c7_6, htc, htl, htc', htl', ht0, ht1, hlive, s1, s2, sb, sl, hl, hxe, e_bslice2, b2, hbig, run_nil, run_cons, stp_plain, stp_guard, put_some, pass_eq, pick_tt, pick_ff, pick_tf, pick_ft, pick_u, reg_some, thn_normal, thn_exit, thn_ret, cnd_t, cnd_f, blk_normal, blk_ret, blk_exit, x_seq, x_region, x_cond, x_block, x_loop, x_ret, x_exit, x_skip, e_mov, e_pick, pk_t, pk_f, withH_some, e_box, bx_some, e_load, e_store, stH_some, e_nil, e_bin, e_eqv, eqH_f, eqH_t, e_un, e_fa, e_ia, ia_eq, nat_eq, natV_nat, e_len, lnH_some, e_extract, ex_0, ex_1, e_call0, e_call1, e_call2, e_call3, pc0_eq, pc1_some, pc2_some, pc3_some, fin_some, g_var0, g_vars, g_loc0, g_locs, g_int, g_bool, g_str, g_sl, s_none, s_zero, s_succ, cl_nil, cl_str, cl_bool, cl_slc, cl_own, evFa, evNil, asEl, evBin, intBin, strBin, evUn, len_nil, len_slc, len_str, clr, List.length_nil, List.length_cons, List.getElem?_cons_zero, List.getElem?_cons_succ, Nat.reduceAdd, Nat.zero_add, Nat.add_zero, Nat.reduceLeDiff, Nat.reduceSub, ↓reduceIte, List.drop_succ_cons, List.drop_zero, List.take_succ_cons, List.take_zero, Bool.false_eq_true, List.nil_append, List.cons_append, Bool.not_true, Bool.not_false, cond_true, cond_false, bne, lv_ret, lv_normal, res1, res2, lv2_some, res_var, res_cell, lvf_v, lvf_slc, res1c, lvo1_some, e_mm, mm_max, mm_min]
      rw [loop_cong (v2 := LU0 b x (.v (.slice none 0 0)) es.length ((0 : Nat) : Int)) (by rfl)]
    refine (congrArg (lv [.var 6]) pre).trans ?_
    rcases key with ⟨vs, h', g1, g2⟩ | ⟨hnum, acc', ds', h', g1, g2, g3, g4⟩
    · exact back_lv ⟨vs, h', loopN_mono _ (150000 + 1) (by omega) _ _ _ g1, g2⟩
    · rw [loopN_mono _ (150000 + 1) (by omega) _ _ _ g1, blk_exit, thn_normal]
      exact u1_ok (c := b) (n := es.length) (by omega) hx hb hsz.1 hszB hnum ht ht' hszT hszT' (g4.2 0 _ rfl) (g4.2 1 _ rfl) g2 (by simpa using g3)
end
theorem ushifts_plain : unifyShifts.Plain := by
  intro a0 a1 a2 a3 w0 e0 w1 e1 w2 e2 w3 e3
  obtain ⟨c0, bs, h0, hb⟩ := wt_nn w0
  obtain ⟨x, hx⟩ := (wt_good w1).1 rfl
  obtain ⟨y, hy⟩ := (wt_good w2).1 rfl
  obtain ⟨n, hn⟩ := (wt_good w3).2.2.1 rfl
  rw [one_cell e0 h0, one_cell e3 hn]
  have h3 : AV.agg a1.cells = a1 := by
    have : asEl true a1.cells = some a1 := e1
    simpa [asEl] using this
  have h4 : AV.agg a2.cells = a2 := by
    have : asEl true a2.cells = some a2 := e2
    simpa [asEl] using this
  rw [h3] at hx
  rw [h4] at hy
  exact callW_iff.1 (ushifts_ok hb hx hy n)
end Go.AE.YtpgoibncgekflaaDoor
namespace Go.Proofs.YtpgoibncgekflaaDoor
theorem unifyShifts_holds : Rows.UnifyShiftsCardSaid := unifyShifts.proved Go.AE.YtpgoibncgekflaaDoor.ushifts_plain
#print axioms unifyShifts_holds
end Go.Proofs.YtpgoibncgekflaaDoor

/- SubstWalks holds: whatever the input, it returns true, and the input reads as it did. Conditions: none. -/
import Derived.Test.YtpgoibncgekflaaEach
import Derived.Test.YtpgoibncgekflaaIn
import Derived.Test.YtpgoibncgekflaaRowWalks
set_option linter.unusedVariables false
set_option linter.unusedSimpArgs false
namespace Go.AE.Ytpgoibncgekflaa
open Go Go.AE Go.Proofs.Ytpgoibncgekflaa

theorem wrap_pred {m : Int} (h0 : 0 ≤ m) (h1 : m ≤ 1000000) : IntKind.i64.wrap (m - 1) = m - 1 := by
  rw [IntWalk.i64_in]; omega
mutual
theorem left_size : ∀ (t : Tm) (m : Int), 0 ≤ m → m ≤ 1000000 → -1 ≤ left t m ∧ left t m ≤ m ∧ (0 ≤ left t m → left t m + size t = m)
  | .mk k s n l, m, h0, h1 => by
    rw [left, size, wrap_pred h0 h1]
    have := leftL_size l (m - 1) (by omega) (by omega)
    refine ⟨this.1, by omega, fun h => ?_⟩
    have := this.2.2 h
    omega
theorem leftL_size : ∀ (l : List Tm) (m : Int), -1 ≤ m → m ≤ 1000000 → -1 ≤ leftL l m ∧ leftL l m ≤ m ∧ (0 ≤ leftL l m → leftL l m + sizeL l = m)
  | [], m, h0, h1 => by simp only [leftL, sizeL]; omega
  | t :: l, m, h0, h1 => by
    simp only [leftL, sizeL]
    by_cases hm : m < 0
    · rw [if_pos hm]; omega
    · rw [if_neg hm]
      have a := left_size t m (by omega) h1
      have b := leftL_size l (left t m) (by omega) (by omega)
      refine ⟨b.1, by omega, fun h => ?_⟩
      have := b.2.2 h
      have := a.2.2 (by omega)
      omega
end
theorem big_size {bs : List (Int × Tm)} {ts : List Tm} (h : big bs ts = false) : bs.length ≤ 100 ∧ (∀ p ∈ bs, size p.2 ≤ 300) ∧ (∀ t ∈ ts, size t ≤ 3000) := by
  simp only [big, Bool.or_eq_false_iff, decide_eq_false_iff_not, Bool.not_eq_false', List.all_eq_true, decide_eq_true_eq] at h
  refine ⟨by omega, fun p hp => ?_, fun t ht => ?_⟩
  · have h1 := h.1.2 p hp
    have := (left_size p.2 300 (by omega) (by omega)).2.2 h1
    omega
  · have h1 := h.2 t ht
    have := (left_size t 3000 (by omega) (by omega)).2.2 h1
    omega

theorem same_call {a b : AV} {t : Tm} (ha : IsT a t) (hb : IsT b t) : callW F 15 [a, b] [] = some (.v (.bool true), []) := by
  have := same_ok _ t t a b (Nat.lt_succ_self _) ha hb
  rw [same_refl] at this; exact this

theorem walks_ok {b t : AV} {T : Tm} {bs : List (Int × Tm)} (hb : IsB b bs) (ht : IsT t T) (x : Int) : callW F 3 [b, t, .v (.int .i64 x)] [] = some (.v (.bool true), []) := by
  have hlive := live_ok
  have hbig := big_ok (ts := .slc 4 true true [t]) hb rfl (All2.cons t T [] [] ht .nil) (by simp [maxLen])
  have s1 : ∀ h : List AO, t.snap1 h = some t := fun h => ht.snap
  have sb : ∀ h : List AO, b.snap1 h = some b := by intro h; cases hb <;> rfl
  have sl : ∀ h : List AO, (AV.slc 4 true true [t]).snap1 h = some (.slc 4 true true [t]) := fun _ => rfl
  have ht' := ht
  refine callW_pure (c := c3) rfl rfl 0 ?_
  cases hB : big bs [T] with
  | true =>
    rw [hB] at hbig
    cases ht with
    | mk k s n c l hc =>
    have b1 : ∀ h : List AO, bs1 h 4 (some (.agg [.v (.int .i64 k), .v (.string s), .v (.int .i64 n), c])) = some (.slc 4 true true [.agg [.v (.int .i64 k), .v (.string s), .v (.int .i64 n), c]], h) := fun h => bs1_some rfl rfl
    simp only [c3, start, List.replicate, c3_0, c3_1, c3_2, c3_3, hlive, s1, sb, sl, b1, hbig, e_bslice1, e_bslice2, bs1, bs2, e_build, bdH_some, bd_nil, bd_cons, bd1, cl_agg, cl_int, toL, List.map_cons, List.map_nil, putAt, List.set_cons_zero, List.set_cons_succ, and_self, Nat.le_refl, evStore, app_get, app_set, g_agg, run_nil, run_cons, stp_plain, stp_guard, put_some, pass_eq, pick_tt, pick_ff, pick_tf, pick_ft, pick_u, reg_some, thn_normal, thn_exit, thn_ret, cnd_t, cnd_f, blk_normal, blk_ret, blk_exit, x_seq, x_region, x_cond, x_block, x_loop, x_ret, x_exit, x_skip, e_mov, e_pick, pk_t, pk_f, withH_some, e_box, bx_some, e_load, e_store, stH_some, e_nil, e_bin, e_eqv, eqH_f, eqH_t, e_un, e_fa, e_ia, ia_eq, nat_eq, natV_nat, e_len, lnH_some, e_extract, ex_0, ex_1, e_call0, e_call1, e_call2, e_call3, pc0_eq, pc1_some, pc2_some, pc3_some, fin_some, g_var0, g_vars, g_loc0, g_locs, g_int, g_bool, g_str, g_sl, s_none, s_zero, s_succ, cl_nil, cl_str, cl_bool, cl_slc, cl_own, evFa, evNil, evLoad, asEl, evBin, intBin, strBin, evUn, len_nil, len_slc, len_str, clr, List.length_nil, List.length_cons, List.getElem?_cons_zero, List.getElem?_cons_succ, Nat.reduceAdd, Nat.zero_add, Nat.add_zero, Nat.reduceLeDiff, Nat.reduceSub, ↓reduceIte, List.drop_succ_cons, List.drop_zero, List.take_succ_cons, List.take_zero, Bool.false_eq_true, List.nil_append, List.cons_append, Bool.not_true, Bool.not_false, cond_true, cond_false, bne, lv_ret, lv_normal, res1, res2, lv2_some, res_var, res_cell, lvf_v, lvf_slc, res1c, lvo1_some]
  | false =>
    rw [hB] at hbig
    have hsz := big_size hB
    obtain ⟨y, z, hy, hz, w1, w2⟩ := walks hb (by omega) ht
    obtain ⟨es, hes, k1, k2⟩ := looks hb (by omega)
    obtain ⟨f1, hf1, g1⟩ := shift16 x (t := T) (by have := hsz.2.2 T (by simp); omega) ht
    obtain ⟨f2, hf2, g2⟩ := shift17 x (t := T) (by have := hsz.2.2 T (by simp); omega) ht
    have e1 := same_call hy hz
    have e2 := same_call hf1 hf2
    have sy : ∀ h : List AO, y.snap1 h = some y := fun h => hy.snap
    have sz : ∀ h : List AO, z.snap1 h = some z := fun h => hz.snap
    have sf1 : ∀ h : List AO, f1.snap1 h = some f1 := fun h => hf1.snap
    have sf2 : ∀ h : List AO, f2.snap1 h = some f2 := fun h => hf2.snap
    cases ht with
    | mk k s n c l hc =>
    obtain ⟨cs, u, f, hla, hu⟩ := look_form n hes.reverse
    have k1 := k1 n
    have k2 := k2 n
    rw [hla] at k1 k2
    have e3 := same_call hu hu
    have su : ∀ h : List AO, (AV.agg cs).snap1 h = some (.agg cs) := fun h => hu.snap
    have b1 : ∀ h : List AO, bs1 h 4 (some (.agg [.v (.int .i64 k), .v (.string s), .v (.int .i64 n), c])) = some (.slc 4 true true [.agg [.v (.int .i64 k), .v (.string s), .v (.int .i64 n), c]], h) := fun h => bs1_some rfl rfl
    generalize walkT bs.reverse 2000 (Tm.mk k s n l) = w at hy hz w1 w2
    obtain ⟨o1, o2, o3⟩ := w
    have hq : (o2 == o2) = true := by simp
    have hq2 : ∀ h, eqNil h .bool (.v (.bool f)) (.v (.bool f)) = some true := by intro h; simp [eqNil]
    cases hy
    cases hz
    cases hu
    simp only [c3, start, List.replicate, c3_0, c3_1, c3_2, c3_4, c3_5, c3_6, c3_7, c3_8, hlive, s1, sb, sl, b1, hbig, w1, w2, k1, k2, g1, g2, e1, e2, e3, sy, sz, su, sf1, sf2, hq, hq2, snapv, q9z, e_bslice1, e_bslice2, bs1, bs2, e_build, bdH_some, bd_nil, bd_cons, bd1, cl_agg, cl_int, toL, List.map_cons, List.map_nil, putAt, List.set_cons_zero, List.set_cons_succ, and_self, Nat.le_refl, evStore, app_get, app_set, g_agg, run_nil, run_cons, stp_plain, stp_guard, put_some, pass_eq, pick_tt, pick_ff, pick_tf, pick_ft, pick_u, reg_some, thn_normal, thn_exit, thn_ret, cnd_t, cnd_f, blk_normal, blk_ret, blk_exit, x_seq, x_region, x_cond, x_block, x_loop, x_ret, x_exit, x_skip, e_mov, e_pick, pk_t, pk_f, withH_some, e_box, bx_some, e_load, e_store, stH_some, e_nil, e_bin, e_eqv, eqH_f, eqH_t, e_un, e_fa, e_ia, ia_eq, nat_eq, natV_nat, e_len, lnH_some, e_extract, ex_0, ex_1, e_call0, e_call1, e_call2, e_call3, pc0_eq, pc1_some, pc2_some, pc3_some, fin_some, g_var0, g_vars, g_loc0, g_locs, g_int, g_bool, g_str, g_sl, s_none, s_zero, s_succ, cl_nil, cl_str, cl_bool, cl_slc, cl_own, evFa, evNil, evLoad, asEl, evBin, intBin, strBin, evUn, len_nil, len_slc, len_str, clr, List.length_nil, List.length_cons, List.getElem?_cons_zero, List.getElem?_cons_succ, Nat.reduceAdd, Nat.zero_add, Nat.add_zero, Nat.reduceLeDiff, Nat.reduceSub, ↓reduceIte, List.drop_succ_cons, List.drop_zero, List.take_succ_cons, List.take_zero, Bool.false_eq_true, List.nil_append, List.cons_append, Bool.not_true, Bool.not_false, cond_true, cond_false, bne, lv_ret, lv_normal, res1, res2, lv2_some, res_var, res_cell, lvf_v, lvf_slc, res1c, lvo1_some]

theorem walks_plain : substWalks.Plain := by
  intro a0 a1 a2 w0 e0 w1 e1 w2 e2
  obtain ⟨c0, bs, h0, hb⟩ := (wt_good w0).2.2.2.2.2.2 rfl
  obtain ⟨n2, h2⟩ := (wt_good w2).2.2.1 rfl
  obtain ⟨x, hx⟩ := (wt_good w1).1 rfl
  rw [one_cell e0 h0, one_cell e2 h2]
  have h3 : AV.agg a1.cells = a1 := by
    have : asEl true a1.cells = some a1 := e1
    simpa [asEl] using this
  rw [h3] at hx
  exact callW_iff.1 (walks_ok hb hx n2)
end Go.AE.Ytpgoibncgekflaa
namespace Go.Proofs.Ytpgoibncgekflaa
theorem substWalks_holds : Rows.SubstWalksSaid := substWalks.proved Go.AE.Ytpgoibncgekflaa.walks_plain
#print axioms substWalks_holds
end Go.Proofs.Ytpgoibncgekflaa

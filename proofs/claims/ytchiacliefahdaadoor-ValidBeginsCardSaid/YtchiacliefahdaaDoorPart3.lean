/- Texts of this claim, put together. -/
import Derived.Test.YtchiacliefahdaaDoorPart2
import Derived.Test.YtchiacliefahdaaDoorEval3
import Derived.Test.YtchiacliefahdaaDoorPart1
import Derived.Test.YtchiacliefahdaaDoorRows
import Derived.WalkKit
import Derived.ProofKit
import Derived.OpenShut
import Derived.ShutString
import Derived.ChangeOld
import Derived.Below
import Derived.SizedLaws
import Derived.Test.YtchiacliefahdaaDoorTie
import Derived.Test.YtchiacliefahdaaDoorCards
import Derived.Lib.LaidIn
import Derived.Lib.LaidU8T
import Derived.Handed
import Derived.SevenTiedAt
/-! ValidBegins walked. -/
section
set_option linter.unusedVariables false
set_option linter.unusedSimpArgs false
namespace Go.AE.YtchiacliefahdaaDoor
open Go Go.AE Go.Proofs.YtchiacliefahdaaDoor

theorem begins_ok {a b : AV} {c : Co} {more : List In} {cut : Int} (ha : IsCo a c) (hb : IsS 5 IsIn b more) : callW F 5 [a, .v (.int .i64 cut), b] [] = some (.v (.bool true), []) := by
  have hlive := live_ok
  have hchk := check_ok ha
  obtain ⟨r, hbig, hbl⟩ := big_ok ha
  have hmo := chk_more (c := c) more
  have hbg := fun h k hk => @chk_begin c h k hk
  have hgd := @chk_good c
  have hbd := chk_bad c
  cases ha with
  | mk nm ar vs c3 l hl =>
  obtain ⟨es, hs, hes, hm⟩ := hl
  obtain ⟨fs, ht, hfs, hfm⟩ := hb
  have hel := hes.length
  have hfl := hfs.length
  generalize hA : AV.agg [.v (.string nm), .v (.int .i64 ar), .v (.int .i64 vs), c3] = A at *
  have cl : A.cl = some [.v (.string nm), .v (.int .i64 ar), .v (.int .i64 vs), c3] := by subst hA; cases hs <;> rfl
  have sa : ∀ h : List AO, A.snap1 h = some A := by subst hA; intro h; cases hs <;> rfl
  have la : ∀ h : List AO, h[0]? = some (.box [.v (.string nm), .v (.int .i64 ar), .v (.int .i64 vs), c3]) → evLoad h true 4 (.ptr 0 0) = some A := by
    intro h h0; subst hA; simp only [evLoad, h0]; rfl
  have l3 : ∀ h : List AO, h[0]? = some (.box [.v (.string nm), .v (.int .i64 ar), .v (.int .i64 vs), c3]) → evLoad h false 1 (.ptr 0 3) = some c3 := by
    intro h h0; simp only [evLoad, h0]; rfl
  have nl : ∀ h : List AO, evLen h .slice c3 = some l.length := fun h => by rw [hs.len h, hel]
  have nf : ∀ h : List AO, evLen h .slice b = some more.length := fun h => by rw [ht.len h, hfl]
  have la0 := la [.box [.v (.string nm), .v (.int .i64 ar), .v (.int .i64 vs), c3]] rfl
  have st5 : start c5 [A, .v (.int .i64 cut), b] = [A, .v (.int .i64 cut), b, .v undef, .v undef, .v undef, .v undef, .v undef, .v undef, .v undef, .v undef, .v undef, .v undef, .v undef, .v undef, .v undef, .v undef, .v undef, .v undef] := rfl
  have hres : c5.res = [.var 4] := rfl
  cases r with
  | true =>
    refine callW_pure (c := c5) rfl rfl 0 ?_
    rw [st5]
    simp only [c5, c5_0, c5_1, c5_2, c5_3, cl, la0, sa, hlive, hbig, pick_und, run_nil, run_cons, stp_plain, stp_guard, put_some, pass_eq, pick_tt, pick_ff, pick_tf, pick_ft, pick_u, reg_some, thn_normal, thn_exit, thn_ret, cnd_t, cnd_f, blk_normal, blk_ret, blk_exit, x_seq, x_region, x_cond, x_block, x_loop, x_ret, x_exit, x_skip, e_mov, e_pick, pk_t, pk_f, withH_some, e_box, e_load, e_store, stH_some, e_nil, e_bin, e_eqv, eqH_f, eqH_t, e_un, e_fa, e_ia, ia_eq, nat_eq, natV_nat, e_len, lnH_some, e_extract, ex_0, ex_1, e_call0, e_call1, e_call2, e_call3, pc0_eq, pc1_some, pc2_some, pc3_some, fin_some, g_var0, g_vars, g_loc0, g_locs, g_int, g_bool, g_str, g_sl, s_none, s_zero, s_succ, cl_nil, cl_str, cl_bool, cl_slc, cl_own, evFa, evNil, asEl, evBin, intBin, strBin, evUn, len_nil, len_slc, len_str, clr, List.length_nil, List.length_cons, List.getElem?_cons_zero, List.getElem?_cons_succ, Nat.reduceAdd, Nat.zero_add, Nat.add_zero, Nat.reduceLeDiff, Nat.reduceSub, ↓reduceIte, List.drop_succ_cons, List.drop_zero, List.take_succ_cons, List.take_zero, Bool.false_eq_true, List.nil_append, List.cons_append, Bool.not_true, Bool.not_false, cond_true, cond_false, bne, lv_ret, lv_normal, res1, res2, lv2_some, res_var, res_cell, lvf_v, lvf_slc, res1c, lvo1_some, e_mm, mm_max, mm_min, cl_agg, cl_int, g_agg, e_callv1, cv1_fn, e_slice2, e_clrrow, e_callf2, pick_und, cells_agg, Option.map_some, Option.map_none, bx_some]
  | false =>
  cases h100 : decide ((more.length : Int) > 100) with
  | true =>
    refine callW_pure (c := c5) rfl rfl 0 ?_
    rw [st5]
    simp only [c5, c5_0, c5_1, c5_2, c5_3, cl, la0, sa, nf, h100, hlive, hbig, pick_und, run_nil, run_cons, stp_plain, stp_guard, put_some, pass_eq, pick_tt, pick_ff, pick_tf, pick_ft, pick_u, reg_some, thn_normal, thn_exit, thn_ret, cnd_t, cnd_f, blk_normal, blk_ret, blk_exit, x_seq, x_region, x_cond, x_block, x_loop, x_ret, x_exit, x_skip, e_mov, e_pick, pk_t, pk_f, withH_some, e_box, e_load, e_store, stH_some, e_nil, e_bin, e_eqv, eqH_f, eqH_t, e_un, e_fa, e_ia, ia_eq, nat_eq, natV_nat, e_len, lnH_some, e_extract, ex_0, ex_1, e_call0, e_call1, e_call2, e_call3, pc0_eq, pc1_some, pc2_some, pc3_some, fin_some, g_var0, g_vars, g_loc0, g_locs, g_int, g_bool, g_str, g_sl, s_none, s_zero, s_succ, cl_nil, cl_str, cl_bool, cl_slc, cl_own, evFa, evNil, asEl, evBin, intBin, strBin, evUn, len_nil, len_slc, len_str, clr, List.length_nil, List.length_cons, List.getElem?_cons_zero, List.getElem?_cons_succ, Nat.reduceAdd, Nat.zero_add, Nat.add_zero, Nat.reduceLeDiff, Nat.reduceSub, ↓reduceIte, List.drop_succ_cons, List.drop_zero, List.take_succ_cons, List.take_zero, Bool.false_eq_true, List.nil_append, List.cons_append, Bool.not_true, Bool.not_false, cond_true, cond_false, bne, lv_ret, lv_normal, res1, res2, lv2_some, res_var, res_cell, lvf_v, lvf_slc, res1c, lvo1_some, e_mm, mm_max, mm_min, cl_agg, cl_int, g_agg, e_callv1, cv1_fn, e_slice2, e_clrrow, e_callf2, pick_und, cells_agg, Option.map_some, Option.map_none, bx_some]
  | false =>
  have hle := hbl rfl
  have hml : more.length ≤ 100 := by simp at h100; omega
  dsimp only at hle hmo hbg hgd hbd
  have big1 : maxLen = 9223372036854775807 := rfl
  have z : (ofVal (.agg #[.string ⟨#[]⟩, .int .i64 0, .int .i64 0, .slice none 0 0])).cl = some [.v (.string ⟨#[]⟩), .v (.int .i64 0), .v (.int .i64 0), .v (.slice none 0 0)] := by kernel_rfl
  have s1 : evStore [.box [.v (.string nm), .v (.int .i64 ar), .v (.int .i64 vs), c3], .box [.v (.string ⟨#[]⟩), .v (.int .i64 0), .v (.int .i64 0), .v (.slice none 0 0)]] 4 (.ptr 1 0) A = some [.box [.v (.string nm), .v (.int .i64 ar), .v (.int .i64 vs), c3], .box [.v (.string nm), .v (.int .i64 ar), .v (.int .i64 vs), c3]] :=
    st_new (h := [.box [.v (.string nm), .v (.int .i64 ar), .v (.int .i64 vs), c3]]) cl rfl rfl
  obtain ⟨m1, h2, b1, b2, b3⟩ := (Acc.nil (sz := 5) (h := [.box [.v (.string nm), .v (.int .i64 ar), .v (.int .i64 vs), c3], .box [.v (.string nm), .v (.int .i64 ar), .v (.int .i64 vs), c3]])).add' (bytes := 48) (x := c3) (hs.elems _) (by
    rw [hel]; exact fits_small (by simp; omega) (by omega))
  simp only [List.nil_append] at b2
  obtain ⟨m2, h3, d1, d2, d3⟩ := b2.add' (bytes := 48) (x := b) (ht.elems h2) (by
    rw [hel, hfl]; exact fits_small (by omega) (by omega))
  have p0 := d3.box (b3.box (j := 0) rfl)
  have p1 := d3.box (b3.box (j := 1) rfl)
  obtain ⟨h4, h5, e1, e2, D, D', e3, e4, e5, e6⟩ := made p1 d2 (hes.app hfs) (by simp; omega)
  have p5 := e6 0 _ (by decide) p0
  have la5 := la h5 p5
  have l35 := l3 h5 p5
  have l31 := l3 [.box [.v (.string nm), .v (.int .i64 ar), .v (.int .i64 vs), c3], .box [.v (.string nm), .v (.int .i64 ar), .v (.int .i64 vs), c3]] rfl
  have hchk2 := check_ok e5
  have mk7 : ∀ (v0 v1 v2 v3 v4 v5 v6 v7 : AV) (r : List AV), doMark (v0 :: v1 :: v2 :: v3 :: v4 :: v5 :: v6 :: v7 :: .ptr 1 0 :: r, h4) (.p 8 3 1) = (v0 :: v1 :: v2 :: v3 :: v4 :: v5 :: v6 :: v7 :: .ptr 1 0 :: r, h5) := fun _ _ _ _ _ _ _ _ _ => e2 _ 8 rfl
  generalize chkT ⟨nm, ar, vs, l⟩ = q at *
  generalize chkT ⟨nm, ar, vs, l ++ more⟩ = q2 at *
  obtain ⟨n, e⟩ := q
  obtain ⟨m, f⟩ := q2
  dsimp only at *
  have z0 : ((0 : Int) == 0) = true := rfl
  have z1 : ((150 : Int) == 0) = false := rfl
  have z2 : ((150 : Int) == 150) = true := rfl
  rcases hbd with he | ⟨he, hn0, hn1⟩
  rotate_left
  · subst he
    by_cases hnl : n < (l.length : Int)
    · have hq := hmo.2 (by decide) hnl
      obtain ⟨rfl, rfl⟩ := Prod.mk.inj hq
      have hlt : decide (m < (l.length : Int)) = true := by simpa using hnl
      have hmm : (m == m) = true := by simp
      refine callW_pure (c := c5) rfl rfl 0 ?_
      rw [st5]
      simp only [c5, c5_0, c5_1, c5_2, c5_4, c5_5, c5_6, c5_7, c5_8, c5_9, cl, la0, l31, sa, nf, nl, h100, hlive, hbig, hchk, z, s1, b1, d1, e1, x_region_m, List.foldl_cons, List.foldl_nil, mk7, marked_eq, e3, e4, hchk2, l35, z1, z2, hlt, hmm, e_append, pick_und, run_nil, run_cons, stp_plain, stp_guard, put_some, pass_eq, pick_tt, pick_ff, pick_tf, pick_ft, pick_u, reg_some, thn_normal, thn_exit, thn_ret, cnd_t, cnd_f, blk_normal, blk_ret, blk_exit, x_seq, x_region, x_cond, x_block, x_loop, x_ret, x_exit, x_skip, e_mov, e_pick, pk_t, pk_f, withH_some, e_box, e_load, e_store, stH_some, e_nil, e_bin, e_eqv, eqH_f, eqH_t, e_un, e_fa, e_ia, ia_eq, nat_eq, natV_nat, e_len, lnH_some, e_extract, ex_0, ex_1, e_call0, e_call1, e_call2, e_call3, pc0_eq, pc1_some, pc2_some, pc3_some, fin_some, g_var0, g_vars, g_loc0, g_locs, g_int, g_bool, g_str, g_sl, s_none, s_zero, s_succ, cl_nil, cl_str, cl_bool, cl_slc, cl_own, evFa, evNil, asEl, evBin, intBin, strBin, evUn, len_nil, len_slc, len_str, clr, List.length_nil, List.length_cons, List.getElem?_cons_zero, List.getElem?_cons_succ, Nat.reduceAdd, Nat.zero_add, Nat.add_zero, Nat.reduceLeDiff, Nat.reduceSub, ↓reduceIte, List.drop_succ_cons, List.drop_zero, List.take_succ_cons, List.take_zero, Bool.false_eq_true, List.nil_append, List.cons_append, Bool.not_true, Bool.not_false, cond_true, cond_false, bne, lv_ret, lv_normal, res1, res2, lv2_some, res_var, res_cell, lvf_v, lvf_slc, res1c, lvo1_some, e_mm, mm_max, mm_min, cl_agg, cl_int, g_agg, e_callv1, cv1_fn, e_slice2, e_clrrow, e_callf2, pick_und, cells_agg, Option.map_some, Option.map_none, bx_some]
    · have hlt : decide (n < (l.length : Int)) = false := by simpa using hnl
      refine callW_pure (c := c5) rfl rfl 0 ?_
      rw [st5]
      simp only [c5, c5_0, c5_1, c5_2, c5_4, c5_5, c5_6, c5_7, c5_8, c5_10, c5_11, cl, la0, l31, sa, nf, nl, h100, hlive, hbig, hchk, z, s1, b1, d1, e1, x_region_m, List.foldl_cons, List.foldl_nil, mk7, marked_eq, e3, e4, hchk2, l35, z1, z2, hlt, e_append, pick_und, run_nil, run_cons, stp_plain, stp_guard, put_some, pass_eq, pick_tt, pick_ff, pick_tf, pick_ft, pick_u, reg_some, thn_normal, thn_exit, thn_ret, cnd_t, cnd_f, blk_normal, blk_ret, blk_exit, x_seq, x_region, x_cond, x_block, x_loop, x_ret, x_exit, x_skip, e_mov, e_pick, pk_t, pk_f, withH_some, e_box, e_load, e_store, stH_some, e_nil, e_bin, e_eqv, eqH_f, eqH_t, e_un, e_fa, e_ia, ia_eq, nat_eq, natV_nat, e_len, lnH_some, e_extract, ex_0, ex_1, e_call0, e_call1, e_call2, e_call3, pc0_eq, pc1_some, pc2_some, pc3_some, fin_some, g_var0, g_vars, g_loc0, g_locs, g_int, g_bool, g_str, g_sl, s_none, s_zero, s_succ, cl_nil, cl_str, cl_bool, cl_slc, cl_own, evFa, evNil, asEl, evBin, intBin, strBin, evUn, len_nil, len_slc, len_str, clr, List.length_nil, List.length_cons, List.getElem?_cons_zero, List.getElem?_cons_succ, Nat.reduceAdd, Nat.zero_add, Nat.add_zero, Nat.reduceLeDiff, Nat.reduceSub, ↓reduceIte, List.drop_succ_cons, List.drop_zero, List.take_succ_cons, List.take_zero, Bool.false_eq_true, List.nil_append, List.cons_append, Bool.not_true, Bool.not_false, cond_true, cond_false, bne, lv_ret, lv_normal, res1, res2, lv2_some, res_var, res_cell, lvf_v, lvf_slc, res1c, lvo1_some, e_mm, mm_max, mm_min, cl_agg, cl_int, g_agg, e_callv1, cv1_fn, e_slice2, e_clrrow, e_callf2, pick_und, cells_agg, Option.map_some, Option.map_none, bx_some]
  · subst he
    obtain ⟨rfl, hne, _⟩ := hgd rfl
    have hl0 : l.length ≠ 0 := by simpa using hne
    have hlp : (0 : Int) < (l.length : Int) := by omega
    have hmore : more.length = 0 ∨ (m = (l.length : Int) ∧ f = 150) := by
      rcases Nat.eq_zero_or_pos more.length with h | h
      · exact .inl h
      · have := hmo.1 rfl (by intro e; rw [e] at h; simp at h)
        exact .inr (Prod.mk.inj this)
    have hg18 : decide ((more.length : Int) > 0) = true → (f == 150) = true ∧ (m == (l.length : Int)) = true := by
      intro hgt
      have h' : ¬ more.length = 0 := by simp at hgt; omega
      rcases hmore with h | ⟨rfl, rfl⟩
      · exact absurd h h'
      · exact ⟨rfl, by simp⟩
    have t1 : cut.tmod (l.length : Int) < (l.length : Int) := Int.tmod_lt_of_pos _ hlp
    have t2 : -(l.length : Int) < cut.tmod (l.length : Int) := Int.lt_tmod_of_pos _ hlp
    have hk1 : IntKind.i64.wrap (cut.tmod (l.length : Int) + (l.length : Int)) = cut.tmod (l.length : Int) + (l.length : Int) := wrap_i64 (by omega) (by omega)
    obtain ⟨k, hk⟩ := Int.eq_ofNat_of_zero_le (Int.tmod_nonneg (l.length : Int) (show 0 ≤ cut.tmod (l.length : Int) + (l.length : Int) by omega))
    have hkl : k < l.length := by
      have := Int.tmod_lt_of_pos (cut.tmod (l.length : Int) + (l.length : Int)) hlp
      rw [hk] at this; omega
    have hz : ((l.length : Int) = 0) = False := by simp; omega
    have nk : natV (.v (.int .i64 (k : Int))) = some k := natV_nat
    -- the beginning
    have s2 : evStore (h5 ++ [.box [.v (.string ⟨#[]⟩), .v (.int .i64 0), .v (.int .i64 0), .v (.slice none 0 0)]]) 4 (.ptr h5.length 0) A = some (h5 ++ [.box [.v (.string nm), .v (.int .i64 ar), .v (.int .i64 vs), c3]]) := st_new cl rfl rfl
    have p7 : (h5 ++ [AO.box [.v (.string nm), .v (.int .i64 ar), .v (.int .i64 vs), c3]])[0]? = some (.box [.v (.string nm), .v (.int .i64 ar), .v (.int .i64 vs), c3]) := his_get p5
    have l37 := l3 _ p7
    have j7 : (h5 ++ [AO.box [.v (.string nm), .v (.int .i64 ar), .v (.int .i64 vs), c3]])[h5.length]? = some (.box [.v (.string nm), .v (.int .i64 ar), .v (.int .i64 vs), c3]) := by simp
    obtain ⟨c4, hc4, hsl⟩ : ∃ c4, Sl 5 c4 (es.take k) ∧ ∀ H : List AO, slV H 5 none (some (some k)) c3 = some c4 := by
      cases hs with
      | nil => simp at hel; omega
      | slc ex nn es =>
        refine ⟨.slc 5 (ex && k == es.length) nn (es.take k), .slc _ _ _, fun H => ?_⟩
        have h1 : k ≤ es.length := by omega
        simp [slV, slo, h1]
    generalize hH7 : h5 ++ [AO.box [.v (.string nm), .v (.int .i64 ar), .v (.int .i64 vs), c3]] = h7 at *
    generalize hid : h5.length = id at *
    obtain ⟨n1, h8, f1, f2, f3⟩ := (Acc.nil (sz := 5) (h := h7)).add' (bytes := 48) (x := c4) (hc4.elems _) (by
      exact fits_small (by simp; omega) (by omega))
    simp only [List.nil_append] at f2
    have bz : ∀ h : List AO, bdH h (some [.v (.int .i64 23), .v (.int .i64 0), .v (.int .i64 0), .v (.string ⟨#[]⟩), .v (.int .i64 0)]) = some (inV endI, h) := fun _ => rfl
    have se : ∀ h : List AO, (inV endI).snap1 h = some (inV endI) := fun _ => rfl
    have be : ∀ h : List AO, bs1 h 5 (some (inV endI)) = some (.slc 5 true true [inV endI], h) := fun h => bs1_some (show (inV endI).cl = some (inC endI) from rfl) rfl
    obtain ⟨n2, h9, g1, g2, g3⟩ := f2.add' (bytes := 48) (x := .slc 5 true true [inV endI]) elems_one (by
      exact fits_small (by simp; omega) (by omega))
    have j9 := g3.box (f3.box j7)
    have p9 := g3.box (f3.box p7)
    obtain ⟨h10, h11, i1, i2, E, E', i3, i4, i5, i6⟩ := made j9 g2 (AllR.app (takes hes k) (AllR.one (isIn endI))) (by simp; omega)
    have hid0 : (0 : Nat) ≠ id := by
      have := (List.getElem?_eq_some_iff.1 p5).1
      omega
    have p11 := i6 0 _ hid0 p9
    have l311 := l3 h11 p11
    have hchk3 := check_ok i5
    have mk17 : ∀ (v0 v1 v2 v3 v4 v5 v6 v7 v8 v9 v10 v11 : AV) (r : List AV), doMark (v0 :: v1 :: v2 :: v3 :: v4 :: v5 :: v6 :: v7 :: v8 :: v9 :: v10 :: v11 :: .ptr id 0 :: r, h10) (.p 12 3 1) = (v0 :: v1 :: v2 :: v3 :: v4 :: v5 :: v6 :: v7 :: v8 :: v9 :: v10 :: v11 :: .ptr id 0 :: r, h11) := fun _ _ _ _ _ _ _ _ _ _ _ _ _ => i2 _ 12 rfl
    have hfin := hbg rfl k hkl
    have zi : toL [.int .i64 0, .int .i64 0, .int .i64 0, .string ⟨#[]⟩, .int .i64 0] = [.v (.int .i64 0), .v (.int .i64 0), .v (.int .i64 0), .v (.string ⟨#[]⟩), .v (.int .i64 0)] := rfl
    have bdi : ∀ (vars env : List AV), evBuild vars env [.v (.int .i64 0), .v (.int .i64 0), .v (.int .i64 0), .v (.string ⟨#[]⟩), .v (.int .i64 0)] [(0, 1, .k (.int .i64 23))] = some [.v (.int .i64 23), .v (.int .i64 0), .v (.int .i64 0), .v (.string ⟨#[]⟩), .v (.int .i64 0)] := fun _ _ => rfl
    have lH : ∀ h : List AO, bx h (some [.v (.string ⟨#[]⟩), .v (.int .i64 0), .v (.int .i64 0), .v (.slice none 0 0)]) = some (.ptr h.length 0, h ++ [.box [.v (.string ⟨#[]⟩), .v (.int .i64 0), .v (.int .i64 0), .v (.slice none 0 0)]]) := fun _ => rfl
    have hlN : ∀ x : AO, h5 ++ [x] = h5 ++ [x] := fun _ => rfl
    rcases hfin with hq | ⟨hq, hk0, hx⟩
    · rw [hq] at hchk3
      dsimp only at hchk3
      cases hgt : decide ((more.length : Int) > 0) with
      | true =>
        obtain ⟨w1, w2⟩ := hg18 hgt
        refine callW_pure (c := c5) rfl rfl 0 ?_
        rw [st5]
        simp only [c5, c5_0, c5_1, c5_2, c5_4, c5_5, c5_6, c5_7, c5_8, c5_10, c5_12, c5_14, c5_15, c5_16, c5_17, c5_18, cl, la0, l31, sa, nf, nl, h100, hlive, hbig, hchk, z, s1, b1, d1, e1, x_region_m, List.foldl_cons, List.foldl_nil, mk7, marked_eq, e3, e4, hchk2, l35, la5, z0, z1, z2, hz, hk1, hk, nk, s2, hH7, hid, l37, hsl, f1, bz, se, be, g1, i1, mk17, i3, i4, hchk3, l311, e_append, e_bslice1, e_build, pick_und, run_nil, run_cons, stp_plain, stp_guard, put_some, pass_eq, pick_tt, pick_ff, pick_tf, pick_ft, pick_u, reg_some, thn_normal, thn_exit, thn_ret, cnd_t, cnd_f, blk_normal, blk_ret, blk_exit, x_seq, x_region, x_cond, x_block, x_loop, x_ret, x_exit, x_skip, e_mov, e_pick, pk_t, pk_f, withH_some, e_box, e_load, e_store, stH_some, e_nil, e_bin, e_eqv, eqH_f, eqH_t, e_un, e_fa, e_ia, ia_eq, nat_eq, natV_nat, e_len, lnH_some, e_extract, ex_0, ex_1, e_call0, e_call1, e_call2, e_call3, pc0_eq, pc1_some, pc2_some, pc3_some, fin_some, g_var0, g_vars, g_loc0, g_locs, g_int, g_bool, g_str, g_sl, s_none, s_zero, s_succ, cl_nil, cl_str, cl_bool, cl_slc, cl_own, evFa, evNil, asEl, evBin, intBin, strBin, evUn, len_nil, len_slc, len_str, clr, List.length_nil, List.length_cons, List.getElem?_cons_zero, List.getElem?_cons_succ, Nat.reduceAdd, Nat.zero_add, Nat.add_zero, Nat.reduceLeDiff, Nat.reduceSub, ↓reduceIte, List.drop_succ_cons, List.drop_zero, List.take_succ_cons, List.take_zero, Bool.false_eq_true, List.nil_append, List.cons_append, Bool.not_true, Bool.not_false, cond_true, cond_false, bne, lv_ret, lv_normal, res1, res2, lv2_some, res_var, res_cell, lvf_v, lvf_slc, res1c, lvo1_some, e_mm, mm_max, mm_min, cl_agg, cl_int, g_agg, e_callv1, cv1_fn, e_slice2, e_clrrow, e_callf2, pick_und, cells_agg, Option.map_some, Option.map_none, bx_some, zi, bdi, hgt, w1, w2]
      | false =>
        refine callW_pure (c := c5) rfl rfl 0 ?_
        rw [st5]
        simp only [c5, c5_0, c5_1, c5_2, c5_4, c5_5, c5_6, c5_7, c5_8, c5_10, c5_12, c5_14, c5_15, c5_16, c5_17, c5_18, cl, la0, l31, sa, nf, nl, h100, hlive, hbig, hchk, z, s1, b1, d1, e1, x_region_m, List.foldl_cons, List.foldl_nil, mk7, marked_eq, e3, e4, hchk2, l35, la5, z0, z1, z2, hz, hk1, hk, nk, s2, hH7, hid, l37, hsl, f1, bz, se, be, g1, i1, mk17, i3, i4, hchk3, l311, e_append, e_bslice1, e_build, pick_und, run_nil, run_cons, stp_plain, stp_guard, put_some, pass_eq, pick_tt, pick_ff, pick_tf, pick_ft, pick_u, reg_some, thn_normal, thn_exit, thn_ret, cnd_t, cnd_f, blk_normal, blk_ret, blk_exit, x_seq, x_region, x_cond, x_block, x_loop, x_ret, x_exit, x_skip, e_mov, e_pick, pk_t, pk_f, withH_some, e_box, e_load, e_store, stH_some, e_nil, e_bin, e_eqv, eqH_f, eqH_t, e_un, e_fa, e_ia, ia_eq, nat_eq, natV_nat, e_len, lnH_some, e_extract, ex_0, ex_1, e_call0, e_call1, e_call2, e_call3, pc0_eq, pc1_some, pc2_some, pc3_some, fin_some, g_var0, g_vars, g_loc0, g_locs, g_int, g_bool, g_str, g_sl, s_none, s_zero, s_succ, cl_nil, cl_str, cl_bool, cl_slc, cl_own, evFa, evNil, asEl, evBin, intBin, strBin, evUn, len_nil, len_slc, len_str, clr, List.length_nil, List.length_cons, List.getElem?_cons_zero, List.getElem?_cons_succ, Nat.reduceAdd, Nat.zero_add, Nat.add_zero, Nat.reduceLeDiff, Nat.reduceSub, ↓reduceIte, List.drop_succ_cons, List.drop_zero, List.take_succ_cons, List.take_zero, Bool.false_eq_true, List.nil_append, List.cons_append, Bool.not_true, Bool.not_false, cond_true, cond_false, bne, lv_ret, lv_normal, res1, res2, lv2_some, res_var, res_cell, lvf_v, lvf_slc, res1c, lvo1_some, e_mm, mm_max, mm_min, cl_agg, cl_int, g_agg, e_callv1, cv1_fn, e_slice2, e_clrrow, e_callf2, pick_und, cells_agg, Option.map_some, Option.map_none, bx_some, zi, bdi, hgt]
    · rw [hq] at hchk3
      dsimp only at hchk3
      obtain ⟨x, hxk⟩ : ∃ x, l[k - 1]? = some x := ⟨_, List.getElem?_eq_getElem (by omega)⟩
      obtain ⟨x21, x22⟩ := hx x hxk
      obtain ⟨ex, hex, hin⟩ := hes.get' hxk
      have hei := hin.eq
      subst hei
      have q1 := fun h : List AO => hs.ia hex h
      have q4 : ∀ h : List AO, evLoad h false 1 (.ip (inV x).cells) = some (.v (.int .i64 x.op)) := fun _ => rfl
      have kw : IntKind.i64.wrap ((k : Int) - 1) = ((k - 1 : Nat) : Int) := by
        rw [wrap_i64 (by omega) (by omega)]; omega
      have nk1 : natV (.v (.int .i64 ((k - 1 : Nat) : Int))) = some (k - 1) := natV_nat
      have kk : (((k : Nat) : Int) == (k : Int)) = true := by simp
      have kg : decide (((k : Nat) : Int) > 0) = true := by simp; omega
      have w21 : (x.op == 21) = false := by simpa using x21
      have w22 : (x.op == 22) = false := by simpa using x22
      cases hgt : decide ((more.length : Int) > 0) with
      | true =>
        obtain ⟨w1, w2⟩ := hg18 hgt
        refine callW_pure (c := c5) rfl rfl 0 ?_
        rw [st5]
        simp only [c5, c5_0, c5_1, c5_2, c5_4, c5_5, c5_6, c5_7, c5_8, c5_10, c5_12, c5_14, c5_15, c5_16, c5_17, c5_18, cl, la0, l31, sa, nf, nl, h100, hlive, hbig, hchk, z, s1, b1, d1, e1, x_region_m, List.foldl_cons, List.foldl_nil, mk7, marked_eq, e3, e4, hchk2, l35, la5, z0, z1, z2, hz, hk1, hk, nk, s2, hH7, hid, l37, hsl, f1, bz, se, be, g1, i1, mk17, i3, i4, hchk3, l311, e_append, e_bslice1, e_build, pick_und, run_nil, run_cons, stp_plain, stp_guard, put_some, pass_eq, pick_tt, pick_ff, pick_tf, pick_ft, pick_u, reg_some, thn_normal, thn_exit, thn_ret, cnd_t, cnd_f, blk_normal, blk_ret, blk_exit, x_seq, x_region, x_cond, x_block, x_loop, x_ret, x_exit, x_skip, e_mov, e_pick, pk_t, pk_f, withH_some, e_box, e_load, e_store, stH_some, e_nil, e_bin, e_eqv, eqH_f, eqH_t, e_un, e_fa, e_ia, ia_eq, nat_eq, natV_nat, e_len, lnH_some, e_extract, ex_0, ex_1, e_call0, e_call1, e_call2, e_call3, pc0_eq, pc1_some, pc2_some, pc3_some, fin_some, g_var0, g_vars, g_loc0, g_locs, g_int, g_bool, g_str, g_sl, s_none, s_zero, s_succ, cl_nil, cl_str, cl_bool, cl_slc, cl_own, evFa, evNil, asEl, evBin, intBin, strBin, evUn, len_nil, len_slc, len_str, clr, List.length_nil, List.length_cons, List.getElem?_cons_zero, List.getElem?_cons_succ, Nat.reduceAdd, Nat.zero_add, Nat.add_zero, Nat.reduceLeDiff, Nat.reduceSub, ↓reduceIte, List.drop_succ_cons, List.drop_zero, List.take_succ_cons, List.take_zero, Bool.false_eq_true, List.nil_append, List.cons_append, Bool.not_true, Bool.not_false, cond_true, cond_false, bne, lv_ret, lv_normal, res1, res2, lv2_some, res_var, res_cell, lvf_v, lvf_slc, res1c, lvo1_some, e_mm, mm_max, mm_min, cl_agg, cl_int, g_agg, e_callv1, cv1_fn, e_slice2, e_clrrow, e_callf2, pick_und, cells_agg, Option.map_some, Option.map_none, bx_some, zi, bdi, hgt, w1, w2, q1, q4, kw, nk1, kk, kg, w21, w22]
      | false =>
        refine callW_pure (c := c5) rfl rfl 0 ?_
        rw [st5]
        simp only [c5, c5_0, c5_1, c5_2, c5_4, c5_5, c5_6, c5_7, c5_8, c5_10, c5_12, c5_14, c5_15, c5_16, c5_17, c5_18, cl, la0, l31, sa, nf, nl, h100, hlive, hbig, hchk, z, s1, b1, d1, e1, x_region_m, List.foldl_cons, List.foldl_nil, mk7, marked_eq, e3, e4, hchk2, l35, la5, z0, z1, z2, hz, hk1, hk, nk, s2, hH7, hid, l37, hsl, f1, bz, se, be, g1, i1, mk17, i3, i4, hchk3, l311, e_append, e_bslice1, e_build, pick_und, run_nil, run_cons, stp_plain, stp_guard, put_some, pass_eq, pick_tt, pick_ff, pick_tf, pick_ft, pick_u, reg_some, thn_normal, thn_exit, thn_ret, cnd_t, cnd_f, blk_normal, blk_ret, blk_exit, x_seq, x_region, x_cond, x_block, x_loop, x_ret, x_exit, x_skip, e_mov, e_pick, pk_t, pk_f, withH_some, e_box, e_load, e_store, stH_some, e_nil, e_bin, e_eqv, eqH_f, eqH_t, e_un, e_fa, e_ia, ia_eq, nat_eq, natV_nat, e_len, lnH_some, e_extract, ex_0, ex_1, e_call0, e_call1, e_call2, e_call3, pc0_eq, pc1_some, pc2_some, pc3_some, fin_some, g_var0, g_vars, g_loc0, g_locs, g_int, g_bool, g_str, g_sl, s_none, s_zero, s_succ, cl_nil, cl_str, cl_bool, cl_slc, cl_own, evFa, evNil, asEl, evBin, intBin, strBin, evUn, len_nil, len_slc, len_str, clr, List.length_nil, List.length_cons, List.getElem?_cons_zero, List.getElem?_cons_succ, Nat.reduceAdd, Nat.zero_add, Nat.add_zero, Nat.reduceLeDiff, Nat.reduceSub, ↓reduceIte, List.drop_succ_cons, List.drop_zero, List.take_succ_cons, List.take_zero, Bool.false_eq_true, List.nil_append, List.cons_append, Bool.not_true, Bool.not_false, cond_true, cond_false, bne, lv_ret, lv_normal, res1, res2, lv2_some, res_var, res_cell, lvf_v, lvf_slc, res1c, lvo1_some, e_mm, mm_max, mm_min, cl_agg, cl_int, g_agg, e_callv1, cv1_fn, e_slice2, e_clrrow, e_callf2, pick_und, cells_agg, Option.map_some, Option.map_none, bx_some, zi, bdi, hgt, q1, q4, kw, nk1, kk, kg, w21, w22]
end Go.AE.YtchiacliefahdaaDoor
end

/-! What comes in, out of its types. -/
section
set_option linter.unusedVariables false
namespace Go.AE.YtchiacliefahdaaDoor
open Go Go.AE Go.Proofs.YtchiacliefahdaaDoor
theorem int3 {cs : List AV} (w : WT T 3 cs) : ∃ n : Int, cs = [.v (.int .i64 n)] := by
  obtain ⟨n, h, _⟩ := wt_int_of (t := 3) (k := .i64) rfl rfl w
  exact ⟨n, h⟩
theorem int2 {cs : List AV} (w : WT T 2 cs) : ∃ n : Int, cs = [.v (.int .i64 n)] := by
  obtain ⟨n, h, _⟩ := wt_int_of (t := 2) (k := .i64) rfl rfl w
  exact ⟨n, h⟩
theorem str9 {cs : List AV} (w : WT T 9 cs) : ∃ s : ByteArray, cs = [.v (.string s)] := by
  obtain ⟨s, h, _⟩ := wt_str_of (t := 9) rfl rfl w
  exact ⟨s, h⟩
theorem instr_in {cs : List AV} (w : WT T 41 cs) : ∃ i, IsIn (.agg cs) i := by
  obtain ⟨a, b, c, d, e, rfl, wa, wb, wc, wd, we⟩ := wt_struct5 (t := 41) rfl rfl w
  obtain ⟨_, rfl⟩ := int3 wa
  obtain ⟨_, rfl⟩ := int3 wb
  obtain ⟨_, rfl⟩ := int3 wc
  obtain ⟨_, rfl⟩ := str9 wd
  obtain ⟨_, rfl⟩ := int2 we
  exact ⟨_, .mk _ _ _ _ _⟩
theorem instrs_in {cs : List AV} (w : WT T 22 cs) : ∃ c l, cs = [c] ∧ IsS 5 IsIn c l := by
  rcases wt_slice_of (t := 22) (e := 41) rfl rfl rfl w with rfl | ⟨l, rfl, hl, hel, has⟩
  · exact ⟨_, [], rfl, [], .nil, .nil, by simp⟩
  · obtain ⟨xs, hxs⟩ := allR_of (R := IsIn) (l := l) (fun el hm => by
      obtain ⟨x, hx⟩ := instr_in (hel el hm)
      have := has el hm
      rw [← agg_cells this] at hx
      exact ⟨x, hx⟩)
    exact ⟨_, xs, rfl, l, .slc _ _ _, hxs, hl⟩
theorem code_in {a : AV} (w : WT T 24 a.cells) (e : asEl ti24.agg a.cells = some a) : ∃ c, IsCo a c := by
  obtain ⟨n, b, c, d, h, wn, wb, wc, wd⟩ := wt_struct4 (t := 24) rfl rfl w
  obtain ⟨_, rfl⟩ := str9 wn
  obtain ⟨_, rfl⟩ := int3 wb
  obtain ⟨_, rfl⟩ := int3 wc
  obtain ⟨q, l, rfl, hl⟩ := instrs_in wd
  rw [agg_cells e, h]
  exact ⟨_, .mk _ _ _ _ _ hl⟩
end Go.AE.YtchiacliefahdaaDoor
end

/-! What all rows of this program need. -/
section
set_option linter.unusedVariables false
namespace Go.Proofs.YtchiacliefahdaaDoor
open Go Go.AE Go.Proofs Go.ChangeShapes Go.WideShapes Go.ChangeAt Go.RowKit
open Go.ChangeMaps (open_string shut_string)

theorem own : ownKnob Tryd.prog.godebug = none := by kernel_rfl
theorem laidOut : laidOutB Tryd.prog = true := by kernel_rfl
theorem mixed : Tryd.prog.follows .mixedOrders = true := by kernel_rfl
def G : List TypeId := [2, 3, 9, 22, 24, 41]
theorem hG : goodB T G = true := by kernel_rfl

/-- What a call comes to that is handed what came in. -/
theorem law_calls {f : FuncId} {args : List AV} {vals : Array Value} {W : World} (hK : K W.heap.size W) (ha : ArgsRep (AllCells W) W [] args vals) {n : Nat} (he : callN F n f args [] = some (.v (.bool true), [])) :
    Calls Tryd.prog f vals W fun e W' => e = .returned (.bool true) ∧ Below W.heap.size W W' := by
  have hI : AE.Inv W.heap.size W (AllCells W) [] W [] := ⟨Below.refl _ _, Nat.le_refl _, rfl, fun id o L h => by simp at h, fun id L h => by simp at h, fun i j Li Lj h => by simp at h, fun b x h => h⟩
  refine ((callN_ok mixed hT hKs hF n W.heap.size W hK).calls f args [] _ _ he (AllCells W) [] W vals hI ha).mono fun e W' h => ?_
  obtain ⟨v, I', σ', rfl, hI', _, hr⟩ := h
  cases hr
  exact ⟨rfl, hI'.below⟩
end Go.Proofs.YtchiacliefahdaaDoor
end

/-! What all rows of this seat need: the world in which the library's two tables lie. -/
section
set_option linter.unusedVariables false
namespace Go.Proofs.YtchiacliefahdaaDoor
open Go Go.AE Go.Proofs Go.RowKit Go.Lib Go.Shelf

/-- a world in which the two variables hold what their initialisers lay -/
noncomputable def laidWorld (os : Os) : World :=
  let w0 := World.holding Tryd.prog os ⟨#[], #[], []⟩
  let put (h : Array Obj) (g : Nat) (cs : Array Value) : Array Obj := h.modify g fun
    | .cells _ t frozen => .cells cs t frozen
    | o => o
  let h1 := put w0.heap (Tryd.laysValid_ren.g 3) (Lib.firstTab.map fun z => Value.int .u8 z).toArray
  let h2 := put h1 (Tryd.laysValid_ren.g 4) ((List.range 16).flatMap fun i => [Value.int .u8 (Lib.accLo i), Value.int .u8 (Lib.accHi i)]).toArray
  { w0 with heap := h2 }
set_option maxRecDepth 1000000 in
theorem laid_met (os : Os) (args : Array Value) : laidMetH Tryd.prog Rows.validPlacesRow.laid ((laidWorld os).forCall (fun _ _ => 0) ⟨#[], args, []⟩).memory :=
  (LaidIn.of_run (l := [("unicode/utf8.acceptRanges", Lib.acceptData), ("unicode/utf8.first", Lib.firstData)]) [0, 1] 8 (by kernel_rfl) (by kernel_rfl) (by kernel_rfl) (by kernel_rfl)).met
set_option maxRecDepth 1000000 in
theorem tabs_of {W : World} (hL : laidMetH Tryd.prog Rows.validPlacesRow.laid W) : Lib.Utf8Tabs (Tryd.laysValid_ren.g 3) (Tryd.laysValid_ren.g 4) W :=
  utf8Tabs_of_readsT (U8Types.of196 Tryd.laysValid) ⟨by kernel_rfl, by kernel_rfl, by kernel_rfl, by kernel_rfl, by kernel_rfl, by kernel_rfl, by kernel_rfl⟩ (Lib.laidMet.reads (l := Rows.validPlacesRow.laid) hL (.tail _ (.head _))) (Lib.laidMet.reads (l := Rows.validPlacesRow.laid) hL (.head _))
end Go.Proofs.YtchiacliefahdaaDoor
end

/-! The row and the card of ValidBegins, out of its plain law. -/
section
set_option linter.unusedVariables false
namespace Go.Proofs.YtchiacliefahdaaDoor
open Go Go.AE Go.Proofs Go.ChangeShapes Go.WideShapes Go.ChangeAt Go.RowKit
open Go.ChangeMaps (open_string shut_string)
namespace validBegins
theorem args {I : Cells} {W : World} {a0 a1 a2 : AV} {v0 v1 v2 : Value} (r0 : Rep I W [] a0 v0) (r1 : Rep I W [] a1 v1) (r2 : Rep I W [] a2 v2) : ArgsRep I W [] [a0, a1, a2] #[v0, v1, v2] := by
  refine ⟨rfl, fun i a h => ?_⟩
  match i, h with
  | 0, h => cases h; exact r0
  | 1, h => cases h; exact r1
  | 2, h => cases h; exact r2
def Plain : Prop := ∀ a0 a1 a2 : AV, WT T 24 a0.cells → asEl ti24.agg a0.cells = some a0 → WT T 3 a1.cells → asEl ti3.agg a1.cells = some a1 → WT T 22 a2.cells → asEl ti22.agg a2.cells = some a2 →
  ∃ n, callN F n 5 [a0, a1, a2] [] = some (.v (.bool true), [])

set_option maxRecDepth 100000 in
theorem lifted (plain : Plain) (os : Os) (started : os.Started) (H : Type) (enc : TypeId × Value → H) :
    ReturnsInHanded {} Tryd.checked os 5 .any (fun w args => (Rows.validBeginsSpec.pre enc Tryd.prog Tryd.f5 [] false w args ∧ laidMetH Tryd.prog Rows.validBeginsRow.laid w) ∧ sizedMet enc Tryd.prog Tryd.f5 (OpenSpec.ofChange Rows.validBeginsSpec) false w args)
      (Rows.validBeginsSpec.post enc Tryd.prog Tryd.f5 false true false false) := by
  refine returnsInHanded_of_change_and (C := Tryd.checked) (X := fun w _ => laidMetH Tryd.prog Rows.validBeginsRow.laid w) (fun _ _ _ hh h => h.of_heap hh) own started (by kernel_rfl) Tryd.func5
    (ChangeSpec.witness_at (enc := enc) (C := Tryd.checked) (os := os) (X := fun w _ => laidMetH Tryd.prog Rows.validBeginsRow.laid w) false (laidWorld os) #[ti24.zero, ti3.zero, ti22.zero] 8 rfl (by kernel_rfl) (by kernel_rfl) (by kernel_rfl) (by kernel_rfl) (by kernel_rfl) (laid_met os _)) ?_
  intro W base args' ds gs before hval0 hW _ _ hL _
  have hval : ∀ (j : Nat) t v, Tryd.f5.params[j]? = some t → args'[j]? = some v → Value.okWide Tryd.prog W .any base t v := hval0
  have hW' := hW
  obtain ⟨p, q, hA0, hV, rfl, hfz, hnd⟩ := hW
  have hA : DataW.TrodAll enc Tryd.prog W 0 (fun _ => true) true Tryd.f5.params.toList args'.toList ds p := hA0
  rw [Tryd.params5] at hA hval
  obtain ⟨v0, vs0, d0, ds0, p0, q0, hargs, rfl, rfl, h0, r0⟩ := trodAll_cons hA
  obtain ⟨v1, vs1, d1, ds1, p1, q1, rfl, rfl, rfl, h1, r1⟩ := trodAll_cons r0
  obtain ⟨v2, vs2, d2, ds2, p2, q2, rfl, rfl, rfl, h2, r2⟩ := trodAll_cons r1
  obtain ⟨rfl, rfl, rfl⟩ := trodAll_nil r2
  obtain rfl : args' = #[v0, v1, v2] := by cases args'; simp_all
  obtain ⟨rfl, rfl⟩ := trodVars_none hV
  obtain ⟨a0, w0, e0, x0⟩ := trod_arg hT hG (t := 24) (i := ti24) (by decide) rfl (hval 0 24 v0 rfl rfl) h0
  obtain ⟨a1, w1, e1, x1⟩ := trod_arg hT hG (t := 3) (i := ti3) (by decide) rfl (hval 1 3 v1 rfl rfl) h1
  obtain ⟨a2, w2, e2, x2⟩ := trod_arg hT hG (t := 22) (i := ti22) (by decide) rfl (hval 2 22 v2 rfl rfl) h2
  have l0 : ∀ x ∈ p0, x.block < W.heap.size := by obtain ⟨m, hm⟩ := h0; exact DataW.trod_lt m _ _ _ hm
  have l1 : ∀ x ∈ p1, x.block < W.heap.size := by obtain ⟨m, hm⟩ := h1; exact DataW.trod_lt m _ _ _ hm
  have l2 : ∀ x ∈ p2, x.block < W.heap.size := by obtain ⟨m, hm⟩ := h2; exact DataW.trod_lt m _ _ _ hm
  obtain ⟨n, hn⟩ := plain a0 a1 a2 w0 e0 w1 e1 w2 e2
  refine (law_calls ⟨rfl, tabs_of hL⟩ (args x0 x1 x2) hn).mono fun e W' ⟨he, bel⟩ => ?_
  subst he
  exact ⟨_, rfl, _, _, _, [], _, [], hW', trodAll_mk1 (shut_bool Tryd.underlying4 _),
    (trodAll_cons_mk (Below.trod laidOut (by kernel_rfl) (of_decide_eq_true (by kernel_rfl)) h0 bel l0) (trodAll_cons_mk (Below.trod laidOut (by kernel_rfl) (of_decide_eq_true (by kernel_rfl)) h1 bel l1) (trodAll_cons_mk (Below.trod laidOut (by kernel_rfl) (of_decide_eq_true (by kernel_rfl)) h2 bel l2) trodAll_mk0))), rfl, bel.frame _, fun h => by cases h⟩
theorem over (plain : Plain) : Rows.validBeginsRow.holds Tryd.pinned (OpenSpec.ofChange Rows.validBeginsSpec) :=
  OpenClaim.holds_of_wide 5 Tryd.f5 rfl rfl rfl rfl rfl rfl rfl ⟨rfl, rfl, rfl, rfl, rfl⟩ rfl rfl rfl rfl rfl (by kernel_rfl) Tryd.func5 (by kernel_rfl)
    (of_decide_eq_true (by kernel_rfl)) (by unfold Func.isWrapper; first | (rw [if_pos (by decide +kernel)]; kernel_rfl) | (rw [if_neg (by decide +kernel)]; exact ⟨rfl, rfl⟩))
    (fun os started H enc _ => lifted plain os started H enc)
theorem proved (plain : Plain) : Rows.ValidBeginsCardSaid :=
  Claim7.holds_tied_plain_at .later [] Rows.validBeginsCard.laidKinds true Rows.validBeginsCard.stood.harness Rows.validBeginsCard.stood.looks
    (over plain) (fun _ h => by cases h) (by kernel_rfl) (fun _ h => by cases h) validBegins_row_tie rfl ⟨rfl, rfl⟩ (by kernel_rfl) rfl
    (fun f fn hf hfn => by
      obtain rfl : f = 5 := Option.some.inj ((show Tryd.prog.funcNamed Rows.validBeginsRow.func = some 5 by kernel_rfl).symm.trans hf) |>.symm
      obtain rfl : fn = Tryd.f5 := (Option.some.inj (Tryd.func5.symm.trans hfn)).symm
      refine ⟨by kernel_rfl, fun j t ht => ?_⟩
      rw [Tryd.params5] at ht
      match j, ht with
      | 0, ht => cases ht; exact (show Tryd.prog.wantsStandIn 24 = false by kernel_rfl)
      | 1, ht => cases ht; exact (show Tryd.prog.wantsStandIn 3 = false by kernel_rfl)
      | 2, ht => cases ht; exact (show Tryd.prog.wantsStandIn 22 = false by kernel_rfl)
      | _ + 3, ht => simp at ht)
    (by kernel_rfl)
end validBegins
end Go.Proofs.YtchiacliefahdaaDoor
end

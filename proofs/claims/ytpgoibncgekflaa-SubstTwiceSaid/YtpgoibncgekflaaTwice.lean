/- SubstTwice holds: whatever the input, it returns true, and the input reads as it did. Conditions: none. -/
import Derived.Test.YtpgoibncgekflaaPart3
set_option linter.unusedVariables false
set_option linter.unusedSimpArgs false
namespace Go.AE.Ytpgoibncgekflaa
open Go Go.AE Go.Proofs.Ytpgoibncgekflaa

def K4 : List Bool := [true, false, false, false, true, true, false, false, false, false, false, false, false, true, true, true, false, false]
def L4 (b c : AV) (len i : Int) : List AV := [b, .junk, .junk, .junk, .v (.bool true), .ptr 1 0, .junk, .junk, .junk, .junk, .junk, .junk, .junk, c, .v (.int .i64 len), .v (.int .i64 i), .junk, .junk]
theorem twice_loop {K : Nat} {b c : AV} {es : List AV} (hs : Sl 1 c es) (hm : es.length ≤ 100000) (hbs : ∀ h : List AO, b.snap1 h = some b) :
    ∀ (l : List Int) (i : Nat) (h : List AO) (vars : List AV), i + l.length = es.length → es.drop i = l.map iv → (∀ n ∈ l, callW F 13 [b, .v (.int .i64 n)] [] = some (.tup [.agg zeroC, .v (.bool false)], [])) → clr K4 vars = L4 b c es.length i →
      ∃ tail x7 x8 x16 x17, loopN (exec (callW F) K c4_14) K4 (l.length + 1) vars h = some (.exit 0, [b, .junk, .junk, .junk, .v (.bool true), .ptr 1 0, .junk, x7, x8, .junk, .junk, .junk, .junk, c, .v (.int .i64 es.length), .v (.int .i64 es.length), x16, x17], h ++ tail) := by
  intro l
  induction l with
  | nil =>
    intro i h vars hi _ _ hv
    have hil : i = es.length := by simpa using hi
    subst hil
    have hlt : decide ((es.length : Int) < (es.length : Int)) = false := by simp
    refine ⟨[], .junk, .junk, .v (.bool false), .junk, loop_exit ?_⟩
    rw [hv]
    simp only [L4, c4_14, c4_8, hlt, List.append_nil, e_bslice1, e_bslice2, bs1, bs2, e_build, bdH_some, bd_nil, bd_cons, bd1, cl_agg, cl_int, toL, List.map_cons, List.map_nil, putAt, List.set_cons_zero, List.set_cons_succ, and_self, Nat.le_refl, app_get, app_set, g_agg, run_nil, run_cons, stp_plain, stp_guard, put_some, pass_eq, pick_tt, pick_ff, pick_tf, pick_ft, pick_u, reg_some, thn_normal, thn_exit, thn_ret, cnd_t, cnd_f, blk_normal, blk_ret, blk_exit, x_seq, x_region, x_cond, x_block, x_loop, x_ret, x_exit, x_skip, e_mov, e_pick, pk_t, pk_f, withH_some, e_box, bx_some, e_load, e_store, stH_some, e_nil, e_bin, e_eqv, eqH_f, eqH_t, e_un, e_fa, e_ia, ia_eq, nat_eq, natV_nat, e_len, lnH_some, e_extract, ex_0, ex_1, e_call0, e_call1, e_call2, e_call3, pc0_eq, pc1_some, pc2_some, pc3_some, fin_some, g_var0, g_vars, g_loc0, g_locs, g_int, g_bool, g_str, g_sl, s_none, s_zero, s_succ, cl_nil, cl_str, cl_bool, cl_slc, cl_own, evFa, evNil, asEl, evBin, intBin, strBin, evUn, len_nil, len_slc, len_str, clr, List.length_nil, List.length_cons, List.getElem?_cons_zero, List.getElem?_cons_succ, Nat.reduceAdd, Nat.zero_add, Nat.add_zero, Nat.reduceLeDiff, Nat.reduceSub, ↓reduceIte, List.drop_succ_cons, List.drop_zero, List.take_succ_cons, List.take_zero, Bool.false_eq_true, List.nil_append, List.cons_append, Bool.not_true, Bool.not_false, cond_true, cond_false, bne, lv_ret, lv_normal, res1, res2, lv2_some, res_var, res_cell, lvf_v, lvf_slc, res1c, lvo1_some]
  | cons n l ih =>
    intro i h vars hi hes hlk hv
    have hil : i < es.length := by simp at hi; omega
    have he : es[i]? = some (iv n) := by
      have : (es.drop i)[0]? = some (iv n) := by rw [hes]; rfl
      simpa using this
    have hd : es.drop (i + 1) = l.map iv := by
      have h2 := congrArg List.tail hes
      simpa using h2
    have hlt : (decide ((i : Int) < (es.length : Int))) = true := by simp; omega
    have q1 := hs.ia he
    have q3 : ∀ h, evLoad h false 1 (.ip [.v (.int .i64 n)]) = some (.v (.int .i64 n)) := fun _ => rfl
    have hk := hlk n (by simp)
    have hst := fun h : List AO => isT_zero.st h zeroC rfl
    simp only [zeroC, AV.cells] at hk hst
    have st : exec (callW F) K c4_14 (L4 b c es.length i) h = some (.normal, [b, .junk, .junk, .junk, .v (.bool true), .ptr 1 0, .junk, .v (.int .i64 n), .v (.bool false), .junk, .junk, .junk, .junk, c, .v (.int .i64 es.length), .v (.int .i64 ((i + 1 : Nat) : Int)), .v (.bool true), .v (.bool false)], h ++ [.box zeroC]) := by
      simp only [L4, iv, zeroC, AV.cells, c4_14, c4_8, c4_9, c4_10, c4_11, c4_13, hlt, wrap_succ hil (small_max hm), q1, q3, hk, hst, hbs, q9z, snapv, e_bslice1, e_bslice2, bs1, bs2, e_build, bdH_some, bd_nil, bd_cons, bd1, cl_agg, cl_int, toL, List.map_cons, List.map_nil, putAt, List.set_cons_zero, List.set_cons_succ, and_self, Nat.le_refl, app_get, app_set, g_agg, run_nil, run_cons, stp_plain, stp_guard, put_some, pass_eq, pick_tt, pick_ff, pick_tf, pick_ft, pick_u, reg_some, thn_normal, thn_exit, thn_ret, cnd_t, cnd_f, blk_normal, blk_ret, blk_exit, x_seq, x_region, x_cond, x_block, x_loop, x_ret, x_exit, x_skip, e_mov, e_pick, pk_t, pk_f, withH_some, e_box, bx_some, e_load, e_store, stH_some, e_nil, e_bin, e_eqv, eqH_f, eqH_t, e_un, e_fa, e_ia, ia_eq, nat_eq, natV_nat, e_len, lnH_some, e_extract, ex_0, ex_1, e_call0, e_call1, e_call2, e_call3, pc0_eq, pc1_some, pc2_some, pc3_some, fin_some, g_var0, g_vars, g_loc0, g_locs, g_int, g_bool, g_str, g_sl, s_none, s_zero, s_succ, cl_nil, cl_str, cl_bool, cl_slc, cl_own, evFa, evNil, asEl, evBin, intBin, strBin, evUn, len_nil, len_slc, len_str, clr, List.length_nil, List.length_cons, List.getElem?_cons_zero, List.getElem?_cons_succ, Nat.reduceAdd, Nat.zero_add, Nat.add_zero, Nat.reduceLeDiff, Nat.reduceSub, ↓reduceIte, List.drop_succ_cons, List.drop_zero, List.take_succ_cons, List.take_zero, Bool.false_eq_true, List.nil_append, List.cons_append, Bool.not_true, Bool.not_false, cond_true, cond_false, bne, lv_ret, lv_normal, res1, res2, lv2_some, res_var, res_cell, lvf_v, lvf_slc, res1c, lvo1_some]
    rw [show (n :: l).length + 1 = (l.length + 1) + 1 from rfl, loop_normal (by rw [hv]; exact st)]
    obtain ⟨tail, x7, x8, x16, x17, g⟩ := ih (i + 1) (h ++ [.box zeroC]) [b, .junk, .junk, .junk, .v (.bool true), .ptr 1 0, .junk, .v (.int .i64 n), .v (.bool false), .junk, .junk, .junk, .junk, c, .v (.int .i64 es.length), .v (.int .i64 ((i + 1 : Nat) : Int)), .v (.bool true), .v (.bool false)] (by simp at hi; omega) hd (fun k hk => hlk k (by simp [hk])) rfl
    exact ⟨.box zeroC :: tail, x7, x8, x16, x17, by rw [g]; simp⟩

theorem twice_ok {b t : AV} {T : Tm} {bs : List (Int × Tm)} (hb : IsB b bs) (ht : IsT t T) : callW F 4 [b, t] [] = some (.v (.bool true), []) := by
  have hlive := live_ok
  have hbig := big_ok (ts := .slc 4 true true [t]) hb rfl (All2.cons t T [] [] ht .nil) (by simp [maxLen])
  have s1 : ∀ h : List AO, t.snap1 h = some t := fun h => ht.snap
  have sb : ∀ h : List AO, b.snap1 h = some b := by intro h; cases hb <;> rfl
  have sl : ∀ h : List AO, (AV.slc 4 true true [t]).snap1 h = some (.slc 4 true true [t]) := fun _ => rfl
  have ht' := ht
  cases hB : big bs [T] with
  | true =>
    rw [hB] at hbig
    cases ht with
    | mk k s n c l hc =>
    refine callW_pure (c := c4) rfl rfl 0 ?_
    have b1 : ∀ h : List AO, bs1 h 4 (some (.agg [.v (.int .i64 k), .v (.string s), .v (.int .i64 n), c])) = some (.slc 4 true true [.agg [.v (.int .i64 k), .v (.string s), .v (.int .i64 n), c]], h) := fun h => bs1_some rfl rfl
    simp only [c4, start, List.replicate, c4_0, c4_1, c4_2, c4_3, hlive, s1, sb, sl, b1, hbig, e_bslice1, e_bslice2, bs1, bs2, e_build, bdH_some, bd_nil, bd_cons, bd1, cl_agg, cl_int, toL, List.map_cons, List.map_nil, putAt, List.set_cons_zero, List.set_cons_succ, and_self, Nat.le_refl, evStore, app_get, app_set, g_agg, run_nil, run_cons, stp_plain, stp_guard, put_some, pass_eq, pick_tt, pick_ff, pick_tf, pick_ft, pick_u, reg_some, thn_normal, thn_exit, thn_ret, cnd_t, cnd_f, blk_normal, blk_ret, blk_exit, x_seq, x_region, x_cond, x_block, x_loop, x_ret, x_exit, x_skip, e_mov, e_pick, pk_t, pk_f, withH_some, e_box, bx_some, e_load, e_store, stH_some, e_nil, e_bin, e_eqv, eqH_f, eqH_t, e_un, e_fa, e_ia, ia_eq, nat_eq, natV_nat, e_len, lnH_some, e_extract, ex_0, ex_1, e_call0, e_call1, e_call2, e_call3, pc0_eq, pc1_some, pc2_some, pc3_some, fin_some, g_var0, g_vars, g_loc0, g_locs, g_int, g_bool, g_str, g_sl, s_none, s_zero, s_succ, cl_nil, cl_str, cl_bool, cl_slc, cl_own, evFa, evNil, evLoad, asEl, evBin, intBin, strBin, evUn, len_nil, len_slc, len_str, clr, List.length_nil, List.length_cons, List.getElem?_cons_zero, List.getElem?_cons_succ, Nat.reduceAdd, Nat.zero_add, Nat.add_zero, Nat.reduceLeDiff, Nat.reduceSub, ↓reduceIte, List.drop_succ_cons, List.drop_zero, List.take_succ_cons, List.take_zero, Bool.false_eq_true, List.nil_append, List.cons_append, Bool.not_true, Bool.not_false, cond_true, cond_false, bne, lv_ret, lv_normal, res1, res2, lv2_some, res_var, res_cell, lvf_v, lvf_slc, res1c, lvo1_some]
  | false =>
    rw [hB] at hbig
    have hsz := big_size hB
    have hszT : size T ≤ 100000 := by have := hsz.2.2 T (by simp); omega
    obtain ⟨r, hr, hres⟩ := resolve_ok hb (by omega) (fun p hp => by have := hsz.2.1 p hp; omega) hszT ht
    obtain ⟨es, hes, k1, k2⟩ := looks hb (by omega)
    simp only [resA] at hr hres
    cases hR : resT bs.reverse 60 2000 T with
    | error e =>
      rw [hR] at hr hres
      simp only at hr hres
      have hne : e ≠ 0 := by
        intro h0
        subst h0
        -- an error is none that is 0
        have : ∀ (d m : Nat) (t : Tm), resT bs.reverse d m t ≠ .error 0 := by
          intro d
          induction d with
          | zero =>
            intro m t h
            simp only [resT] at h
            generalize meetT bs.reverse m t = w at h
            obtain ⟨w1, w2, w3⟩ := w
            simp only at h
            split at h
            · cases h
            · rename_i hq; cases h; exact hq rfl
          | succ d ih =>
            intro m t h
            simp only [resT] at h
            generalize meetT bs.reverse m t = w at h
            obtain ⟨⟨k, s, n, l⟩, e, m'⟩ := w
            simp only at h
            split at h
            · have hl : ∀ (l : List Tm) (m : Nat), resL (resT bs.reverse d) m l ≠ .error 0 := by
                intro l
                induction l with
                | nil => intro m h; cases h
                | cons t l ihl =>
                  intro m h
                  simp only [resL] at h
                  cases h1 : resT bs.reverse d m t with
                  | error e => rw [h1] at h; simp only at h; cases h; exact ih _ _ h1
                  | ok q =>
                    obtain ⟨x, m1⟩ := q
                    rw [h1] at h
                    simp only at h
                    cases h2 : resL (resT bs.reverse d) m1 l with
                    | error e => rw [h2] at h; simp only at h; cases h; exact ihl _ h2
                    | ok q2 => rw [h2] at h; cases h
              cases h3 : resL (resT bs.reverse d) m' l with
              | error e => rw [h3] at h; simp only at h; cases h; exact hl _ _ h3
              | ok q => rw [h3] at h; cases h
            · rename_i hq; cases h; exact hq rfl
        exact this _ _ _ hR
      have h1 : (e == 0) = false := by simpa using hne
      have h2 : ((0 : Int) == 0) = true := rfl
      refine callW_pure (c := c4) rfl rfl 0 ?_
      cases ht with
      | mk k s n c l hc =>
      have b1 : ∀ h : List AO, bs1 h 4 (some (.agg [.v (.int .i64 k), .v (.string s), .v (.int .i64 n), c])) = some (.slc 4 true true [.agg [.v (.int .i64 k), .v (.string s), .v (.int .i64 n), c]], h) := fun h => bs1_some rfl rfl
      simp only [zeroT] at hr
      cases hr
      simp only [c4, start, List.replicate, c4_0, c4_1, c4_2, c4_4, c4_5, c4_6, hlive, s1, sb, sl, b1, hbig, hres, h1, h2, q9z, e_bslice1, e_bslice2, bs1, bs2, e_build, bdH_some, bd_nil, bd_cons, bd1, cl_agg, cl_int, toL, List.map_cons, List.map_nil, putAt, List.set_cons_zero, List.set_cons_succ, and_self, Nat.le_refl, evStore, app_get, app_set, g_agg, run_nil, run_cons, stp_plain, stp_guard, put_some, pass_eq, pick_tt, pick_ff, pick_tf, pick_ft, pick_u, reg_some, thn_normal, thn_exit, thn_ret, cnd_t, cnd_f, blk_normal, blk_ret, blk_exit, x_seq, x_region, x_cond, x_block, x_loop, x_ret, x_exit, x_skip, e_mov, e_pick, pk_t, pk_f, withH_some, e_box, bx_some, e_load, e_store, stH_some, e_nil, e_bin, e_eqv, eqH_f, eqH_t, e_un, e_fa, e_ia, ia_eq, nat_eq, natV_nat, e_len, lnH_some, e_extract, ex_0, ex_1, e_call0, e_call1, e_call2, e_call3, pc0_eq, pc1_some, pc2_some, pc3_some, fin_some, g_var0, g_vars, g_loc0, g_locs, g_int, g_bool, g_str, g_sl, s_none, s_zero, s_succ, cl_nil, cl_str, cl_bool, cl_slc, cl_own, evFa, evNil, evLoad, asEl, evBin, intBin, strBin, evUn, len_nil, len_slc, len_str, clr, List.length_nil, List.length_cons, List.getElem?_cons_zero, List.getElem?_cons_succ, Nat.reduceAdd, Nat.zero_add, Nat.add_zero, Nat.reduceLeDiff, Nat.reduceSub, ↓reduceIte, List.drop_succ_cons, List.drop_zero, List.take_succ_cons, List.take_zero, Bool.false_eq_true, List.nil_append, List.cons_append, Bool.not_true, Bool.not_false, cond_true, cond_false, bne, lv_ret, lv_normal, res1, res2, lv2_some, res_var, res_cell, lvf_v, lvf_slc, res1c, lvo1_some]
    | ok q =>
      obtain ⟨x, m2⟩ := q
      rw [hR] at hr hres
      simp only at hr hres
      obtain ⟨hfree, hsx, hagain⟩ := resT_free _ _ _ _ _ _ hR
      obtain ⟨c, hs, hvars⟩ := vars_ok (by omega) hr
      have hlk : ∀ n ∈ varsT x, callW F 13 [b, .v (.int .i64 n)] [] = some (.tup [.agg zeroC, .v (.bool false)], []) := by
        intro n hn
        have h0 := hfree n (vars_mem.1 hn)
        rw [k1 n]
        rcases look_rel n hes.reverse with ⟨_, h2⟩ | ⟨t', cs', h2, _⟩
        · rw [h2]
        · rw [h0] at h2; cases h2
      obtain ⟨y, hy, hres2⟩ := resolve_ok .nil (by simp) (by simp) (t := x) (by omega) hr
      simp only [resA, List.reverse_nil, hagain 2000 (by omega)] at hy hres2
      have e1 := same_call hr hy
      have vl : (varsT x).length ≤ 100000 := by
        have h1 := foldNew_len (placesT x) []
        have h2 := places_len x
        simp only [varsT, List.length_nil] at h1 ⊢
        omega
      have key := fun (h : List AO) => twice_loop (K := (varsT x).length + 1) (b := b) hs (by simpa using vl) sb (varsT x) 0 h (L4 b c ((varsT x).map iv).length (0 : Nat)) (by simp) (by simp) hlk rfl
      have h0 : ((0 : Int) == 0) = true := rfl
      refine callW_pure (c := c4) rfl rfl ((varsT x).length + 1) ?_
      cases ht with
      | mk k s n cc l hc =>
      have b1 : ∀ h : List AO, bs1 h 4 (some (.agg [.v (.int .i64 k), .v (.string s), .v (.int .i64 n), cc])) = some (.slc 4 true true [.agg [.v (.int .i64 k), .v (.string s), .v (.int .i64 n), cc]], h) := fun h => bs1_some rfl rfl
      have sr : ∀ h : List AO, r.snap1 h = some r := fun h => hr.snap
      have sy : ∀ h : List AO, y.snap1 h = some y := fun h => hy.snap
      show lv [.var 3] (exec (callW F) ((varsT x).length + 1) (.seq (.region [] [] c4_0) (.seq (.region [] [] c4_1) (.seq (.seq (.region [] [] c4_2) (.cond (.var 11) (.seq (.region [] [] c4_3) .ret) .skip)) (.seq (.region [] [] c4_4) (.seq (.seq (.region [] [] c4_5) (.cond (.var 12) (.seq (.region [] [] c4_6) .ret) .skip)) (.seq (.seq (.region [] [] c4_7) (.block 0 (.loop K4 [] c4_14))) (.seq (.region [] [] c4_15) (.seq (.region [] [] c4_16) .ret)))))))) _ _) = _
      generalize hrest : (CC.seq (.region [] [] c4_15) (.seq (.region [] [] c4_16) .ret)) = rest
      generalize varsT x = V at hs key hvars ⊢
      cases hr
      cases hy
      simp only [c4, start, List.replicate, c4_0, c4_1, c4_2, c4_4, c4_5, c4_7, hlive, s1, sb, sl, sr, b1, hbig, hres, hvars, hs.len, h0, q9z, e_bslice1, e_bslice2, bs1, bs2, e_build, bdH_some, bd_nil, bd_cons, bd1, cl_agg, cl_int, toL, List.map_cons, List.map_nil, putAt, List.set_cons_zero, List.set_cons_succ, and_self, Nat.le_refl, evStore, app_get, app_set, g_agg, run_nil, run_cons, stp_plain, stp_guard, put_some, pass_eq, pick_tt, pick_ff, pick_tf, pick_ft, pick_u, reg_some, thn_normal, thn_exit, thn_ret, cnd_t, cnd_f, blk_normal, blk_ret, blk_exit, x_seq, x_region, x_cond, x_block, x_loop, x_ret, x_exit, x_skip, e_mov, e_pick, pk_t, pk_f, withH_some, e_box, bx_some, e_load, e_store, stH_some, e_nil, e_bin, e_eqv, eqH_f, eqH_t, e_un, e_fa, e_ia, ia_eq, nat_eq, natV_nat, e_len, lnH_some, e_extract, ex_0, ex_1, e_call0, e_call1, e_call2, e_call3, pc0_eq, pc1_some, pc2_some, pc3_some, fin_some, g_var0, g_vars, g_loc0, g_locs, g_int, g_bool, g_str, g_sl, s_none, s_zero, s_succ, cl_nil, cl_str, cl_bool, cl_slc, cl_own, evFa, evNil, evLoad, asEl, evBin, intBin, strBin, evUn, len_nil, len_slc, len_str, clr, List.length_nil, List.length_cons, List.getElem?_cons_zero, List.getElem?_cons_succ, Nat.reduceAdd, Nat.zero_add, Nat.add_zero, Nat.reduceLeDiff, Nat.reduceSub, ↓reduceIte, List.drop_succ_cons, List.drop_zero, List.take_succ_cons, List.take_zero, Bool.false_eq_true, List.nil_append, List.cons_append, Bool.not_true, Bool.not_false, cond_true, cond_false, bne, lv_ret, lv_normal, res1, res2, lv2_some, res_var, res_cell, lvf_v, lvf_slc, res1c, lvo1_some]
      rw [loop_cong (v2 := L4 b c (V.map iv).length ((0 : Nat) : Int)) (by rfl)]
      obtain ⟨tail, x7, x8, x16, x17, g⟩ := key _
      have sn : ∀ h : List AO, (AV.v (.slice none 0 0)).snap1 h = some (.v (.slice none 0 0)) := fun _ => rfl
      rw [g, ← hrest]
      simp only [blk_exit, thn_normal, c4_15, c4_16, sr, sy, sn, hres2, e1, h0, q9z, e_bslice1, e_bslice2, bs1, bs2, e_build, bdH_some, bd_nil, bd_cons, bd1, cl_agg, cl_int, toL, List.map_cons, List.map_nil, putAt, List.set_cons_zero, List.set_cons_succ, and_self, Nat.le_refl, evStore, app_get, app_set, g_agg, run_nil, run_cons, stp_plain, stp_guard, put_some, pass_eq, pick_tt, pick_ff, pick_tf, pick_ft, pick_u, reg_some, thn_normal, thn_exit, thn_ret, cnd_t, cnd_f, blk_normal, blk_ret, blk_exit, x_seq, x_region, x_cond, x_block, x_loop, x_ret, x_exit, x_skip, e_mov, e_pick, pk_t, pk_f, withH_some, e_box, bx_some, e_load, e_store, stH_some, e_nil, e_bin, e_eqv, eqH_f, eqH_t, e_un, e_fa, e_ia, ia_eq, nat_eq, natV_nat, e_len, lnH_some, e_extract, ex_0, ex_1, e_call0, e_call1, e_call2, e_call3, pc0_eq, pc1_some, pc2_some, pc3_some, fin_some, g_var0, g_vars, g_loc0, g_locs, g_int, g_bool, g_str, g_sl, s_none, s_zero, s_succ, cl_nil, cl_str, cl_bool, cl_slc, cl_own, evFa, evNil, evLoad, asEl, evBin, intBin, strBin, evUn, len_nil, len_slc, len_str, clr, List.length_nil, List.length_cons, List.getElem?_cons_zero, List.getElem?_cons_succ, Nat.reduceAdd, Nat.zero_add, Nat.add_zero, Nat.reduceLeDiff, Nat.reduceSub, ↓reduceIte, List.drop_succ_cons, List.drop_zero, List.take_succ_cons, List.take_zero, Bool.false_eq_true, List.nil_append, List.cons_append, Bool.not_true, Bool.not_false, cond_true, cond_false, bne, lv_ret, lv_normal, res1, res2, lv2_some, res_var, res_cell, lvf_v, lvf_slc, res1c, lvo1_some]

theorem twice_plain : substTwice.Plain := by
  intro a0 a1 w0 e0 w1 e1
  obtain ⟨c0, bs, h0, hb⟩ := (wt_good w0).2.2.2.2.2.2 rfl
  obtain ⟨x, hx⟩ := (wt_good w1).1 rfl
  rw [one_cell e0 h0]
  have h3 : AV.agg a1.cells = a1 := by
    have : asEl true a1.cells = some a1 := e1
    simpa [asEl] using this
  rw [h3] at hx
  exact callW_iff.1 (twice_ok hb hx)
end Go.AE.Ytpgoibncgekflaa
namespace Go.Proofs.Ytpgoibncgekflaa
theorem substTwice_holds : Rows.SubstTwiceSaid := substTwice.proved Go.AE.Ytpgoibncgekflaa.twice_plain
#print axioms substTwice_holds
end Go.Proofs.Ytpgoibncgekflaa

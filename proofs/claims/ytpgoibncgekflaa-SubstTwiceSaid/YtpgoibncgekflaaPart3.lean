/- Texts of this claim, put together. -/
import Derived.Test.YtpgoibncgekflaaPart2
import Derived.Test.YtpgoibncgekflaaPart1
import Derived.Test.YtpgoibncgekflaaRows
import Derived.WalkKit
import Derived.ProofKit
import Derived.OpenShut
import Derived.ShutString
import Derived.ChangeOld
import Derived.Below
import Derived.SizedLaws
/-! Vars walked. -/
section
set_option linter.unusedVariables false
set_option linter.unusedSimpArgs false
namespace Go.AE.Ytpgoibncgekflaa
open Go Go.AE Go.Proofs.Ytpgoibncgekflaa

theorem addNew_len (p : List Int) (n : Int) : (addNew p n).length ≤ p.length + 1 := by
  simp only [addNew]; split <;> simp
theorem foldNew_len : ∀ (l p : List Int), (l.foldl addNew p).length ≤ p.length + l.length
  | [], p => by simp
  | n :: l, p => by
    have := foldNew_len l (addNew p n)
    have := addNew_len p n
    simp only [List.foldl_cons, List.length_cons]; omega

theorem vars_loop {K : Nat} {c : AV} {es : List AV} (hs : Sl 1 c es) (hm : es.length ≤ 100000) :
    ∀ (l : List Int) (i : Nat) (acc : AV) (p : List Int) (h : List AO) (vars : List AV), i + l.length = es.length → p.length ≤ i → es.drop i = l.map iv →
      Acc 1 h acc (p.map iv) → clr K19 vars = L19 acc c es.length i →
      ∃ acc' h' x4 x8 x9, loopN (exec (callW F) K c19_8) K19 (l.length + 1) vars h = some (.exit 0, [.junk, .junk, .junk, acc', x4, c, .v (.int .i64 es.length), .v (.int .i64 es.length), x8, x9], h') ∧ Acc 1 h' acc' ((l.foldl addNew p).map iv) := by
  intro l
  induction l with
  | nil =>
    intro i acc p h vars hi hp _ ha hv
    have hil : i = es.length := by simpa using hi
    subst hil
    have hlt : decide ((es.length : Int) < (es.length : Int)) = false := by simp
    refine ⟨acc, h, .junk, .v (.bool false), .junk, loop_exit ?_, ha⟩
    rw [hv]
    simp only [L19, c19_8, c19_3, hlt, e_bslice1, e_bslice2, bs1, bs2, e_build, bdH_some, bd_nil, bd_cons, bd1, cl_agg, cl_int, toL, List.map_cons, List.map_nil, putAt, List.set_cons_zero, List.set_cons_succ, and_self, Nat.le_refl, app_get, app_set, g_agg, run_nil, run_cons, stp_plain, stp_guard, put_some, pass_eq, pick_tt, pick_ff, pick_tf, pick_ft, pick_u, reg_some, thn_normal, thn_exit, thn_ret, cnd_t, cnd_f, blk_normal, blk_ret, blk_exit, x_seq, x_region, x_cond, x_block, x_loop, x_ret, x_exit, x_skip, e_mov, e_pick, pk_t, pk_f, withH_some, e_box, bx_some, e_load, e_store, stH_some, e_nil, e_bin, e_eqv, eqH_f, eqH_t, e_un, e_fa, e_ia, ia_eq, nat_eq, natV_nat, e_len, lnH_some, e_extract, ex_0, ex_1, e_call0, e_call1, e_call2, e_call3, pc0_eq, pc1_some, pc2_some, pc3_some, fin_some, g_var0, g_vars, g_loc0, g_locs, g_int, g_bool, g_str, g_sl, s_none, s_zero, s_succ, cl_nil, cl_str, cl_bool, cl_slc, cl_own, evFa, evNil, asEl, evBin, intBin, strBin, evUn, len_nil, len_slc, len_str, clr, List.length_nil, List.length_cons, List.getElem?_cons_zero, List.getElem?_cons_succ, Nat.reduceAdd, Nat.zero_add, Nat.add_zero, Nat.reduceLeDiff, Nat.reduceSub, ↓reduceIte, List.drop_succ_cons, List.drop_zero, List.take_succ_cons, List.take_zero, Bool.false_eq_true, List.nil_append, List.cons_append, Bool.not_true, Bool.not_false, cond_true, cond_false, bne, lv_ret, lv_normal, res1, res2, lv2_some, res_var, res_cell, lvf_v, lvf_slc, res1c, lvo1_some]
  | cons n l ih =>
    intro i acc p h vars hi hp hes ha hv
    have hil : i < es.length := by simp at hi; omega
    have he : es[i]? = some (iv n) := by
      have : (es.drop i)[0]? = some (iv n) := by rw [hes]; rfl
      simpa using this
    have hd : es.drop (i + 1) = l.map iv := by
      have h2 := congrArg List.tail hes
      simpa using h2
    have hlt : (decide ((i : Int) < (es.length : Int))) = true := by simp; omega
    have q1 := hs.ia he
    obtain ⟨f1, f2, c', f3, f4⟩ := ha.fix
    have hc := has_ok f4 (by omega) n
    have hmax : es.length ≤ maxLen := small_max hm
    rw [show (n :: l).length + 1 = (l.length + 1) + 1 from rfl, List.foldl_cons]
    cases hh : p.contains n with
    | true =>
      rw [hh] at hc
      have st : exec (callW F) K c19_8 (L19 acc c es.length i) h = some (.normal, [.junk, .junk, .junk, acc, .v (.int .i64 n), c, .v (.int .i64 es.length), .v (.int .i64 ((i + 1 : Nat) : Int)), .v (.bool true), .v (.bool false)], raise1 h acc) := by
        have q3 : ∀ h, evLoad h false 1 (.ip [.v (.int .i64 n)]) = some (.v (.int .i64 n)) := fun _ => rfl
        simp only [L19, iv, AV.cells, x_region_m, marked_eq, marked, List.foldl_cons, List.foldl_nil, doMark, List.getD_cons_zero, List.getD_cons_succ, c19_8, c19_3, c19_4, c19_5, c19_7, hlt, wrap_succ hil hmax, q1, q3, f3, hc, snapv, e_bslice1, e_bslice2, bs1, bs2, e_build, bdH_some, bd_nil, bd_cons, bd1, cl_agg, cl_int, toL, List.map_cons, List.map_nil, putAt, List.set_cons_zero, List.set_cons_succ, and_self, Nat.le_refl, app_get, app_set, g_agg, run_nil, run_cons, stp_plain, stp_guard, put_some, pass_eq, pick_tt, pick_ff, pick_tf, pick_ft, pick_u, reg_some, thn_normal, thn_exit, thn_ret, cnd_t, cnd_f, blk_normal, blk_ret, blk_exit, x_seq, x_region, x_cond, x_block, x_loop, x_ret, x_exit, x_skip, e_mov, e_pick, pk_t, pk_f, withH_some, e_box, bx_some, e_load, e_store, stH_some, e_nil, e_bin, e_eqv, eqH_f, eqH_t, e_un, e_fa, e_ia, ia_eq, nat_eq, natV_nat, e_len, lnH_some, e_extract, ex_0, ex_1, e_call0, e_call1, e_call2, e_call3, pc0_eq, pc1_some, pc2_some, pc3_some, fin_some, g_var0, g_vars, g_loc0, g_locs, g_int, g_bool, g_str, g_sl, s_none, s_zero, s_succ, cl_nil, cl_str, cl_bool, cl_slc, cl_own, evFa, evNil, asEl, evBin, intBin, strBin, evUn, len_nil, len_slc, len_str, clr, List.length_nil, List.length_cons, List.getElem?_cons_zero, List.getElem?_cons_succ, Nat.reduceAdd, Nat.zero_add, Nat.add_zero, Nat.reduceLeDiff, Nat.reduceSub, ↓reduceIte, List.drop_succ_cons, List.drop_zero, List.take_succ_cons, List.take_zero, Bool.false_eq_true, List.nil_append, List.cons_append, Bool.not_true, Bool.not_false, cond_true, cond_false, bne, lv_ret, lv_normal, res1, res2, lv2_some, res_var, res_cell, lvf_v, lvf_slc, res1c, lvo1_some]
      rw [loop_normal (by rw [hv]; exact st)]
      have e : addNew p n = p := by simp only [addNew, hh, if_true]
      rw [e]
      exact ih (i + 1) acc p _ _ (by simp at hi; omega) (by omega) hd f1 rfl
    | false =>
      rw [hh] at hc
      have q3 : ∀ h, evLoad h false 1 (.ip [.v (.int .i64 n)]) = some (.v (.int .i64 n)) := fun _ => rfl
      obtain ⟨acc', h2, h3, h4, h5⟩ := f1.add (x := .slc 1 true true [.v (.int .i64 n)]) (ys := [.v (.int .i64 n)]) (bytes := 8) elems_one (by
        have : room = 140737488355328 := rfl
        simp only [fits, List.length_map, List.length_cons, List.length_nil, decide_eq_true_eq]; omega)
      have st : exec (callW F) K c19_8 (L19 acc c es.length i) h = some (.normal, [.junk, .junk, .junk, acc', .v (.int .i64 n), c, .v (.int .i64 es.length), .v (.int .i64 ((i + 1 : Nat) : Int)), .v (.bool true), .v (.bool true)], h2) := by
        simp only [L19, iv, AV.cells, x_region_m, marked_eq, marked, List.foldl_cons, List.foldl_nil, doMark, List.getD_cons_zero, List.getD_cons_succ, c19_8, c19_3, c19_4, c19_5, c19_6, c19_7, hlt, wrap_succ hil hmax, q1, q3, f3, hc, h3, snapv, e_append, bs1_some (y := .v (.int .i64 n)) (sz := 1) cl_int rfl, e_bslice1, e_bslice2, bs1, bs2, e_build, bdH_some, bd_nil, bd_cons, bd1, cl_agg, cl_int, toL, List.map_cons, List.map_nil, putAt, List.set_cons_zero, List.set_cons_succ, and_self, Nat.le_refl, app_get, app_set, g_agg, run_nil, run_cons, stp_plain, stp_guard, put_some, pass_eq, pick_tt, pick_ff, pick_tf, pick_ft, pick_u, reg_some, thn_normal, thn_exit, thn_ret, cnd_t, cnd_f, blk_normal, blk_ret, blk_exit, x_seq, x_region, x_cond, x_block, x_loop, x_ret, x_exit, x_skip, e_mov, e_pick, pk_t, pk_f, withH_some, e_box, bx_some, e_load, e_store, stH_some, e_nil, e_bin, e_eqv, eqH_f, eqH_t, e_un, e_fa, e_ia, ia_eq, nat_eq, natV_nat, e_len, lnH_some, e_extract, ex_0, ex_1, e_call0, e_call1, e_call2, e_call3, pc0_eq, pc1_some, pc2_some, pc3_some, fin_some, g_var0, g_vars, g_loc0, g_locs, g_int, g_bool, g_str, g_sl, s_none, s_zero, s_succ, cl_nil, cl_str, cl_bool, cl_slc, cl_own, evFa, evNil, asEl, evBin, intBin, strBin, evUn, len_nil, len_slc, len_str, clr, List.length_nil, List.length_cons, List.getElem?_cons_zero, List.getElem?_cons_succ, Nat.reduceAdd, Nat.zero_add, Nat.add_zero, Nat.reduceLeDiff, Nat.reduceSub, ↓reduceIte, List.drop_succ_cons, List.drop_zero, List.take_succ_cons, List.take_zero, Bool.false_eq_true, List.nil_append, List.cons_append, Bool.not_true, Bool.not_false, cond_true, cond_false, bne, lv_ret, lv_normal, res1, res2, lv2_some, res_var, res_cell, lvf_v, lvf_slc, res1c, lvo1_some]
      rw [loop_normal (by rw [hv]; exact st)]
      have e : addNew p n = p ++ [n] := by simp only [addNew, hh]; rfl
      rw [e]
      have h4' : Acc 1 h2 acc' ((p ++ [n]).map iv) := by rw [List.map_append]; exact h4
      exact ih (i + 1) acc' (p ++ [n]) h2 _ (by simp at hi; omega) (by simp; omega) hd h4' rfl

theorem vars_ok {t : Tm} {a : AV} (hsz : size t ≤ 100000) (ha : IsT a t) : ∃ r, Sl 1 r ((varsT t).map iv) ∧ callW F 19 [a] [] = some (r, []) := by
  obtain ⟨c, hs, hc⟩ := places_ok _ t a (Nat.lt_succ_self _) hsz ha
  have hpl := places_len t
  have hlen : ((placesT t).map iv).length = (placesT t).length := by simp
  obtain ⟨acc', h', x4, x8, x9, g1, g2⟩ := vars_loop (K := (placesT t).length + 1) hs (by omega) (placesT t) 0 (.v (.slice none 0 0)) [] [.box a.cells] (L19 (.v (.slice none 0 0)) c ((placesT t).map iv).length (0 : Nat)) (by simp) (by simp) (by simp) .nil rfl
  obtain ⟨r, g3, g4⟩ := g2.lvf
  refine ⟨r, g4, callW_pure (c := c19) rfl rfl ((placesT t).length + 1) ?_⟩
  have q5 : ∀ h : List AO, a.snap1 h = some a := fun h => ha.snap
  show lv [.var 2] (exec (callW F) ((placesT t).length + 1) (.seq (.region [] [] c19_0) (.seq (.region [] [] c19_1) (.seq (.seq (.region [] [] c19_2) (.block 0 (.loop K19 [] c19_8))) (.seq (.region [] [] c19_9) .ret)))) _ _) = _
  generalize hrest : (CC.seq (.region [] [] c19_9) .ret) = rest
  generalize (placesT t).map iv = qs at hs g1
  cases ha
  simp only [AV.cells] at g1
  simp only [c19, start, List.replicate, c19_0, c19_1, c19_2, hc, q5, hs.len, e_bslice1, e_bslice2, bs1, bs2, e_build, bdH_some, bd_nil, bd_cons, bd1, cl_agg, cl_int, toL, List.map_cons, List.map_nil, putAt, List.set_cons_zero, List.set_cons_succ, and_self, Nat.le_refl, evStore, app_get, app_set, g_agg, run_nil, run_cons, stp_plain, stp_guard, put_some, pass_eq, pick_tt, pick_ff, pick_tf, pick_ft, pick_u, reg_some, thn_normal, thn_exit, thn_ret, cnd_t, cnd_f, blk_normal, blk_ret, blk_exit, x_seq, x_region, x_cond, x_block, x_loop, x_ret, x_exit, x_skip, e_mov, e_pick, pk_t, pk_f, withH_some, e_box, bx_some, e_load, e_store, stH_some, e_nil, e_bin, e_eqv, eqH_f, eqH_t, e_un, e_fa, e_ia, ia_eq, nat_eq, natV_nat, e_len, lnH_some, e_extract, ex_0, ex_1, e_call0, e_call1, e_call2, e_call3, pc0_eq, pc1_some, pc2_some, pc3_some, fin_some, g_var0, g_vars, g_loc0, g_locs, g_int, g_bool, g_str, g_sl, s_none, s_zero, s_succ, cl_nil, cl_str, cl_bool, cl_slc, cl_own, evFa, evNil, evLoad, asEl, evBin, intBin, strBin, evUn, len_nil, len_slc, len_str, clr, List.length_nil, List.length_cons, List.getElem?_cons_zero, List.getElem?_cons_succ, Nat.reduceAdd, Nat.zero_add, Nat.add_zero, Nat.reduceLeDiff, Nat.reduceSub, ↓reduceIte, List.drop_succ_cons, List.drop_zero, List.take_succ_cons, List.take_zero, Bool.false_eq_true, List.nil_append, List.cons_append, Bool.not_true, Bool.not_false, cond_true, cond_false, bne, lv_ret, lv_normal, res1, res2, lv2_some, res_var, res_cell, lvf_v, lvf_slc, res1c, lvo1_some]
  rw [loop_cong (v2 := L19 (.v (.slice none 0 0)) c qs.length ((0 : Nat) : Int)) (by rfl), g1, ← hrest]
  simp only [blk_exit, thn_normal, c19_9, g3, run_nil, run_cons, stp_plain, stp_guard, put_some, pass_eq, pick_tt, pick_ff, pick_tf, pick_ft, pick_u, reg_some, thn_normal, thn_exit, thn_ret, cnd_t, cnd_f, blk_normal, blk_ret, blk_exit, x_seq, x_region, x_cond, x_block, x_loop, x_ret, x_exit, x_skip, e_mov, e_pick, pk_t, pk_f, withH_some, e_box, bx_some, e_load, e_store, stH_some, e_nil, e_bin, e_eqv, eqH_f, eqH_t, e_un, e_fa, e_ia, ia_eq, nat_eq, natV_nat, e_len, lnH_some, e_extract, ex_0, ex_1, e_call0, e_call1, e_call2, e_call3, pc0_eq, pc1_some, pc2_some, pc3_some, fin_some, g_var0, g_vars, g_loc0, g_locs, g_int, g_bool, g_str, g_sl, s_none, s_zero, s_succ, cl_nil, cl_str, cl_bool, cl_slc, cl_own, evFa, evNil, asEl, evBin, intBin, strBin, evUn, len_nil, len_slc, len_str, clr, List.length_nil, List.length_cons, List.getElem?_cons_zero, List.getElem?_cons_succ, Nat.reduceAdd, Nat.zero_add, Nat.add_zero, Nat.reduceLeDiff, Nat.reduceSub, ↓reduceIte, List.drop_succ_cons, List.drop_zero, List.take_succ_cons, List.take_zero, Bool.false_eq_true, List.nil_append, List.cons_append, Bool.not_true, Bool.not_false, cond_true, cond_false, bne, lv_ret, lv_normal, res1, res2, lv2_some, res_var, res_cell, lvf_v, lvf_slc, res1c, lvo1_some]

theorem foldNew_sub : ∀ (l p : List Int) (n : Int), n ∈ l.foldl addNew p ↔ n ∈ p ∨ n ∈ l
  | [], p, n => by simp
  | k :: l, p, n => by
    rw [List.foldl_cons, foldNew_sub l]
    simp only [addNew]
    split
    · rename_i hc
      have : k ∈ p := by simpa using hc
      constructor
      · rintro (h | h)
        · exact .inl h
        · exact .inr (by simp [h])
      · rintro (h | h)
        · exact .inl h
        · rcases List.mem_cons.1 h with rfl | h
          · exact .inl this
          · exact .inr h
    · simp [or_assoc]
theorem vars_mem {t : Tm} {n : Int} : n ∈ varsT t ↔ n ∈ placesT t := by
  simp [varsT, foldNew_sub]
end Go.AE.Ytpgoibncgekflaa
end

/-! What is resolved has no Var that is bound, and is resolved as itself: the plain law. -/
section
set_option linter.unusedVariables false
set_option linter.unusedSimpArgs false
namespace Go.AE.Ytpgoibncgekflaa
open Go Go.AE Go.Proofs.Ytpgoibncgekflaa

theorem walkT_free (rs : List (Int × Tm)) : ∀ (m : Nat) (t : Tm), (walkT rs m t).2.1 = 0 → bound rs (walkT rs m t).1 = none := by
  intro m
  induction m with
  | zero =>
    intro t h
    cases hb : bound rs t with
    | some u => simp [walkT, hb] at h
    | none => simp [walkT, hb]
  | succ m ih =>
    intro t h
    cases hb : bound rs t with
    | some u =>
      simp only [walkT, hb] at h ⊢
      exact ih u h
    | none => simp [walkT, hb]
theorem meetT_free (rs : List (Int × Tm)) (m : Nat) (t : Tm) (h : (meetT rs m t).2.1 = 0) : bound rs (meetT rs m t).1 = none ∧ (meetT rs m t).2.2 + 1 ≤ m := by
  cases m with
  | zero => simp [meetT] at h
  | succ m => exact ⟨walkT_free rs m t h, Nat.succ_le_succ (walkT_le rs m t)⟩
theorem bound_nil (t : Tm) : bound [] t = none := by cases t; simp [bound, lookT]
theorem meetT_nil (m : Nat) (t : Tm) : meetT [] (m + 1) t = (t, 0, m) := by
  cases m <;> simp [meetT, walkT, bound_nil]

theorem resL_free {f g : Nat → Tm → Except Int (Tm × Nat)} {Q : Tm → Prop} (hf : ∀ m t x m2, f m t = .ok (x, m2) → Q x ∧ m2 + size x ≤ m ∧ ∀ m', size x ≤ m' → g m' x = .ok (x, m' - size x)) :
    ∀ (l : List Tm) (m m2 : Nat) (xs : List Tm), resL f m l = .ok (xs, m2) → (∀ x ∈ xs, Q x) ∧ m2 + sizeL xs ≤ m ∧ ∀ m', sizeL xs ≤ m' → resL g m' xs = .ok (xs, m' - sizeL xs) := by
  intro l
  induction l with
  | nil =>
    intro m m2 xs h
    simp only [resL] at h
    cases h
    exact ⟨by simp, by simp [sizeL], by simp [resL, sizeL]⟩
  | cons t l ih =>
    intro m m2 xs h
    simp only [resL] at h
    cases h1 : f m t with
    | error e => rw [h1] at h; cases h
    | ok q =>
      obtain ⟨x, m1⟩ := q
      rw [h1] at h
      simp only at h
      cases h2 : resL f m1 l with
      | error e => rw [h2] at h; cases h
      | ok q2 =>
        obtain ⟨ys, m3⟩ := q2
        rw [h2] at h
        simp only at h
        cases h
        have a := hf _ _ _ _ h1
        have b := ih _ _ _ h2
        refine ⟨fun y hy => ?_, ?_, fun m' hm' => ?_⟩
        · rcases List.mem_cons.1 hy with rfl | hy
          · exact a.1
          · exact b.1 y hy
        · simp only [sizeL]; omega
        · simp only [sizeL] at hm' ⊢
          simp only [resL, a.2.2 m' (by omega), b.2.2 (m' - size x) (by omega)]
          rw [Nat.sub_sub]

/-- no Var of it is bound -/
def Free (rs : List (Int × Tm)) (t : Tm) : Prop := ∀ n ∈ placesT t, lookT rs n = none
theorem placesL_mem : ∀ {l : List Tm} {n : Int}, n ∈ placesL l → ∃ t ∈ l, n ∈ placesT t
  | t :: l, n, h => by
    simp only [placesL, List.mem_append] at h
    rcases h with h | h
    · exact ⟨t, by simp, h⟩
    · obtain ⟨u, hu, hn⟩ := placesL_mem h
      exact ⟨u, by simp [hu], hn⟩
theorem resT_free (rs : List (Int × Tm)) : ∀ (d m : Nat) (t x : Tm) (m2 : Nat), resT rs d m t = .ok (x, m2) → Free rs x ∧ m2 + size x ≤ m ∧ ∀ m', size x ≤ m' → resT [] d m' x = .ok (x, m' - size x) := by
  intro d
  induction d with
  | zero =>
    intro m t x m2 h
    simp only [resT] at h
    split at h <;> cases h
  | succ d ih =>
    intro m t x m2 h
    simp only [resT] at h
    have hfree := meetT_free rs m t
    generalize meetT rs m t = w at h hfree
    obtain ⟨⟨k, s, n, l⟩, e, m'⟩ := w
    simp only at h
    split at h
    · rename_i he
      obtain ⟨g1, g2⟩ := hfree he
      simp only at g1 g2
      cases hl : resL (resT rs d) m' l with
      | error e => rw [hl] at h; cases h
      | ok q =>
        obtain ⟨xs, m3⟩ := q
        rw [hl] at h
        simp only at h
        cases h
        have b := resL_free (Q := Free rs) (g := resT [] d) (fun m t x m2 hh => ih m t x m2 hh) _ _ _ _ hl
        refine ⟨fun v hv => ?_, ?_, fun m' hm' => ?_⟩
        · simp only [placesT, List.mem_append] at hv
          rcases hv with hv | hv
          · split at hv
            · rename_i hk
              have : v = n := by simpa using hv
              subst this
              simpa [bound, hk] using g1
            · cases hv
          · obtain ⟨u, hu, hn⟩ := placesL_mem hv
            exact b.1 u hu v hn
        · simp only [size]; omega
        · simp only [size] at hm' ⊢
          obtain ⟨m1, rfl⟩ : ∃ m1, m' = m1 + 1 := ⟨m' - 1, by omega⟩
          simp only [resT, meetT_nil, if_true, b.2.2 m1 (by omega)]
          rw [show m1 + 1 - (1 + sizeL xs) = m1 - sizeL xs by omega]
    · cases h
end Go.AE.Ytpgoibncgekflaa
end

/-! The examples (live). -/
section
namespace Go.AE.Ytpgoibncgekflaa
open Go Go.AE Go.Proofs.Ytpgoibncgekflaa
set_option linter.unusedVariables false
set_option linter.unusedSimpArgs false
set_option maxRecDepth 1000000
def tV (n : Int) : AV := .agg [.v (.int .i64 1), .v (.string ⟨#[]⟩), .v (.int .i64 n), .v (.slice none 0 0)]
def tA (s : ByteArray) : AV := .agg [.v (.int .i64 2), .v (.string s), .v (.int .i64 0), .v (.slice none 0 0)]
def tC (s : ByteArray) (ex nn : Bool) (l : List AV) : AV := .agg [.v (.int .i64 4), .v (.string s), .v (.int .i64 0), .slc 4 ex nn l]
def bd (v : Int) (t : AV) : AV := .agg (.v (.int .i64 v) :: t.cells)
theorem l27 (n : Int) : callN F 10 27 [.v (.int .i64 n)] [] = some (tV n, []) := by kernel_rfl
theorem l28 (s : ByteArray) : callN F 10 28 [.v (.string s)] [] = some (tA s, []) := by kernel_rfl
theorem l29 (s : ByteArray) (l : List AV) (ex nn : Bool) : callN F 10 29 [.v (.string s), .slc 4 ex nn l] [] = some (tC s ex nn l, []) := by kernel_rfl
def aA : AV := .agg [.v (.int .i64 2), .v (.string ⟨#[97]⟩), .v (.int .i64 0), .slc 4 false false []]
theorem r1 : callN F 40 18 [.slc 5 true true [bd 0 (tC ⟨#[102]⟩ true true [tV 1]), bd 1 (tA ⟨#[97]⟩)], tC ⟨#[103]⟩ true true [tV 0, tV 1]] [] = some (.tup [tC ⟨#[103]⟩ false false [tC ⟨#[102]⟩ false false [aA], aA], .v (.int .i64 0)], []) := by kernel_rfl
theorem l16 : callN F 40 16 [tV 0, .v (.int .i64 1)] [] = some (tV 1, []) := by kernel_rfl
theorem r2 : ∃ n, callN F n 18 [.slc 5 true true [bd 0 (tC ⟨#[102]⟩ true true [tV 0])], tV 0] [] = some (.tup [.agg [.v (.int .i64 0), .v (.string ⟨#[]⟩), .v (.int .i64 0), .v (.slice none 0 0)], .v (.int .i64 3)], []) := ⟨130, by kernel_rfl⟩
end Go.AE.Ytpgoibncgekflaa
end

/-! The examples: a Walk around. -/
section
set_option linter.unusedVariables false
set_option linter.unusedSimpArgs false
namespace Go.AE.Ytpgoibncgekflaa
open Go Go.AE Go.Proofs.Ytpgoibncgekflaa

def cyc : AV := .slc 5 true true [.agg [.v (.int .i64 0), .v (.int .i64 1), .v (.string ⟨#[]⟩), .v (.int .i64 1), .v (.slice none 0 0)], .agg [.v (.int .i64 1), .v (.int .i64 1), .v (.string ⟨#[]⟩), .v (.int .i64 0), .v (.slice none 0 0)]]
def zc : List AV := [.v (.int .i64 0), .v (.string ⟨#[]⟩), .v (.int .i64 0), .v (.slice none 0 0)]
def H31 (b0 b1 : AO) (m x : Int) (tail : List AO) : List AO := b0 :: b1 :: .box [.v (.int .i64 m)] :: .box [.v (.int .i64 1), .v (.string ⟨#[]⟩), .v (.int .i64 x), .v (.slice none 0 0)] :: .box zc :: tail
def K31 : List Bool := [true, false, true, true, true, false, false, false, false, false, false]
def L31 : List AV := [cyc, .junk, .ptr 2 0, .ptr 3 0, .ptr 4 0, .junk, .junk, .junk, .junk, .junk, .junk]

theorem look_cyc (x y : Int) (h : (x = 0 ∧ y = 1) ∨ (x = 1 ∧ y = 0)) : callW F 13 [cyc, .v (.int .i64 x)] [] = some (.tup [.agg [.v (.int .i64 1), .v (.string ⟨#[]⟩), .v (.int .i64 y), .v (.slice none 0 0)], .v (.bool true)], []) := by
  refine callW_oracle (g := lookG) rfl ?_
  rcases h with ⟨rfl, rfl⟩ | ⟨rfl, rfl⟩ <;> rfl

theorem walk_step {K : Nat} {b0 b1 : AO} {x y : Int} (hx : (x = 0 ∧ y = 1) ∨ (x = 1 ∧ y = 0)) (m : Nat) (hm : m ≤ 5000) (tail : List AO) : ∃ vs, exec (callW F) K c31_9 L31 (H31 b0 b1 ((m + 1 : Nat) : Int) x tail) = some (.normal, vs, H31 b0 b1 m y (tail ++ [.box [.v (.int .i64 1), .v (.string ⟨#[]⟩), .v (.int .i64 y), .v (.slice none 0 0)]])) ∧ clr K31 vs = L31 := by
  have hk := look_cyc x y hx
  have h0 : (((m + 1 : Nat) : Int) == 0) = false := by simp; omega
  have hw : IntKind.i64.wrap (((m + 1 : Nat) : Int) - 1) = (m : Int) := by rw [wrap_ok (by omega) (by omega)]; omega
  have h11 : ((1 : Int) == 1) = true := rfl
  have q8 : ∀ (h : List AO) (x : Int), (AV.v (.int .i64 x)).snap1 h = some (.v (.int .i64 x)) := fun _ _ => rfl
  have q7 : ∀ h : List AO, cyc.snap1 h = some cyc := fun _ => rfl
  have q9 : (ofVal (.agg #[(.int .i64 0), (.string ⟨#[]⟩), (.int .i64 0), (.slice none 0 0)])).cl = some [.v (.int .i64 0), .v (.string ⟨#[]⟩), .v (.int .i64 0), .v (.slice none 0 0)] := by simp [ofVal, AV.cl, Value.oneCell']
  refine ⟨[cyc, .junk, .ptr 2 0, .ptr 3 0, .ptr 4 0, .junk, .ptr (tail.length + 1 + 1 + 1 + 1 + 1) 0, .v (.bool true), .v (.bool true), .v (.bool false), .v (.bool false)], ?_, rfl⟩
  simp only [L31, H31, zc, c31_9, c31_1, c31_2, c31_3, c31_5, c31_7, c31_8, hk, h0, hw, h11, q7, q8, q9, e_build, bdH_some, bd_nil, bd_cons, bd1, cl_agg, cl_int, toL, List.map_cons, List.map_nil, putAt, List.set_cons_zero, List.set_cons_succ, and_self, Nat.le_refl, evStore, app_get, app_set, g_agg, run_nil, run_cons, stp_plain, stp_guard, put_some, pass_eq, pick_tt, pick_ff, pick_tf, pick_ft, pick_u, reg_some, thn_normal, thn_exit, thn_ret, cnd_t, cnd_f, blk_normal, blk_ret, blk_exit, x_seq, x_region, x_cond, x_block, x_loop, x_ret, x_exit, x_skip, e_mov, e_pick, pk_t, pk_f, withH_some, e_box, bx_some, e_load, e_store, stH_some, e_nil, e_bin, e_eqv, eqH_f, eqH_t, e_un, e_fa, e_ia, ia_eq, nat_eq, natV_nat, e_len, lnH_some, e_extract, ex_0, ex_1, e_call0, e_call1, e_call2, e_call3, pc0_eq, pc1_some, pc2_some, pc3_some, fin_some, g_var0, g_vars, g_loc0, g_locs, g_int, g_bool, g_str, g_sl, s_none, s_zero, s_succ, evFa, evNil, evLoad, asEl, evBin, intBin, strBin, evUn, len_nil, len_slc, len_str, clr, List.length_nil, List.length_cons, List.getElem?_cons_zero, List.getElem?_cons_succ, Nat.reduceAdd, Nat.zero_add, Nat.add_zero, Nat.reduceLeDiff, Nat.reduceSub, ↓reduceIte, List.drop_succ_cons, List.drop_zero, List.take_succ_cons, List.take_zero, Bool.false_eq_true, List.nil_append, List.cons_append, Bool.not_true, Bool.not_false, cond_true, cond_false, bne, lv_ret, lv_normal, res1, res2, lv2_some, res_var, res_cell, lvf_v, lvf_slc]

theorem walk_loop {K : Nat} {b0 b1 : AO} : ∀ (m : Nat), m ≤ 5000 → ∀ (x y : Int), ((x = 0 ∧ y = 1) ∨ (x = 1 ∧ y = 0)) → ∀ (tail : List AO) (vars : List AV), clr K31 vars = L31 →
    ∃ (j : AV) (z : List AV) (tail' : List AO), loopN (exec (callW F) K c31_9) K31 (m + 1) vars (H31 b0 b1 (m : Int) x tail) = some (.ret, [cyc, .junk, .ptr 2 0, .ptr 3 0, .ptr 4 0, .v (.int .i64 140), j, .v (.bool true), .v (.bool true), .v (.bool false), .v (.bool true)], b0 :: b1 :: .box [.v (.int .i64 0)] :: .box z :: .box zc :: tail') := by
  intro m
  induction m with
  | zero =>
    intro _ x y hx tail vars hv
    refine ⟨.ptr (tail.length + 1 + 1 + 1 + 1 + 1) 0, [.v (.int .i64 1), .v (.string ⟨#[]⟩), .v (.int .i64 x), .v (.slice none 0 0)], tail ++ [.box [.v (.int .i64 1), .v (.string ⟨#[]⟩), .v (.int .i64 y), .v (.slice none 0 0)]], ?_⟩
    refine loop_ret ?_
    rw [hv]
    have hk := look_cyc x y hx
    have h0 : (((0 : Nat) : Int) == 0) = true := rfl
    have h11 : ((1 : Int) == 1) = true := rfl
    have q8 : ∀ (h : List AO) (x : Int), (AV.v (.int .i64 x)).snap1 h = some (.v (.int .i64 x)) := fun _ _ => rfl
    have q7 : ∀ h : List AO, cyc.snap1 h = some cyc := fun _ => rfl
    have q9 : (ofVal (.agg #[(.int .i64 0), (.string ⟨#[]⟩), (.int .i64 0), (.slice none 0 0)])).cl = some [.v (.int .i64 0), .v (.string ⟨#[]⟩), .v (.int .i64 0), .v (.slice none 0 0)] := by simp [ofVal, AV.cl, Value.oneCell']
    simp only [L31, H31, zc, c31_9, c31_1, c31_2, c31_3, c31_5, c31_6, hk, h0, h11, q7, q8, q9, e_build, bdH_some, bd_nil, bd_cons, bd1, cl_agg, cl_int, toL, List.map_cons, List.map_nil, putAt, List.set_cons_zero, List.set_cons_succ, and_self, Nat.le_refl, evStore, app_get, app_set, g_agg, run_nil, run_cons, stp_plain, stp_guard, put_some, pass_eq, pick_tt, pick_ff, pick_tf, pick_ft, pick_u, reg_some, thn_normal, thn_exit, thn_ret, cnd_t, cnd_f, blk_normal, blk_ret, blk_exit, x_seq, x_region, x_cond, x_block, x_loop, x_ret, x_exit, x_skip, e_mov, e_pick, pk_t, pk_f, withH_some, e_box, bx_some, e_load, e_store, stH_some, e_nil, e_bin, e_eqv, eqH_f, eqH_t, e_un, e_fa, e_ia, ia_eq, nat_eq, natV_nat, e_len, lnH_some, e_extract, ex_0, ex_1, e_call0, e_call1, e_call2, e_call3, pc0_eq, pc1_some, pc2_some, pc3_some, fin_some, g_var0, g_vars, g_loc0, g_locs, g_int, g_bool, g_str, g_sl, s_none, s_zero, s_succ, evFa, evNil, evLoad, asEl, evBin, intBin, strBin, evUn, len_nil, len_slc, len_str, clr, List.length_nil, List.length_cons, List.getElem?_cons_zero, List.getElem?_cons_succ, Nat.reduceAdd, Nat.zero_add, Nat.add_zero, Nat.reduceLeDiff, Nat.reduceSub, ↓reduceIte, List.drop_succ_cons, List.drop_zero, List.take_succ_cons, List.take_zero, Bool.false_eq_true, List.nil_append, List.cons_append, Bool.not_true, Bool.not_false, cond_true, cond_false, bne, lv_ret, lv_normal, res1, res2, lv2_some, res_var, res_cell, lvf_v, lvf_slc]
    rfl
  | succ m ih =>
    intro hm x y hx tail vars hv
    obtain ⟨vs, h1, h2⟩ := walk_step (K := K) (b0 := b0) (b1 := b1) hx m (by omega) tail
    rw [loop_normal (by rw [hv]; exact h1)]
    exact ih (by omega) y x (by omega) _ vs h2

theorem walk_cyc : callW F 11 [cyc, tV 0] [] = some (.tup [.agg zc, .v (.int .i64 140)], []) := by
  have hf : ∀ b0 b1 : AO, (b0.below 3 = true) → (b1.below 3 = true) → callW F 31 [cyc, tV 0, .ptr 2 0] [b0, b1, .box [.v (.int .i64 2000)]] = some (.tup [.agg zc, .v (.int .i64 140)], [b0, b1, .box [.v (.int .i64 0)]]) := by
    intro b0 b1 hb0 hb1
    refine callW_code (c := c31) rfl rfl 2001 ?_
    obtain ⟨j, z, tail', hl⟩ := walk_loop (K := 2001) (b0 := b0) (b1 := b1) 2000 (by omega) 0 1 (.inl ⟨rfl, rfl⟩) [] L31 rfl
    have q9 : (ofVal (.agg #[(.int .i64 0), (.string ⟨#[]⟩), (.int .i64 0), (.slice none 0 0)])).cl = some [.v (.int .i64 0), .v (.string ⟨#[]⟩), .v (.int .i64 0), .v (.slice none 0 0)] := by simp [ofVal, AV.cl, Value.oneCell']
    have hx : exec (callW F) 2001 c31.body (start c31 [cyc, tV 0, .ptr 2 0]) [b0, b1, .box [.v (.int .i64 2000)]] = some (.ret, [cyc, .junk, .ptr 2 0, .ptr 3 0, .ptr 4 0, .v (.int .i64 140), j, .v (.bool true), .v (.bool true), .v (.bool false), .v (.bool true)], b0 :: b1 :: .box [.v (.int .i64 0)] :: .box z :: .box zc :: tail') := by
      simp only [c31, start, tV, List.replicate, c31_0, q9, e_build, bdH_some, bd_nil, bd_cons, bd1, cl_agg, cl_int, toL, List.map_cons, List.map_nil, putAt, List.set_cons_zero, List.set_cons_succ, and_self, Nat.le_refl, evStore, app_get, app_set, g_agg, run_nil, run_cons, stp_plain, stp_guard, put_some, pass_eq, pick_tt, pick_ff, pick_tf, pick_ft, pick_u, reg_some, thn_normal, thn_exit, thn_ret, cnd_t, cnd_f, blk_normal, blk_ret, blk_exit, x_seq, x_region, x_cond, x_block, x_loop, x_ret, x_exit, x_skip, e_mov, e_pick, pk_t, pk_f, withH_some, e_box, bx_some, e_load, e_store, stH_some, e_nil, e_bin, e_eqv, eqH_f, eqH_t, e_un, e_fa, e_ia, ia_eq, nat_eq, natV_nat, e_len, lnH_some, e_extract, ex_0, ex_1, e_call0, e_call1, e_call2, e_call3, pc0_eq, pc1_some, pc2_some, pc3_some, fin_some, g_var0, g_vars, g_loc0, g_locs, g_int, g_bool, g_str, g_sl, s_none, s_zero, s_succ, evFa, evNil, evLoad, asEl, evBin, intBin, strBin, evUn, len_nil, len_slc, len_str, clr, List.length_nil, List.length_cons, List.getElem?_cons_zero, List.getElem?_cons_succ, Nat.reduceAdd, Nat.zero_add, Nat.add_zero, Nat.reduceLeDiff, Nat.reduceSub, ↓reduceIte, List.drop_succ_cons, List.drop_zero, List.take_succ_cons, List.take_zero, Bool.false_eq_true, List.nil_append, List.cons_append, Bool.not_true, Bool.not_false, cond_true, cond_false, bne, lv_ret, lv_normal, res1, res2, lv2_some, res_var, res_cell, lvf_v, lvf_slc]
      rw [show ([true, false, true, true, true, false, false, false, false, false, false] : List Bool) = K31 from rfl, loop_cong (v2 := L31) (by rfl)]
      have := hl
      simp only [H31, zc] at this
      erw [this]
      rfl
    rw [hx]
    have hres : c31.res = [.cell 4 true 4, .var 5] := rfl
    simp [leave, hres, resOf, evLoad, asEl, zc, pack, AV.frz2, AV.frz1, AV.frz0, hb0, hb1, AO.below, AV.below1, AV.below0]
    exact ⟨hb0, hb1⟩
  have hc := hf (.box [.v (.int .i64 1), .v (.string ⟨#[]⟩), .v (.int .i64 0), .v (.slice none 0 0)]) (.box zc) rfl rfl
  simp only [tV, zc] at hc
  have ecall : ∀ (vars env : List AV) (h : List AO) (f : FuncId) (args : List Opd), evOp (callW F) vars env h (.call false f args) = callW F f (args.map (getO vars env)) h := fun _ _ _ _ _ => rfl
  have q9 : (ofVal (.agg #[(.int .i64 0), (.string ⟨#[]⟩), (.int .i64 0), (.slice none 0 0)])).cl = some [.v (.int .i64 0), .v (.string ⟨#[]⟩), .v (.int .i64 0), .v (.slice none 0 0)] := by simp [ofVal, AV.cl, Value.oneCell']
  have lvt : ∀ (h : List AO) (a b c d e : Value), lvf h (.tup [.agg [.v a, .v b, .v c, .v d], .v e]) = some (.tup [.agg [.v a, .v b, .v c, .v d], .v e], []) := fun _ _ _ _ _ _ => rfl
  refine callW_pure (c := c11) rfl rfl 0 ?_
  simp only [c11, start, tV, zc, List.replicate, c11_0, c11_1, c11_2, q9, hc, ecall, lvt, e_build, bdH_some, bd_nil, bd_cons, bd1, cl_agg, cl_int, toL, List.map_cons, List.map_nil, putAt, List.set_cons_zero, List.set_cons_succ, and_self, Nat.le_refl, evStore, app_get, app_set, g_agg, run_nil, run_cons, stp_plain, stp_guard, put_some, pass_eq, pick_tt, pick_ff, pick_tf, pick_ft, pick_u, reg_some, thn_normal, thn_exit, thn_ret, cnd_t, cnd_f, blk_normal, blk_ret, blk_exit, x_seq, x_region, x_cond, x_block, x_loop, x_ret, x_exit, x_skip, e_mov, e_pick, pk_t, pk_f, withH_some, e_box, bx_some, e_load, e_store, stH_some, e_nil, e_bin, e_eqv, eqH_f, eqH_t, e_un, e_fa, e_ia, ia_eq, nat_eq, natV_nat, e_len, lnH_some, e_extract, ex_0, ex_1, e_call0, e_call1, e_call2, e_call3, pc0_eq, pc1_some, pc2_some, pc3_some, fin_some, g_var0, g_vars, g_loc0, g_locs, g_int, g_bool, g_str, g_sl, s_none, s_zero, s_succ, evFa, evNil, evLoad, asEl, evBin, intBin, strBin, evUn, len_nil, len_slc, len_str, clr, List.length_nil, List.length_cons, List.getElem?_cons_zero, List.getElem?_cons_succ, Nat.reduceAdd, Nat.zero_add, Nat.add_zero, Nat.reduceLeDiff, Nat.reduceSub, ↓reduceIte, List.drop_succ_cons, List.drop_zero, List.take_succ_cons, List.take_zero, Bool.false_eq_true, List.nil_append, List.cons_append, Bool.not_true, Bool.not_false, cond_true, cond_false, bne, lv_ret, lv_normal, res1, res2, lv2_some, res_var, res_cell, lvf_v, lvf_slc]
end Go.AE.Ytpgoibncgekflaa
end

/-! The examples: all of them. -/
section
set_option linter.unusedVariables false
set_option linter.unusedSimpArgs false
namespace Go.AE.Ytpgoibncgekflaa
open Go Go.AE Go.Proofs.Ytpgoibncgekflaa
set_option maxRecDepth 1000000

theorem sm1 : callN F 60 15 [tC ⟨#[103]⟩ false false [tC ⟨#[102]⟩ false false [aA], aA], tC ⟨#[103]⟩ true true [tC ⟨#[102]⟩ true true [tA ⟨#[97]⟩], tA ⟨#[97]⟩]] [] = some (.v (.bool true), []) := by kernel_rfl
theorem sm2 : callN F 60 15 [tV 1, tV 1] [] = some (.v (.bool true), []) := by kernel_rfl

theorem live_ok : callW F 9 [] [] = some (.v (.bool true), []) := by
  have k27 : ∀ n, callW F 27 [.v (.int .i64 n)] [] = some (tV n, []) := fun n => callW_iff.2 ⟨_, l27 n⟩
  have k28 : ∀ s, callW F 28 [.v (.string s)] [] = some (tA s, []) := fun s => callW_iff.2 ⟨_, l28 s⟩
  have k29 : ∀ s ex nn l, callW F 29 [.v (.string s), .slc 4 ex nn l] [] = some (tC s ex nn l, []) := fun s ex nn l => callW_iff.2 ⟨_, l29 s l ex nn⟩
  have k1 := callW_iff.2 ⟨_, r1⟩
  have k2 := callW_iff.2 r2
  have k3 := walk_cyc
  have k4 := callW_iff.2 ⟨_, l16⟩
  have k5 := callW_iff.2 ⟨_, sm1⟩
  have k6 := callW_iff.2 ⟨_, sm2⟩
  have q9 : (ofVal (.agg #[(.int .i64 0), (.string ⟨#[]⟩), (.int .i64 0), (.slice none 0 0)])).cl = some [.v (.int .i64 0), .v (.string ⟨#[]⟩), .v (.int .i64 0), .v (.slice none 0 0)] := by simp [ofVal, AV.cl, Value.oneCell']
  have n1 : ∀ (h : List AO) (a b c d : Value), (AV.agg [.v a, .v b, .v c, .v d]).snap1 h = some (.agg [.v a, .v b, .v c, .v d]) := fun _ _ _ _ _ => rfl
  have n2 : ∀ (h : List AO) (a b c : Value) (sz : Nat) (ex nn : Bool) (l : List AV), (AV.agg [.v a, .v b, .v c, .slc sz ex nn l]).snap1 h = some (.agg [.v a, .v b, .v c, .slc sz ex nn l]) := fun _ _ _ _ _ _ _ _ => rfl
  have n3 : ∀ (h : List AO) (a b c d e : Value), (AV.agg [.v a, .v b, .v c, .v d, .v e]).snap1 h = some (.agg [.v a, .v b, .v c, .v d, .v e]) := fun _ _ _ _ _ _ => rfl
  have n4 : ∀ (h : List AO) (a b c d : Value) (sz : Nat) (ex nn : Bool) (l : List AV), (AV.agg [.v a, .v b, .v c, .v d, .slc sz ex nn l]).snap1 h = some (.agg [.v a, .v b, .v c, .v d, .slc sz ex nn l]) := fun _ _ _ _ _ _ _ _ _ => rfl
  have n5 : ∀ (h : List AO) (sz : Nat) (ex nn : Bool) (l : List AV), (AV.slc sz ex nn l).snap1 h = some (.slc sz ex nn l) := fun _ _ _ _ _ => rfl
  have n6 : ∀ (h : List AO) (x : Value), (AV.v x).snap1 h = some (.v x) := fun _ _ => rfl
  have n7 : ((0 : Int) == 0) = true := rfl
  have n8 : ((3 : Int) == 3) = true := rfl
  have n9 : ((140 : Int) == 140) = true := rfl
  simp only [tV, tA, tC, bd, aA, cyc, zc, AV.cells] at k27 k28 k29 k1 k2 k3 k4 k5 k6
  refine callW_pure (c := c9) rfl rfl 0 ?_
  simp only [c9, start, List.replicate, c9_0, c9_1, c9_2, c9_3, c9_4, c9_5, c9_6, c9_7, c9_8, k27, k28, k29, k1, k2, k3, k4, k5, k6, q9, n1, n2, n3, n4, n5, n6, n7, n8, n9, e_bslice1, e_bslice2, bs1, bs2, e_build, bdH_some, bd_nil, bd_cons, bd1, cl_agg, cl_int, toL, List.map_cons, List.map_nil, putAt, List.set_cons_zero, List.set_cons_succ, and_self, Nat.le_refl, evStore, app_get, app_set, g_agg, run_nil, run_cons, stp_plain, stp_guard, put_some, pass_eq, pick_tt, pick_ff, pick_tf, pick_ft, pick_u, reg_some, thn_normal, thn_exit, thn_ret, cnd_t, cnd_f, blk_normal, blk_ret, blk_exit, x_seq, x_region, x_cond, x_block, x_loop, x_ret, x_exit, x_skip, e_mov, e_pick, pk_t, pk_f, withH_some, e_box, bx_some, e_load, e_store, stH_some, e_nil, e_bin, e_eqv, eqH_f, eqH_t, e_un, e_fa, e_ia, ia_eq, nat_eq, natV_nat, e_len, lnH_some, e_extract, ex_0, ex_1, e_call0, e_call1, e_call2, e_call3, pc0_eq, pc1_some, pc2_some, pc3_some, fin_some, g_var0, g_vars, g_loc0, g_locs, g_int, g_bool, g_str, g_sl, s_none, s_zero, s_succ, evFa, evNil, evLoad, asEl, evBin, intBin, strBin, evUn, len_nil, len_slc, len_str, clr, List.length_nil, List.length_cons, List.getElem?_cons_zero, List.getElem?_cons_succ, Nat.reduceAdd, Nat.zero_add, Nat.add_zero, Nat.reduceLeDiff, Nat.reduceSub, ↓reduceIte, List.drop_succ_cons, List.drop_zero, List.take_succ_cons, List.take_zero, Bool.false_eq_true, List.nil_append, List.cons_append, Bool.not_true, Bool.not_false, cond_true, cond_false, bne, lv_ret, lv_normal, res1, res2, lv2_some, res_var, res_cell, lvf_v, lvf_slc]
end Go.AE.Ytpgoibncgekflaa
end

/-! The row of SubstOrder, out of its plain law. -/
section
set_option linter.unusedVariables false
namespace Go.Proofs.Ytpgoibncgekflaa
open Go Go.AE Go.Proofs Go.ChangeShapes Go.WideShapes Go.ChangeAt Go.RowKit
open Go.ChangeMaps (open_string shut_string)

theorem own : ownKnob Try.prog.godebug = none := by kernel_rfl
theorem laidOut : laidOutB Try.prog = true := by kernel_rfl
theorem mixed : Try.prog.follows .mixedOrders = true := by kernel_rfl
def G : List TypeId := [2, 3, 9, 22, 23, 25, 41]
theorem hG : goodB T G = true := by kernel_rfl

/-- What a call comes to that is handed what came in. -/
theorem law_calls {f : FuncId} {args : List AV} {vals : Array Value} {W : World} (ha : ArgsRep (AllCells W) W [] args vals) {n : Nat} (he : callN F n f args [] = some (.v (.bool true), [])) :
    Calls Try.prog f vals W fun e W' => e = .returned (.bool true) ∧ Below W.heap.size W W' := by
  have hI : AE.Inv W.heap.size W (AllCells W) [] W [] := ⟨Below.refl _ _, Nat.le_refl _, rfl, fun id o L h => by simp at h, fun id L h => by simp at h, fun i j Li Lj h => by simp at h, fun b x h => h⟩
  refine ((callN_ok mixed hT hF n).calls f args [] _ _ he W.heap.size W (AllCells W) [] W vals hI ha).mono fun e W' h => ?_
  obtain ⟨v, I', σ', rfl, hI', _, hr⟩ := h
  cases hr
  exact ⟨rfl, hI'.below⟩

theorem args4 {I : Cells} {W : World} {a0 a1 a2 a3 : AV} {v0 v1 v2 v3 : Value} (r0 : Rep I W [] a0 v0) (r1 : Rep I W [] a1 v1) (r2 : Rep I W [] a2 v2) (r3 : Rep I W [] a3 v3) : ArgsRep I W [] [a0, a1, a2, a3] #[v0, v1, v2, v3] := by
  refine ⟨rfl, fun i a h => ?_⟩
  match i, h with
  | 0, h => cases h; exact r0
  | 1, h => cases h; exact r1
  | 2, h => cases h; exact r2
  | 3, h => cases h; exact r3

namespace substOrder
def Plain : Prop := ∀ a0 a1 a2 a3 : AV, WT T 22 a0.cells → asEl ti22.agg a0.cells = some a0 → WT T 2 a1.cells → asEl ti2.agg a1.cells = some a1 → WT T 2 a2.cells → asEl ti2.agg a2.cells = some a2 → WT T 25 a3.cells → asEl ti25.agg a3.cells = some a3 →
  ∃ n, callN F n 5 [a0, a1, a2, a3] [] = some (.v (.bool true), [])

set_option maxRecDepth 100000 in
theorem lifted (plain : Plain) (os : Os) (started : os.Started) (H : Type) (enc : TypeId × Value → H) :
    ReturnsInHanded {} Try.checked os 5 .any (Rows.substOrderSpec.pre6 enc Try.prog Try.f5 Rows.substOrderRow.domain false) (Rows.substOrderSpec.post enc Try.prog Try.f5 false true false false) := by
  refine returnsInHanded_of_change_sized (C := Try.checked) own started (by kernel_rfl) Try.func5
    (ChangeSpec.witness6 (enc := enc) (C := Try.checked) false ⟨#[], #[.slice none 0 0, .int .i64 0, .int .i64 0, .agg #[.int .i64 0, .string ByteArray.empty, .int .i64 0, .slice none 0 0]], []⟩ 8 (by kernel_rfl) (by kernel_rfl) (by kernel_rfl) (by kernel_rfl)) ?_
  intro W base args ds gs before hval0 hW hcnd hsz0 _
  have hval : ∀ (j : Nat) t v, Try.f5.params[j]? = some t → args[j]? = some v → Value.okWide Try.prog W .any base t v := hval0
  have hW' := hW
  obtain ⟨p, q, hA0, hV, rfl, hfz, hnd⟩ := hW
  have hA : DataW.TrodAll enc Try.prog W 0 (fun _ => true) true Try.f5.params.toList args.toList ds p := hA0
  rw [Try.params5] at hA hval
  obtain ⟨v0, vs0, d0, ds0, p0, q0, hargs, rfl, rfl, h0, r0⟩ := trodAll_cons hA
  obtain ⟨v1, vs1, d1, ds1, p1, q1, rfl, rfl, rfl, h1, r1⟩ := trodAll_cons r0
  obtain ⟨v2, vs2, d2, ds2, p2, q2, rfl, rfl, rfl, h2, r2⟩ := trodAll_cons r1
  obtain ⟨v3, vs3, d3, ds3, p3, q3, rfl, rfl, rfl, h3, r3⟩ := trodAll_cons r2
  obtain ⟨rfl, rfl, rfl⟩ := trodAll_nil r3
  obtain rfl : args = #[v0, v1, v2, v3] := by cases args; simp_all
  obtain ⟨rfl, rfl⟩ := trodVars_none hV
  obtain ⟨a0, w0, e0, x0⟩ := trod_arg hT hG (t := 22) (i := ti22) (by decide) rfl (hval 0 22 v0 rfl rfl) h0
  obtain ⟨a1, w1, e1, x1⟩ := trod_arg hT hG (t := 2) (i := ti2) (by decide) rfl (hval 1 2 v1 rfl rfl) h1
  obtain ⟨a2, w2, e2, x2⟩ := trod_arg hT hG (t := 2) (i := ti2) (by decide) rfl (hval 2 2 v2 rfl rfl) h2
  obtain ⟨a3, w3, e3, x3⟩ := trod_arg hT hG (t := 25) (i := ti25) (by decide) rfl (hval 3 25 v3 rfl rfl) h3
  have l0 : ∀ x ∈ p0, x.block < W.heap.size := by obtain ⟨m, hm⟩ := h0; exact DataW.trod_lt m _ _ _ hm
  have l1 : ∀ x ∈ p1, x.block < W.heap.size := by obtain ⟨m, hm⟩ := h1; exact DataW.trod_lt m _ _ _ hm
  have l2 : ∀ x ∈ p2, x.block < W.heap.size := by obtain ⟨m, hm⟩ := h2; exact DataW.trod_lt m _ _ _ hm
  have l3 : ∀ x ∈ p3, x.block < W.heap.size := by obtain ⟨m, hm⟩ := h3; exact DataW.trod_lt m _ _ _ hm
  obtain ⟨n, hn⟩ := plain a0 a1 a2 a3 w0 e0 w1 e1 w2 e2 w3 e3
  refine (law_calls (args4 x0 x1 x2 x3) hn).mono fun e W' ⟨he, bel⟩ => ?_
  subst he
  exact ⟨_, rfl, _, _, _, [], _, [], hW', trodAll_mk1 (shut_bool Try.underlying4 _),
    (trodAll_cons_mk (Below.trod laidOut (by kernel_rfl) (of_decide_eq_true (by kernel_rfl)) h0 bel l0) (trodAll_cons_mk (Below.trod laidOut (by kernel_rfl) (of_decide_eq_true (by kernel_rfl)) h1 bel l1) (trodAll_cons_mk (Below.trod laidOut (by kernel_rfl) (of_decide_eq_true (by kernel_rfl)) h2 bel l2) (trodAll_cons_mk (Below.trod laidOut (by kernel_rfl) (of_decide_eq_true (by kernel_rfl)) h3 bel l3) trodAll_mk0)))), rfl, bel.frame _, fun h => by cases h⟩
theorem over (plain : Plain) : Rows.substOrderRow.holds Try.pinned (OpenSpec.ofChange Rows.substOrderSpec) :=
  OpenClaim.holds_of_wide 5 Try.f5 rfl rfl rfl rfl rfl rfl rfl ⟨rfl, rfl, rfl, rfl, rfl⟩ rfl rfl rfl rfl rfl (by kernel_rfl) Try.func5 (by kernel_rfl)
    (of_decide_eq_true (by kernel_rfl)) (by unfold Func.isWrapper; first | (rw [if_pos (by decide +kernel)]; kernel_rfl) | (rw [if_neg (by decide +kernel)]; exact ⟨rfl, rfl⟩))
    (fun os started H enc _ => lifted plain os started H enc)
theorem proved (plain : Plain) : Rows.SubstOrderSaid := over plain
end substOrder
end Go.Proofs.Ytpgoibncgekflaa
end

/-! SubstOrder holds at every input: the law returns true, and what was handed in reads as it did. -/
section
set_option linter.unusedVariables false
set_option linter.unusedSimpArgs false
namespace Go.AE.Ytpgoibncgekflaa
open Go Go.AE Go.Proofs.Ytpgoibncgekflaa

theorem t25 : T.ty 25 = some ti25 := rfl
theorem t23 : T.ty 23 = some ti23 := rfl
theorem t2 : T.ty 2 = some ti2 := rfl
theorem t3 : T.ty 3 = some ti3 := rfl
theorem t9 : T.ty 9 = some ti9 := rfl
theorem t22 : T.ty 22 = some ti22 := rfl
theorem t41 : T.ty 41 = some ti41 := rfl

theorem all2_of : ∀ {l : List AV}, (∀ el ∈ l, ∃ t, IsT el t) → ∃ ts, All2 l ts
  | [], _ => ⟨[], .nil⟩
  | a :: l, h => by
    obtain ⟨t, ht⟩ := h a (by simp)
    obtain ⟨ts, hts⟩ := all2_of (l := l) (fun el hm => h el (by simp [hm]))
    exact ⟨t :: ts, .cons a t l ts ht hts⟩
theorem allB_of : ∀ {l : List AV}, (∀ el ∈ l, ∃ v t, IsBd el v t) → ∃ ts, AllB l ts
  | [], _ => ⟨[], .nil⟩
  | a :: l, h => by
    obtain ⟨v, t, ht⟩ := h a (by simp)
    obtain ⟨ts, hts⟩ := allB_of (l := l) (fun el hm => h el (by simp [hm]))
    exact ⟨(v, t) :: ts, .cons a v t l ts ht hts⟩

def Good (t : TypeId) (cs : List AV) : Prop :=
  (t = 25 → ∃ x, IsT (.agg cs) x) ∧ (t = 23 → ∃ c l, cs = [c] ∧ IsL c l) ∧ (t = 2 → ∃ n, cs = [.v (.int .i64 n)]) ∧ (t = 3 → ∃ n, cs = [.v (.int .i64 n)]) ∧ (t = 9 → ∃ s, cs = [.v (.string s)]) ∧
  (t = 41 → ∃ v x, IsBd (.agg cs) v x) ∧ (t = 22 → ∃ c l, cs = [c] ∧ IsB c l)

theorem wt_good : ∀ {t : TypeId} {cs : List AV}, WT T t cs → Good t cs := by
  intro t cs h
  induction h with
  | bool t i b ht hd =>
    refine ⟨?_, ?_, ?_, ?_, ?_, ?_, ?_⟩ <;> (rintro rfl; first | (rw [t25] at ht; cases ht; cases hd) | (rw [t23] at ht; cases ht; cases hd) | (rw [t2] at ht; cases ht; cases hd) | (rw [t3] at ht; cases ht; cases hd) | (rw [t9] at ht; cases ht; cases hd) | (rw [t41] at ht; cases ht; cases hd) | (rw [t22] at ht; cases ht; cases hd))
  | int t i k n ht hd hw =>
    refine ⟨?_, ?_, ?_, ?_, ?_, ?_, ?_⟩ <;> (rintro rfl; first | (rw [t25] at ht; cases ht; cases hd; done) | (rw [t23] at ht; cases ht; cases hd; done) | (rw [t9] at ht; cases ht; cases hd; done) | (rw [t41] at ht; cases ht; cases hd; done) | (rw [t22] at ht; cases ht; cases hd; done) | (rw [t2] at ht; cases ht; cases hd; exact ⟨n, rfl⟩) | (rw [t3] at ht; cases ht; cases hd; exact ⟨n, rfl⟩))
  | str t i s ht hd hs =>
    refine ⟨?_, ?_, ?_, ?_, ?_, ?_, ?_⟩ <;> (rintro rfl; first | (rw [t25] at ht; cases ht; cases hd; done) | (rw [t23] at ht; cases ht; cases hd; done) | (rw [t2] at ht; cases ht; cases hd; done) | (rw [t3] at ht; cases ht; cases hd; done) | (rw [t41] at ht; cases ht; cases hd; done) | (rw [t22] at ht; cases ht; cases hd; done) | (rw [t9] at ht; cases ht; cases hd; exact ⟨s, rfl⟩))
  | nil t i e ht hd =>
    refine ⟨?_, ?_, ?_, ?_, ?_, ?_, ?_⟩ <;> (rintro rfl; first | (rw [t25] at ht; cases ht; cases hd; done) | (rw [t9] at ht; cases ht; cases hd; done) | (rw [t2] at ht; cases ht; cases hd; done) | (rw [t3] at ht; cases ht; cases hd; done) | (rw [t41] at ht; cases ht; cases hd; done) | exact ⟨_, [], rfl, .nil⟩)
  | slc t i e j l ht hd he hl hel has ih =>
    refine ⟨?_, ?_, ?_, ?_, ?_, ?_, ?_⟩
    · rintro rfl; rw [t25] at ht; cases ht; cases hd
    · rintro rfl
      rw [t23] at ht; cases ht; cases hd
      rw [t25] at he; cases he
      obtain ⟨ts, hts⟩ := all2_of (l := l) (fun el hm => by
        obtain ⟨x, hx⟩ := (ih el hm).1 rfl
        have : asEl true el.cells = some el := has el hm
        simp only [asEl, if_true, Option.some.injEq] at this
        rw [this] at hx
        exact ⟨x, hx⟩)
      exact ⟨_, ts, rfl, .slc _ _ _ _ hts hl⟩
    · rintro rfl; rw [t2] at ht; cases ht; cases hd
    · rintro rfl; rw [t3] at ht; cases ht; cases hd
    · rintro rfl; rw [t9] at ht; cases ht; cases hd
    · rintro rfl; rw [t41] at ht; cases ht; cases hd
    · rintro rfl
      rw [t22] at ht; cases ht; cases hd
      rw [t41] at he; cases he
      obtain ⟨ts, hts⟩ := allB_of (l := l) (fun el hm => by
        obtain ⟨v, x, hx⟩ := (ih el hm).2.2.2.2.2.1 rfl
        have : asEl true el.cells = some el := has el hm
        simp only [asEl, if_true, Option.some.injEq] at this
        rw [this] at hx
        exact ⟨v, x, hx⟩)
      exact ⟨_, ts, rfl, .slc _ _ _ _ hts hl⟩
  | struct t i fs pts ht hd hlen hf ih =>
    refine ⟨?_, ?_, ?_, ?_, ?_, ?_, ?_⟩
    · rintro rfl
      rw [t25] at ht; cases ht; cases hd
      match pts, hlen, ih with
      | [a, b, c, d], _, ih =>
        obtain ⟨k, rfl⟩ := (ih 0 _ a rfl rfl).2.2.2.1 rfl
        obtain ⟨s, rfl⟩ := (ih 1 _ b rfl rfl).2.2.2.2.1 rfl
        obtain ⟨n, rfl⟩ := (ih 2 _ c rfl rfl).2.2.1 rfl
        obtain ⟨x, l, rfl, hx⟩ := (ih 3 _ d rfl rfl).2.1 rfl
        exact ⟨_, .mk k s n x l hx⟩
    · rintro rfl; rw [t23] at ht; cases ht; cases hd
    · rintro rfl; rw [t2] at ht; cases ht; cases hd
    · rintro rfl; rw [t3] at ht; cases ht; cases hd
    · rintro rfl; rw [t9] at ht; cases ht; cases hd
    · rintro rfl
      rw [t41] at ht; cases ht; cases hd
      match pts, hlen, ih with
      | [a, b], _, ih =>
        obtain ⟨v, rfl⟩ := (ih 0 _ a rfl rfl).2.2.1 rfl
        obtain ⟨x, hx⟩ := (ih 1 _ b rfl rfl).1 rfl
        refine ⟨v, x, ?_⟩
        have : ([[AV.v (.int .i64 v)], b] : List (List AV)).flatten = .v (.int .i64 v) :: b := by simp
        rw [this]
        exact .mk v b x hx
    · rintro rfl; rw [t22] at ht; cases ht; cases hd

theorem one_cell {a c : AV} (h : asEl false a.cells = some a) (hc : a.cells = [c]) : a = c := by
  rw [hc] at h
  simpa [asEl] using h.symm

theorem order_plain : substOrder.Plain := by
  intro a0 a1 a2 a3 w0 e0 w1 e1 w2 e2 w3 e3
  obtain ⟨c0, bs, h0, hb⟩ := (wt_good w0).2.2.2.2.2.2 rfl
  obtain ⟨n1, h1⟩ := (wt_good w1).2.2.1 rfl
  obtain ⟨n2, h2⟩ := (wt_good w2).2.2.1 rfl
  obtain ⟨x, hx⟩ := (wt_good w3).1 rfl
  rw [one_cell e0 h0, one_cell e1 h1, one_cell e2 h2]
  have h3 : AV.agg a3.cells = a3 := by
    have : asEl true a3.cells = some a3 := e3
    simpa [asEl] using this
  rw [h3] at hx
  exact callW_iff.1 (order_ok live_ok hb hx n1 n2)
end Go.AE.Ytpgoibncgekflaa
namespace Go.Proofs.Ytpgoibncgekflaa
theorem substOrder_holds : Rows.SubstOrderSaid := substOrder.proved Go.AE.Ytpgoibncgekflaa.order_plain
#print axioms substOrder_holds
end Go.Proofs.Ytpgoibncgekflaa
end

/-! The row of SubstWalks, out of its plain law. -/
section
set_option linter.unusedVariables false
namespace Go.Proofs.Ytpgoibncgekflaa
open Go Go.AE Go.Proofs Go.ChangeShapes Go.WideShapes Go.ChangeAt Go.RowKit
open Go.ChangeMaps (open_string shut_string)
namespace substWalks
theorem args {I : Cells} {W : World} {a0 a1 a2 : AV} {v0 v1 v2 : Value} (r0 : Rep I W [] a0 v0) (r1 : Rep I W [] a1 v1) (r2 : Rep I W [] a2 v2) : ArgsRep I W [] [a0, a1, a2] #[v0, v1, v2] := by
  refine ⟨rfl, fun i a h => ?_⟩
  match i, h with
  | 0, h => cases h; exact r0
  | 1, h => cases h; exact r1
  | 2, h => cases h; exact r2
def Plain : Prop := ∀ a0 a1 a2 : AV, WT T 22 a0.cells → asEl ti22.agg a0.cells = some a0 → WT T 25 a1.cells → asEl ti25.agg a1.cells = some a1 → WT T 2 a2.cells → asEl ti2.agg a2.cells = some a2 →
  ∃ n, callN F n 3 [a0, a1, a2] [] = some (.v (.bool true), [])

set_option maxRecDepth 100000 in
theorem lifted (plain : Plain) (os : Os) (started : os.Started) (H : Type) (enc : TypeId × Value → H) :
    ReturnsInHanded {} Try.checked os 3 .any (Rows.substWalksSpec.pre6 enc Try.prog Try.f3 Rows.substWalksRow.domain false) (Rows.substWalksSpec.post enc Try.prog Try.f3 false true false false) := by
  refine returnsInHanded_of_change_sized (C := Try.checked) own started (by kernel_rfl) Try.func3
    (ChangeSpec.witness6 (enc := enc) (C := Try.checked) false ⟨#[], #[ti22.zero, ti25.zero, ti2.zero], []⟩ 8 (by kernel_rfl) (by kernel_rfl) (by kernel_rfl) (by kernel_rfl)) ?_
  intro W base args' ds gs before hval0 hW hcnd hsz0 _
  have hval : ∀ (j : Nat) t v, Try.f3.params[j]? = some t → args'[j]? = some v → Value.okWide Try.prog W .any base t v := hval0
  have hW' := hW
  obtain ⟨p, q, hA0, hV, rfl, hfz, hnd⟩ := hW
  have hA : DataW.TrodAll enc Try.prog W 0 (fun _ => true) true Try.f3.params.toList args'.toList ds p := hA0
  rw [Try.params3] at hA hval
  obtain ⟨v0, vs0, d0, ds0, p0, q0, hargs, rfl, rfl, h0, r0⟩ := trodAll_cons hA
  obtain ⟨v1, vs1, d1, ds1, p1, q1, rfl, rfl, rfl, h1, r1⟩ := trodAll_cons r0
  obtain ⟨v2, vs2, d2, ds2, p2, q2, rfl, rfl, rfl, h2, r2⟩ := trodAll_cons r1
  obtain ⟨rfl, rfl, rfl⟩ := trodAll_nil r2
  obtain rfl : args' = #[v0, v1, v2] := by cases args'; simp_all
  obtain ⟨rfl, rfl⟩ := trodVars_none hV
  obtain ⟨a0, w0, e0, x0⟩ := trod_arg hT hG (t := 22) (i := ti22) (by decide) rfl (hval 0 22 v0 rfl rfl) h0
  obtain ⟨a1, w1, e1, x1⟩ := trod_arg hT hG (t := 25) (i := ti25) (by decide) rfl (hval 1 25 v1 rfl rfl) h1
  obtain ⟨a2, w2, e2, x2⟩ := trod_arg hT hG (t := 2) (i := ti2) (by decide) rfl (hval 2 2 v2 rfl rfl) h2
  have l0 : ∀ x ∈ p0, x.block < W.heap.size := by obtain ⟨m, hm⟩ := h0; exact DataW.trod_lt m _ _ _ hm
  have l1 : ∀ x ∈ p1, x.block < W.heap.size := by obtain ⟨m, hm⟩ := h1; exact DataW.trod_lt m _ _ _ hm
  have l2 : ∀ x ∈ p2, x.block < W.heap.size := by obtain ⟨m, hm⟩ := h2; exact DataW.trod_lt m _ _ _ hm
  obtain ⟨n, hn⟩ := plain a0 a1 a2 w0 e0 w1 e1 w2 e2
  refine (law_calls (args x0 x1 x2) hn).mono fun e W' ⟨he, bel⟩ => ?_
  subst he
  exact ⟨_, rfl, _, _, _, [], _, [], hW', trodAll_mk1 (shut_bool Try.underlying4 _),
    (trodAll_cons_mk (Below.trod laidOut (by kernel_rfl) (of_decide_eq_true (by kernel_rfl)) h0 bel l0) (trodAll_cons_mk (Below.trod laidOut (by kernel_rfl) (of_decide_eq_true (by kernel_rfl)) h1 bel l1) (trodAll_cons_mk (Below.trod laidOut (by kernel_rfl) (of_decide_eq_true (by kernel_rfl)) h2 bel l2) trodAll_mk0))), rfl, bel.frame _, fun h => by cases h⟩
theorem over (plain : Plain) : Rows.substWalksRow.holds Try.pinned (OpenSpec.ofChange Rows.substWalksSpec) :=
  OpenClaim.holds_of_wide 3 Try.f3 rfl rfl rfl rfl rfl rfl rfl ⟨rfl, rfl, rfl, rfl, rfl⟩ rfl rfl rfl rfl rfl (by kernel_rfl) Try.func3 (by kernel_rfl)
    (of_decide_eq_true (by kernel_rfl)) (by unfold Func.isWrapper; first | (rw [if_pos (by decide +kernel)]; kernel_rfl) | (rw [if_neg (by decide +kernel)]; exact ⟨rfl, rfl⟩))
    (fun os started H enc _ => lifted plain os started H enc)
theorem proved (plain : Plain) : Rows.SubstWalksSaid := over plain
end substWalks
end Go.Proofs.Ytpgoibncgekflaa
end

/-! SubstWalks holds: whatever the input, it returns true, and the input reads as it did. Conditions: none. -/
section
set_option linter.unusedVariables false
set_option linter.unusedSimpArgs false
namespace Go.AE.Ytpgoibncgekflaa
open Go Go.AE Go.Proofs.Ytpgoibncgekflaa

theorem wrap_pred {m : Int} (h0 : 0 ≤ m) (h1 : m ≤ 1000000) : IntKind.i64.wrap (m - 1) = m - 1 := by
  rw [IntWalk.i64_in]; omega
mutual
theorem left_size : ∀ (t : Tm) (m : Int), 0 ≤ m → m ≤ 1000000 → -1 ≤ left t m ∧ left t m ≤ m ∧ (0 ≤ left t m → left t m + size t = m)
  | .mk k s n l, m, h0, h1 => by
    rw [left, size, wrap_pred h0 h1]
    have := leftL_size l (m - 1) (by omega) (by omega)
    refine ⟨this.1, by omega, fun h => ?_⟩
    have := this.2.2 h
    omega
theorem leftL_size : ∀ (l : List Tm) (m : Int), -1 ≤ m → m ≤ 1000000 → -1 ≤ leftL l m ∧ leftL l m ≤ m ∧ (0 ≤ leftL l m → leftL l m + sizeL l = m)
  | [], m, h0, h1 => by simp only [leftL, sizeL]; omega
  | t :: l, m, h0, h1 => by
    simp only [leftL, sizeL]
    by_cases hm : m < 0
    · rw [if_pos hm]; omega
    · rw [if_neg hm]
      have a := left_size t m (by omega) h1
      have b := leftL_size l (left t m) (by omega) (by omega)
      refine ⟨b.1, by omega, fun h => ?_⟩
      have := b.2.2 h
      have := a.2.2 (by omega)
      omega
end
theorem big_size {bs : List (Int × Tm)} {ts : List Tm} (h : big bs ts = false) : bs.length ≤ 100 ∧ (∀ p ∈ bs, size p.2 ≤ 300) ∧ (∀ t ∈ ts, size t ≤ 3000) := by
  simp only [big, Bool.or_eq_false_iff, decide_eq_false_iff_not, Bool.not_eq_false', List.all_eq_true, decide_eq_true_eq] at h
  refine ⟨by omega, fun p hp => ?_, fun t ht => ?_⟩
  · have h1 := h.1.2 p hp
    have := (left_size p.2 300 (by omega) (by omega)).2.2 h1
    omega
  · have h1 := h.2 t ht
    have := (left_size t 3000 (by omega) (by omega)).2.2 h1
    omega

theorem same_call {a b : AV} {t : Tm} (ha : IsT a t) (hb : IsT b t) : callW F 15 [a, b] [] = some (.v (.bool true), []) := by
  have := same_ok _ t t a b (Nat.lt_succ_self _) ha hb
  rw [same_refl] at this; exact this

theorem walks_ok {b t : AV} {T : Tm} {bs : List (Int × Tm)} (hb : IsB b bs) (ht : IsT t T) (x : Int) : callW F 3 [b, t, .v (.int .i64 x)] [] = some (.v (.bool true), []) := by
  have hlive := live_ok
  have hbig := big_ok (ts := .slc 4 true true [t]) hb rfl (All2.cons t T [] [] ht .nil) (by simp [maxLen])
  have s1 : ∀ h : List AO, t.snap1 h = some t := fun h => ht.snap
  have sb : ∀ h : List AO, b.snap1 h = some b := by intro h; cases hb <;> rfl
  have sl : ∀ h : List AO, (AV.slc 4 true true [t]).snap1 h = some (.slc 4 true true [t]) := fun _ => rfl
  have ht' := ht
  refine callW_pure (c := c3) rfl rfl 0 ?_
  cases hB : big bs [T] with
  | true =>
    rw [hB] at hbig
    cases ht with
    | mk k s n c l hc =>
    have b1 : ∀ h : List AO, bs1 h 4 (some (.agg [.v (.int .i64 k), .v (.string s), .v (.int .i64 n), c])) = some (.slc 4 true true [.agg [.v (.int .i64 k), .v (.string s), .v (.int .i64 n), c]], h) := fun h => bs1_some rfl rfl
    simp only [c3, start, List.replicate, c3_0, c3_1, c3_2, c3_3, hlive, s1, sb, sl, b1, hbig, e_bslice1, e_bslice2, bs1, bs2, e_build, bdH_some, bd_nil, bd_cons, bd1, cl_agg, cl_int, toL, List.map_cons, List.map_nil, putAt, List.set_cons_zero, List.set_cons_succ, and_self, Nat.le_refl, evStore, app_get, app_set, g_agg, run_nil, run_cons, stp_plain, stp_guard, put_some, pass_eq, pick_tt, pick_ff, pick_tf, pick_ft, pick_u, reg_some, thn_normal, thn_exit, thn_ret, cnd_t, cnd_f, blk_normal, blk_ret, blk_exit, x_seq, x_region, x_cond, x_block, x_loop, x_ret, x_exit, x_skip, e_mov, e_pick, pk_t, pk_f, withH_some, e_box, bx_some, e_load, e_store, stH_some, e_nil, e_bin, e_eqv, eqH_f, eqH_t, e_un, e_fa, e_ia, ia_eq, nat_eq, natV_nat, e_len, lnH_some, e_extract, ex_0, ex_1, e_call0, e_call1, e_call2, e_call3, pc0_eq, pc1_some, pc2_some, pc3_some, fin_some, g_var0, g_vars, g_loc0, g_locs, g_int, g_bool, g_str, g_sl, s_none, s_zero, s_succ, cl_nil, cl_str, cl_bool, cl_slc, cl_own, evFa, evNil, evLoad, asEl, evBin, intBin, strBin, evUn, len_nil, len_slc, len_str, clr, List.length_nil, List.length_cons, List.getElem?_cons_zero, List.getElem?_cons_succ, Nat.reduceAdd, Nat.zero_add, Nat.add_zero, Nat.reduceLeDiff, Nat.reduceSub, ↓reduceIte, List.drop_succ_cons, List.drop_zero, List.take_succ_cons, List.take_zero, Bool.false_eq_true, List.nil_append, List.cons_append, Bool.not_true, Bool.not_false, cond_true, cond_false, bne, lv_ret, lv_normal, res1, res2, lv2_some, res_var, res_cell, lvf_v, lvf_slc, res1c, lvo1_some]
  | false =>
    rw [hB] at hbig
    have hsz := big_size hB
    obtain ⟨y, z, hy, hz, w1, w2⟩ := walks hb (by omega) ht
    obtain ⟨es, hes, k1, k2⟩ := looks hb (by omega)
    obtain ⟨f1, hf1, g1⟩ := shift16 x (t := T) (by have := hsz.2.2 T (by simp); omega) ht
    obtain ⟨f2, hf2, g2⟩ := shift17 x (t := T) (by have := hsz.2.2 T (by simp); omega) ht
    have e1 := same_call hy hz
    have e2 := same_call hf1 hf2
    have sy : ∀ h : List AO, y.snap1 h = some y := fun h => hy.snap
    have sz : ∀ h : List AO, z.snap1 h = some z := fun h => hz.snap
    have sf1 : ∀ h : List AO, f1.snap1 h = some f1 := fun h => hf1.snap
    have sf2 : ∀ h : List AO, f2.snap1 h = some f2 := fun h => hf2.snap
    cases ht with
    | mk k s n c l hc =>
    obtain ⟨cs, u, f, hla, hu⟩ := look_form n hes.reverse
    have k1 := k1 n
    have k2 := k2 n
    rw [hla] at k1 k2
    have e3 := same_call hu hu
    have su : ∀ h : List AO, (AV.agg cs).snap1 h = some (.agg cs) := fun h => hu.snap
    have b1 : ∀ h : List AO, bs1 h 4 (some (.agg [.v (.int .i64 k), .v (.string s), .v (.int .i64 n), c])) = some (.slc 4 true true [.agg [.v (.int .i64 k), .v (.string s), .v (.int .i64 n), c]], h) := fun h => bs1_some rfl rfl
    generalize walkT bs.reverse 2000 (Tm.mk k s n l) = w at hy hz w1 w2
    obtain ⟨o1, o2, o3⟩ := w
    have hq : (o2 == o2) = true := by simp
    have hq2 : ∀ h, eqNil h .bool (.v (.bool f)) (.v (.bool f)) = some true := by intro h; simp [eqNil]
    cases hy
    cases hz
    cases hu
    simp only [c3, start, List.replicate, c3_0, c3_1, c3_2, c3_4, c3_5, c3_6, c3_7, c3_8, hlive, s1, sb, sl, b1, hbig, w1, w2, k1, k2, g1, g2, e1, e2, e3, sy, sz, su, sf1, sf2, hq, hq2, snapv, q9z, e_bslice1, e_bslice2, bs1, bs2, e_build, bdH_some, bd_nil, bd_cons, bd1, cl_agg, cl_int, toL, List.map_cons, List.map_nil, putAt, List.set_cons_zero, List.set_cons_succ, and_self, Nat.le_refl, evStore, app_get, app_set, g_agg, run_nil, run_cons, stp_plain, stp_guard, put_some, pass_eq, pick_tt, pick_ff, pick_tf, pick_ft, pick_u, reg_some, thn_normal, thn_exit, thn_ret, cnd_t, cnd_f, blk_normal, blk_ret, blk_exit, x_seq, x_region, x_cond, x_block, x_loop, x_ret, x_exit, x_skip, e_mov, e_pick, pk_t, pk_f, withH_some, e_box, bx_some, e_load, e_store, stH_some, e_nil, e_bin, e_eqv, eqH_f, eqH_t, e_un, e_fa, e_ia, ia_eq, nat_eq, natV_nat, e_len, lnH_some, e_extract, ex_0, ex_1, e_call0, e_call1, e_call2, e_call3, pc0_eq, pc1_some, pc2_some, pc3_some, fin_some, g_var0, g_vars, g_loc0, g_locs, g_int, g_bool, g_str, g_sl, s_none, s_zero, s_succ, cl_nil, cl_str, cl_bool, cl_slc, cl_own, evFa, evNil, evLoad, asEl, evBin, intBin, strBin, evUn, len_nil, len_slc, len_str, clr, List.length_nil, List.length_cons, List.getElem?_cons_zero, List.getElem?_cons_succ, Nat.reduceAdd, Nat.zero_add, Nat.add_zero, Nat.reduceLeDiff, Nat.reduceSub, ↓reduceIte, List.drop_succ_cons, List.drop_zero, List.take_succ_cons, List.take_zero, Bool.false_eq_true, List.nil_append, List.cons_append, Bool.not_true, Bool.not_false, cond_true, cond_false, bne, lv_ret, lv_normal, res1, res2, lv2_some, res_var, res_cell, lvf_v, lvf_slc, res1c, lvo1_some]

theorem walks_plain : substWalks.Plain := by
  intro a0 a1 a2 w0 e0 w1 e1 w2 e2
  obtain ⟨c0, bs, h0, hb⟩ := (wt_good w0).2.2.2.2.2.2 rfl
  obtain ⟨n2, h2⟩ := (wt_good w2).2.2.1 rfl
  obtain ⟨x, hx⟩ := (wt_good w1).1 rfl
  rw [one_cell e0 h0, one_cell e2 h2]
  have h3 : AV.agg a1.cells = a1 := by
    have : asEl true a1.cells = some a1 := e1
    simpa [asEl] using this
  rw [h3] at hx
  exact callW_iff.1 (walks_ok hb hx n2)
end Go.AE.Ytpgoibncgekflaa
namespace Go.Proofs.Ytpgoibncgekflaa
theorem substWalks_holds : Rows.SubstWalksSaid := substWalks.proved Go.AE.Ytpgoibncgekflaa.walks_plain
#print axioms substWalks_holds
end Go.Proofs.Ytpgoibncgekflaa
end

/-! The row of SubstTwice, out of its plain law. -/
section
set_option linter.unusedVariables false
namespace Go.Proofs.Ytpgoibncgekflaa
open Go Go.AE Go.Proofs Go.ChangeShapes Go.WideShapes Go.ChangeAt Go.RowKit
open Go.ChangeMaps (open_string shut_string)
namespace substTwice
theorem args {I : Cells} {W : World} {a0 a1 : AV} {v0 v1 : Value} (r0 : Rep I W [] a0 v0) (r1 : Rep I W [] a1 v1) : ArgsRep I W [] [a0, a1] #[v0, v1] := by
  refine ⟨rfl, fun i a h => ?_⟩
  match i, h with
  | 0, h => cases h; exact r0
  | 1, h => cases h; exact r1
def Plain : Prop := ∀ a0 a1 : AV, WT T 22 a0.cells → asEl ti22.agg a0.cells = some a0 → WT T 25 a1.cells → asEl ti25.agg a1.cells = some a1 →
  ∃ n, callN F n 4 [a0, a1] [] = some (.v (.bool true), [])

set_option maxRecDepth 100000 in
theorem lifted (plain : Plain) (os : Os) (started : os.Started) (H : Type) (enc : TypeId × Value → H) :
    ReturnsInHanded {} Try.checked os 4 .any (Rows.substTwiceSpec.pre6 enc Try.prog Try.f4 Rows.substTwiceRow.domain false) (Rows.substTwiceSpec.post enc Try.prog Try.f4 false true false false) := by
  refine returnsInHanded_of_change_sized (C := Try.checked) own started (by kernel_rfl) Try.func4
    (ChangeSpec.witness6 (enc := enc) (C := Try.checked) false ⟨#[], #[ti22.zero, ti25.zero], []⟩ 8 (by kernel_rfl) (by kernel_rfl) (by kernel_rfl) (by kernel_rfl)) ?_
  intro W base args' ds gs before hval0 hW hcnd hsz0 _
  have hval : ∀ (j : Nat) t v, Try.f4.params[j]? = some t → args'[j]? = some v → Value.okWide Try.prog W .any base t v := hval0
  have hW' := hW
  obtain ⟨p, q, hA0, hV, rfl, hfz, hnd⟩ := hW
  have hA : DataW.TrodAll enc Try.prog W 0 (fun _ => true) true Try.f4.params.toList args'.toList ds p := hA0
  rw [Try.params4] at hA hval
  obtain ⟨v0, vs0, d0, ds0, p0, q0, hargs, rfl, rfl, h0, r0⟩ := trodAll_cons hA
  obtain ⟨v1, vs1, d1, ds1, p1, q1, rfl, rfl, rfl, h1, r1⟩ := trodAll_cons r0
  obtain ⟨rfl, rfl, rfl⟩ := trodAll_nil r1
  obtain rfl : args' = #[v0, v1] := by cases args'; simp_all
  obtain ⟨rfl, rfl⟩ := trodVars_none hV
  obtain ⟨a0, w0, e0, x0⟩ := trod_arg hT hG (t := 22) (i := ti22) (by decide) rfl (hval 0 22 v0 rfl rfl) h0
  obtain ⟨a1, w1, e1, x1⟩ := trod_arg hT hG (t := 25) (i := ti25) (by decide) rfl (hval 1 25 v1 rfl rfl) h1
  have l0 : ∀ x ∈ p0, x.block < W.heap.size := by obtain ⟨m, hm⟩ := h0; exact DataW.trod_lt m _ _ _ hm
  have l1 : ∀ x ∈ p1, x.block < W.heap.size := by obtain ⟨m, hm⟩ := h1; exact DataW.trod_lt m _ _ _ hm
  obtain ⟨n, hn⟩ := plain a0 a1 w0 e0 w1 e1
  refine (law_calls (args x0 x1) hn).mono fun e W' ⟨he, bel⟩ => ?_
  subst he
  exact ⟨_, rfl, _, _, _, [], _, [], hW', trodAll_mk1 (shut_bool Try.underlying4 _),
    (trodAll_cons_mk (Below.trod laidOut (by kernel_rfl) (of_decide_eq_true (by kernel_rfl)) h0 bel l0) (trodAll_cons_mk (Below.trod laidOut (by kernel_rfl) (of_decide_eq_true (by kernel_rfl)) h1 bel l1) trodAll_mk0)), rfl, bel.frame _, fun h => by cases h⟩
theorem over (plain : Plain) : Rows.substTwiceRow.holds Try.pinned (OpenSpec.ofChange Rows.substTwiceSpec) :=
  OpenClaim.holds_of_wide 4 Try.f4 rfl rfl rfl rfl rfl rfl rfl ⟨rfl, rfl, rfl, rfl, rfl⟩ rfl rfl rfl rfl rfl (by kernel_rfl) Try.func4 (by kernel_rfl)
    (of_decide_eq_true (by kernel_rfl)) (by unfold Func.isWrapper; first | (rw [if_pos (by decide +kernel)]; kernel_rfl) | (rw [if_neg (by decide +kernel)]; exact ⟨rfl, rfl⟩))
    (fun os started H enc _ => lifted plain os started H enc)
theorem proved (plain : Plain) : Rows.SubstTwiceSaid := over plain
end substTwice
end Go.Proofs.Ytpgoibncgekflaa
end

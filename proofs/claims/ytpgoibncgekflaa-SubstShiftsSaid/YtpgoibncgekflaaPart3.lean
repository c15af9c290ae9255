/- Texts of this claim, put together. -/
import Derived.Test.YtpgoibncgekflaaPart2
/-! Fresh of the program: it shifts the numbers of all Vars. -/
section
set_option linter.unusedVariables false
set_option linter.unusedSimpArgs false
namespace Go.AE.Ytpgoibncgekflaa
open Go Go.AE Go.Proofs.Ytpgoibncgekflaa

theorem turn_ok {H : List AO} {id : Nat} {x : Int} (hid : H[id]? = some (.box [.v (.int .i64 x)])) (hb : H.all (AO.below H.length) = true) (n : Int) : callW F 50 [.v (.int .i64 n), .ptr id 0] H = some (.v (.int .i64 (IntKind.i64.wrap (n + x))), H) := by
  refine callW_own (c := c50) rfl rfl 0 ?_
  have l1 := bx_ld (h := H ++ []) (id := id) (by rw [List.append_nil]; exact hid) (a := false) (n := 1) (o := 0)
  have body : exec (callW F) 0 c50.body (start c50 [.v (.int .i64 n), .ptr id 0]) (H ++ []) = some (.ret, [.v (.int .i64 n), .ptr id 0, .v (.int .i64 (IntKind.i64.wrap (n + x)))], H ++ []) := by
    simp only [c50, start, List.replicate, c50_0, c50_1, l1, e_bslice1, e_bslice2, bs1, bs2, e_build, bdH_some, bd_nil, bd_cons, bd1, cl_agg, cl_int, toL, List.map_cons, List.map_nil, putAt, List.set_cons_zero, List.set_cons_succ, and_self, Nat.le_refl, app_get, app_set, g_agg, run_nil, run_cons, stp_plain, stp_guard, put_some, pass_eq, pick_tt, pick_ff, pick_tf, pick_ft, pick_u, reg_some, thn_normal, thn_exit, thn_ret, cnd_t, cnd_f, blk_normal, blk_ret, blk_exit, x_seq, x_region, x_cond, x_block, x_loop, x_ret, x_exit, x_skip, e_mov, e_pick, pk_t, pk_f, withH_some, e_box, e_load, e_store, stH_some, e_nil, e_bin, e_eqv, eqH_f, eqH_t, e_un, e_fa, e_ia, ia_eq, nat_eq, natV_nat, e_len, lnH_some, e_extract, ex_0, ex_1, e_call0, e_call1, e_call2, e_call3, pc0_eq, pc1_some, pc2_some, pc3_some, fin_some, g_var0, g_vars, g_loc0, g_locs, g_int, g_bool, g_str, g_sl, s_none, s_zero, s_succ, cl_nil, cl_str, cl_bool, cl_slc, cl_own, evFa, evNil, asEl, evBin, intBin, strBin, evUn, len_nil, len_slc, len_str, clr, List.length_nil, List.length_cons, List.getElem?_cons_zero, List.getElem?_cons_succ, Nat.reduceAdd, Nat.zero_add, Nat.add_zero, Nat.reduceLeDiff, Nat.reduceSub, ↓reduceIte, List.drop_succ_cons, List.drop_zero, List.take_succ_cons, List.take_zero, Bool.false_eq_true, List.nil_append, List.cons_append, Bool.not_true, Bool.not_false, cond_true, cond_false, bne, lv_ret, lv_normal, res1, res2, lv2_some, res_var, res_cell, lvf_v, lvf_slc, res1c, lvo1_some, e_mm, mm_max, mm_min]
  rw [body, leave_own rfl hb]
  exact lvo_one rfl

theorem e_mkfn {call : CallF} {vars env : List AV} {h : List AO} {f : Fn} {first cap : List Opd} : evOp call vars env h (.mkfn f first cap) = some (.fn f (first.map (getO vars env)) (cap.map (getO vars env)), h) := rfl
def cv (call : CallF) (h : List AO) (xs : List AV) : AV → Option (AV × List AO)
  | .fn (.func f) first cap => call f (first ++ xs ++ cap) h
  | _ => none
theorem e_callv {call : CallF} {vars env : List AV} {h : List AO} {x : Opd} {args : List Opd} : evOp call vars env h (.callv x args) = cv call h (args.map (getO vars env)) (getO vars env x) := by
  simp only [evOp, cv]
  rfl
theorem cv_fn {call : CallF} {h : List AO} {f : FuncId} {xs first cap : List AV} : cv call h xs (.fn (.func f) first cap) = call f (first ++ xs ++ cap) h := rfl

section
variable {H : List AO} {l : List AO}
theorem h_ld {a : Bool} {sz k o : Nat} : evLoad (H ++ l) a sz (.ptr (H.length + k) o) = ldAt l k a sz o := own_ld rfl
theorem h_ld0 {a : Bool} {sz o : Nat} : evLoad (H ++ l) a sz (.ptr H.length o) = ldAt l 0 a sz o := own_ld0 rfl
theorem h_st {sz k o : Nat} {x : AV} : evStore (H ++ l) sz (.ptr (H.length + k) o) x = preH H (stAt l sz k o x) := own_st rfl
theorem h_st0 {sz o : Nat} {x : AV} : evStore (H ++ l) sz (.ptr H.length o) x = preH H (stAt l sz 0 o x) := own_st0 rfl
theorem h_bx {cs : List AV} : bx (H ++ l) (some cs) = some (.ptr (H.length + l.length) 0, H ++ (l ++ [.box cs])) := own_bx rfl

def K49 : List Bool := [false, true, true, true, true, false, false, false, false, true, true, true, false]
def fnV (id : Nat) : AV := .fn (.func 50) [] [.ptr id 0]
def L49 (id B n : Nat) (c : AV) (i : Int) : List AV := [.junk, fnV id, .ptr B 0, .ptr (B + 1) 0, .own 4 (B + 2) 0 0 n, .junk, .junk, .junk, .junk, c, .v (.int .i64 n), .v (.int .i64 i), .junk]

theorem zeroEl4 : zeroEl [(.int .i64 0), (.string ⟨#[]⟩), (.int .i64 0), (.slice none 0 0)] = .agg zeroC := rfl
theorem IsT.eta {a : AV} {t : Tm} (ht : IsT a t) : AV.agg a.cells = a := by
  cases ht; rfl
theorem IsT.cellB {a : AV} {t : Tm} (ht : IsT a t) : a.cells.all AV.isCell = true := by
  cases ht with
  | mk k s n c l hc => cases hc <;> rfl
theorem app_set_one {x : AO} {l : List AO} {k : Nat} (h : k < l.length) {y : AO} : (l ++ [x]).set k y = l.set k y ++ [x] := List.set_append_left _ _ h

theorem each_loop {K : Nat} {id : Nat} {c : AV} {es : List AV} {cs0 cs1 : List AV} (hs : Sl 4 c es) (hm : es.length ≤ 100000) (x : Int) (hid : H[id]? = some (.box [.v (.int .i64 x)])) (hb : H.all (AO.below H.length) = true) (hb0 : (AO.box cs0).below 0 = true) (hb1 : (AO.box cs1).below 0 = true) :
    ∀ (l : List Tm) (i : Nat) (ds : List AV) (dl : List Tm) (tail : List AO) (vars : List AV), i + l.length = es.length → ds.length = i → All2 (es.drop i) l → All2 ds dl → tail.all (AO.below 0) = true →
      (∀ t ∈ l, ∀ (e : AV) (H' : List AO), IsT e t → H'[id]? = some (.box [.v (.int .i64 x)]) → H'.all (AO.below H'.length) = true → ∃ r, IsT r (shiftT x t) ∧ callW F 49 [e, fnV id] H' = some (r, H')) →
      clr K49 vars = L49 id H.length es.length c i →
      ∃ ds' tail' x5 x6 x7 x8 x12, loopN (exec (callW F) K c49_12) K49 (l.length + 1) vars (H ++ (.box cs0 :: .box cs1 :: .row 4 0 (ds ++ List.replicate l.length (.agg zeroC)) 0 :: tail)) = some (.exit 0, [.junk, fnV id, .ptr H.length 0, .ptr (H.length + 1) 0, .own 4 (H.length + 2) 0 0 es.length, x5, x6, x7, x8, c, .v (.int .i64 es.length), .v (.int .i64 es.length), x12], H ++ (.box cs0 :: .box cs1 :: .row 4 0 ds' 0 :: tail')) ∧ All2 ds' (dl ++ shiftL x l) ∧ ds'.length = es.length := by
  intro l
  induction l with
  | nil =>
    intro i ds dl tail vars hi hds _ hall htl _ hv
    have hil : i = es.length := by simpa using hi
    subst hil
    have hlt : decide ((es.length : Int) < (es.length : Int)) = false := by simp
    refine ⟨ds, tail, .junk, .junk, .junk, .junk, .v (.bool false), loop_exit ?_, by simpa [shiftL] using hall, hds⟩
    rw [hv]
    simp only [L49, c49_12, c49_8, hlt, List.replicate, List.append_nil, e_bslice1, e_bslice2, bs1, bs2, e_build, bdH_some, bd_nil, bd_cons, bd1, cl_agg, cl_int, toL, List.map_cons, List.map_nil, putAt, List.set_cons_zero, List.set_cons_succ, and_self, Nat.le_refl, app_get, app_set, g_agg, run_nil, run_cons, stp_plain, stp_guard, put_some, pass_eq, pick_tt, pick_ff, pick_tf, pick_ft, pick_u, reg_some, thn_normal, thn_exit, thn_ret, cnd_t, cnd_f, blk_normal, blk_ret, blk_exit, x_seq, x_region, x_cond, x_block, x_loop, x_ret, x_exit, x_skip, e_mov, e_pick, pk_t, pk_f, withH_some, e_box, e_load, e_store, stH_some, e_nil, e_bin, e_eqv, eqH_f, eqH_t, e_un, e_fa, e_ia, ia_eq, nat_eq, natV_nat, e_len, lnH_some, e_extract, ex_0, ex_1, e_call0, e_call1, e_call2, e_call3, pc0_eq, pc1_some, pc2_some, pc3_some, fin_some, g_var0, g_vars, g_loc0, g_locs, g_int, g_bool, g_str, g_sl, s_none, s_zero, s_succ, cl_nil, cl_str, cl_bool, cl_slc, cl_own, evFa, evNil, asEl, evBin, intBin, strBin, evUn, len_nil, len_slc, len_str, clr, List.length_nil, List.length_cons, List.getElem?_cons_zero, List.getElem?_cons_succ, Nat.reduceAdd, Nat.zero_add, Nat.add_zero, Nat.reduceLeDiff, Nat.reduceSub, ↓reduceIte, List.drop_succ_cons, List.drop_zero, List.take_succ_cons, List.take_zero, Bool.false_eq_true, List.nil_append, List.cons_append, Bool.not_true, Bool.not_false, cond_true, cond_false, bne, lv_ret, lv_normal, res1, res2, lv2_some, res_var, res_cell, lvf_v, lvf_slc, res1c, lvo1_some, e_mm, mm_max, mm_min]
  | cons t l ih =>
    intro i ds dl tail vars hi hds hes hall htl hcall hv
    have hil : i < es.length := by simp at hi; omega
    have he : es[i]? = some (es[i]'hil) := List.getElem?_eq_getElem _
    have hd : es.drop i = es[i] :: es.drop (i + 1) := List.drop_eq_getElem_cons hil
    rw [hd] at hes
    generalize es[i]'hil = e at hes he
    cases hes with
    | cons _ _ _ _ hT hs' =>
    have hlt : (decide ((i : Int) < (es.length : Int))) = true := by simp; omega
    have hlen : (ds ++ List.replicate (t :: l).length (AV.agg zeroC)).length = es.length := by simp at hi ⊢; omega
    have tl2 : (tail ++ [AO.box e.cells]).all (AO.below 0) = true := by
      have := hT.bel
      simp only [List.all_append, List.all_cons, List.all_nil, htl, this, Bool.and_true]
    have hbl : (H ++ (.box cs0 :: .box cs1 :: .row 4 0 (ds ++ List.replicate (t :: l).length (.agg zeroC)) 0 :: (tail ++ [AO.box e.cells])) : List AO).all (AO.below (H ++ (.box cs0 :: .box cs1 :: .row 4 0 (ds ++ List.replicate (t :: l).length (.agg zeroC)) 0 :: (tail ++ [AO.box e.cells])) : List AO).length) = true := by
      rw [List.all_append, Bool.and_eq_true]
      refine ⟨all_below_mono (by simp) hb, all_below_mono (Nat.zero_le _) ?_⟩
      have hr : ∀ L : List AV, (AO.row 4 0 L 0).below 0 = true := fun _ => rfl
      simp only [List.all_cons, hb0, hb1, hr, tl2, Bool.and_true]
    obtain ⟨r, hr, hc⟩ := hcall t (by simp) _ _ hT (his_get hid) hbl
    have q1 := hs.ia he
    have q3 : ∀ h : List AO, evLoad h true 4 (.ip e.cells) = some e := fun h => hT.load
    have q4 : e.cl = some e.cells := hT.cl.1
    have q4b : e.cells.length = 4 := hT.cl.2
    have q5 := hT.asEl
    -- the row
    have row : ∀ tl : List AO, (AO.box cs0 :: .box cs1 :: .row 4 0 (ds ++ List.replicate (t :: l).length (.agg zeroC)) 0 :: tl : List AO)[2]? = some (.row 4 0 (ds ++ List.replicate (t :: l).length (.agg zeroC)) 0) := fun _ => rfl
    have q7 := own_ia (sz := 4) (H := H) rfl (row (tail ++ [AO.box e.cells])) (n := es.length) (by omega) hil
    have hel : (ds ++ List.replicate (t :: l).length (AV.agg zeroC))[i]? = some (.agg zeroC) := by
      rw [List.getElem?_append_right (by omega)]
      simp [hds, List.replicate]
    have q8 := own_est (sz := 4) (H := H) rfl (row (tail ++ [AO.box e.cells])) hel rfl (x := r) (hr.snap) hr.cl.1 hr.cl.2 hr.cellB
    have hset : (ds ++ List.replicate (t :: l).length (AV.agg zeroC)).set i (AV.agg r.cells) = (ds ++ [r]) ++ List.replicate l.length (AV.agg zeroC) := by
      rw [List.set_append_right _ _ (by omega)]
      have : AV.agg r.cells = r := hr.eta
      rw [this]
      simp [hds, List.replicate]
    rw [hset] at q8
    simp only [List.set_cons_succ, List.set_cons_zero] at q8
    have st : ∀ R R2, R = ds ++ List.replicate (t :: l).length (AV.agg zeroC) → R2 = (ds ++ [r]) ++ List.replicate l.length (AV.agg zeroC) → exec (callW F) K c49_12 (L49 id H.length es.length c i) (H ++ (.box cs0 :: .box cs1 :: .row 4 0 R 0 :: tail)) = some (.normal, [.junk, fnV id, .ptr H.length 0, .ptr (H.length + 1) 0, .own 4 (H.length + 2) 0 0 es.length, .v (.int .i64 i), .ptr (H.length + (tail.length + 1 + 1 + 1)) 0, .junk, .junk, c, .v (.int .i64 es.length), .v (.int .i64 ((i + 1 : Nat) : Int)), .v (.bool true)], H ++ (.box cs0 :: .box cs1 :: .row 4 0 R2 0 :: (tail ++ [AO.box e.cells]))) := by
      intro R R2 hR hR2
      rw [← hR] at hc q7 q8
      rw [← hR2] at q8
      have hst : ∀ (q : AV), evStore (H ++ (.box cs0 :: .box cs1 :: .row 4 0 R 0 :: (tail ++ [AO.box zeroC]))) 4 (.ptr (H.length + (tail.length + 1 + 1 + 1)) 0) e = some (H ++ (.box cs0 :: .box cs1 :: .row 4 0 R 0 :: (tail ++ [AO.box e.cells]))) := by
        intro q
        have hg := hT
        cases hg with
        | mk k s n c2 l2 hc2 =>
        simp only [h_st, stAt, zeroC, AV.cells, e_bslice1, e_bslice2, bs1, bs2, e_build, bdH_some, bd_nil, bd_cons, bd1, cl_agg, cl_int, toL, List.map_cons, List.map_nil, putAt, List.set_cons_zero, List.set_cons_succ, and_self, Nat.le_refl, app_get, app_set, g_agg, run_nil, run_cons, stp_plain, stp_guard, put_some, pass_eq, pick_tt, pick_ff, pick_tf, pick_ft, pick_u, reg_some, thn_normal, thn_exit, thn_ret, cnd_t, cnd_f, blk_normal, blk_ret, blk_exit, x_seq, x_region, x_cond, x_block, x_loop, x_ret, x_exit, x_skip, e_mov, e_pick, pk_t, pk_f, withH_some, e_box, e_load, e_store, stH_some, e_nil, e_bin, e_eqv, eqH_f, eqH_t, e_un, e_fa, e_ia, ia_eq, nat_eq, natV_nat, e_len, lnH_some, e_extract, ex_0, ex_1, e_call0, e_call1, e_call2, e_call3, pc0_eq, pc1_some, pc2_some, pc3_some, fin_some, g_var0, g_vars, g_loc0, g_locs, g_int, g_bool, g_str, g_sl, s_none, s_zero, s_succ, cl_nil, cl_str, cl_bool, cl_slc, cl_own, evFa, evNil, asEl, evBin, intBin, strBin, evUn, len_nil, len_slc, len_str, clr, List.length_nil, List.length_cons, List.getElem?_cons_zero, List.getElem?_cons_succ, Nat.reduceAdd, Nat.zero_add, Nat.add_zero, Nat.reduceLeDiff, Nat.reduceSub, ↓reduceIte, List.drop_succ_cons, List.drop_zero, List.take_succ_cons, List.take_zero, Bool.false_eq_true, List.nil_append, List.cons_append, Bool.not_true, Bool.not_false, cond_true, cond_false, bne, lv_ret, lv_normal, res1, res2, lv2_some, res_var, res_cell, lvf_v, lvf_slc, res1c, lvo1_some, e_mm, mm_max, mm_min]
        rfl
      have hld : evLoad (H ++ (.box cs0 :: .box cs1 :: .row 4 0 R 0 :: (tail ++ [AO.box e.cells]))) true 4 (.ptr (H.length + (tail.length + 1 + 1 + 1)) 0) = some e := by
        rw [h_ld]
        simp only [ldAt, List.getElem?_cons_succ, app_get, q4b, List.drop_zero, q5]
        rfl
      have hst' := hst .junk
      simp only [zeroC] at hst'
      simp only [L49, zeroC, c49_12, c49_8, c49_9, c49_10, c49_11, hlt, wrap_succ hil (small_max hm), q1, q3, q7, q8, hc, hst', hld, e_callh, q9z, h_bx, e_bslice1, e_bslice2, bs1, bs2, e_build, bdH_some, bd_nil, bd_cons, bd1, cl_agg, cl_int, toL, List.map_cons, List.map_nil, putAt, List.set_cons_zero, List.set_cons_succ, and_self, Nat.le_refl, app_get, app_set, g_agg, run_nil, run_cons, stp_plain, stp_guard, put_some, pass_eq, pick_tt, pick_ff, pick_tf, pick_ft, pick_u, reg_some, thn_normal, thn_exit, thn_ret, cnd_t, cnd_f, blk_normal, blk_ret, blk_exit, x_seq, x_region, x_cond, x_block, x_loop, x_ret, x_exit, x_skip, e_mov, e_pick, pk_t, pk_f, withH_some, e_box, e_load, e_store, stH_some, e_nil, e_bin, e_eqv, eqH_f, eqH_t, e_un, e_fa, e_ia, ia_eq, nat_eq, natV_nat, e_len, lnH_some, e_extract, ex_0, ex_1, e_call0, e_call1, e_call2, e_call3, pc0_eq, pc1_some, pc2_some, pc3_some, fin_some, g_var0, g_vars, g_loc0, g_locs, g_int, g_bool, g_str, g_sl, s_none, s_zero, s_succ, cl_nil, cl_str, cl_bool, cl_slc, cl_own, evFa, evNil, asEl, evBin, intBin, strBin, evUn, len_nil, len_slc, len_str, clr, List.length_nil, List.length_cons, List.getElem?_cons_zero, List.getElem?_cons_succ, Nat.reduceAdd, Nat.zero_add, Nat.add_zero, Nat.reduceLeDiff, Nat.reduceSub, ↓reduceIte, List.drop_succ_cons, List.drop_zero, List.take_succ_cons, List.take_zero, Bool.false_eq_true, List.nil_append, List.cons_append, Bool.not_true, Bool.not_false, cond_true, cond_false, bne, lv_ret, lv_normal, res1, res2, lv2_some, res_var, res_cell, lvf_v, lvf_slc, res1c, lvo1_some, e_mm, mm_max, mm_min]
    rw [show (t :: l).length + 1 = (l.length + 1) + 1 from rfl, loop_normal (by rw [hv]; exact st _ _ rfl rfl)]
    obtain ⟨ds', tail', x5, x6, x7, x8, x12, g1, g2, g3⟩ := ih (i + 1) (ds ++ [r]) (dl ++ [shiftT x t]) (tail ++ [AO.box e.cells]) [.junk, fnV id, .ptr H.length 0, .ptr (H.length + 1) 0, .own 4 (H.length + 2) 0 0 es.length, .v (.int .i64 i), .ptr (H.length + (tail.length + 1 + 1 + 1)) 0, .junk, .junk, c, .v (.int .i64 es.length), .v (.int .i64 ((i + 1 : Nat) : Int)), .v (.bool true)] (by simp at hi; omega) (by simp [hds]) hs' (hall.app (.one hr)) tl2 (fun t ht => hcall t (by simp [ht])) rfl
    refine ⟨ds', tail', x5, x6, x7, x8, x12, g1, ?_, g3⟩
    rw [shiftL]
    simpa using g2

theorem start49 (a b : AV) : start c49 [a, b] = [a, b, .v undef, .v undef, .v undef, .v undef, .v undef, .v undef, .v undef, .v undef, .v undef, .v undef, .v undef] := rfl
theorem each49 (x : Int) (id : Nat) : ∀ (N : Nat) (t : Tm) (a : AV) (H : List AO), SizeOf.sizeOf t < N → size t ≤ 100000 → IsT a t → H[id]? = some (.box [.v (.int .i64 x)]) → H.all (AO.below H.length) = true → ∃ r, IsT r (shiftT x t) ∧ callW F 49 [a, fnV id] H = some (r, H) := by
  intro N
  induction N with
  | zero => intro t a H h; omega
  | succ N ih =>
    intro t a H hN hsz ha hid hb
    have hbela := ha.bel
    cases ha with
    | mk k s n c l hc =>
    have h5 := Tm.mk.sizeOf_spec k s n l
    simp only [size] at hsz
    have hll := sizeL_len l
    have hcall : ∀ t ∈ l, ∀ (e : AV) (H' : List AO), IsT e t → H'[id]? = some (.box [.v (.int .i64 x)]) → H'.all (AO.below H'.length) = true → ∃ r, IsT r (shiftT x t) ∧ callW F 49 [e, fnV id] H' = some (r, H') := by
      intro t ht e H' hT
      have h6 := List.sizeOf_lt_of_mem ht
      have h7 := size_mem ht
      exact ih t e H' (by omega) (by omega) hT
    obtain ⟨es, hs, hes, hm⟩ := hc.sl
    have e1 := hes.length
    -- behind the number
    have rest : ∀ (n' : Int) (y : AV) (m : Bool), ∃ r, IsT r (.mk k s n' (shiftL x l)) ∧ leave H.length c49 (exec (callW F) (l.length + 1) (.seq (.seq (.region [] [] c49_3) (.cond (.var 8) (.seq (.region [] [] c49_4) (.seq (.region [] [] c49_5) .ret)) .skip)) (.seq (.region [] [] c49_6) (.seq (.seq (.region [] [] c49_7) (.block 0 (.loop K49 [] c49_12))) (.seq (.region [] [] c49_13) (.seq (.region [] [] c49_14) .ret)))))
        [y, fnV id, .ptr H.length 0, .ptr (H.length + 1) 0, .v undef, .v undef, .v undef, .v (.bool m), .v undef, .v undef, .v undef, .v undef, .v undef] (H ++ [.box [.v (.int .i64 k), .v (.string s), .v (.int .i64 n'), c], .box zeroC])) = some (r, H) := by
      intro n' y m
      have hres : c49.res = [.cell 3 true 4] := rfl
      rcases Nat.eq_zero_or_pos l.length with h0 | h0
      · have hl0 : l = [] := List.length_eq_zero_iff.1 h0
        subst hl0
        have he0 : es = [] := List.length_eq_zero_iff.1 (by simpa using e1)
        subst he0
        have h1 : (((0 : Nat) : Int) == 0) = true := rfl
        refine ⟨.agg [.v (.int .i64 k), .v (.string s), .v (.int .i64 n'), .v (.slice none 0 0)], by rw [shiftL]; exact .mk _ _ _ _ _ .nil, ?_⟩
        simp only [zeroC, c49_3, c49_4, c49_5, h1, hs.len, h_ld, h_ld0, h_st, h_st0, h_bx, ldAt, stAt, preH_some, List.append_assoc, e_bslice1, e_bslice2, bs1, bs2, e_build, bdH_some, bd_nil, bd_cons, bd1, cl_agg, cl_int, toL, List.map_cons, List.map_nil, putAt, List.set_cons_zero, List.set_cons_succ, and_self, Nat.le_refl, app_get, app_set, g_agg, run_nil, run_cons, stp_plain, stp_guard, put_some, pass_eq, pick_tt, pick_ff, pick_tf, pick_ft, pick_u, reg_some, thn_normal, thn_exit, thn_ret, cnd_t, cnd_f, blk_normal, blk_ret, blk_exit, x_seq, x_region, x_cond, x_block, x_loop, x_ret, x_exit, x_skip, e_mov, e_pick, pk_t, pk_f, withH_some, e_box, e_load, e_store, stH_some, e_nil, e_bin, e_eqv, eqH_f, eqH_t, e_un, e_fa, e_ia, ia_eq, nat_eq, natV_nat, e_len, lnH_some, e_extract, ex_0, ex_1, e_call0, e_call1, e_call2, e_call3, pc0_eq, pc1_some, pc2_some, pc3_some, fin_some, g_var0, g_vars, g_loc0, g_locs, g_int, g_bool, g_str, g_sl, s_none, s_zero, s_succ, cl_nil, cl_str, cl_bool, cl_slc, cl_own, evFa, evNil, asEl, evBin, intBin, strBin, evUn, len_nil, len_slc, len_str, clr, List.length_nil, List.length_cons, List.getElem?_cons_zero, List.getElem?_cons_succ, Nat.reduceAdd, Nat.zero_add, Nat.add_zero, Nat.reduceLeDiff, Nat.reduceSub, ↓reduceIte, List.drop_succ_cons, List.drop_zero, List.take_succ_cons, List.take_zero, Bool.false_eq_true, List.nil_append, List.cons_append, Bool.not_true, Bool.not_false, cond_true, cond_false, bne, lv_ret, lv_normal, res1, res2, lv2_some, res_var, res_cell, lvf_v, lvf_slc, res1c, lvo1_some, e_mm, mm_max, mm_min]
        rw [leave_own rfl hb, hres, own_res1 (x := .agg [.v (.int .i64 k), .v (.string s), .v (.int .i64 n'), .v (.slice none 0 0)]) _]
        · exact lvo_one rfl
        · simp only [res_cell, h_ld, ldAt, e_bslice1, e_bslice2, bs1, bs2, e_build, bdH_some, bd_nil, bd_cons, bd1, cl_agg, cl_int, toL, List.map_cons, List.map_nil, putAt, List.set_cons_zero, List.set_cons_succ, and_self, Nat.le_refl, app_get, app_set, g_agg, run_nil, run_cons, stp_plain, stp_guard, put_some, pass_eq, pick_tt, pick_ff, pick_tf, pick_ft, pick_u, reg_some, thn_normal, thn_exit, thn_ret, cnd_t, cnd_f, blk_normal, blk_ret, blk_exit, x_seq, x_region, x_cond, x_block, x_loop, x_ret, x_exit, x_skip, e_mov, e_pick, pk_t, pk_f, withH_some, e_box, e_load, e_store, stH_some, e_nil, e_bin, e_eqv, eqH_f, eqH_t, e_un, e_fa, e_ia, ia_eq, nat_eq, natV_nat, e_len, lnH_some, e_extract, ex_0, ex_1, e_call0, e_call1, e_call2, e_call3, pc0_eq, pc1_some, pc2_some, pc3_some, fin_some, g_var0, g_vars, g_loc0, g_locs, g_int, g_bool, g_str, g_sl, s_none, s_zero, s_succ, cl_nil, cl_str, cl_bool, cl_slc, cl_own, evFa, evNil, asEl, evBin, intBin, strBin, evUn, len_nil, len_slc, len_str, clr, List.length_nil, List.length_cons, List.getElem?_cons_zero, List.getElem?_cons_succ, Nat.reduceAdd, Nat.zero_add, Nat.add_zero, Nat.reduceLeDiff, Nat.reduceSub, ↓reduceIte, List.drop_succ_cons, List.drop_zero, List.take_succ_cons, List.take_zero, Bool.false_eq_true, List.nil_append, List.cons_append, Bool.not_true, Bool.not_false, cond_true, cond_false, bne, lv_ret, lv_normal, res1, res2, lv2_some, res_var, res_cell, lvf_v, lvf_slc, res1c, lvo1_some, e_mm, mm_max, mm_min]
      · have h1 : ((es.length : Int) == 0) = false := by rw [beq_eq_false_iff_ne]; omega
        obtain ⟨ds', tail', x5, x6, x7, x8, x12, g1, g2, g3⟩ := each_loop (H := H) (K := l.length + 1) (id := id) (cs0 := [.v (.int .i64 k), .v (.string s), .v (.int .i64 n'), c]) (cs1 := zeroC) hs (by omega) x hid hb (by
            have : ∀ n', IsT (.agg [.v (.int .i64 k), .v (.string s), .v (.int .i64 n'), c]) (.mk k s n' l) := fun n' => .mk k s n' c l hc
            exact (this n').bel) rfl l 0 [] [] [] (L49 id H.length es.length c (0 : Nat)) (by omega) rfl (by simpa using hes) .nil rfl hcall rfl
        have hrow : (List.replicate es.length (AV.agg zeroC)) = [] ++ List.replicate l.length (AV.agg zeroC) := by rw [e1]; rfl
        have mk := mkS_own (sz := 4) (H := H) (l := [.box [.v (.int .i64 k), .v (.string s), .v (.int .i64 n'), c], .box zeroC]) (B := H.length) rfl (bytes := 56) (zero := [(.int .i64 0), (.string ⟨#[]⟩), (.int .i64 0), (.slice none 0 0)]) (n := es.length) (by have : maxLen = 9223372036854775807 := rfl; omega) (by omega)
        rw [zeroEl4, hrow] at mk
        generalize hR : ([] ++ List.replicate l.length (AV.agg zeroC)) = R at mk g1
        have hz2 : ∀ c' : AV, (AV.own 4 (H.length + 2) 0 0 es.length).cl = some [.own 4 (H.length + 2) 0 0 es.length] := fun _ => rfl
        have hds : ∀ h0 : List AO, (H ++ (.box [.v (.int .i64 k), .v (.string s), .v (.int .i64 n'), .own 4 (H.length + 2) 0 0 es.length] :: .box [.v (.int .i64 k), .v (.string s), .v (.int .i64 n'), .own 4 (H.length + 2) 0 0 es.length] :: .row 4 0 ds' 0 :: tail'))[H.length + 2]? = some (.row 4 0 ds' 0) := fun _ => obj_get rfl
        refine ⟨.agg [.v (.int .i64 k), .v (.string s), .v (.int .i64 n'), .slc 4 false false ds'], .mk _ _ _ _ _ (.slc _ _ _ _ (by simpa using g2) (by omega)), ?_⟩
        generalize hrest : (CC.seq (.region [] [] c49_13) (.seq (.region [] [] c49_14) .ret)) = rest
        simp only [zeroC] at mk g1
        simp only [zeroC, c49_3, c49_6, c49_7, h1, hs.len, mk, e_mkslice, h_ld, h_ld0, h_st, h_st0, h_bx, ldAt, stAt, preH_some, List.append_assoc, e_bslice1, e_bslice2, bs1, bs2, e_build, bdH_some, bd_nil, bd_cons, bd1, cl_agg, cl_int, toL, List.map_cons, List.map_nil, putAt, List.set_cons_zero, List.set_cons_succ, and_self, Nat.le_refl, app_get, app_set, g_agg, run_nil, run_cons, stp_plain, stp_guard, put_some, pass_eq, pick_tt, pick_ff, pick_tf, pick_ft, pick_u, reg_some, thn_normal, thn_exit, thn_ret, cnd_t, cnd_f, blk_normal, blk_ret, blk_exit, x_seq, x_region, x_cond, x_block, x_loop, x_ret, x_exit, x_skip, e_mov, e_pick, pk_t, pk_f, withH_some, e_box, e_load, e_store, stH_some, e_nil, e_bin, e_eqv, eqH_f, eqH_t, e_un, e_fa, e_ia, ia_eq, nat_eq, natV_nat, e_len, lnH_some, e_extract, ex_0, ex_1, e_call0, e_call1, e_call2, e_call3, pc0_eq, pc1_some, pc2_some, pc3_some, fin_some, g_var0, g_vars, g_loc0, g_locs, g_int, g_bool, g_str, g_sl, s_none, s_zero, s_succ, cl_nil, cl_str, cl_bool, cl_slc, cl_own, evFa, evNil, asEl, evBin, intBin, strBin, evUn, len_nil, len_slc, len_str, clr, List.length_nil, List.length_cons, List.getElem?_cons_zero, List.getElem?_cons_succ, Nat.reduceAdd, Nat.zero_add, Nat.add_zero, Nat.reduceLeDiff, Nat.reduceSub, ↓reduceIte, List.drop_succ_cons, List.drop_zero, List.take_succ_cons, List.take_zero, Bool.false_eq_true, List.nil_append, List.cons_append, Bool.not_true, Bool.not_false, cond_true, cond_false, bne, lv_ret, lv_normal, res1, res2, lv2_some, res_var, res_cell, lvf_v, lvf_slc, res1c, lvo1_some, e_mm, mm_max, mm_min]
        rw [loop_cong (v2 := L49 id H.length es.length c ((0 : Nat) : Int)) (by rfl), g1, ← hrest]
        simp only [c49_13, c49_14, hz2 .junk, h_ld, h_ld0, h_st, h_st0, h_bx, ldAt, stAt, preH_some, List.append_assoc, e_bslice1, e_bslice2, bs1, bs2, e_build, bdH_some, bd_nil, bd_cons, bd1, cl_agg, cl_int, toL, List.map_cons, List.map_nil, putAt, List.set_cons_zero, List.set_cons_succ, and_self, Nat.le_refl, app_get, app_set, g_agg, run_nil, run_cons, stp_plain, stp_guard, put_some, pass_eq, pick_tt, pick_ff, pick_tf, pick_ft, pick_u, reg_some, thn_normal, thn_exit, thn_ret, cnd_t, cnd_f, blk_normal, blk_ret, blk_exit, x_seq, x_region, x_cond, x_block, x_loop, x_ret, x_exit, x_skip, e_mov, e_pick, pk_t, pk_f, withH_some, e_box, e_load, e_store, stH_some, e_nil, e_bin, e_eqv, eqH_f, eqH_t, e_un, e_fa, e_ia, ia_eq, nat_eq, natV_nat, e_len, lnH_some, e_extract, ex_0, ex_1, e_call0, e_call1, e_call2, e_call3, pc0_eq, pc1_some, pc2_some, pc3_some, fin_some, g_var0, g_vars, g_loc0, g_locs, g_int, g_bool, g_str, g_sl, s_none, s_zero, s_succ, cl_nil, cl_str, cl_bool, cl_slc, cl_own, evFa, evNil, asEl, evBin, intBin, strBin, evUn, len_nil, len_slc, len_str, clr, List.length_nil, List.length_cons, List.getElem?_cons_zero, List.getElem?_cons_succ, Nat.reduceAdd, Nat.zero_add, Nat.add_zero, Nat.reduceLeDiff, Nat.reduceSub, ↓reduceIte, List.drop_succ_cons, List.drop_zero, List.take_succ_cons, List.take_zero, Bool.false_eq_true, List.nil_append, List.cons_append, Bool.not_true, Bool.not_false, cond_true, cond_false, bne, lv_ret, lv_normal, res1, res2, lv2_some, res_var, res_cell, lvf_v, lvf_slc, res1c, lvo1_some, e_mm, mm_max, mm_min]
        rw [leave_own rfl hb, hres, own_res1 (x := .agg [.v (.int .i64 k), .v (.string s), .v (.int .i64 n'), .own 4 (H.length + 2) 0 0 es.length]) _]
        · refine lvo_one ?_
          have hn : ¬ (H.length + 2 < H.length) := by omega
          simp [AV.frz2, AV.frz1, AV.frz0, hn, rowAt, hds [], g3]
          rw [← g3]; simp
        · simp only [res_cell, h_ld, ldAt, e_bslice1, e_bslice2, bs1, bs2, e_build, bdH_some, bd_nil, bd_cons, bd1, cl_agg, cl_int, toL, List.map_cons, List.map_nil, putAt, List.set_cons_zero, List.set_cons_succ, and_self, Nat.le_refl, app_get, app_set, g_agg, run_nil, run_cons, stp_plain, stp_guard, put_some, pass_eq, pick_tt, pick_ff, pick_tf, pick_ft, pick_u, reg_some, thn_normal, thn_exit, thn_ret, cnd_t, cnd_f, blk_normal, blk_ret, blk_exit, x_seq, x_region, x_cond, x_block, x_loop, x_ret, x_exit, x_skip, e_mov, e_pick, pk_t, pk_f, withH_some, e_box, e_load, e_store, stH_some, e_nil, e_bin, e_eqv, eqH_f, eqH_t, e_un, e_fa, e_ia, ia_eq, nat_eq, natV_nat, e_len, lnH_some, e_extract, ex_0, ex_1, e_call0, e_call1, e_call2, e_call3, pc0_eq, pc1_some, pc2_some, pc3_some, fin_some, g_var0, g_vars, g_loc0, g_locs, g_int, g_bool, g_str, g_sl, s_none, s_zero, s_succ, cl_nil, cl_str, cl_bool, cl_slc, cl_own, evFa, evNil, asEl, evBin, intBin, strBin, evUn, len_nil, len_slc, len_str, clr, List.length_nil, List.length_cons, List.getElem?_cons_zero, List.getElem?_cons_succ, Nat.reduceAdd, Nat.zero_add, Nat.add_zero, Nat.reduceLeDiff, Nat.reduceSub, ↓reduceIte, List.drop_succ_cons, List.drop_zero, List.take_succ_cons, List.take_zero, Bool.false_eq_true, List.nil_append, List.cons_append, Bool.not_true, Bool.not_false, cond_true, cond_false, bne, lv_ret, lv_normal, res1, res2, lv2_some, res_var, res_cell, lvf_v, lvf_slc, res1c, lvo1_some, e_mm, mm_max, mm_min]
    have hstart : ∀ (r : AV) , leave H.length c49 (exec (callW F) (l.length + 1) (.seq (.region [] [] c49_0) (.seq (.seq (.region [] [] c49_1) (.cond (.var 7) (.region [] [] c49_2) .skip)) (.seq (.seq (.region [] [] c49_3) (.cond (.var 8) (.seq (.region [] [] c49_4) (.seq (.region [] [] c49_5) .ret)) .skip)) (.seq (.region [] [] c49_6) (.seq (.seq (.region [] [] c49_7) (.block 0 (.loop K49 [] c49_12))) (.seq (.region [] [] c49_13) (.seq (.region [] [] c49_14) .ret))))))) (start c49 [.agg [.v (.int .i64 k), .v (.string s), .v (.int .i64 n), c], fnV id]) (H ++ [])) = some (r, H) → callW F 49 [.agg [.v (.int .i64 k), .v (.string s), .v (.int .i64 n), c], fnV id] H = some (r, H) :=
      fun r hr => callW_own (c := c49) rfl rfl (l.length + 1) hr
    by_cases hk : k = 1
    · have h1 : (k == 1) = true := by simpa using hk
      obtain ⟨r, hr, hlv⟩ := rest (IntKind.i64.wrap (n + x)) (.agg [.v (.int .i64 k), .v (.string s), .v (.int .i64 n), c]) true
      refine ⟨r, by rw [shiftT, if_pos hk]; exact hr, hstart r ?_⟩
      rw [← hlv]
      generalize (CC.seq (.seq (.region [] [] c49_3) (.cond (.var 8) (.seq (.region [] [] c49_4) (.seq (.region [] [] c49_5) .ret)) .skip)) (.seq (.region [] [] c49_6) (.seq (.seq (.region [] [] c49_7) (.block 0 (.loop K49 [] c49_12))) (.seq (.region [] [] c49_13) (.seq (.region [] [] c49_14) .ret))))) = rest'
      have hb2 : (H ++ [.box [.v (.int .i64 k), .v (.string s), .v (.int .i64 n), c], .box zeroC] : List AO).all (AO.below (H ++ [.box [.v (.int .i64 k), .v (.string s), .v (.int .i64 n), c], .box zeroC] : List AO).length) = true := by
        rw [List.all_append, Bool.and_eq_true]
        refine ⟨all_below_mono (by simp) hb, all_below_mono (Nat.zero_le _) ?_⟩
        have hz : (AO.box zeroC).below 0 = true := rfl
        simp only [AV.cells] at hbela
        simp only [List.all_cons, List.all_nil, hbela, hz, Bool.and_true]
      have ht := turn_ok (x := x) (his_get hid) hb2 n
      simp only [zeroC] at ht
      simp only [start49, fnV, zeroC, c49_0, c49_1, c49_2, h1, ht, q9z, e_callv, cv_fn, h_ld, h_ld0, h_st, h_st0, h_bx, ldAt, stAt, preH_some, List.append_assoc, e_bslice1, e_bslice2, bs1, bs2, e_build, bdH_some, bd_nil, bd_cons, bd1, cl_agg, cl_int, toL, List.map_cons, List.map_nil, putAt, List.set_cons_zero, List.set_cons_succ, and_self, Nat.le_refl, app_get, app_set, g_agg, run_nil, run_cons, stp_plain, stp_guard, put_some, pass_eq, pick_tt, pick_ff, pick_tf, pick_ft, pick_u, reg_some, thn_normal, thn_exit, thn_ret, cnd_t, cnd_f, blk_normal, blk_ret, blk_exit, x_seq, x_region, x_cond, x_block, x_loop, x_ret, x_exit, x_skip, e_mov, e_pick, pk_t, pk_f, withH_some, e_box, e_load, e_store, stH_some, e_nil, e_bin, e_eqv, eqH_f, eqH_t, e_un, e_fa, e_ia, ia_eq, nat_eq, natV_nat, e_len, lnH_some, e_extract, ex_0, ex_1, e_call0, e_call1, e_call2, e_call3, pc0_eq, pc1_some, pc2_some, pc3_some, fin_some, g_var0, g_vars, g_loc0, g_locs, g_int, g_bool, g_str, g_sl, s_none, s_zero, s_succ, cl_nil, cl_str, cl_bool, cl_slc, cl_own, evFa, evNil, asEl, evBin, intBin, strBin, evUn, len_nil, len_slc, len_str, clr, List.length_nil, List.length_cons, List.getElem?_cons_zero, List.getElem?_cons_succ, Nat.reduceAdd, Nat.zero_add, Nat.add_zero, Nat.reduceLeDiff, Nat.reduceSub, ↓reduceIte, List.drop_succ_cons, List.drop_zero, List.take_succ_cons, List.take_zero, Bool.false_eq_true, List.nil_append, List.cons_append, Bool.not_true, Bool.not_false, cond_true, cond_false, bne, lv_ret, lv_normal, res1, res2, lv2_some, res_var, res_cell, lvf_v, lvf_slc, res1c, lvo1_some, e_mm, mm_max, mm_min]
    · have h1 : (k == 1) = false := by simpa using hk
      obtain ⟨r, hr, hlv⟩ := rest n (.agg [.v (.int .i64 k), .v (.string s), .v (.int .i64 n), c]) false
      refine ⟨r, by rw [shiftT, if_neg hk]; exact hr, hstart r ?_⟩
      rw [← hlv]
      generalize (CC.seq (.seq (.region [] [] c49_3) (.cond (.var 8) (.seq (.region [] [] c49_4) (.seq (.region [] [] c49_5) .ret)) .skip)) (.seq (.region [] [] c49_6) (.seq (.seq (.region [] [] c49_7) (.block 0 (.loop K49 [] c49_12))) (.seq (.region [] [] c49_13) (.seq (.region [] [] c49_14) .ret))))) = rest'
      simp only [start49, fnV, zeroC, c49_0, c49_1, h1, q9z, h_ld, h_ld0, h_st, h_st0, h_bx, ldAt, stAt, preH_some, List.append_assoc, e_bslice1, e_bslice2, bs1, bs2, e_build, bdH_some, bd_nil, bd_cons, bd1, cl_agg, cl_int, toL, List.map_cons, List.map_nil, putAt, List.set_cons_zero, List.set_cons_succ, and_self, Nat.le_refl, app_get, app_set, g_agg, run_nil, run_cons, stp_plain, stp_guard, put_some, pass_eq, pick_tt, pick_ff, pick_tf, pick_ft, pick_u, reg_some, thn_normal, thn_exit, thn_ret, cnd_t, cnd_f, blk_normal, blk_ret, blk_exit, x_seq, x_region, x_cond, x_block, x_loop, x_ret, x_exit, x_skip, e_mov, e_pick, pk_t, pk_f, withH_some, e_box, e_load, e_store, stH_some, e_nil, e_bin, e_eqv, eqH_f, eqH_t, e_un, e_fa, e_ia, ia_eq, nat_eq, natV_nat, e_len, lnH_some, e_extract, ex_0, ex_1, e_call0, e_call1, e_call2, e_call3, pc0_eq, pc1_some, pc2_some, pc3_some, fin_some, g_var0, g_vars, g_loc0, g_locs, g_int, g_bool, g_str, g_sl, s_none, s_zero, s_succ, cl_nil, cl_str, cl_bool, cl_slc, cl_own, evFa, evNil, asEl, evBin, intBin, strBin, evUn, len_nil, len_slc, len_str, clr, List.length_nil, List.length_cons, List.getElem?_cons_zero, List.getElem?_cons_succ, Nat.reduceAdd, Nat.zero_add, Nat.add_zero, Nat.reduceLeDiff, Nat.reduceSub, ↓reduceIte, List.drop_succ_cons, List.drop_zero, List.take_succ_cons, List.take_zero, Bool.false_eq_true, List.nil_append, List.cons_append, Bool.not_true, Bool.not_false, cond_true, cond_false, bne, lv_ret, lv_normal, res1, res2, lv2_some, res_var, res_cell, lvf_v, lvf_slc, res1c, lvo1_some, e_mm, mm_max, mm_min]

theorem shift34 (x : Int) {t : Tm} {a : AV} (hsz : size t ≤ 100000) (ha : IsT a t) : ∃ r, IsT r (shiftT x t) ∧ callW F 34 [a, .v (.int .i64 x)] [] = some (r, []) := by
  have hb : ([.box a.cells, .box [.v (.int .i64 x)], .box zeroC] : List AO).all (AO.below 3) = true := by
    have := below_mono (Nat.zero_le 3) _ ha.bel
    simp only [List.all_cons, List.all_nil, this, Bool.and_true]; rfl
  obtain ⟨r, hr, hc⟩ := each49 x 1 _ t a [.box a.cells, .box [.v (.int .i64 x)], .box zeroC] (Nat.lt_succ_self _) hsz ha rfl hb
  refine ⟨r, hr, callW_pure (c := c34) rfl rfl 0 ?_⟩
  have g := lv1 hr
  generalize shiftT x t = u at hr
  cases hr
  cases ha
  simp only [AV.cells, zeroC, fnV] at hc
  simp only [c34, start, List.replicate, c34_0, c34_1, hc, g, e_mkfn, e_callh, q9z, e_bslice1, e_bslice2, bs1, bs2, e_build, bdH_some, bd_nil, bd_cons, bd1, cl_agg, cl_int, toL, List.map_cons, List.map_nil, putAt, List.set_cons_zero, List.set_cons_succ, and_self, Nat.le_refl, evStore, app_get, app_set, g_agg, run_nil, run_cons, stp_plain, stp_guard, put_some, pass_eq, pick_tt, pick_ff, pick_tf, pick_ft, pick_u, reg_some, thn_normal, thn_exit, thn_ret, cnd_t, cnd_f, blk_normal, blk_ret, blk_exit, x_seq, x_region, x_cond, x_block, x_loop, x_ret, x_exit, x_skip, e_mov, e_pick, pk_t, pk_f, withH_some, e_box, bx_some, e_load, e_store, stH_some, e_nil, e_bin, e_eqv, eqH_f, eqH_t, e_un, e_fa, e_ia, ia_eq, nat_eq, natV_nat, e_len, lnH_some, e_extract, ex_0, ex_1, e_call0, e_call1, e_call2, e_call3, pc0_eq, pc1_some, pc2_some, pc3_some, fin_some, g_var0, g_vars, g_loc0, g_locs, g_int, g_bool, g_str, g_sl, s_none, s_zero, s_succ, cl_nil, cl_str, cl_bool, cl_slc, cl_own, evFa, evNil, evLoad, asEl, evBin, intBin, strBin, evUn, len_nil, len_slc, len_str, clr, List.length_nil, List.length_cons, List.getElem?_cons_zero, List.getElem?_cons_succ, Nat.reduceAdd, Nat.zero_add, Nat.add_zero, Nat.reduceLeDiff, Nat.reduceSub, ↓reduceIte, List.drop_succ_cons, List.drop_zero, List.take_succ_cons, List.take_zero, Bool.false_eq_true, List.nil_append, List.cons_append, Bool.not_true, Bool.not_false, cond_true, cond_false, bne, lv_ret, lv_normal, res1, res2, lv2_some, res_var, res_cell, lvf_v, lvf_slc, res1c, lvo1_some, e_mm, mm_max, mm_min]
theorem shift16 (x : Int) {t : Tm} {a : AV} (hsz : size t ≤ 100000) (ha : IsT a t) : ∃ r, IsT r (shiftT x t) ∧ callW F 16 [a, .v (.int .i64 x)] [] = some (r, []) := by
  obtain ⟨r, hr, hc⟩ := shift34 x hsz ha
  refine ⟨r, hr, callW_pure (c := c16) rfl rfl 0 ?_⟩
  have g := lv1 hr
  have q5 : ∀ h : List AO, a.snap1 h = some a := fun h => ha.snap
  generalize shiftT x t = u at hr
  cases hr
  cases ha
  simp only [c16, start, List.replicate, c16_0, c16_1, q5, hc, g, snapv, q9z, e_bslice1, e_bslice2, bs1, bs2, e_build, bdH_some, bd_nil, bd_cons, bd1, cl_agg, cl_int, toL, List.map_cons, List.map_nil, putAt, List.set_cons_zero, List.set_cons_succ, and_self, Nat.le_refl, evStore, app_get, app_set, g_agg, run_nil, run_cons, stp_plain, stp_guard, put_some, pass_eq, pick_tt, pick_ff, pick_tf, pick_ft, pick_u, reg_some, thn_normal, thn_exit, thn_ret, cnd_t, cnd_f, blk_normal, blk_ret, blk_exit, x_seq, x_region, x_cond, x_block, x_loop, x_ret, x_exit, x_skip, e_mov, e_pick, pk_t, pk_f, withH_some, e_box, bx_some, e_load, e_store, stH_some, e_nil, e_bin, e_eqv, eqH_f, eqH_t, e_un, e_fa, e_ia, ia_eq, nat_eq, natV_nat, e_len, lnH_some, e_extract, ex_0, ex_1, e_call0, e_call1, e_call2, e_call3, pc0_eq, pc1_some, pc2_some, pc3_some, fin_some, g_var0, g_vars, g_loc0, g_locs, g_int, g_bool, g_str, g_sl, s_none, s_zero, s_succ, cl_nil, cl_str, cl_bool, cl_slc, cl_own, evFa, evNil, evLoad, asEl, evBin, intBin, strBin, evUn, len_nil, len_slc, len_str, clr, List.length_nil, List.length_cons, List.getElem?_cons_zero, List.getElem?_cons_succ, Nat.reduceAdd, Nat.zero_add, Nat.add_zero, Nat.reduceLeDiff, Nat.reduceSub, ↓reduceIte, List.drop_succ_cons, List.drop_zero, List.take_succ_cons, List.take_zero, Bool.false_eq_true, List.nil_append, List.cons_append, Bool.not_true, Bool.not_false, cond_true, cond_false, bne, lv_ret, lv_normal, res1, res2, lv2_some, res_var, res_cell, lvf_v, lvf_slc, res1c, lvo1_some, e_mm, mm_max, mm_min]
end
end Go.AE.Ytpgoibncgekflaa
end

/-! Meet; a counter behind other objects. -/
section
set_option linter.unusedVariables false
set_option linter.unusedSimpArgs false
namespace Go.AE.Ytpgoibncgekflaa
open Go Go.AE Go.Proofs.Ytpgoibncgekflaa

section
variable {h : List AO} {id off : Nat} {ms : List AV} {m : Int} {l : List AO}
theorem ctr_app (hlt : id < h.length) : ctr (h ++ l) id off ms m = ctr h id off ms m ++ l := by
  simp only [ctr]
  exact his_set hlt
theorem Ctr.app (c : Ctr h id off ms) (hl : l.all (AO.below (h.length + l.length)) = true) : Ctr (h ++ l) id off ms := by
  refine ⟨by have := c.lt; simp; omega, c.le, ?_, ?_⟩
  · rw [List.all_append, Bool.and_eq_true, List.length_append]
    exact ⟨all_below_mono (by omega) c.bel, hl⟩
  · have := c.mb
    simp only [List.all_eq_true] at this ⊢
    exact fun x hx => below1_mono (by simp) x (this x hx)
theorem Ctr.app0 (c : Ctr h id off ms) (hl : l.all (AO.below 0) = true) : Ctr (h ++ l) id off ms := c.app (all_below_mono (Nat.zero_le _) hl)

/-- a term met: one step, then its bindings followed -/
def meetT (rs : List (Int × Tm)) : Nat → Tm → Tm × Int × Nat
  | 0, _ => (zeroT, 140, 0)
  | m + 1, t => walkT rs m t

theorem meet_ok (c : Ctr h id off ms) {b a : AV} {es : List AV} {rs : List (Int × Tm)} (hes : AllB es rs) (hbs : ∀ h : List AO, b.snap1 h = some b) (hlook : ∀ n, callW F 13 [b, .v (.int .i64 n)] [] = some (lookA n es, []))
    (m : Nat) (hm : m ≤ 5000) {t : Tm} (ht : IsT a t) : ∃ rc, IsT (.agg rc) (meetT rs m t).1 ∧ callW F 51 [b, a, .ptr id off] (ctr h id off ms m) = some (.tup [.agg rc, .v (.int .i64 (meetT rs m t).2.1)], ctr h id off ms (meetT rs m t).2.2) := by
  have hres : c51.res = [.cell 4 true 4, .var 5] := rfl
  have hbel := ht.bel
  have hl : ([.box a.cells, .box zeroC] : List AO).all (AO.below 0) = true := by
    have hz : (AO.box zeroC).below 0 = true := rfl
    simp only [List.all_cons, List.all_nil, hbel, hz, Bool.and_true]
  cases m with
  | zero =>
    refine ⟨zeroC, isT_zero, callW_own (c := c51) rfl rfl 0 ?_⟩
    have h0 : (((0 : Nat) : Int) == 0) = true := rfl
    have body : exec (callW F) 0 c51.body (start c51 [b, a, .ptr id off]) (ctr h id off ms ((0 : Nat) : Int) ++ []) = some (.ret, [b, a, .ptr id off, .ptr h.length 0, .ptr (h.length + 1) 0, .v (.int .i64 140), .v (.bool true)], ctr h id off ms ((0 : Nat) : Int) ++ [.box a.cells, .box zeroC]) := by
      cases ht
      simp only [c51, start, zeroC, List.replicate, c51_0, c51_1, c51_2, h0, q9z, AV.cells, c.load, evNil, c_ld, c_ld0, c_st, c_st0, c_bx, ldAt, stAt, preH_some, List.append_assoc, e_bslice1, e_bslice2, bs1, bs2, e_build, bdH_some, bd_nil, bd_cons, bd1, cl_agg, cl_int, toL, List.map_cons, List.map_nil, putAt, List.set_cons_zero, List.set_cons_succ, and_self, Nat.le_refl, app_get, app_set, g_agg, run_nil, run_cons, stp_plain, stp_guard, put_some, pass_eq, pick_tt, pick_ff, pick_tf, pick_ft, pick_u, reg_some, thn_normal, thn_exit, thn_ret, cnd_t, cnd_f, blk_normal, blk_ret, blk_exit, x_seq, x_region, x_cond, x_block, x_loop, x_ret, x_exit, x_skip, e_mov, e_pick, pk_t, pk_f, withH_some, e_box, e_load, e_store, stH_some, e_nil, e_bin, e_eqv, eqH_f, eqH_t, e_un, e_fa, e_ia, ia_eq, nat_eq, natV_nat, e_len, lnH_some, e_extract, ex_0, ex_1, e_call0, e_call1, e_call2, e_call3, pc0_eq, pc1_some, pc2_some, pc3_some, fin_some, g_var0, g_vars, g_loc0, g_locs, g_int, g_bool, g_str, g_sl, s_none, s_zero, s_succ, cl_nil, cl_str, cl_bool, cl_slc, cl_own, evFa, evNil, asEl, evBin, intBin, strBin, evUn, len_nil, len_slc, len_str, clr, List.length_nil, List.length_cons, List.getElem?_cons_zero, List.getElem?_cons_succ, Nat.reduceAdd, Nat.zero_add, Nat.add_zero, Nat.reduceLeDiff, Nat.reduceSub, ↓reduceIte, List.drop_succ_cons, List.drop_zero, List.take_succ_cons, List.take_zero, Bool.false_eq_true, List.nil_append, List.cons_append, Bool.not_true, Bool.not_false, cond_true, cond_false, bne, lv_ret, lv_normal, res1, res2, lv2_some, res_var, res_cell, lvf_v, lvf_slc, res1c, lvo1_some, e_mm, mm_max, mm_min]
    rw [body, ctr_len, leave_own ctr_len (c.all _), hres, own_res2 (x := .agg zeroC) (y := .v (.int .i64 140)) _ _]
    · exact lvo_two (isT_zero.frz _ _) rfl
    · simp only [res_cell, c_ld, ldAt, zeroC, e_bslice1, e_bslice2, bs1, bs2, e_build, bdH_some, bd_nil, bd_cons, bd1, cl_agg, cl_int, toL, List.map_cons, List.map_nil, putAt, List.set_cons_zero, List.set_cons_succ, and_self, Nat.le_refl, app_get, app_set, g_agg, run_nil, run_cons, stp_plain, stp_guard, put_some, pass_eq, pick_tt, pick_ff, pick_tf, pick_ft, pick_u, reg_some, thn_normal, thn_exit, thn_ret, cnd_t, cnd_f, blk_normal, blk_ret, blk_exit, x_seq, x_region, x_cond, x_block, x_loop, x_ret, x_exit, x_skip, e_mov, e_pick, pk_t, pk_f, withH_some, e_box, e_load, e_store, stH_some, e_nil, e_bin, e_eqv, eqH_f, eqH_t, e_un, e_fa, e_ia, ia_eq, nat_eq, natV_nat, e_len, lnH_some, e_extract, ex_0, ex_1, e_call0, e_call1, e_call2, e_call3, pc0_eq, pc1_some, pc2_some, pc3_some, fin_some, g_var0, g_vars, g_loc0, g_locs, g_int, g_bool, g_str, g_sl, s_none, s_zero, s_succ, cl_nil, cl_str, cl_bool, cl_slc, cl_own, evFa, evNil, asEl, evBin, intBin, strBin, evUn, len_nil, len_slc, len_str, clr, List.length_nil, List.length_cons, List.getElem?_cons_zero, List.getElem?_cons_succ, Nat.reduceAdd, Nat.zero_add, Nat.add_zero, Nat.reduceLeDiff, Nat.reduceSub, ↓reduceIte, List.drop_succ_cons, List.drop_zero, List.take_succ_cons, List.take_zero, Bool.false_eq_true, List.nil_append, List.cons_append, Bool.not_true, Bool.not_false, cond_true, cond_false, bne, lv_ret, lv_normal, res1, res2, lv2_some, res_var, res_cell, lvf_v, lvf_slc, res1c, lvo1_some, e_mm, mm_max, mm_min]
    · rfl
  | succ m =>
    obtain ⟨rc, hrc, hf⟩ := follow_ok (c.app0 hl) hes hbs hlook m (by omega) ht
    rw [ctr_app c.lt, ctr_app c.lt] at hf
    refine ⟨rc, hrc, callW_own (c := c51) rfl rfl 0 ?_⟩
    have h0 : (((m + 1 : Nat) : Int) == 0) = false := by rw [beq_eq_false_iff_ne]; omega
    have hw : IntKind.i64.wrap (((m + 1 : Nat) : Int) - 1) = (m : Int) := by rw [wrap_ok (by omega) (by omega)]; omega
    simp only [meetT]
    generalize walkT rs m t = w at hrc hf ⊢
    obtain ⟨w1, w2, w3⟩ := w
    have body : exec (callW F) 0 c51.body (start c51 [b, a, .ptr id off]) (ctr h id off ms ((m + 1 : Nat) : Int) ++ []) = some (.ret, [b, a, .ptr id off, .ptr h.length 0, .ptr (h.length + 1) 0, .v (.int .i64 w2), .v (.bool false)], ctr h id off ms w3 ++ [.box a.cells, .box rc]) := by
      cases hrc
      cases ht
      simp only [AV.cells, zeroC] at hf
      simp only [c51, start, zeroC, List.replicate, c51_0, c51_1, c51_3, c51_4, h0, hw, hf, e_callh, q9z, AV.cells, c.load, c.store, evNil, c_ld, c_ld0, c_st, c_st0, c_bx, ldAt, stAt, preH_some, List.append_assoc, e_bslice1, e_bslice2, bs1, bs2, e_build, bdH_some, bd_nil, bd_cons, bd1, cl_agg, cl_int, toL, List.map_cons, List.map_nil, putAt, List.set_cons_zero, List.set_cons_succ, and_self, Nat.le_refl, app_get, app_set, g_agg, run_nil, run_cons, stp_plain, stp_guard, put_some, pass_eq, pick_tt, pick_ff, pick_tf, pick_ft, pick_u, reg_some, thn_normal, thn_exit, thn_ret, cnd_t, cnd_f, blk_normal, blk_ret, blk_exit, x_seq, x_region, x_cond, x_block, x_loop, x_ret, x_exit, x_skip, e_mov, e_pick, pk_t, pk_f, withH_some, e_box, e_load, e_store, stH_some, e_nil, e_bin, e_eqv, eqH_f, eqH_t, e_un, e_fa, e_ia, ia_eq, nat_eq, natV_nat, e_len, lnH_some, e_extract, ex_0, ex_1, e_call0, e_call1, e_call2, e_call3, pc0_eq, pc1_some, pc2_some, pc3_some, fin_some, g_var0, g_vars, g_loc0, g_locs, g_int, g_bool, g_str, g_sl, s_none, s_zero, s_succ, cl_nil, cl_str, cl_bool, cl_slc, cl_own, evFa, evNil, asEl, evBin, intBin, strBin, evUn, len_nil, len_slc, len_str, clr, List.length_nil, List.length_cons, List.getElem?_cons_zero, List.getElem?_cons_succ, Nat.reduceAdd, Nat.zero_add, Nat.add_zero, Nat.reduceLeDiff, Nat.reduceSub, ↓reduceIte, List.drop_succ_cons, List.drop_zero, List.take_succ_cons, List.take_zero, Bool.false_eq_true, List.nil_append, List.cons_append, Bool.not_true, Bool.not_false, cond_true, cond_false, bne, lv_ret, lv_normal, res1, res2, lv2_some, res_var, res_cell, lvf_v, lvf_slc, res1c, lvo1_some, e_mm, mm_max, mm_min]
    rw [body, ctr_len, leave_own ctr_len (c.all _), hres, own_res2 (x := .agg rc) (y := .v (.int .i64 w2)) _ _]
    · exact lvo_two (hrc.frz _ _) rfl
    · cases hrc; simp only [res_cell, c_ld, ldAt, e_bslice1, e_bslice2, bs1, bs2, e_build, bdH_some, bd_nil, bd_cons, bd1, cl_agg, cl_int, toL, List.map_cons, List.map_nil, putAt, List.set_cons_zero, List.set_cons_succ, and_self, Nat.le_refl, app_get, app_set, g_agg, run_nil, run_cons, stp_plain, stp_guard, put_some, pass_eq, pick_tt, pick_ff, pick_tf, pick_ft, pick_u, reg_some, thn_normal, thn_exit, thn_ret, cnd_t, cnd_f, blk_normal, blk_ret, blk_exit, x_seq, x_region, x_cond, x_block, x_loop, x_ret, x_exit, x_skip, e_mov, e_pick, pk_t, pk_f, withH_some, e_box, e_load, e_store, stH_some, e_nil, e_bin, e_eqv, eqH_f, eqH_t, e_un, e_fa, e_ia, ia_eq, nat_eq, natV_nat, e_len, lnH_some, e_extract, ex_0, ex_1, e_call0, e_call1, e_call2, e_call3, pc0_eq, pc1_some, pc2_some, pc3_some, fin_some, g_var0, g_vars, g_loc0, g_locs, g_int, g_bool, g_str, g_sl, s_none, s_zero, s_succ, cl_nil, cl_str, cl_bool, cl_slc, cl_own, evFa, evNil, asEl, evBin, intBin, strBin, evUn, len_nil, len_slc, len_str, clr, List.length_nil, List.length_cons, List.getElem?_cons_zero, List.getElem?_cons_succ, Nat.reduceAdd, Nat.zero_add, Nat.add_zero, Nat.reduceLeDiff, Nat.reduceSub, ↓reduceIte, List.drop_succ_cons, List.drop_zero, List.take_succ_cons, List.take_zero, Bool.false_eq_true, List.nil_append, List.cons_append, Bool.not_true, Bool.not_false, cond_true, cond_false, bne, lv_ret, lv_normal, res1, res2, lv2_some, res_var, res_cell, lvf_v, lvf_slc, res1c, lvo1_some, e_mm, mm_max, mm_min]
    · rfl
end
end Go.AE.Ytpgoibncgekflaa
end

/-! Resolve: what it computes. -/
section
set_option linter.unusedVariables false
set_option linter.unusedSimpArgs false
namespace Go.AE.Ytpgoibncgekflaa
open Go Go.AE Go.Proofs.Ytpgoibncgekflaa

def resL (f : Nat → Tm → Except Int (Tm × Nat)) : Nat → List Tm → Except Int (List Tm × Nat)
  | m, [] => .ok ([], m)
  | m, t :: l => match f m t with
    | .error e => .error e
    | .ok (x, m1) => match resL f m1 l with
      | .error e => .error e
      | .ok (xs, m2) => .ok (x :: xs, m2)
/-- a term's bindings put in: d levels below it, m steps are left -/
def resT (rs : List (Int × Tm)) : Nat → Nat → Tm → Except Int (Tm × Nat)
  | 0, m, t => match meetT rs m t with
    | (_, e, _) => if e = 0 then .error 3 else .error e
  | d + 1, m, t => match meetT rs m t with
    | (.mk k s n l, e, m') => if e = 0 then (match resL (resT rs d) m' l with
      | .error e => .error e
      | .ok (xs, m2) => .ok (.mk k s n xs, m2)) else .error e

theorem walkT_le (rs : List (Int × Tm)) : ∀ (m : Nat) (t : Tm), (walkT rs m t).2.2 ≤ m := by
  intro m
  induction m with
  | zero => intro t; simp only [walkT]; split <;> exact Nat.le_refl _
  | succ m ih =>
    intro t
    simp only [walkT]
    split
    · exact Nat.le_succ_of_le (ih _)
    · exact Nat.le_refl _
theorem meetT_le (rs : List (Int × Tm)) (m : Nat) (t : Tm) : (meetT rs m t).2.2 ≤ m := by
  cases m with
  | zero => exact Nat.le_refl _
  | succ m => exact Nat.le_succ_of_le (walkT_le rs m t)
theorem walkT_err (rs : List (Int × Tm)) : ∀ (m : Nat) (t : Tm), (walkT rs m t).2.1 = 0 ∨ (walkT rs m t).2.1 = 140 ∧ (walkT rs m t).1 = zeroT := by
  intro m
  induction m with
  | zero => intro t; simp only [walkT]; split <;> simp
  | succ m ih =>
    intro t
    simp only [walkT]
    split
    · exact ih _
    · simp
theorem meetT_err (rs : List (Int × Tm)) (m : Nat) (t : Tm) : (meetT rs m t).2.1 = 0 ∨ (meetT rs m t).2.1 = 140 ∧ (meetT rs m t).1 = zeroT := by
  cases m with
  | zero => exact .inr ⟨rfl, rfl⟩
  | succ m => exact walkT_err rs m t
theorem lookT_mem {rs : List (Int × Tm)} {n : Int} {t : Tm} : lookT rs n = some t → ∃ p ∈ rs, p.2 = t := by
  induction rs with
  | nil => intro h; cases h
  | cons p rs ih =>
    obtain ⟨v, u⟩ := p
    intro h
    simp only [lookT] at h
    split at h
    · cases h; exact ⟨(v, _), by simp, rfl⟩
    · obtain ⟨p, hp, e⟩ := ih h; exact ⟨p, by simp [hp], e⟩
theorem bound_mem {rs : List (Int × Tm)} {t u : Tm} (h : bound rs t = some u) : ∃ p ∈ rs, p.2 = u := by
  cases t with
  | mk k s n l =>
    simp only [bound] at h
    split at h
    · exact lookT_mem h
    · cases h
theorem walkT_size {rs : List (Int × Tm)} {M : Nat} (hM : 1 ≤ M) (hrs : ∀ p ∈ rs, size p.2 ≤ M) : ∀ (m : Nat) (t : Tm), size t ≤ M → size (walkT rs m t).1 ≤ M := by
  have hz : size zeroT = 1 := by simp [zeroT, size, sizeL]
  intro m
  induction m with
  | zero => intro t ht; simp only [walkT]; split
            · simp only [hz]; exact hM
            · exact ht
  | succ m ih =>
    intro t ht
    simp only [walkT]
    split
    · rename_i t' hb
      obtain ⟨p, hp, rfl⟩ := bound_mem hb
      exact ih _ (hrs p hp)
    · exact ht
theorem meetT_size {rs : List (Int × Tm)} {M : Nat} (hM : 1 ≤ M) (hrs : ∀ p ∈ rs, size p.2 ≤ M) (m : Nat) (t : Tm) (ht : size t ≤ M) : size (meetT rs m t).1 ≤ M := by
  have hz : size zeroT = 1 := by simp [zeroT, size, sizeL]
  cases m with
  | zero => simp only [meetT, hz]; exact hM
  | succ m => exact walkT_size hM hrs m t ht

def ms (b : AV) (d : Int) : List AV := [b, .v (.int .i64 0), .v (.int .i64 d)]
section
variable {h : List AO} {id : Nat} {b : AV} {d d' m : Int} {l : List AO}
theorem Ctr.ms (c : Ctr h id 1 (ms b d)) (d' : Int) : Ctr h id 1 (Ytpgoibncgekflaa.ms b d') := by
  refine ⟨c.lt, by simp [Ytpgoibncgekflaa.ms], c.bel, ?_⟩
  have := c.mb
  simp only [Ytpgoibncgekflaa.ms, List.all_cons, List.all_nil, Bool.and_true, Bool.and_eq_true] at this ⊢
  exact ⟨this.1, rfl, rfl⟩
theorem ms_eq : ctr h id 1 (ms b d) m = h.set id (.box [b, .v (.int .i64 m), .v (.int .i64 d)]) := rfl
theorem r_ld0 (c : Ctr h id 1 (ms b d)) : evLoad (ctr h id 1 (ms b d) m ++ l) false 1 (.ptr id 0) = some b := by
  have h1 : (ctr h id 1 (ms b d) m ++ l)[id]? = some (.box [b, .v (.int .i64 m), .v (.int .i64 d)]) := his_get (set_get c.lt)
  rw [bx_ld h1]; rfl
theorem r_ld2 (c : Ctr h id 1 (ms b d)) : evLoad (ctr h id 1 (ms b d) m ++ l) false 1 (.ptr id 2) = some (.v (.int .i64 d)) := by
  have h1 : (ctr h id 1 (ms b d) m ++ l)[id]? = some (.box [b, .v (.int .i64 m), .v (.int .i64 d)]) := his_get (set_get c.lt)
  rw [bx_ld h1]; rfl
theorem r_st2 (c : Ctr h id 1 (ms b d)) : evStore (ctr h id 1 (ms b d) m ++ l) 1 (.ptr id 2) (.v (.int .i64 d')) = some (ctr h id 1 (ms b d') m ++ l) := by
  have h1 : (ctr h id 1 (ms b d) m ++ l)[id]? = some (.box [b, .v (.int .i64 m), .v (.int .i64 d)]) := his_get (set_get c.lt)
  rw [bx_st (n := 1) (o := 2) (xs := [.v (.int .i64 d')]) h1 cl_int rfl (by simp), his_set (by rw [ctr_len]; exact c.lt)]
  simp [ms_eq, putAt]

/-- what f36 is to be shown to do, d levels below the first -/
def Res36 (rs : List (Int × Tm)) (b : AV) (d : Nat) : Prop := ∀ (h : List AO) (id : Nat) (m : Nat) (t : Tm) (a : AV), Ctr h id 1 (ms b (60 - (d : Int))) → m ≤ 5000 → size t ≤ 100000 → IsT a t →
  match resT rs d m t with
  | .ok (x, m2) => m2 ≤ m ∧ ∃ r, IsT r x ∧ callW F 36 [.ptr id 0, a] (ctr h id 1 (ms b (60 - (d : Int))) m) = some (.tup [r, .v (.int .i64 0)], ctr h id 1 (ms b (60 - (d : Int))) m2)
  | .error e => e ≠ 0 ∧ ∃ (r : AV) (l' d' : Int), IsT r zeroT ∧ callW F 36 [.ptr id 0, a] (ctr h id 1 (ms b (60 - (d : Int))) m) = some (.tup [r, .v (.int .i64 e)], ctr h id 1 (ms b d') l')

def K36 : List Bool := [true, false, true, true, false, false, true, false, false, false, false, false, false, true, true, true, false, false]
def L36 (id B n : Nat) (c : AV) (i : Int) : List AV := [.ptr id 0, .junk, .ptr B 0, .ptr (B + 1) 0, .junk, .junk, .own 4 (B + 2) 0 0 n, .junk, .junk, .junk, .junk, .junk, .junk, c, .v (.int .i64 n), .v (.int .i64 i), .junk, .junk]

theorem res_loop {K : Nat} {c : AV} {es : List AV} {cs0 : List AV} {rs : List (Int × Tm)} (hs : Sl 4 c es) (hm : es.length ≤ 100000) (d : Nat) (hb0 : (AO.box cs0).below 0 = true) (hR : Res36 rs b d) (hC : Ctr h id 1 (ms b (60 - (d : Int)))) :
    ∀ (l : List Tm) (i m : Nat) (ds : List AV) (dl : List Tm) (tail : List AO) (vars : List AV), i + l.length = es.length → ds.length = i → m ≤ 5000 → All2 (es.drop i) l → All2 ds dl → (∀ t ∈ l, size t ≤ 100000) → tail.all (AO.below 0) = true →
      clr K36 vars = L36 id h.length es.length c i →
      match resL (resT rs d) m l with
      | .ok (xs, m2) => m2 ≤ m ∧ ∃ ds' tail' x1 x4 x5 x7 x8 x9 x10 x11 x12 x16 x17, loopN (exec (callW F) K c36_16) K36 (l.length + 1) vars (ctr h id 1 (ms b (60 - (d : Int))) m ++ (.box cs0 :: .box zeroC :: .row 4 0 (ds ++ List.replicate l.length (.agg zeroC)) 0 :: tail)) = some (.exit 1, [.ptr id 0, x1, .ptr h.length 0, .ptr (h.length + 1) 0, x4, x5, .own 4 (h.length + 2) 0 0 es.length, x7, x8, x9, x10, x11, x12, c, .v (.int .i64 es.length), .v (.int .i64 es.length), x16, x17], ctr h id 1 (ms b (60 - (d : Int))) m2 ++ (.box cs0 :: .box zeroC :: .row 4 0 ds' 0 :: tail')) ∧ All2 ds' (dl ++ xs) ∧ ds'.length = es.length
      | .error e => e ≠ 0 ∧ ∃ (l' d' : Int) (o : AO) (tail' : List AO) (vs : List AV), loopN (exec (callW F) K c36_16) K36 (l.length + 1) vars (ctr h id 1 (ms b (60 - (d : Int))) m ++ (.box cs0 :: .box zeroC :: .row 4 0 (ds ++ List.replicate l.length (.agg zeroC)) 0 :: tail)) = some (.ret, vs, ctr h id 1 (ms b d') l' ++ (o :: .box zeroC :: tail')) ∧ getO vs [] (.var 3) = .ptr (h.length + 1) 0 ∧ getO vs [] (.var 4) = .v (.int .i64 e) := by
  intro l
  induction l with
  | nil =>
    intro i m ds dl tail vars hi hds hm5 _ hall hszs htl hv
    have hil : i = es.length := by simpa using hi
    subst hil
    have hlt : decide ((es.length : Int) < (es.length : Int)) = false := by simp
    simp only [resL]
    refine ⟨Nat.le_refl _, ds, tail, .junk, .junk, .junk, .junk, .junk, .junk, .junk, .junk, .junk, .v (.bool false), .junk, loop_exit ?_, by simpa using hall, hds⟩
    rw [hv]
    simp only [L36, c36_16, c36_9, hlt, List.replicate, List.append_nil, e_bslice1, e_bslice2, bs1, bs2, e_build, bdH_some, bd_nil, bd_cons, bd1, cl_agg, cl_int, toL, List.map_cons, List.map_nil, putAt, List.set_cons_zero, List.set_cons_succ, and_self, Nat.le_refl, app_get, app_set, g_agg, run_nil, run_cons, stp_plain, stp_guard, put_some, pass_eq, pick_tt, pick_ff, pick_tf, pick_ft, pick_u, reg_some, thn_normal, thn_exit, thn_ret, cnd_t, cnd_f, blk_normal, blk_ret, blk_exit, x_seq, x_region, x_cond, x_block, x_loop, x_ret, x_exit, x_skip, e_mov, e_pick, pk_t, pk_f, withH_some, e_box, e_load, e_store, stH_some, e_nil, e_bin, e_eqv, eqH_f, eqH_t, e_un, e_fa, e_ia, ia_eq, nat_eq, natV_nat, e_len, lnH_some, e_extract, ex_0, ex_1, e_call0, e_call1, e_call2, e_call3, pc0_eq, pc1_some, pc2_some, pc3_some, fin_some, g_var0, g_vars, g_loc0, g_locs, g_int, g_bool, g_str, g_sl, s_none, s_zero, s_succ, cl_nil, cl_str, cl_bool, cl_slc, cl_own, evFa, evNil, asEl, evBin, intBin, strBin, evUn, len_nil, len_slc, len_str, clr, List.length_nil, List.length_cons, List.getElem?_cons_zero, List.getElem?_cons_succ, Nat.reduceAdd, Nat.zero_add, Nat.add_zero, Nat.reduceLeDiff, Nat.reduceSub, ↓reduceIte, List.drop_succ_cons, List.drop_zero, List.take_succ_cons, List.take_zero, Bool.false_eq_true, List.nil_append, List.cons_append, Bool.not_true, Bool.not_false, cond_true, cond_false, bne, lv_ret, lv_normal, res1, res2, lv2_some, res_var, res_cell, lvf_v, lvf_slc, res1c, lvo1_some, e_mm, mm_max, mm_min]
  | cons t l ih =>
    intro i m ds dl tail vars hi hds hm5 hes hall hszs htl hv
    have hil : i < es.length := by simp at hi; omega
    have he : es[i]? = some (es[i]'hil) := List.getElem?_eq_getElem _
    have hd : es.drop i = es[i] :: es.drop (i + 1) := List.drop_eq_getElem_cons hil
    rw [hd] at hes
    generalize es[i]'hil = e at hes he
    cases hes with
    | cons _ _ _ _ hT hs' =>
    have hlt : (decide ((i : Int) < (es.length : Int))) = true := by simp; omega
    have hlen : (ds ++ List.replicate (t :: l).length (AV.agg zeroC)).length = es.length := by simp at hi ⊢; omega
    have tl2 : (tail ++ [AO.box e.cells]).all (AO.below 0) = true := by
      have := hT.bel
      simp only [List.all_append, List.all_cons, List.all_nil, htl, this, Bool.and_true]
    have hz : (AO.box zeroC).below 0 = true := rfl
    have hrw : ∀ L : List AV, (AO.row 4 0 L 0).below 0 = true := fun _ => rfl
    have hl2 : (.box cs0 :: .box zeroC :: .row 4 0 (ds ++ List.replicate (t :: l).length (.agg zeroC)) 0 :: (tail ++ [AO.box e.cells]) : List AO).all (AO.below 0) = true := by
      simp only [List.all_cons, hb0, hz, hrw, tl2, Bool.and_true]
    have hrec := hR (h ++ (.box cs0 :: .box zeroC :: .row 4 0 (ds ++ List.replicate (t :: l).length (.agg zeroC)) 0 :: (tail ++ [AO.box e.cells]))) id m t e (hC.app0 hl2) hm5 (hszs t (by simp)) hT
    have q1 := hs.ia he
    have q3 : ∀ h : List AO, evLoad h true 4 (.ip e.cells) = some e := fun h => hT.load
    have q4 : e.cl = some e.cells := hT.cl.1
    have q4b : e.cells.length = 4 := hT.cl.2
    have q5 := hT.asEl
    -- up to the call
    have hst : ∀ (q : List AO) (R : List AV), evStore (ctr h id 1 (ms b (60 - (d : Int))) m ++ (.box cs0 :: .box zeroC :: .row 4 0 R 0 :: (tail ++ [AO.box zeroC]))) 4 (.ptr (h.length + (tail.length + 1 + 1 + 1)) 0) e = some (ctr h id 1 (ms b (60 - (d : Int))) m ++ (.box cs0 :: .box zeroC :: .row 4 0 R 0 :: (tail ++ [AO.box e.cells]))) := by
      intro q R
      have hg := hT
      cases hg with
      | mk k s n c2 l2 hc2 =>
      simp only [c_st, stAt, zeroC, AV.cells, e_bslice1, e_bslice2, bs1, bs2, e_build, bdH_some, bd_nil, bd_cons, bd1, cl_agg, cl_int, toL, List.map_cons, List.map_nil, putAt, List.set_cons_zero, List.set_cons_succ, and_self, Nat.le_refl, app_get, app_set, g_agg, run_nil, run_cons, stp_plain, stp_guard, put_some, pass_eq, pick_tt, pick_ff, pick_tf, pick_ft, pick_u, reg_some, thn_normal, thn_exit, thn_ret, cnd_t, cnd_f, blk_normal, blk_ret, blk_exit, x_seq, x_region, x_cond, x_block, x_loop, x_ret, x_exit, x_skip, e_mov, e_pick, pk_t, pk_f, withH_some, e_box, e_load, e_store, stH_some, e_nil, e_bin, e_eqv, eqH_f, eqH_t, e_un, e_fa, e_ia, ia_eq, nat_eq, natV_nat, e_len, lnH_some, e_extract, ex_0, ex_1, e_call0, e_call1, e_call2, e_call3, pc0_eq, pc1_some, pc2_some, pc3_some, fin_some, g_var0, g_vars, g_loc0, g_locs, g_int, g_bool, g_str, g_sl, s_none, s_zero, s_succ, cl_nil, cl_str, cl_bool, cl_slc, cl_own, evFa, evNil, asEl, evBin, intBin, strBin, evUn, len_nil, len_slc, len_str, clr, List.length_nil, List.length_cons, List.getElem?_cons_zero, List.getElem?_cons_succ, Nat.reduceAdd, Nat.zero_add, Nat.add_zero, Nat.reduceLeDiff, Nat.reduceSub, ↓reduceIte, List.drop_succ_cons, List.drop_zero, List.take_succ_cons, List.take_zero, Bool.false_eq_true, List.nil_append, List.cons_append, Bool.not_true, Bool.not_false, cond_true, cond_false, bne, lv_ret, lv_normal, res1, res2, lv2_some, res_var, res_cell, lvf_v, lvf_slc, res1c, lvo1_some, e_mm, mm_max, mm_min]
      rfl
    have hld : ∀ (m : Int) (R : List AV), evLoad (ctr h id 1 (ms b (60 - (d : Int))) m ++ (.box cs0 :: .box zeroC :: .row 4 0 R 0 :: (tail ++ [AO.box e.cells]))) true 4 (.ptr (h.length + (tail.length + 1 + 1 + 1)) 0) = some e := by
      intro m R
      rw [c_ld]
      simp only [ldAt, List.getElem?_cons_succ, app_get, q4b, List.drop_zero, q5]
      rfl
    have hst' := hst []
    simp only [zeroC] at hst' hld
    simp only [resL]
    cases hres : resT rs d m t with
    | error er =>
      rw [hres] at hrec
      obtain ⟨hne, r, l', d', hr, hc⟩ := hrec
      simp only [ctr_app hC.lt] at hc
      refine ⟨hne, l', d', .box cs0, .row 4 0 (ds ++ List.replicate (t :: l).length (.agg zeroC)) 0 :: (tail ++ [AO.box e.cells, .box r.cells]), [.ptr id 0, .junk, .ptr h.length 0, .ptr (h.length + 1) 0, .v (.int .i64 er), .junk, .own 4 (h.length + 2) 0 0 es.length, .v (.int .i64 i), .ptr (h.length + (tail.length + 1 + 1 + 1)) 0, .ptr (h.length + (tail.length + 1 + 1 + 1 + 1)) 0, .v (.int .i64 er), .junk, .junk, c, .v (.int .i64 es.length), .v (.int .i64 i), .v (.bool true), .v (.bool true)], loop_ret ?_, rfl, rfl⟩
      rw [hv]
      have hnb : (er == 0) = false := by simpa using hne
      generalize (ds ++ List.replicate (t :: l).length (AV.agg zeroC)) = R at hc ⊢
      have hst2 : ∀ (m d : Int), evStore (ctr h id 1 (ms b d) m ++ (.box cs0 :: .box zeroC :: .row 4 0 R 0 :: (tail ++ [AO.box e.cells] ++ [AO.box zeroC]))) 4 (.ptr (h.length + (tail.length + 1 + 1 + 1 + 1)) 0) r = some (ctr h id 1 (ms b d) m ++ (.box cs0 :: .box zeroC :: .row 4 0 R 0 :: (tail ++ [AO.box e.cells] ++ [AO.box r.cells]))) := by
        intro m d
        have e1 : tail.length + 1 = (tail ++ [AO.box e.cells]).length := by simp
        have hg := hr
        generalize zeroT = zt at hg
        rw [show tail.length + 1 + 1 + 1 + 1 = (tail ++ [AO.box e.cells]).length + 1 + 1 + 1 by simp]
        generalize tail ++ [AO.box e.cells] = tl
        cases hg with
        | mk k s n c2 l2 hc2 =>
        simp only [c_st, stAt, zeroC, AV.cells, e_bslice1, e_bslice2, bs1, bs2, e_build, bdH_some, bd_nil, bd_cons, bd1, cl_agg, cl_int, toL, List.map_cons, List.map_nil, putAt, List.set_cons_zero, List.set_cons_succ, and_self, Nat.le_refl, app_get, app_set, g_agg, run_nil, run_cons, stp_plain, stp_guard, put_some, pass_eq, pick_tt, pick_ff, pick_tf, pick_ft, pick_u, reg_some, thn_normal, thn_exit, thn_ret, cnd_t, cnd_f, blk_normal, blk_ret, blk_exit, x_seq, x_region, x_cond, x_block, x_loop, x_ret, x_exit, x_skip, e_mov, e_pick, pk_t, pk_f, withH_some, e_box, e_load, e_store, stH_some, e_nil, e_bin, e_eqv, eqH_f, eqH_t, e_un, e_fa, e_ia, ia_eq, nat_eq, natV_nat, e_len, lnH_some, e_extract, ex_0, ex_1, e_call0, e_call1, e_call2, e_call3, pc0_eq, pc1_some, pc2_some, pc3_some, fin_some, g_var0, g_vars, g_loc0, g_locs, g_int, g_bool, g_str, g_sl, s_none, s_zero, s_succ, cl_nil, cl_str, cl_bool, cl_slc, cl_own, evFa, evNil, asEl, evBin, intBin, strBin, evUn, len_nil, len_slc, len_str, clr, List.length_nil, List.length_cons, List.getElem?_cons_zero, List.getElem?_cons_succ, Nat.reduceAdd, Nat.zero_add, Nat.add_zero, Nat.reduceLeDiff, Nat.reduceSub, ↓reduceIte, List.drop_succ_cons, List.drop_zero, List.take_succ_cons, List.take_zero, Bool.false_eq_true, List.nil_append, List.cons_append, Bool.not_true, Bool.not_false, cond_true, cond_false, bne, lv_ret, lv_normal, res1, res2, lv2_some, res_var, res_cell, lvf_v, lvf_slc, res1c, lvo1_some, e_mm, mm_max, mm_min]
        rfl
      simp only [List.append_assoc, zeroC, List.cons_append, List.nil_append] at hst2 hc
      simp only [L36, zeroC, c36_16, c36_9, c36_10, c36_11, c36_12, c36_13, hlt, hnb, q1, q3, hc, hst', hst2, hld, e_callh, q9z, c_ld, c_ld0, c_st, c_st0, c_bx, ldAt, stAt, preH_some, List.append_assoc, List.length_append, e_bslice1, e_bslice2, bs1, bs2, e_build, bdH_some, bd_nil, bd_cons, bd1, cl_agg, cl_int, toL, List.map_cons, List.map_nil, putAt, List.set_cons_zero, List.set_cons_succ, and_self, Nat.le_refl, app_get, app_set, g_agg, run_nil, run_cons, stp_plain, stp_guard, put_some, pass_eq, pick_tt, pick_ff, pick_tf, pick_ft, pick_u, reg_some, thn_normal, thn_exit, thn_ret, cnd_t, cnd_f, blk_normal, blk_ret, blk_exit, x_seq, x_region, x_cond, x_block, x_loop, x_ret, x_exit, x_skip, e_mov, e_pick, pk_t, pk_f, withH_some, e_box, e_load, e_store, stH_some, e_nil, e_bin, e_eqv, eqH_f, eqH_t, e_un, e_fa, e_ia, ia_eq, nat_eq, natV_nat, e_len, lnH_some, e_extract, ex_0, ex_1, e_call0, e_call1, e_call2, e_call3, pc0_eq, pc1_some, pc2_some, pc3_some, fin_some, g_var0, g_vars, g_loc0, g_locs, g_int, g_bool, g_str, g_sl, s_none, s_zero, s_succ, cl_nil, cl_str, cl_bool, cl_slc, cl_own, evFa, evNil, asEl, evBin, intBin, strBin, evUn, len_nil, len_slc, len_str, clr, List.length_nil, List.length_cons, List.getElem?_cons_zero, List.getElem?_cons_succ, Nat.reduceAdd, Nat.zero_add, Nat.add_zero, Nat.reduceLeDiff, Nat.reduceSub, ↓reduceIte, List.drop_succ_cons, List.drop_zero, List.take_succ_cons, List.take_zero, Bool.false_eq_true, List.nil_append, List.cons_append, Bool.not_true, Bool.not_false, cond_true, cond_false, bne, lv_ret, lv_normal, res1, res2, lv2_some, res_var, res_cell, lvf_v, lvf_slc, res1c, lvo1_some, e_mm, mm_max, mm_min]
    | ok q =>
      obtain ⟨x, m1⟩ := q
      rw [hres] at hrec
      obtain ⟨hle, r, hr, hc⟩ := hrec
      simp only [ctr_app hC.lt] at hc
      have tl3 : (tail ++ [AO.box e.cells, AO.box r.cells]).all (AO.below 0) = true := by
        have h1 := hT.bel
        have h2 := hr.bel
        simp only [List.all_append, List.all_cons, List.all_nil, htl, h1, h2, Bool.and_true]
      have row : ∀ tl : List AO, (AO.box cs0 :: .box zeroC :: .row 4 0 (ds ++ List.replicate (t :: l).length (.agg zeroC)) 0 :: tl : List AO)[2]? = some (.row 4 0 (ds ++ List.replicate (t :: l).length (.agg zeroC)) 0) := fun _ => rfl
      have q7 := own_ia (sz := 4) (H := ctr h id 1 (ms b (60 - (d : Int))) m1) ctr_len (row (tail ++ [AO.box e.cells, AO.box r.cells])) (n := es.length) (by omega) hil
      have hel : (ds ++ List.replicate (t :: l).length (AV.agg zeroC))[i]? = some (.agg zeroC) := by
        rw [List.getElem?_append_right (by omega)]
        simp [hds, List.replicate]
      have q8 := own_est (sz := 4) (H := ctr h id 1 (ms b (60 - (d : Int))) m1) ctr_len (row (tail ++ [AO.box e.cells, AO.box r.cells])) hel rfl (x := r) (hr.snap) hr.cl.1 hr.cl.2 hr.cellB
      have hset : (ds ++ List.replicate (t :: l).length (AV.agg zeroC)).set i (AV.agg r.cells) = (ds ++ [r]) ++ List.replicate l.length (AV.agg zeroC) := by
        rw [List.set_append_right _ _ (by omega)]
        have : AV.agg r.cells = r := hr.eta
        rw [this]
        simp [hds, List.replicate]
      rw [hset] at q8
      simp only [List.set_cons_succ, List.set_cons_zero] at q8
      have st : ∀ R R2, R = ds ++ List.replicate (t :: l).length (AV.agg zeroC) → R2 = (ds ++ [r]) ++ List.replicate l.length (AV.agg zeroC) → exec (callW F) K c36_16 (L36 id h.length es.length c i) (ctr h id 1 (ms b (60 - (d : Int))) m ++ (.box cs0 :: .box zeroC :: .row 4 0 R 0 :: tail)) = some (.normal, [.ptr id 0, .junk, .ptr h.length 0, .ptr (h.length + 1) 0, .junk, .junk, .own 4 (h.length + 2) 0 0 es.length, .v (.int .i64 i), .ptr (h.length + (tail.length + 1 + 1 + 1)) 0, .ptr (h.length + (tail.length + 1 + 1 + 1 + 1)) 0, .v (.int .i64 0), .junk, .junk, c, .v (.int .i64 es.length), .v (.int .i64 ((i + 1 : Nat) : Int)), .v (.bool true), .v (.bool false)], ctr h id 1 (ms b (60 - (d : Int))) m1 ++ (.box cs0 :: .box zeroC :: .row 4 0 R2 0 :: (tail ++ [AO.box e.cells, AO.box r.cells]))) := by
        intro R R2 hR hR2
        rw [← hR] at hc q7 q8
        rw [← hR2] at q8
        have hst2 : ∀ (m d : Int), evStore (ctr h id 1 (ms b d) m ++ (.box cs0 :: .box zeroC :: .row 4 0 R 0 :: (tail ++ [AO.box e.cells] ++ [AO.box zeroC]))) 4 (.ptr (h.length + (tail.length + 1 + 1 + 1 + 1)) 0) r = some (ctr h id 1 (ms b d) m ++ (.box cs0 :: .box zeroC :: .row 4 0 R 0 :: (tail ++ [AO.box e.cells] ++ [AO.box r.cells]))) := by
          intro m d
          have hg := hr
          rw [show tail.length + 1 + 1 + 1 + 1 = (tail ++ [AO.box e.cells]).length + 1 + 1 + 1 by simp]
          generalize tail ++ [AO.box e.cells] = tl
          cases hg with
          | mk k s n c2 l2 hc2 =>
          simp only [c_st, stAt, zeroC, AV.cells, e_bslice1, e_bslice2, bs1, bs2, e_build, bdH_some, bd_nil, bd_cons, bd1, cl_agg, cl_int, toL, List.map_cons, List.map_nil, putAt, List.set_cons_zero, List.set_cons_succ, and_self, Nat.le_refl, app_get, app_set, g_agg, run_nil, run_cons, stp_plain, stp_guard, put_some, pass_eq, pick_tt, pick_ff, pick_tf, pick_ft, pick_u, reg_some, thn_normal, thn_exit, thn_ret, cnd_t, cnd_f, blk_normal, blk_ret, blk_exit, x_seq, x_region, x_cond, x_block, x_loop, x_ret, x_exit, x_skip, e_mov, e_pick, pk_t, pk_f, withH_some, e_box, e_load, e_store, stH_some, e_nil, e_bin, e_eqv, eqH_f, eqH_t, e_un, e_fa, e_ia, ia_eq, nat_eq, natV_nat, e_len, lnH_some, e_extract, ex_0, ex_1, e_call0, e_call1, e_call2, e_call3, pc0_eq, pc1_some, pc2_some, pc3_some, fin_some, g_var0, g_vars, g_loc0, g_locs, g_int, g_bool, g_str, g_sl, s_none, s_zero, s_succ, cl_nil, cl_str, cl_bool, cl_slc, cl_own, evFa, evNil, asEl, evBin, intBin, strBin, evUn, len_nil, len_slc, len_str, clr, List.length_nil, List.length_cons, List.getElem?_cons_zero, List.getElem?_cons_succ, Nat.reduceAdd, Nat.zero_add, Nat.add_zero, Nat.reduceLeDiff, Nat.reduceSub, ↓reduceIte, List.drop_succ_cons, List.drop_zero, List.take_succ_cons, List.take_zero, Bool.false_eq_true, List.nil_append, List.cons_append, Bool.not_true, Bool.not_false, cond_true, cond_false, bne, lv_ret, lv_normal, res1, res2, lv2_some, res_var, res_cell, lvf_v, lvf_slc, res1c, lvo1_some, e_mm, mm_max, mm_min]
          rfl
        have hld2 : ∀ (m d : Int), evLoad (ctr h id 1 (ms b d) m ++ (.box cs0 :: .box zeroC :: .row 4 0 R 0 :: (tail ++ [AO.box e.cells] ++ [AO.box r.cells]))) true 4 (.ptr (h.length + (tail.length + 1 + 1 + 1 + 1)) 0) = some r := by
          intro m d
          rw [show tail.length + 1 + 1 + 1 + 1 = (tail ++ [AO.box e.cells]).length + 1 + 1 + 1 by simp]
          generalize tail ++ [AO.box e.cells] = tl
          rw [c_ld]
          simp only [ldAt, List.getElem?_cons_succ, app_get, hr.cl.2, List.drop_zero, hr.asEl]
          rfl
        have hnb : ((0 : Int) == 0) = true := rfl
        simp only [List.append_assoc, zeroC, List.cons_append, List.nil_append] at hst2 hld2 hc q7 q8
        simp only [L36, zeroC, c36_16, c36_9, c36_10, c36_11, c36_12, c36_14, c36_15, hlt, hnb, wrap_succ hil (small_max hm), q1, q3, q7, q8, hc, hst', hst2, hld2, hld, e_callh, q9z, c_ld, c_ld0, c_st, c_st0, c_bx, ldAt, stAt, preH_some, List.append_assoc, List.length_append, e_bslice1, e_bslice2, bs1, bs2, e_build, bdH_some, bd_nil, bd_cons, bd1, cl_agg, cl_int, toL, List.map_cons, List.map_nil, putAt, List.set_cons_zero, List.set_cons_succ, and_self, Nat.le_refl, app_get, app_set, g_agg, run_nil, run_cons, stp_plain, stp_guard, put_some, pass_eq, pick_tt, pick_ff, pick_tf, pick_ft, pick_u, reg_some, thn_normal, thn_exit, thn_ret, cnd_t, cnd_f, blk_normal, blk_ret, blk_exit, x_seq, x_region, x_cond, x_block, x_loop, x_ret, x_exit, x_skip, e_mov, e_pick, pk_t, pk_f, withH_some, e_box, e_load, e_store, stH_some, e_nil, e_bin, e_eqv, eqH_f, eqH_t, e_un, e_fa, e_ia, ia_eq, nat_eq, natV_nat, e_len, lnH_some, e_extract, ex_0, ex_1, e_call0, e_call1, e_call2, e_call3, pc0_eq, pc1_some, pc2_some, pc3_some, fin_some, g_var0, g_vars, g_loc0, g_locs, g_int, g_bool, g_str, g_sl, s_none, s_zero, s_succ, cl_nil, cl_str, cl_bool, cl_slc, cl_own, evFa, evNil, asEl, evBin, intBin, strBin, evUn, len_nil, len_slc, len_str, clr, List.length_nil, List.length_cons, List.getElem?_cons_zero, List.getElem?_cons_succ, Nat.reduceAdd, Nat.zero_add, Nat.add_zero, Nat.reduceLeDiff, Nat.reduceSub, ↓reduceIte, List.drop_succ_cons, List.drop_zero, List.take_succ_cons, List.take_zero, Bool.false_eq_true, List.nil_append, List.cons_append, Bool.not_true, Bool.not_false, cond_true, cond_false, bne, lv_ret, lv_normal, res1, res2, lv2_some, res_var, res_cell, lvf_v, lvf_slc, res1c, lvo1_some, e_mm, mm_max, mm_min]
      have hnext := ih (i + 1) m1 (ds ++ [r]) (dl ++ [x]) (tail ++ [AO.box e.cells, AO.box r.cells]) [.ptr id 0, .junk, .ptr h.length 0, .ptr (h.length + 1) 0, .junk, .junk, .own 4 (h.length + 2) 0 0 es.length, .v (.int .i64 i), .ptr (h.length + (tail.length + 1 + 1 + 1)) 0, .ptr (h.length + (tail.length + 1 + 1 + 1 + 1)) 0, .v (.int .i64 0), .junk, .junk, c, .v (.int .i64 es.length), .v (.int .i64 ((i + 1 : Nat) : Int)), .v (.bool true), .v (.bool false)] (by simp at hi; omega) (by simp [hds]) (by omega) hs' (hall.app (.one hr)) (fun t ht => hszs t (by simp [ht])) tl3 rfl
      have hln : ∀ X, loopN (exec (callW F) K c36_16) K36 ((t :: l).length + 1) vars (ctr h id 1 (ms b (60 - (d : Int))) m ++ (.box cs0 :: .box zeroC :: .row 4 0 (ds ++ List.replicate (t :: l).length (.agg zeroC)) 0 :: tail)) = X ↔ _ = X := fun X => by
        rw [show (t :: l).length + 1 = (l.length + 1) + 1 from rfl, loop_normal (by rw [hv]; exact st _ _ rfl rfl)]
      dsimp only
      cases hrl : resL (resT rs d) m1 l with
      | error er =>
        rw [hrl] at hnext
        obtain ⟨hne, l', d', o, tail', vs, g1, g2, g3⟩ := hnext
        exact ⟨hne, l', d', o, tail', vs, (hln _).2 g1, g2, g3⟩
      | ok q =>
        obtain ⟨xs, m2⟩ := q
        rw [hrl] at hnext
        obtain ⟨hle2, ds', tail', x1, x4, x5, x7, x8, x9, x10, x11, x12, x16, x17, g1, g2, g3⟩ := hnext
        exact ⟨by omega, ds', tail', x1, x4, x5, x7, x8, x9, x10, x11, x12, x16, x17, (hln _).2 g1, by simpa using g2, g3⟩
end
end Go.AE.Ytpgoibncgekflaa
end

/-! Resolve walked. -/
section
set_option linter.unusedVariables false
set_option linter.unusedSimpArgs false
namespace Go.AE.Ytpgoibncgekflaa
open Go Go.AE Go.Proofs.Ytpgoibncgekflaa

theorem frz_mk {h' : List AO} {B idx n : Nat} {k n' : Int} {s : ByteArray} {ds : List AV} (hr : h'[idx]? = some (.row 4 0 ds 0)) (hn : ¬ idx < B) (hl : n = ds.length) : (AV.agg [.v (.int .i64 k), .v (.string s), .v (.int .i64 n'), .own 4 idx 0 0 n]).frz1 B h' = some (.agg [.v (.int .i64 k), .v (.string s), .v (.int .i64 n'), .slc 4 false false ds]) := by
  subst hl
  simp [AV.frz1, AV.frz0, hn, rowAt, hr]
def tail36 : CC := (.seq (.region [] [] c36_17) (.seq (.region [] [] c36_18) (.seq (.region [] [] c36_19) .ret)))
def mid36 : CC := (.seq (.region [] [] c36_6) (.seq (.region [] [] c36_7) (.seq (.seq (.region [] [] c36_8) (.block 1 (.loop K36 [] c36_16))) tail36)))
def head36 (rest : CC) : CC := (.seq (.region [] [] c36_0) (.seq (.region [] [] c36_1) (.seq (.block 0 (.seq (.region [] [] c36_2) (.cond (.var 11) (.seq (.region [] [] c36_3) .ret) (.seq (.region [] [] c36_4) (.cond (.var 12) (.seq (.region [] [] c36_5) .ret) .skip))))) rest)))
theorem body36 : c36.body = head36 mid36 := rfl
theorem start36 (a b : AV) : start c36 [a, b] = [a, b, .v undef, .v undef, .v undef, .v undef, .v undef, .v undef, .v undef, .v undef, .v undef, .v undef, .v undef, .v undef, .v undef, .v undef, .v undef, .v undef] := rfl

section
variable {h : List AO} {id : Nat} {b : AV} {d d' m : Int} {l : List AO}
theorem res36 {es : List AV} {rs : List (Int × Tm)} (hes : AllB es rs) (hbs : ∀ h : List AO, b.snap1 h = some b) (hlook : ∀ n, callW F 13 [b, .v (.int .i64 n)] [] = some (lookA n es, [])) (hrs : ∀ p ∈ rs, size p.2 ≤ 100000) : ∀ d : Nat, d ≤ 60 → Res36 rs b d := by
  intro d
  induction d with
  | zero =>
    intro _ h id m t a c hm hsz ht
    have hl2 : ([.box a.cells, .box zeroC] : List AO).all (AO.below 0) = true := by
      have h1 := ht.bel
      have hz : (AO.box zeroC).below 0 = true := rfl
      simp only [List.all_cons, List.all_nil, h1, hz, Bool.and_true]
    obtain ⟨rc, hrc, hc⟩ := meet_ok (c.app0 hl2) hes hbs hlook m hm ht
    rw [ctr_app c.lt, ctr_app c.lt] at hc
    have hD : (60 : Int) - ((0 : Nat) : Int) = 60 := rfl
    rw [hD] at c hc ⊢
    have hresv : c36.res = [.cell 3 true 4, .var 4] := rfl
    rcases meetT_err rs m t with h0 | ⟨h1, h2⟩
    · -- too deep
      simp only [resT]
      generalize meetT rs m t = w at hrc hc h0 ⊢
      obtain ⟨w1, w2, w3⟩ := w
      dsimp only at h0 hrc hc ⊢
      subst h0
      rw [if_pos rfl]
      refine ⟨by decide, .agg zeroC, w3, 60, isT_zero, callW_own (c := c36) rfl rfl 0 ?_⟩
      have e1 : ((60 : Int) == 60) = true := rfl
      have e2 : ((0 : Int) == 0) = true := rfl
      have body : exec (callW F) 0 c36.body (start c36 [.ptr id 0, a]) (ctr h id 1 (ms b 60) m ++ []) = some (.ret, [.ptr id 0, a, .ptr h.length 0, .ptr (h.length + 1) 0, .v (.int .i64 3), .v (.int .i64 0), .v undef, .v undef, .v undef, .v undef, .v undef, .v (.bool false), .v (.bool true), .v undef, .v undef, .v undef, .v undef, .v undef], ctr h id 1 (ms b 60) w3 ++ [.box rc, .box zeroC]) := by
        rw [body36, start36]
        generalize mid36 = rest
        cases hrc
        cases ht
        simp only [AV.cells, zeroC] at hc
        simp only [head36, zeroC, c36_0, c36_1, c36_2, c36_4, c36_5, e1, e2, hc, e_callh, q9z, AV.cells, r_ld0 c, r_ld2 c, evNil, c_ld, c_ld0, c_st, c_st0, c_bx, ldAt, stAt, preH_some, List.append_assoc, e_bslice1, e_bslice2, bs1, bs2, e_build, bdH_some, bd_nil, bd_cons, bd1, cl_agg, cl_int, toL, List.map_cons, List.map_nil, putAt, List.set_cons_zero, List.set_cons_succ, and_self, Nat.le_refl, app_get, app_set, g_agg, run_nil, run_cons, stp_plain, stp_guard, put_some, pass_eq, pick_tt, pick_ff, pick_tf, pick_ft, pick_u, reg_some, thn_normal, thn_exit, thn_ret, cnd_t, cnd_f, blk_normal, blk_ret, blk_exit, x_seq, x_region, x_cond, x_block, x_loop, x_ret, x_exit, x_skip, e_mov, e_pick, pk_t, pk_f, withH_some, e_box, e_load, e_store, stH_some, e_nil, e_bin, e_eqv, eqH_f, eqH_t, e_un, e_fa, e_ia, ia_eq, nat_eq, natV_nat, e_len, lnH_some, e_extract, ex_0, ex_1, e_call0, e_call1, e_call2, e_call3, pc0_eq, pc1_some, pc2_some, pc3_some, fin_some, g_var0, g_vars, g_loc0, g_locs, g_int, g_bool, g_str, g_sl, s_none, s_zero, s_succ, cl_nil, cl_str, cl_bool, cl_slc, cl_own, evFa, evNil, asEl, evBin, intBin, strBin, evUn, len_nil, len_slc, len_str, clr, List.length_nil, List.length_cons, List.getElem?_cons_zero, List.getElem?_cons_succ, Nat.reduceAdd, Nat.zero_add, Nat.add_zero, Nat.reduceLeDiff, Nat.reduceSub, ↓reduceIte, List.drop_succ_cons, List.drop_zero, List.take_succ_cons, List.take_zero, Bool.false_eq_true, List.nil_append, List.cons_append, Bool.not_true, Bool.not_false, cond_true, cond_false, bne, lv_ret, lv_normal, res1, res2, lv2_some, res_var, res_cell, lvf_v, lvf_slc, res1c, lvo1_some, e_mm, mm_max, mm_min]
      rw [body, ctr_len, leave_own ctr_len (c.all _), hresv, own_res2 (x := .agg zeroC) (y := .v (.int .i64 3)) _ _]
      · exact lvo_two (isT_zero.frz _ _) rfl
      · simp only [res_cell, c_ld, ldAt, zeroC, e_bslice1, e_bslice2, bs1, bs2, e_build, bdH_some, bd_nil, bd_cons, bd1, cl_agg, cl_int, toL, List.map_cons, List.map_nil, putAt, List.set_cons_zero, List.set_cons_succ, and_self, Nat.le_refl, app_get, app_set, g_agg, run_nil, run_cons, stp_plain, stp_guard, put_some, pass_eq, pick_tt, pick_ff, pick_tf, pick_ft, pick_u, reg_some, thn_normal, thn_exit, thn_ret, cnd_t, cnd_f, blk_normal, blk_ret, blk_exit, x_seq, x_region, x_cond, x_block, x_loop, x_ret, x_exit, x_skip, e_mov, e_pick, pk_t, pk_f, withH_some, e_box, e_load, e_store, stH_some, e_nil, e_bin, e_eqv, eqH_f, eqH_t, e_un, e_fa, e_ia, ia_eq, nat_eq, natV_nat, e_len, lnH_some, e_extract, ex_0, ex_1, e_call0, e_call1, e_call2, e_call3, pc0_eq, pc1_some, pc2_some, pc3_some, fin_some, g_var0, g_vars, g_loc0, g_locs, g_int, g_bool, g_str, g_sl, s_none, s_zero, s_succ, cl_nil, cl_str, cl_bool, cl_slc, cl_own, evFa, evNil, asEl, evBin, intBin, strBin, evUn, len_nil, len_slc, len_str, clr, List.length_nil, List.length_cons, List.getElem?_cons_zero, List.getElem?_cons_succ, Nat.reduceAdd, Nat.zero_add, Nat.add_zero, Nat.reduceLeDiff, Nat.reduceSub, ↓reduceIte, List.drop_succ_cons, List.drop_zero, List.take_succ_cons, List.take_zero, Bool.false_eq_true, List.nil_append, List.cons_append, Bool.not_true, Bool.not_false, cond_true, cond_false, bne, lv_ret, lv_normal, res1, res2, lv2_some, res_var, res_cell, lvf_v, lvf_slc, res1c, lvo1_some, e_mm, mm_max, mm_min]
      · rfl
    · simp only [resT]
      generalize meetT rs m t = w at hrc hc h1 h2 ⊢
      obtain ⟨w1, w2, w3⟩ := w
      dsimp only at h1 h2 hrc hc ⊢
      subst h1
      subst h2
      rw [if_neg (by decide)]
      refine ⟨by decide, .agg rc, w3, 60, hrc, callW_own (c := c36) rfl rfl 0 ?_⟩
      have e2 : ((140 : Int) == 0) = false := rfl
      have body : exec (callW F) 0 c36.body (start c36 [.ptr id 0, a]) (ctr h id 1 (ms b 60) m ++ []) = some (.ret, [.ptr id 0, a, .ptr h.length 0, .ptr (h.length + 1) 0, .v (.int .i64 140), .v (.int .i64 140), .v undef, .v undef, .v undef, .v undef, .v undef, .v (.bool true), .v undef, .v undef, .v undef, .v undef, .v undef, .v undef], ctr h id 1 (ms b 60) w3 ++ [.box rc, .box rc]) := by
        rw [body36, start36]
        generalize mid36 = rest
        generalize zeroT = zt at hrc
        cases hrc
        cases ht
        simp only [AV.cells, zeroC] at hc
        simp only [head36, zeroC, c36_0, c36_1, c36_2, c36_3, e2, hc, e_callh, q9z, AV.cells, r_ld0 c, r_ld2 c, evNil, c_ld, c_ld0, c_st, c_st0, c_bx, ldAt, stAt, preH_some, List.append_assoc, e_bslice1, e_bslice2, bs1, bs2, e_build, bdH_some, bd_nil, bd_cons, bd1, cl_agg, cl_int, toL, List.map_cons, List.map_nil, putAt, List.set_cons_zero, List.set_cons_succ, and_self, Nat.le_refl, app_get, app_set, g_agg, run_nil, run_cons, stp_plain, stp_guard, put_some, pass_eq, pick_tt, pick_ff, pick_tf, pick_ft, pick_u, reg_some, thn_normal, thn_exit, thn_ret, cnd_t, cnd_f, blk_normal, blk_ret, blk_exit, x_seq, x_region, x_cond, x_block, x_loop, x_ret, x_exit, x_skip, e_mov, e_pick, pk_t, pk_f, withH_some, e_box, e_load, e_store, stH_some, e_nil, e_bin, e_eqv, eqH_f, eqH_t, e_un, e_fa, e_ia, ia_eq, nat_eq, natV_nat, e_len, lnH_some, e_extract, ex_0, ex_1, e_call0, e_call1, e_call2, e_call3, pc0_eq, pc1_some, pc2_some, pc3_some, fin_some, g_var0, g_vars, g_loc0, g_locs, g_int, g_bool, g_str, g_sl, s_none, s_zero, s_succ, cl_nil, cl_str, cl_bool, cl_slc, cl_own, evFa, evNil, asEl, evBin, intBin, strBin, evUn, len_nil, len_slc, len_str, clr, List.length_nil, List.length_cons, List.getElem?_cons_zero, List.getElem?_cons_succ, Nat.reduceAdd, Nat.zero_add, Nat.add_zero, Nat.reduceLeDiff, Nat.reduceSub, ↓reduceIte, List.drop_succ_cons, List.drop_zero, List.take_succ_cons, List.take_zero, Bool.false_eq_true, List.nil_append, List.cons_append, Bool.not_true, Bool.not_false, cond_true, cond_false, bne, lv_ret, lv_normal, res1, res2, lv2_some, res_var, res_cell, lvf_v, lvf_slc, res1c, lvo1_some, e_mm, mm_max, mm_min]
      rw [body, ctr_len, leave_own ctr_len (c.all _), hresv, own_res2 (x := .agg rc) (y := .v (.int .i64 140)) _ _]
      · exact lvo_two (hrc.frz _ _) rfl
      · generalize zeroT = zt at hrc
        cases hrc; simp only [res_cell, c_ld, ldAt, e_bslice1, e_bslice2, bs1, bs2, e_build, bdH_some, bd_nil, bd_cons, bd1, cl_agg, cl_int, toL, List.map_cons, List.map_nil, putAt, List.set_cons_zero, List.set_cons_succ, and_self, Nat.le_refl, app_get, app_set, g_agg, run_nil, run_cons, stp_plain, stp_guard, put_some, pass_eq, pick_tt, pick_ff, pick_tf, pick_ft, pick_u, reg_some, thn_normal, thn_exit, thn_ret, cnd_t, cnd_f, blk_normal, blk_ret, blk_exit, x_seq, x_region, x_cond, x_block, x_loop, x_ret, x_exit, x_skip, e_mov, e_pick, pk_t, pk_f, withH_some, e_box, e_load, e_store, stH_some, e_nil, e_bin, e_eqv, eqH_f, eqH_t, e_un, e_fa, e_ia, ia_eq, nat_eq, natV_nat, e_len, lnH_some, e_extract, ex_0, ex_1, e_call0, e_call1, e_call2, e_call3, pc0_eq, pc1_some, pc2_some, pc3_some, fin_some, g_var0, g_vars, g_loc0, g_locs, g_int, g_bool, g_str, g_sl, s_none, s_zero, s_succ, cl_nil, cl_str, cl_bool, cl_slc, cl_own, evFa, evNil, asEl, evBin, intBin, strBin, evUn, len_nil, len_slc, len_str, clr, List.length_nil, List.length_cons, List.getElem?_cons_zero, List.getElem?_cons_succ, Nat.reduceAdd, Nat.zero_add, Nat.add_zero, Nat.reduceLeDiff, Nat.reduceSub, ↓reduceIte, List.drop_succ_cons, List.drop_zero, List.take_succ_cons, List.take_zero, Bool.false_eq_true, List.nil_append, List.cons_append, Bool.not_true, Bool.not_false, cond_true, cond_false, bne, lv_ret, lv_normal, res1, res2, lv2_some, res_var, res_cell, lvf_v, lvf_slc, res1c, lvo1_some, e_mm, mm_max, mm_min]
      · rfl
  | succ d ih =>
    intro hd60 h id m t a c hm hsz ht
    have hR := ih (by omega)
    have hl2 : ([.box a.cells, .box zeroC] : List AO).all (AO.below 0) = true := by
      have h1 := ht.bel
      have hz : (AO.box zeroC).below 0 = true := rfl
      simp only [List.all_cons, List.all_nil, h1, hz, Bool.and_true]
    obtain ⟨rc, hrc, hc⟩ := meet_ok (c.app0 hl2) hes hbs hlook m hm ht
    rw [ctr_app c.lt, ctr_app c.lt] at hc
    have hresv : c36.res = [.cell 3 true 4, .var 4] := rfl
    have hmle := meetT_le rs m t
    have hmsz := meetT_size (M := 100000) (by omega) hrs m t hsz
    rcases meetT_err rs m t with h0 | ⟨h1, h2⟩
    · simp only [resT]
      generalize meetT rs m t = w at hrc hc h0 hmle hmsz ⊢
      obtain ⟨w1, w2, w3⟩ := w
      dsimp only at h0 hrc hc hmle hmsz
      subst h0
      have hbelr := hrc.bel
      cases hrc with
      | mk k s n cl l hcl =>
      dsimp only
      rw [if_pos rfl]
      simp only [size] at hmsz
      have hll := sizeL_len l
      obtain ⟨es', hs, hes', hmx⟩ := hcl.sl
      have e1 := hes'.length
      have c1 := c.ms (60 - (d : Int))
      have hloop := res_loop (K := l.length + 1) (cs0 := [.v (.int .i64 k), .v (.string s), .v (.int .i64 n), cl]) hs (by omega) d hbelr hR c1 l 0 w3 [] [] [] (L36 id h.length es'.length cl (0 : Nat)) (by omega) rfl (by omega) (by simpa using hes') .nil (fun t ht => by have := size_mem ht; omega) rfl rfl
      have d1 : ((60 : Int) - ((d + 1 : Nat) : Int) == 60) = false := by rw [beq_eq_false_iff_ne]; omega
      have d2 : IntKind.i64.wrap ((60 : Int) - ((d + 1 : Nat) : Int) + 1) = 60 - (d : Int) := by
        rw [IntWalk.i64_in] <;> omega
      have d3 : IntKind.i64.wrap ((60 : Int) - (d : Int) - 1) = 60 - ((d + 1 : Nat) : Int) := by
        rw [IntWalk.i64_in] <;> omega
      have z0 : ((0 : Int) == 0) = true := rfl
      have hrow : (List.replicate es'.length (AV.agg zeroC)) = [] ++ List.replicate l.length (AV.agg zeroC) := by rw [e1]; rfl
      have mk := mkS_own (sz := 4) (H := ctr h id 1 (ms b (60 - (d : Int))) w3) (l := [.box [.v (.int .i64 k), .v (.string s), .v (.int .i64 n), cl], .box zeroC]) (B := h.length) ctr_len (bytes := 56) (zero := [(.int .i64 0), (.string ⟨#[]⟩), (.int .i64 0), (.slice none 0 0)]) (n := es'.length) (by have : maxLen = 9223372036854775807 := rfl; omega) (by omega)
      rw [zeroEl4, hrow] at mk
      have pre : exec (callW F) (l.length + 1) c36.body (start c36 [.ptr id 0, a]) (ctr h id 1 (ms b (60 - ((d + 1 : Nat) : Int))) m ++ []) = thn (callW F) (l.length + 1) tail36 (blk 1 (loopN (exec (callW F) (l.length + 1) c36_16) K36 (l.length + 1) (L36 id h.length es'.length cl ((0 : Nat) : Int)) (ctr h id 1 (ms b (60 - (d : Int))) w3 ++ (.box [.v (.int .i64 k), .v (.string s), .v (.int .i64 n), cl] :: .box zeroC :: .row 4 0 ([] ++ List.replicate l.length (AV.agg zeroC)) 0 :: [])))) := by
        rw [body36, start36]
        generalize ([] ++ List.replicate l.length (AV.agg zeroC)) = R at mk ⊢
        have hrd := r_ld2 (m := (w3 : Int)) (l := [.box [.v (.int .i64 k), .v (.string s), .v (.int .i64 n), cl], .box zeroC]) c
        have hrs := r_st2 (m := (w3 : Int)) (d' := 60 - (d : Int)) (l := [.box [.v (.int .i64 k), .v (.string s), .v (.int .i64 n), cl], .box zeroC]) c
        simp only [zeroC] at hrd hrs
        cases ht
        simp only [AV.cells, zeroC] at hc mk
        simp only [head36, mid36, zeroC, c36_0, c36_1, c36_2, c36_4, c36_6, c36_7, c36_8, d1, d2, z0, hc, mk, hs.len, hrd, hrs, e_mkslice, e_callh, q9z, AV.cells, r_ld0 c, r_ld2 c, evNil, c_ld, c_ld0, c_st, c_st0, c_bx, ldAt, stAt, preH_some, List.append_assoc, e_bslice1, e_bslice2, bs1, bs2, e_build, bdH_some, bd_nil, bd_cons, bd1, cl_agg, cl_int, toL, List.map_cons, List.map_nil, putAt, List.set_cons_zero, List.set_cons_succ, and_self, Nat.le_refl, app_get, app_set, g_agg, run_nil, run_cons, stp_plain, stp_guard, put_some, pass_eq, pick_tt, pick_ff, pick_tf, pick_ft, pick_u, reg_some, thn_normal, thn_exit, thn_ret, cnd_t, cnd_f, blk_normal, blk_ret, blk_exit, x_seq, x_region, x_cond, x_block, x_loop, x_ret, x_exit, x_skip, e_mov, e_pick, pk_t, pk_f, withH_some, e_box, e_load, e_store, stH_some, e_nil, e_bin, e_eqv, eqH_f, eqH_t, e_un, e_fa, e_ia, ia_eq, nat_eq, natV_nat, e_len, lnH_some, e_extract, ex_0, ex_1, e_call0, e_call1, e_call2, e_call3, pc0_eq, pc1_some, pc2_some, pc3_some, fin_some, g_var0, g_vars, g_loc0, g_locs, g_int, g_bool, g_str, g_sl, s_none, s_zero, s_succ, cl_nil, cl_str, cl_bool, cl_slc, cl_own, evFa, evNil, asEl, evBin, intBin, strBin, evUn, len_nil, len_slc, len_str, clr, List.length_nil, List.length_cons, List.getElem?_cons_zero, List.getElem?_cons_succ, Nat.reduceAdd, Nat.zero_add, Nat.add_zero, Nat.reduceLeDiff, Nat.reduceSub, ↓reduceIte, List.drop_succ_cons, List.drop_zero, List.take_succ_cons, List.take_zero, Bool.false_eq_true, List.nil_append, List.cons_append, Bool.not_true, Bool.not_false, cond_true, cond_false, bne, lv_ret, lv_normal, res1, res2, lv2_some, res_var, res_cell, lvf_v, lvf_slc, res1c, lvo1_some, e_mm, mm_max, mm_min]
        rw [loop_cong (v2 := L36 id h.length es'.length cl ((0 : Nat) : Int)) (by rfl)]
      cases hrl : resL (resT rs d) w3 l with
      | error er =>
        rw [hrl] at hloop
        obtain ⟨hne, l', d', o, tail', vs, g1, g2, g3⟩ := hloop
        refine ⟨hne, .agg zeroC, l', d', isT_zero, callW_own (c := c36) rfl rfl (l.length + 1) ?_⟩
        rw [pre, g1]
        simp only [blk_ret, thn_ret]
        rw [ctr_len, leave_own ctr_len (c1.ms d' |>.all _), hresv, own_res2 (x := .agg zeroC) (y := .v (.int .i64 er)) _ _]
        · exact lvo_two (isT_zero.frz _ _) rfl
        · rw [res_cell, g2]; simp only [c_ld, ldAt, zeroC, e_bslice1, e_bslice2, bs1, bs2, e_build, bdH_some, bd_nil, bd_cons, bd1, cl_agg, cl_int, toL, List.map_cons, List.map_nil, putAt, List.set_cons_zero, List.set_cons_succ, and_self, Nat.le_refl, app_get, app_set, g_agg, run_nil, run_cons, stp_plain, stp_guard, put_some, pass_eq, pick_tt, pick_ff, pick_tf, pick_ft, pick_u, reg_some, thn_normal, thn_exit, thn_ret, cnd_t, cnd_f, blk_normal, blk_ret, blk_exit, x_seq, x_region, x_cond, x_block, x_loop, x_ret, x_exit, x_skip, e_mov, e_pick, pk_t, pk_f, withH_some, e_box, e_load, e_store, stH_some, e_nil, e_bin, e_eqv, eqH_f, eqH_t, e_un, e_fa, e_ia, ia_eq, nat_eq, natV_nat, e_len, lnH_some, e_extract, ex_0, ex_1, e_call0, e_call1, e_call2, e_call3, pc0_eq, pc1_some, pc2_some, pc3_some, fin_some, g_var0, g_vars, g_loc0, g_locs, g_int, g_bool, g_str, g_sl, s_none, s_zero, s_succ, cl_nil, cl_str, cl_bool, cl_slc, cl_own, evFa, evNil, asEl, evBin, intBin, strBin, evUn, len_nil, len_slc, len_str, clr, List.length_nil, List.length_cons, List.getElem?_cons_zero, List.getElem?_cons_succ, Nat.reduceAdd, Nat.zero_add, Nat.add_zero, Nat.reduceLeDiff, Nat.reduceSub, ↓reduceIte, List.drop_succ_cons, List.drop_zero, List.take_succ_cons, List.take_zero, Bool.false_eq_true, List.nil_append, List.cons_append, Bool.not_true, Bool.not_false, cond_true, cond_false, bne, lv_ret, lv_normal, res1, res2, lv2_some, res_var, res_cell, lvf_v, lvf_slc, res1c, lvo1_some, e_mm, mm_max, mm_min]
        · rw [res_var, g3]
      | ok q =>
        obtain ⟨xs, m2⟩ := q
        rw [hrl] at hloop
        obtain ⟨hle2, ds', tail', x1, x4, x5, x7, x8, x9, x10, x11, x12, x16, x17, g1, g2, g3⟩ := hloop
        refine ⟨by omega, .agg [.v (.int .i64 k), .v (.string s), .v (.int .i64 n), .slc 4 false false ds'], .mk _ _ _ _ _ (.slc _ _ _ _ (by simpa using g2) (by omega)), callW_own (c := c36) rfl rfl (l.length + 1) ?_⟩
        have hds : (ctr h id 1 (ms b (60 - ((d + 1 : Nat) : Int))) m2 ++ (.box [.v (.int .i64 k), .v (.string s), .v (.int .i64 n), .own 4 (h.length + 2) 0 0 es'.length] :: .box [.v (.int .i64 k), .v (.string s), .v (.int .i64 n), .own 4 (h.length + 2) 0 0 es'.length] :: .row 4 0 ds' 0 :: tail'))[h.length + 2]? = some (.row 4 0 ds' 0) := obj_get ctr_len
        rw [pre, g1]
        have hfin : exec (callW F) (l.length + 1) tail36 [.ptr id 0, x1, .ptr h.length 0, .ptr (h.length + 1) 0, x4, x5, .own 4 (h.length + 2) 0 0 es'.length, x7, x8, x9, x10, x11, x12, cl, .v (.int .i64 es'.length), .v (.int .i64 es'.length), x16, x17] (ctr h id 1 (ms b (60 - (d : Int))) m2 ++ (.box [.v (.int .i64 k), .v (.string s), .v (.int .i64 n), cl] :: .box zeroC :: .row 4 0 ds' 0 :: tail')) = some (.ret, [.ptr id 0, x1, .ptr h.length 0, .ptr (h.length + 1) 0, .v (.int .i64 0), x5, .own 4 (h.length + 2) 0 0 es'.length, x7, x8, x9, x10, x11, x12, cl, .v (.int .i64 es'.length), .v (.int .i64 es'.length), x16, x17], ctr h id 1 (ms b (60 - ((d + 1 : Nat) : Int))) m2 ++ (.box [.v (.int .i64 k), .v (.string s), .v (.int .i64 n), .own 4 (h.length + 2) 0 0 es'.length] :: .box [.v (.int .i64 k), .v (.string s), .v (.int .i64 n), .own 4 (h.length + 2) 0 0 es'.length] :: .row 4 0 ds' 0 :: tail')) := by
          have hrd := r_ld2 (m := (m2 : Int)) (l := (.box [.v (.int .i64 k), .v (.string s), .v (.int .i64 n), cl] :: .box zeroC :: .row 4 0 ds' 0 :: tail')) c1
          have hrs := r_st2 (m := (m2 : Int)) (d' := 60 - ((d + 1 : Nat) : Int)) (l := (.box [.v (.int .i64 k), .v (.string s), .v (.int .i64 n), cl] :: .box zeroC :: .row 4 0 ds' 0 :: tail')) c1
          simp only [zeroC] at hrd hrs
          simp only [tail36, zeroC, c36_17, c36_18, c36_19, d3, hrd, hrs, evNil, c_ld, c_ld0, c_st, c_st0, c_bx, ldAt, stAt, preH_some, List.append_assoc, e_bslice1, e_bslice2, bs1, bs2, e_build, bdH_some, bd_nil, bd_cons, bd1, cl_agg, cl_int, toL, List.map_cons, List.map_nil, putAt, List.set_cons_zero, List.set_cons_succ, and_self, Nat.le_refl, app_get, app_set, g_agg, run_nil, run_cons, stp_plain, stp_guard, put_some, pass_eq, pick_tt, pick_ff, pick_tf, pick_ft, pick_u, reg_some, thn_normal, thn_exit, thn_ret, cnd_t, cnd_f, blk_normal, blk_ret, blk_exit, x_seq, x_region, x_cond, x_block, x_loop, x_ret, x_exit, x_skip, e_mov, e_pick, pk_t, pk_f, withH_some, e_box, e_load, e_store, stH_some, e_nil, e_bin, e_eqv, eqH_f, eqH_t, e_un, e_fa, e_ia, ia_eq, nat_eq, natV_nat, e_len, lnH_some, e_extract, ex_0, ex_1, e_call0, e_call1, e_call2, e_call3, pc0_eq, pc1_some, pc2_some, pc3_some, fin_some, g_var0, g_vars, g_loc0, g_locs, g_int, g_bool, g_str, g_sl, s_none, s_zero, s_succ, cl_nil, cl_str, cl_bool, cl_slc, cl_own, evFa, evNil, asEl, evBin, intBin, strBin, evUn, len_nil, len_slc, len_str, clr, List.length_nil, List.length_cons, List.getElem?_cons_zero, List.getElem?_cons_succ, Nat.reduceAdd, Nat.zero_add, Nat.add_zero, Nat.reduceLeDiff, Nat.reduceSub, ↓reduceIte, List.drop_succ_cons, List.drop_zero, List.take_succ_cons, List.take_zero, Bool.false_eq_true, List.nil_append, List.cons_append, Bool.not_true, Bool.not_false, cond_true, cond_false, bne, lv_ret, lv_normal, res1, res2, lv2_some, res_var, res_cell, lvf_v, lvf_slc, res1c, lvo1_some, e_mm, mm_max, mm_min]
        simp only [blk_exit, thn_normal]
        rw [hfin, ctr_len, leave_own ctr_len (c.all _), hresv, own_res2 (x := .agg [.v (.int .i64 k), .v (.string s), .v (.int .i64 n), .own 4 (h.length + 2) 0 0 es'.length]) (y := .v (.int .i64 0)) _ _]
        · refine lvo_two ?_ rfl
          exact frz_mk hds (by omega) g3.symm
        · simp only [res_cell, c_ld, ldAt, e_bslice1, e_bslice2, bs1, bs2, e_build, bdH_some, bd_nil, bd_cons, bd1, cl_agg, cl_int, toL, List.map_cons, List.map_nil, putAt, List.set_cons_zero, List.set_cons_succ, and_self, Nat.le_refl, app_get, app_set, g_agg, run_nil, run_cons, stp_plain, stp_guard, put_some, pass_eq, pick_tt, pick_ff, pick_tf, pick_ft, pick_u, reg_some, thn_normal, thn_exit, thn_ret, cnd_t, cnd_f, blk_normal, blk_ret, blk_exit, x_seq, x_region, x_cond, x_block, x_loop, x_ret, x_exit, x_skip, e_mov, e_pick, pk_t, pk_f, withH_some, e_box, e_load, e_store, stH_some, e_nil, e_bin, e_eqv, eqH_f, eqH_t, e_un, e_fa, e_ia, ia_eq, nat_eq, natV_nat, e_len, lnH_some, e_extract, ex_0, ex_1, e_call0, e_call1, e_call2, e_call3, pc0_eq, pc1_some, pc2_some, pc3_some, fin_some, g_var0, g_vars, g_loc0, g_locs, g_int, g_bool, g_str, g_sl, s_none, s_zero, s_succ, cl_nil, cl_str, cl_bool, cl_slc, cl_own, evFa, evNil, asEl, evBin, intBin, strBin, evUn, len_nil, len_slc, len_str, clr, List.length_nil, List.length_cons, List.getElem?_cons_zero, List.getElem?_cons_succ, Nat.reduceAdd, Nat.zero_add, Nat.add_zero, Nat.reduceLeDiff, Nat.reduceSub, ↓reduceIte, List.drop_succ_cons, List.drop_zero, List.take_succ_cons, List.take_zero, Bool.false_eq_true, List.nil_append, List.cons_append, Bool.not_true, Bool.not_false, cond_true, cond_false, bne, lv_ret, lv_normal, res1, res2, lv2_some, res_var, res_cell, lvf_v, lvf_slc, res1c, lvo1_some, e_mm, mm_max, mm_min]
        · rfl
    · simp only [resT]
      generalize meetT rs m t = w at hrc hc h1 h2 ⊢
      obtain ⟨w1, w2, w3⟩ := w
      dsimp only at h1 h2 hrc hc ⊢
      subst h1
      subst h2
      simp only [zeroT]
      rw [if_neg (by decide)]
      refine ⟨by decide, .agg rc, w3, 60 - ((d + 1 : Nat) : Int), hrc, callW_own (c := c36) rfl rfl 0 ?_⟩
      have e2 : ((140 : Int) == 0) = false := rfl
      have body : exec (callW F) 0 c36.body (start c36 [.ptr id 0, a]) (ctr h id 1 (ms b (60 - ((d + 1 : Nat) : Int))) m ++ []) = some (.ret, [.ptr id 0, a, .ptr h.length 0, .ptr (h.length + 1) 0, .v (.int .i64 140), .v (.int .i64 140), .v undef, .v undef, .v undef, .v undef, .v undef, .v (.bool true), .v undef, .v undef, .v undef, .v undef, .v undef, .v undef], ctr h id 1 (ms b (60 - ((d + 1 : Nat) : Int))) w3 ++ [.box rc, .box rc]) := by
        rw [body36, start36]
        generalize mid36 = rest
        generalize zeroT = zt at hrc
        cases hrc
        cases ht
        simp only [AV.cells, zeroC] at hc
        simp only [head36, zeroC, c36_0, c36_1, c36_2, c36_3, e2, hc, e_callh, q9z, AV.cells, r_ld0 c, r_ld2 c, evNil, c_ld, c_ld0, c_st, c_st0, c_bx, ldAt, stAt, preH_some, List.append_assoc, e_bslice1, e_bslice2, bs1, bs2, e_build, bdH_some, bd_nil, bd_cons, bd1, cl_agg, cl_int, toL, List.map_cons, List.map_nil, putAt, List.set_cons_zero, List.set_cons_succ, and_self, Nat.le_refl, app_get, app_set, g_agg, run_nil, run_cons, stp_plain, stp_guard, put_some, pass_eq, pick_tt, pick_ff, pick_tf, pick_ft, pick_u, reg_some, thn_normal, thn_exit, thn_ret, cnd_t, cnd_f, blk_normal, blk_ret, blk_exit, x_seq, x_region, x_cond, x_block, x_loop, x_ret, x_exit, x_skip, e_mov, e_pick, pk_t, pk_f, withH_some, e_box, e_load, e_store, stH_some, e_nil, e_bin, e_eqv, eqH_f, eqH_t, e_un, e_fa, e_ia, ia_eq, nat_eq, natV_nat, e_len, lnH_some, e_extract, ex_0, ex_1, e_call0, e_call1, e_call2, e_call3, pc0_eq, pc1_some, pc2_some, pc3_some, fin_some, g_var0, g_vars, g_loc0, g_locs, g_int, g_bool, g_str, g_sl, s_none, s_zero, s_succ, cl_nil, cl_str, cl_bool, cl_slc, cl_own, evFa, evNil, asEl, evBin, intBin, strBin, evUn, len_nil, len_slc, len_str, clr, List.length_nil, List.length_cons, List.getElem?_cons_zero, List.getElem?_cons_succ, Nat.reduceAdd, Nat.zero_add, Nat.add_zero, Nat.reduceLeDiff, Nat.reduceSub, ↓reduceIte, List.drop_succ_cons, List.drop_zero, List.take_succ_cons, List.take_zero, Bool.false_eq_true, List.nil_append, List.cons_append, Bool.not_true, Bool.not_false, cond_true, cond_false, bne, lv_ret, lv_normal, res1, res2, lv2_some, res_var, res_cell, lvf_v, lvf_slc, res1c, lvo1_some, e_mm, mm_max, mm_min]
      rw [body, ctr_len, leave_own ctr_len (c.all _), hresv, own_res2 (x := .agg rc) (y := .v (.int .i64 140)) _ _]
      · exact lvo_two (hrc.frz _ _) rfl
      · generalize zeroT = zt at hrc
        cases hrc; simp only [res_cell, c_ld, ldAt, e_bslice1, e_bslice2, bs1, bs2, e_build, bdH_some, bd_nil, bd_cons, bd1, cl_agg, cl_int, toL, List.map_cons, List.map_nil, putAt, List.set_cons_zero, List.set_cons_succ, and_self, Nat.le_refl, app_get, app_set, g_agg, run_nil, run_cons, stp_plain, stp_guard, put_some, pass_eq, pick_tt, pick_ff, pick_tf, pick_ft, pick_u, reg_some, thn_normal, thn_exit, thn_ret, cnd_t, cnd_f, blk_normal, blk_ret, blk_exit, x_seq, x_region, x_cond, x_block, x_loop, x_ret, x_exit, x_skip, e_mov, e_pick, pk_t, pk_f, withH_some, e_box, e_load, e_store, stH_some, e_nil, e_bin, e_eqv, eqH_f, eqH_t, e_un, e_fa, e_ia, ia_eq, nat_eq, natV_nat, e_len, lnH_some, e_extract, ex_0, ex_1, e_call0, e_call1, e_call2, e_call3, pc0_eq, pc1_some, pc2_some, pc3_some, fin_some, g_var0, g_vars, g_loc0, g_locs, g_int, g_bool, g_str, g_sl, s_none, s_zero, s_succ, cl_nil, cl_str, cl_bool, cl_slc, cl_own, evFa, evNil, asEl, evBin, intBin, strBin, evUn, len_nil, len_slc, len_str, clr, List.length_nil, List.length_cons, List.getElem?_cons_zero, List.getElem?_cons_succ, Nat.reduceAdd, Nat.zero_add, Nat.add_zero, Nat.reduceLeDiff, Nat.reduceSub, ↓reduceIte, List.drop_succ_cons, List.drop_zero, List.take_succ_cons, List.take_zero, Bool.false_eq_true, List.nil_append, List.cons_append, Bool.not_true, Bool.not_false, cond_true, cond_false, bne, lv_ret, lv_normal, res1, res2, lv2_some, res_var, res_cell, lvf_v, lvf_slc, res1c, lvo1_some, e_mm, mm_max, mm_min]
      · rfl
end

/-- what Resolve hands back -/
def resA (rs : List (Int × Tm)) (t : Tm) : Tm × Int := match resT rs 60 2000 t with
  | .ok (x, _) => (x, 0)
  | .error e => (zeroT, e)
theorem resolve_ok {b : AV} {bs : List (Int × Tm)} (hb : IsB b bs) (hl : bs.length ≤ 100000) (hrs : ∀ p ∈ bs, size p.2 ≤ 100000) {a : AV} {t : Tm} (hsz : size t ≤ 100000) (ht : IsT a t) : ∃ r, IsT r (resA bs.reverse t).1 ∧ callW F 18 [b, a] [] = some (.tup [r, .v (.int .i64 (resA bs.reverse t).2)], []) := by
  obtain ⟨es, hes, hk1, hk2⟩ := looks hb hl
  have hbs : ∀ h : List AO, b.snap1 h = some b := by
    intro h; cases hb <;> rfl
  have hbc : b.cl = some [b] ∧ b.below1 0 = true ∧ b.below1 3 = true := by cases hb <;> exact ⟨rfl, rfl, rfl⟩
  have h0 : ([.box a.cells, .box zeroC] : List AO).all (AO.below 2) = true := by
    have := below_mono (Nat.zero_le 2) _ ht.bel
    simp only [List.all_cons, List.all_nil, this, Bool.and_true]; rfl
  have hctr : Ctr [.box a.cells, .box zeroC, .box [b, .v (.int .i64 2000), .v (.int .i64 0)]] 2 1 (ms b (60 - ((60 : Nat) : Int))) := by
    refine ⟨by simp, by simp [ms], ?_, ?_⟩
    · have := below_mono (Nat.zero_le 3) _ ht.bel
      have h3 := hbc.2.2
      have hz : (AO.box zeroC).below 3 = true := rfl
      simp only [List.length_cons, List.length_nil, Nat.zero_add, Nat.reduceAdd, List.all_cons, List.all_nil, this, hz, Bool.and_true, Bool.true_and]
      simp only [AO.below, List.all_cons, List.all_nil, h3, Bool.true_and]
      rfl
    · have h3 := hbc.2.2
      simp only [ms, List.length_cons, List.length_nil, Nat.zero_add, Nat.reduceAdd, List.all_cons, List.all_nil, h3, Bool.true_and]
      rfl
  have hr := res36 hes.reverse hbs hk1 (fun p hp => hrs p (by simpa using hp)) 60 (by omega) _ 2 2000 t a hctr (by omega) hsz ht
  have e60 : (60 : Int) - ((60 : Nat) : Int) = 0 := rfl
  have e20 : ((2000 : Nat) : Int) = 2000 := rfl
  simp only [e60, e20, ms_eq, List.set_cons_succ, List.set_cons_zero] at hr
  have fin : ∀ (r : AV) (u : Tm) (e : Int) (o : AO), IsT r u → callW F 36 [.ptr 2 0, a] [.box a.cells, .box zeroC, .box [b, .v (.int .i64 2000), .v (.int .i64 0)]] = some (.tup [r, .v (.int .i64 e)], [.box a.cells, .box zeroC, o]) → callW F 18 [b, a] [] = some (.tup [r, .v (.int .i64 e)], []) := by
    intro r u e o hru hcall
    refine callW_pure (c := c18) rfl rfl 0 ?_
    have g1 := lvt hru
    have b1 := hbc.1
    cases hru
    cases ht
    simp only [AV.cells, zeroC] at hcall
    simp only [c18, start, List.replicate, c18_0, c18_1, c18_2, q9z, hcall, b1, e_callh, g1, e_bslice1, e_bslice2, bs1, bs2, e_build, bdH_some, bd_nil, bd_cons, bd1, cl_agg, cl_int, toL, List.map_cons, List.map_nil, putAt, List.set_cons_zero, List.set_cons_succ, and_self, Nat.le_refl, evStore, app_get, app_set, g_agg, run_nil, run_cons, stp_plain, stp_guard, put_some, pass_eq, pick_tt, pick_ff, pick_tf, pick_ft, pick_u, reg_some, thn_normal, thn_exit, thn_ret, cnd_t, cnd_f, blk_normal, blk_ret, blk_exit, x_seq, x_region, x_cond, x_block, x_loop, x_ret, x_exit, x_skip, e_mov, e_pick, pk_t, pk_f, withH_some, e_box, bx_some, e_load, e_store, stH_some, e_nil, e_bin, e_eqv, eqH_f, eqH_t, e_un, e_fa, e_ia, ia_eq, nat_eq, natV_nat, e_len, lnH_some, e_extract, ex_0, ex_1, e_call0, e_call1, e_call2, e_call3, pc0_eq, pc1_some, pc2_some, pc3_some, fin_some, g_var0, g_vars, g_loc0, g_locs, g_int, g_bool, g_str, g_sl, s_none, s_zero, s_succ, cl_nil, cl_str, cl_bool, cl_slc, cl_own, evFa, evNil, evLoad, asEl, evBin, intBin, strBin, evUn, len_nil, len_slc, len_str, clr, List.length_nil, List.length_cons, List.getElem?_cons_zero, List.getElem?_cons_succ, Nat.reduceAdd, Nat.zero_add, Nat.add_zero, Nat.reduceLeDiff, Nat.reduceSub, ↓reduceIte, List.drop_succ_cons, List.drop_zero, List.take_succ_cons, List.take_zero, Bool.false_eq_true, List.nil_append, List.cons_append, Bool.not_true, Bool.not_false, cond_true, cond_false, bne, lv_ret, lv_normal, res1, res2, lv2_some, res_var, res_cell, lvf_v, lvf_slc, res1c, lvo1_some, e_mm, mm_max, mm_min]
  simp only [resA]
  cases hres : resT bs.reverse 60 2000 t with
  | error e =>
    rw [hres] at hr
    obtain ⟨hne, r, l', d', hrr, hcall⟩ := hr
    exact ⟨r, hrr, fin r _ e _ hrr hcall⟩
  | ok q =>
    obtain ⟨x, m2⟩ := q
    rw [hres] at hr
    obtain ⟨_, r, hrr, hcall⟩ := hr
    exact ⟨r, hrr, fin r _ 0 _ hrr hcall⟩
end Go.AE.Ytpgoibncgekflaa
end

/-! Vars, and whether a number is among some. -/
section
set_option linter.unusedVariables false
set_option linter.unusedSimpArgs false
namespace Go.AE.Ytpgoibncgekflaa
open Go Go.AE Go.Proofs.Ytpgoibncgekflaa

def iv (n : Int) : AV := .v (.int .i64 n)
mutual
def placesT : Tm → List Int
  | .mk k _ n l => (if k = 1 then [n] else []) ++ placesL l
def placesL : List Tm → List Int
  | [] => []
  | t :: l => placesT t ++ placesL l
end
mutual
theorem places_len : ∀ t : Tm, (placesT t).length ≤ size t
  | .mk k s n l => by
    have := placesL_len l
    simp only [placesT, size, List.length_append]
    split <;> simp <;> omega
theorem placesL_len : ∀ l : List Tm, (placesL l).length ≤ sizeL l
  | [] => by simp [placesL, sizeL]
  | t :: l => by
    have := places_len t
    have := placesL_len l
    simp only [placesL, sizeL, List.length_append]; omega
end

/-! ### Has -/
def K38 : List Bool := [false, true, false, false, true, true, true, false, false]
def L38 (n : Int) (c : AV) (len i : Int) : List AV := [.junk, .v (.int .i64 n), .junk, .junk, c, .v (.int .i64 len), .v (.int .i64 i), .junk, .junk]
theorem has_loop {K : Nat} {c : AV} {es : List AV} (hs : Sl 1 c es) (hm : es.length ≤ 1000000) (n : Int) :
    ∀ (l : List Int) (i : Nat) (h : List AO) (vars : List AV), i + l.length = es.length → es.drop i = l.map iv → clr K38 vars = L38 n c es.length i →
      (l.contains n = true ∧ ∃ vs, loopN (exec (callW F) K c38_7) K38 (l.length + 1) vars h = some (.ret, vs, h) ∧ getO vs [] (.var 2) = .v (.bool true)) ∨ (l.contains n = false ∧ ∃ vs, loopN (exec (callW F) K c38_7) K38 (l.length + 1) vars h = some (.exit 0, vs, h) ∧ vs.length = 9) := by
  intro l
  induction l with
  | nil =>
    intro i h vars hi _ hv
    have hil : i = es.length := by simpa using hi
    subst hil
    have hlt : decide ((es.length : Int) < (es.length : Int)) = false := by simp
    refine .inr ⟨rfl, [.junk, .v (.int .i64 n), .junk, .junk, c, .v (.int .i64 es.length), .v (.int .i64 es.length), .v (.bool false), .junk], loop_exit ?_, rfl⟩
    rw [hv]
    simp only [L38, c38_7, c38_2, hlt, e_bslice1, e_bslice2, bs1, bs2, e_build, bdH_some, bd_nil, bd_cons, bd1, cl_agg, cl_int, toL, List.map_cons, List.map_nil, putAt, List.set_cons_zero, List.set_cons_succ, and_self, Nat.le_refl, app_get, app_set, g_agg, run_nil, run_cons, stp_plain, stp_guard, put_some, pass_eq, pick_tt, pick_ff, pick_tf, pick_ft, pick_u, reg_some, thn_normal, thn_exit, thn_ret, cnd_t, cnd_f, blk_normal, blk_ret, blk_exit, x_seq, x_region, x_cond, x_block, x_loop, x_ret, x_exit, x_skip, e_mov, e_pick, pk_t, pk_f, withH_some, e_box, bx_some, e_load, e_store, stH_some, e_nil, e_bin, e_eqv, eqH_f, eqH_t, e_un, e_fa, e_ia, ia_eq, nat_eq, natV_nat, e_len, lnH_some, e_extract, ex_0, ex_1, e_call0, e_call1, e_call2, e_call3, pc0_eq, pc1_some, pc2_some, pc3_some, fin_some, g_var0, g_vars, g_loc0, g_locs, g_int, g_bool, g_str, g_sl, s_none, s_zero, s_succ, AV.cl, evFa, evNil, evLoad, asEl, evBin, intBin, strBin, evUn, len_nil, len_slc, len_str, clr, List.length_nil, List.length_cons, List.getElem?_cons_zero, List.getElem?_cons_succ, Nat.reduceAdd, Nat.zero_add, Nat.add_zero, Nat.reduceLeDiff, Nat.reduceSub, ↓reduceIte, List.drop_succ_cons, List.drop_zero, List.take_succ_cons, List.take_zero, Bool.false_eq_true, List.nil_append, List.cons_append, Bool.not_true, Bool.not_false, cond_true, cond_false, bne, lv_ret, lv_normal, res1, res2, lv2_some, res_var, res_cell, lvf_v, lvf_slc, res1c, lvo1_some, e_mm, mm_max, mm_min]
  | cons k l ih =>
    intro i h vars hi hes hv
    have hil : i < es.length := by simp at hi; omega
    have he : es[i]? = some (iv k) := by
      have : (es.drop i)[0]? = some (iv k) := by rw [hes]; rfl
      simpa using this
    have hd : es.drop (i + 1) = l.map iv := by
      have h2 := congrArg List.tail hes
      simpa using h2
    have hlt : (decide ((i : Int) < (es.length : Int))) = true := by simp; omega
    have q1 := hs.ia he
    by_cases hk : n = k
    · left
      subst hk
      have he : ((n == n) : Bool) = true := by simp
      refine ⟨by simp, [.junk, .v (.int .i64 n), .v (.bool true), .v (.int .i64 n), c, .v (.int .i64 es.length), .v (.int .i64 i), .v (.bool true), .v (.bool true)], loop_ret ?_, rfl⟩
      rw [hv]
      simp only [L38, iv, AV.cells, c38_7, c38_2, c38_3, c38_4, c38_5, hlt, he, q1, e_bslice1, e_bslice2, bs1, bs2, e_build, bdH_some, bd_nil, bd_cons, bd1, cl_agg, cl_int, toL, List.map_cons, List.map_nil, putAt, List.set_cons_zero, List.set_cons_succ, and_self, Nat.le_refl, app_get, app_set, g_agg, run_nil, run_cons, stp_plain, stp_guard, put_some, pass_eq, pick_tt, pick_ff, pick_tf, pick_ft, pick_u, reg_some, thn_normal, thn_exit, thn_ret, cnd_t, cnd_f, blk_normal, blk_ret, blk_exit, x_seq, x_region, x_cond, x_block, x_loop, x_ret, x_exit, x_skip, e_mov, e_pick, pk_t, pk_f, withH_some, e_box, bx_some, e_load, e_store, stH_some, e_nil, e_bin, e_eqv, eqH_f, eqH_t, e_un, e_fa, e_ia, ia_eq, nat_eq, natV_nat, e_len, lnH_some, e_extract, ex_0, ex_1, e_call0, e_call1, e_call2, e_call3, pc0_eq, pc1_some, pc2_some, pc3_some, fin_some, g_var0, g_vars, g_loc0, g_locs, g_int, g_bool, g_str, g_sl, s_none, s_zero, s_succ, AV.cl, evFa, evNil, evLoad, asEl, evBin, intBin, strBin, evUn, len_nil, len_slc, len_str, clr, List.length_nil, List.length_cons, List.getElem?_cons_zero, List.getElem?_cons_succ, Nat.reduceAdd, Nat.zero_add, Nat.add_zero, Nat.reduceLeDiff, Nat.reduceSub, ↓reduceIte, List.drop_succ_cons, List.drop_zero, List.take_succ_cons, List.take_zero, Bool.false_eq_true, List.nil_append, List.cons_append, Bool.not_true, Bool.not_false, cond_true, cond_false, bne, lv_ret, lv_normal, res1, res2, lv2_some, res_var, res_cell, lvf_v, lvf_slc, res1c, lvo1_some, e_mm, mm_max, mm_min]
    · have he : ((k == n) : Bool) = false := by simpa using fun e => hk e.symm
      have st : exec (callW F) K c38_7 (L38 n c es.length i) h = some (.normal, [.junk, .v (.int .i64 n), .junk, .v (.int .i64 k), c, .v (.int .i64 es.length), .v (.int .i64 ((i + 1 : Nat) : Int)), .v (.bool true), .v (.bool false)], h) := by
        have : maxLen = 9223372036854775807 := rfl
        simp only [L38, iv, AV.cells, c38_7, c38_2, c38_3, c38_4, c38_6, hlt, he, wrap_succ hil (by omega), q1, e_bslice1, e_bslice2, bs1, bs2, e_build, bdH_some, bd_nil, bd_cons, bd1, cl_agg, cl_int, toL, List.map_cons, List.map_nil, putAt, List.set_cons_zero, List.set_cons_succ, and_self, Nat.le_refl, app_get, app_set, g_agg, run_nil, run_cons, stp_plain, stp_guard, put_some, pass_eq, pick_tt, pick_ff, pick_tf, pick_ft, pick_u, reg_some, thn_normal, thn_exit, thn_ret, cnd_t, cnd_f, blk_normal, blk_ret, blk_exit, x_seq, x_region, x_cond, x_block, x_loop, x_ret, x_exit, x_skip, e_mov, e_pick, pk_t, pk_f, withH_some, e_box, bx_some, e_load, e_store, stH_some, e_nil, e_bin, e_eqv, eqH_f, eqH_t, e_un, e_fa, e_ia, ia_eq, nat_eq, natV_nat, e_len, lnH_some, e_extract, ex_0, ex_1, e_call0, e_call1, e_call2, e_call3, pc0_eq, pc1_some, pc2_some, pc3_some, fin_some, g_var0, g_vars, g_loc0, g_locs, g_int, g_bool, g_str, g_sl, s_none, s_zero, s_succ, AV.cl, evFa, evNil, evLoad, asEl, evBin, intBin, strBin, evUn, len_nil, len_slc, len_str, clr, List.length_nil, List.length_cons, List.getElem?_cons_zero, List.getElem?_cons_succ, Nat.reduceAdd, Nat.zero_add, Nat.add_zero, Nat.reduceLeDiff, Nat.reduceSub, ↓reduceIte, List.drop_succ_cons, List.drop_zero, List.take_succ_cons, List.take_zero, Bool.false_eq_true, List.nil_append, List.cons_append, Bool.not_true, Bool.not_false, cond_true, cond_false, bne, lv_ret, lv_normal, res1, res2, lv2_some, res_var, res_cell, lvf_v, lvf_slc, res1c, lvo1_some, e_mm, mm_max, mm_min]
      rw [show (k :: l).length + 1 = (l.length + 1) + 1 from rfl, loop_normal (by rw [hv]; exact st)]
      have hc : (k :: l).contains n = l.contains n := by
        have : (n == k) = false := by simpa using hk
        rw [List.contains_cons, this, Bool.false_or]
      rw [hc]
      exact ih (i + 1) h _ (by simp at hi; omega) hd rfl
theorem has_ok {c : AV} {ns : List Int} (hs : Sl 1 c (ns.map iv)) (hm : ns.length ≤ 1000000) (n : Int) : callW F 38 [c, .v (.int .i64 n)] [] = some (.v (.bool (ns.contains n)), []) := by
  refine callW_pure (c := c38) rfl rfl (ns.length + 1) ?_
  have key := has_loop (K := ns.length + 1) hs (by simpa using hm) n ns 0 [] (L38 n c (ns.map iv).length (0 : Nat)) (by simp) rfl rfl
  show lv [.var 2] (exec (callW F) (ns.length + 1) (.seq (.region [] [] c38_0) (.seq (.seq (.region [] [] c38_1) (.block 0 (.loop K38 [] c38_7))) (.seq (.region [] [] c38_8) .ret))) _ _) = _
  generalize hrest : (CC.seq (.region [] [] c38_8) .ret) = rest
  simp only [c38, start, List.replicate, c38_0, c38_1, hs.len, e_bslice1, e_bslice2, bs1, bs2, e_build, bdH_some, bd_nil, bd_cons, bd1, cl_agg, cl_int, toL, List.map_cons, List.map_nil, putAt, List.set_cons_zero, List.set_cons_succ, and_self, Nat.le_refl, app_get, app_set, g_agg, run_nil, run_cons, stp_plain, stp_guard, put_some, pass_eq, pick_tt, pick_ff, pick_tf, pick_ft, pick_u, reg_some, thn_normal, thn_exit, thn_ret, cnd_t, cnd_f, blk_normal, blk_ret, blk_exit, x_seq, x_region, x_cond, x_block, x_loop, x_ret, x_exit, x_skip, e_mov, e_pick, pk_t, pk_f, withH_some, e_box, bx_some, e_load, e_store, stH_some, e_nil, e_bin, e_eqv, eqH_f, eqH_t, e_un, e_fa, e_ia, ia_eq, nat_eq, natV_nat, e_len, lnH_some, e_extract, ex_0, ex_1, e_call0, e_call1, e_call2, e_call3, pc0_eq, pc1_some, pc2_some, pc3_some, fin_some, g_var0, g_vars, g_loc0, g_locs, g_int, g_bool, g_str, g_sl, s_none, s_zero, s_succ, AV.cl, evFa, evNil, evLoad, asEl, evBin, intBin, strBin, evUn, len_nil, len_slc, len_str, clr, List.length_nil, List.length_cons, List.getElem?_cons_zero, List.getElem?_cons_succ, Nat.reduceAdd, Nat.zero_add, Nat.add_zero, Nat.reduceLeDiff, Nat.reduceSub, ↓reduceIte, List.drop_succ_cons, List.drop_zero, List.take_succ_cons, List.take_zero, Bool.false_eq_true, List.nil_append, List.cons_append, Bool.not_true, Bool.not_false, cond_true, cond_false, bne, lv_ret, lv_normal, res1, res2, lv2_some, res_var, res_cell, lvf_v, lvf_slc, res1c, lvo1_some, e_mm, mm_max, mm_min]
  rw [loop_cong (v2 := L38 n c (ns.map iv).length ((0 : Nat) : Int)) (by rfl)]
  rcases key with ⟨h0, vs, h1, h2⟩ | ⟨h0, vs, h1, h2⟩
  · rw [h1, h0]
    simp only [blk_ret, thn_ret, h2, run_nil, run_cons, stp_plain, stp_guard, put_some, pass_eq, pick_tt, pick_ff, pick_tf, pick_ft, pick_u, reg_some, thn_normal, thn_exit, thn_ret, cnd_t, cnd_f, blk_normal, blk_ret, blk_exit, x_seq, x_region, x_cond, x_block, x_loop, x_ret, x_exit, x_skip, e_mov, e_pick, pk_t, pk_f, withH_some, e_box, bx_some, e_load, e_store, stH_some, e_nil, e_bin, e_eqv, eqH_f, eqH_t, e_un, e_fa, e_ia, ia_eq, nat_eq, natV_nat, e_len, lnH_some, e_extract, ex_0, ex_1, e_call0, e_call1, e_call2, e_call3, pc0_eq, pc1_some, pc2_some, pc3_some, fin_some, g_var0, g_vars, g_loc0, g_locs, g_int, g_bool, g_str, g_sl, s_none, s_zero, s_succ, AV.cl, evFa, evNil, evLoad, asEl, evBin, intBin, strBin, evUn, len_nil, len_slc, len_str, clr, List.length_nil, List.length_cons, List.getElem?_cons_zero, List.getElem?_cons_succ, Nat.reduceAdd, Nat.zero_add, Nat.add_zero, Nat.reduceLeDiff, Nat.reduceSub, ↓reduceIte, List.drop_succ_cons, List.drop_zero, List.take_succ_cons, List.take_zero, Bool.false_eq_true, List.nil_append, List.cons_append, Bool.not_true, Bool.not_false, cond_true, cond_false, bne, lv_ret, lv_normal, res1, res2, lv2_some, res_var, res_cell, lvf_v, lvf_slc, res1c, lvo1_some, e_mm, mm_max, mm_min]
  · rw [h1, h0, ← hrest]
    match vs, h2 with
    | [a0, a1, a2, a3, a4, a5, a6, a7, a8], _ => simp only [c38_8, run_nil, run_cons, stp_plain, stp_guard, put_some, pass_eq, pick_tt, pick_ff, pick_tf, pick_ft, pick_u, reg_some, thn_normal, thn_exit, thn_ret, cnd_t, cnd_f, blk_normal, blk_ret, blk_exit, x_seq, x_region, x_cond, x_block, x_loop, x_ret, x_exit, x_skip, e_mov, e_pick, pk_t, pk_f, withH_some, e_box, bx_some, e_load, e_store, stH_some, e_nil, e_bin, e_eqv, eqH_f, eqH_t, e_un, e_fa, e_ia, ia_eq, nat_eq, natV_nat, e_len, lnH_some, e_extract, ex_0, ex_1, e_call0, e_call1, e_call2, e_call3, pc0_eq, pc1_some, pc2_some, pc3_some, fin_some, g_var0, g_vars, g_loc0, g_locs, g_int, g_bool, g_str, g_sl, s_none, s_zero, s_succ, AV.cl, evFa, evNil, evLoad, asEl, evBin, intBin, strBin, evUn, len_nil, len_slc, len_str, clr, List.length_nil, List.length_cons, List.getElem?_cons_zero, List.getElem?_cons_succ, Nat.reduceAdd, Nat.zero_add, Nat.add_zero, Nat.reduceLeDiff, Nat.reduceSub, ↓reduceIte, List.drop_succ_cons, List.drop_zero, List.take_succ_cons, List.take_zero, Bool.false_eq_true, List.nil_append, List.cons_append, Bool.not_true, Bool.not_false, cond_true, cond_false, bne, lv_ret, lv_normal, res1, res2, lv2_some, res_var, res_cell, lvf_v, lvf_slc, res1c, lvo1_some, e_mm, mm_max, mm_min]

/-! ### The places -/
def K37 : List Bool := [false, false, false, true, false, false, true, true, true, false]
def L37 (acc c : AV) (len i : Int) : List AV := [.junk, .junk, .junk, acc, .junk, .junk, c, .v (.int .i64 len), .v (.int .i64 i), .junk]
theorem places_loop {K : Nat} {c : AV} {es : List AV} (hs : Sl 4 c es) (hm : es.length ≤ 100000) :
    ∀ (l : List Tm) (i : Nat) (acc : AV) (p : List Int) (h : List AO) (vars : List AV), i + l.length = es.length → p.length + sizeL l ≤ 1000000 → All2 (es.drop i) l → (∀ t ∈ l, ∀ (e : AV), IsT e t → ∃ r, Sl 1 r ((placesT t).map iv) ∧ callW F 37 [e] [] = some (r, [])) →
      Acc 1 h acc (p.map iv) → clr K37 vars = L37 acc c es.length i →
      ∃ acc' h' x4 x5 x9, loopN (exec (callW F) K c37_9) K37 (l.length + 1) vars h = some (.exit 0, [.junk, .junk, .junk, acc', x4, x5, c, .v (.int .i64 es.length), .v (.int .i64 es.length), x9], h') ∧ Acc 1 h' acc' ((p ++ placesL l).map iv) := by
  intro l
  induction l with
  | nil =>
    intro i acc p h vars hi hp _ _ ha hv
    have hil : i = es.length := by simpa using hi
    subst hil
    have hlt : decide ((es.length : Int) < (es.length : Int)) = false := by simp
    refine ⟨acc, h, .junk, .junk, .v (.bool false), loop_exit ?_, by simpa [placesL] using ha⟩
    rw [hv]
    simp only [L37, c37_9, c37_5, hlt, e_bslice1, e_bslice2, bs1, bs2, e_build, bdH_some, bd_nil, bd_cons, bd1, cl_agg, cl_int, toL, List.map_cons, List.map_nil, putAt, List.set_cons_zero, List.set_cons_succ, and_self, Nat.le_refl, app_get, app_set, g_agg, run_nil, run_cons, stp_plain, stp_guard, put_some, pass_eq, pick_tt, pick_ff, pick_tf, pick_ft, pick_u, reg_some, thn_normal, thn_exit, thn_ret, cnd_t, cnd_f, blk_normal, blk_ret, blk_exit, x_seq, x_region, x_cond, x_block, x_loop, x_ret, x_exit, x_skip, e_mov, e_pick, pk_t, pk_f, withH_some, e_box, bx_some, e_load, e_store, stH_some, e_nil, e_bin, e_eqv, eqH_f, eqH_t, e_un, e_fa, e_ia, ia_eq, nat_eq, natV_nat, e_len, lnH_some, e_extract, ex_0, ex_1, e_call0, e_call1, e_call2, e_call3, pc0_eq, pc1_some, pc2_some, pc3_some, fin_some, g_var0, g_vars, g_loc0, g_locs, g_int, g_bool, g_str, g_sl, s_none, s_zero, s_succ, cl_nil, cl_str, cl_bool, cl_slc, cl_own, evFa, evNil, asEl, evBin, intBin, strBin, evUn, len_nil, len_slc, len_str, clr, List.length_nil, List.length_cons, List.getElem?_cons_zero, List.getElem?_cons_succ, Nat.reduceAdd, Nat.zero_add, Nat.add_zero, Nat.reduceLeDiff, Nat.reduceSub, ↓reduceIte, List.drop_succ_cons, List.drop_zero, List.take_succ_cons, List.take_zero, Bool.false_eq_true, List.nil_append, List.cons_append, Bool.not_true, Bool.not_false, cond_true, cond_false, bne, lv_ret, lv_normal, res1, res2, lv2_some, res_var, res_cell, lvf_v, lvf_slc, res1c, lvo1_some, e_mm, mm_max, mm_min]
  | cons t l ih =>
    intro i acc p h vars hi hp hes hcall ha hv
    have hil : i < es.length := by simp at hi; omega
    have he : es[i]? = some (es[i]'hil) := List.getElem?_eq_getElem _
    have hd : es.drop i = es[i] :: es.drop (i + 1) := List.drop_eq_getElem_cons hil
    rw [hd] at hes
    generalize es[i]'hil = e at hes he
    cases hes with
    | cons _ _ _ _ hT hs' =>
    obtain ⟨r, hr, hc⟩ := hcall t (by simp) _ hT
    have hpl := places_len t
    simp only [sizeL] at hp
    obtain ⟨acc', h2, h3, h4, h5⟩ := (ha.app (.box e.cells)).add (x := r) (bytes := 8) (hr.elems _) (by
      have : room = 140737488355328 := rfl
      simp only [fits, List.length_map, decide_eq_true_eq]; omega)
    have hlt : (decide ((i : Int) < (es.length : Int))) = true := by simp; omega
    have q1 := hs.ia he
    have q3 : ∀ h : List AO, evLoad h true 4 (.ip e.cells) = some e := fun h => hT.load
    have q5 : ∀ h : List AO, e.snap1 h = some e := fun h => hT.snap
    have st : exec (callW F) K c37_9 (L37 acc c es.length i) h = some (.normal, [.junk, .junk, .junk, acc', .ptr h.length 0, .junk, c, .v (.int .i64 es.length), .v (.int .i64 ((i + 1 : Nat) : Int)), .v (.bool true)], h2) := by
      have hz : ([.v (.int .i64 0), .v (.string ⟨#[]⟩), .v (.int .i64 0), .v (.slice none 0 0)] : List AV).length = 4 := rfl
      simp only [L37, c37_9, c37_5, c37_6, c37_7, c37_8, hlt, wrap_succ hil (small_max hm), q1, q3, q5, hc, h3, hT.st _ _ hz, hT.ld, q9z, e_append, e_bslice1, e_bslice2, bs1, bs2, e_build, bdH_some, bd_nil, bd_cons, bd1, cl_agg, cl_int, toL, List.map_cons, List.map_nil, putAt, List.set_cons_zero, List.set_cons_succ, and_self, Nat.le_refl, app_get, app_set, g_agg, run_nil, run_cons, stp_plain, stp_guard, put_some, pass_eq, pick_tt, pick_ff, pick_tf, pick_ft, pick_u, reg_some, thn_normal, thn_exit, thn_ret, cnd_t, cnd_f, blk_normal, blk_ret, blk_exit, x_seq, x_region, x_cond, x_block, x_loop, x_ret, x_exit, x_skip, e_mov, e_pick, pk_t, pk_f, withH_some, e_box, bx_some, e_load, e_store, stH_some, e_nil, e_bin, e_eqv, eqH_f, eqH_t, e_un, e_fa, e_ia, ia_eq, nat_eq, natV_nat, e_len, lnH_some, e_extract, ex_0, ex_1, e_call0, e_call1, e_call2, e_call3, pc0_eq, pc1_some, pc2_some, pc3_some, fin_some, g_var0, g_vars, g_loc0, g_locs, g_int, g_bool, g_str, g_sl, s_none, s_zero, s_succ, cl_nil, cl_str, cl_bool, cl_slc, cl_own, evFa, evNil, asEl, evBin, intBin, strBin, evUn, len_nil, len_slc, len_str, clr, List.length_nil, List.length_cons, List.getElem?_cons_zero, List.getElem?_cons_succ, Nat.reduceAdd, Nat.zero_add, Nat.add_zero, Nat.reduceLeDiff, Nat.reduceSub, ↓reduceIte, List.drop_succ_cons, List.drop_zero, List.take_succ_cons, List.take_zero, Bool.false_eq_true, List.nil_append, List.cons_append, Bool.not_true, Bool.not_false, cond_true, cond_false, bne, lv_ret, lv_normal, res1, res2, lv2_some, res_var, res_cell, lvf_v, lvf_slc, res1c, lvo1_some, e_mm, mm_max, mm_min]
    rw [show (t :: l).length + 1 = (l.length + 1) + 1 from rfl, loop_normal (by rw [hv]; exact st)]
    rw [← List.map_append] at h4
    obtain ⟨acc'', h', x4, x5, x9, g1, g2⟩ := ih (i + 1) acc' (p ++ placesT t) h2 [.junk, .junk, .junk, acc', .ptr h.length 0, .junk, c, .v (.int .i64 es.length), .v (.int .i64 ((i + 1 : Nat) : Int)), .v (.bool true)] (by simp at hi; omega) (by rw [List.length_append]; omega) hs' (fun t ht => hcall t (by simp [ht])) h4 rfl
    refine ⟨acc'', h', x4, x5, x9, g1, ?_⟩
    rw [placesL, ← List.append_assoc]
    exact g2

theorem places_ok : ∀ (N : Nat) (t : Tm) (a : AV), SizeOf.sizeOf t < N → size t ≤ 100000 → IsT a t → ∃ r, Sl 1 r ((placesT t).map iv) ∧ callW F 37 [a] [] = some (r, []) := by
  intro N
  induction N with
  | zero => intro t a h; omega
  | succ N ih =>
    intro t a hN hsz ha
    cases ha with
    | mk k s n c l hc =>
    have h5 := Tm.mk.sizeOf_spec k s n l
    simp only [size] at hsz
    have hll := sizeL_len l
    have hcall : ∀ t ∈ l, ∀ (e : AV), IsT e t → ∃ r, Sl 1 r ((placesT t).map iv) ∧ callW F 37 [e] [] = some (r, []) := by
      intro t ht e hT
      have h6 := List.sizeOf_lt_of_mem ht
      have h7 := size_mem ht
      exact ih t e (by omega) (by omega) hT
    obtain ⟨es, hs, hes, hm⟩ := hc.sl
    have e1 := hes.length
    have key : ∀ (p : List Int) (acc : AV) (h : List AO), p.length ≤ 10 → Acc 1 h acc (p.map iv) → ∃ acc' h' x4 x5 x9, loopN (exec (callW F) (l.length + 1) c37_9) K37 (l.length + 1) (L37 acc c es.length (0 : Nat)) h = some (.exit 0, [.junk, .junk, .junk, acc', x4, x5, c, .v (.int .i64 es.length), .v (.int .i64 es.length), x9], h') ∧ Acc 1 h' acc' ((p ++ placesL l).map iv) :=
      fun p acc h hp ha => places_loop (K := l.length + 1) hs (by omega) l 0 acc p h (L37 acc c es.length (0 : Nat)) (by omega) (by omega) (by simpa using hes) hcall ha rfl
    by_cases hk : k = 1
    · have h1 : (k == 1) = true := by simpa using hk
      have hap : evAppend [.box [.v (.int .i64 k), .v (.string s), .v (.int .i64 n), c]] 1 8 (.v (.slice none 0 0)) (.slc 1 true true [.v (.int .i64 n)]) = some (.own 1 1 0 0 1, [.box [.v (.int .i64 k), .v (.string s), .v (.int .i64 n), c], .row 1 0 [.v (.int .i64 n)] 0]) := ap_new (h := [.box [.v (.int .i64 k), .v (.string s), .v (.int .i64 n), c]]) (by simp) (by simp only [List.length_cons, List.length_nil]; decide)
      obtain ⟨acc', h', x4, x5, x9, g1, g2⟩ := key [n] (.own 1 1 0 0 1) [.box [.v (.int .i64 k), .v (.string s), .v (.int .i64 n), c], .row 1 0 [.v (.int .i64 n)] 0] (by simp) (.own 1 0 0 [.v (.int .i64 n)] rfl (by simp) (by simp))
      obtain ⟨r, g3, g4⟩ := g2.lvf
      refine ⟨r, by rw [placesT, if_pos hk]; exact g4, callW_pure (c := c37) rfl rfl (l.length + 1) ?_⟩
      show lv [.var 2] (exec (callW F) (l.length + 1) (.seq (.region [] [] c37_0) (.seq (.region [] [] c37_1) (.seq (.seq (.region [] [] c37_2) (.cond (.var 5) (.region [] [] c37_3) .skip)) (.seq (.seq (.region [] [] c37_4) (.block 0 (.loop K37 [] c37_9))) (.seq (.region [] [] c37_10) .ret))))) _ _) = _
      generalize hrest : (CC.seq (.region [] [] c37_10) .ret) = rest
      simp only [c37, start, List.replicate, c37_0, c37_1, c37_2, c37_3, c37_4, h1, hs.len, hap, snapv, bs1_some (y := .v (.int .i64 n)) (sz := 1) cl_int rfl, e_append, q9z, evStore, e_bslice1, e_bslice2, bs1, bs2, e_build, bdH_some, bd_nil, bd_cons, bd1, cl_agg, cl_int, toL, List.map_cons, List.map_nil, putAt, List.set_cons_zero, List.set_cons_succ, and_self, Nat.le_refl, evStore, app_get, app_set, g_agg, run_nil, run_cons, stp_plain, stp_guard, put_some, pass_eq, pick_tt, pick_ff, pick_tf, pick_ft, pick_u, reg_some, thn_normal, thn_exit, thn_ret, cnd_t, cnd_f, blk_normal, blk_ret, blk_exit, x_seq, x_region, x_cond, x_block, x_loop, x_ret, x_exit, x_skip, e_mov, e_pick, pk_t, pk_f, withH_some, e_box, bx_some, e_load, e_store, stH_some, e_nil, e_bin, e_eqv, eqH_f, eqH_t, e_un, e_fa, e_ia, ia_eq, nat_eq, natV_nat, e_len, lnH_some, e_extract, ex_0, ex_1, e_call0, e_call1, e_call2, e_call3, pc0_eq, pc1_some, pc2_some, pc3_some, fin_some, g_var0, g_vars, g_loc0, g_locs, g_int, g_bool, g_str, g_sl, s_none, s_zero, s_succ, cl_nil, cl_str, cl_bool, cl_slc, cl_own, evFa, evNil, evLoad, asEl, evBin, intBin, strBin, evUn, len_nil, len_slc, len_str, clr, List.length_nil, List.length_cons, List.getElem?_cons_zero, List.getElem?_cons_succ, Nat.reduceAdd, Nat.zero_add, Nat.add_zero, Nat.reduceLeDiff, Nat.reduceSub, ↓reduceIte, List.drop_succ_cons, List.drop_zero, List.take_succ_cons, List.take_zero, Bool.false_eq_true, List.nil_append, List.cons_append, Bool.not_true, Bool.not_false, cond_true, cond_false, bne, lv_ret, lv_normal, res1, res2, lv2_some, res_var, res_cell, lvf_v, lvf_slc, res1c, lvo1_some, e_mm, mm_max, mm_min]
      rw [loop_cong (v2 := L37 (.own 1 1 0 0 1) c es.length ((0 : Nat) : Int)) (by rfl), g1, ← hrest]
      simp only [blk_exit, thn_normal, c37_10, g3, run_nil, run_cons, stp_plain, stp_guard, put_some, pass_eq, pick_tt, pick_ff, pick_tf, pick_ft, pick_u, reg_some, thn_normal, thn_exit, thn_ret, cnd_t, cnd_f, blk_normal, blk_ret, blk_exit, x_seq, x_region, x_cond, x_block, x_loop, x_ret, x_exit, x_skip, e_mov, e_pick, pk_t, pk_f, withH_some, e_box, bx_some, e_load, e_store, stH_some, e_nil, e_bin, e_eqv, eqH_f, eqH_t, e_un, e_fa, e_ia, ia_eq, nat_eq, natV_nat, e_len, lnH_some, e_extract, ex_0, ex_1, e_call0, e_call1, e_call2, e_call3, pc0_eq, pc1_some, pc2_some, pc3_some, fin_some, g_var0, g_vars, g_loc0, g_locs, g_int, g_bool, g_str, g_sl, s_none, s_zero, s_succ, cl_nil, cl_str, cl_bool, cl_slc, cl_own, evFa, evNil, asEl, evBin, intBin, strBin, evUn, len_nil, len_slc, len_str, clr, List.length_nil, List.length_cons, List.getElem?_cons_zero, List.getElem?_cons_succ, Nat.reduceAdd, Nat.zero_add, Nat.add_zero, Nat.reduceLeDiff, Nat.reduceSub, ↓reduceIte, List.drop_succ_cons, List.drop_zero, List.take_succ_cons, List.take_zero, Bool.false_eq_true, List.nil_append, List.cons_append, Bool.not_true, Bool.not_false, cond_true, cond_false, bne, lv_ret, lv_normal, res1, res2, lv2_some, res_var, res_cell, lvf_v, lvf_slc, res1c, lvo1_some, e_mm, mm_max, mm_min]
    · have h1 : (k == 1) = false := by simpa using hk
      obtain ⟨acc', h', x4, x5, x9, g1, g2⟩ := key [] (.v (.slice none 0 0)) [.box [.v (.int .i64 k), .v (.string s), .v (.int .i64 n), c]] (by simp) .nil
      obtain ⟨r, g3, g4⟩ := g2.lvf
      refine ⟨r, by rw [placesT, if_neg hk]; exact g4, callW_pure (c := c37) rfl rfl (l.length + 1) ?_⟩
      show lv [.var 2] (exec (callW F) (l.length + 1) (.seq (.region [] [] c37_0) (.seq (.region [] [] c37_1) (.seq (.seq (.region [] [] c37_2) (.cond (.var 5) (.region [] [] c37_3) .skip)) (.seq (.seq (.region [] [] c37_4) (.block 0 (.loop K37 [] c37_9))) (.seq (.region [] [] c37_10) .ret))))) _ _) = _
      generalize hrest : (CC.seq (.region [] [] c37_10) .ret) = rest
      simp only [c37, start, List.replicate, c37_0, c37_1, c37_2, c37_4, h1, hs.len, evStore, e_bslice1, e_bslice2, bs1, bs2, e_build, bdH_some, bd_nil, bd_cons, bd1, cl_agg, cl_int, toL, List.map_cons, List.map_nil, putAt, List.set_cons_zero, List.set_cons_succ, and_self, Nat.le_refl, evStore, app_get, app_set, g_agg, run_nil, run_cons, stp_plain, stp_guard, put_some, pass_eq, pick_tt, pick_ff, pick_tf, pick_ft, pick_u, reg_some, thn_normal, thn_exit, thn_ret, cnd_t, cnd_f, blk_normal, blk_ret, blk_exit, x_seq, x_region, x_cond, x_block, x_loop, x_ret, x_exit, x_skip, e_mov, e_pick, pk_t, pk_f, withH_some, e_box, bx_some, e_load, e_store, stH_some, e_nil, e_bin, e_eqv, eqH_f, eqH_t, e_un, e_fa, e_ia, ia_eq, nat_eq, natV_nat, e_len, lnH_some, e_extract, ex_0, ex_1, e_call0, e_call1, e_call2, e_call3, pc0_eq, pc1_some, pc2_some, pc3_some, fin_some, g_var0, g_vars, g_loc0, g_locs, g_int, g_bool, g_str, g_sl, s_none, s_zero, s_succ, cl_nil, cl_str, cl_bool, cl_slc, cl_own, evFa, evNil, evLoad, asEl, evBin, intBin, strBin, evUn, len_nil, len_slc, len_str, clr, List.length_nil, List.length_cons, List.getElem?_cons_zero, List.getElem?_cons_succ, Nat.reduceAdd, Nat.zero_add, Nat.add_zero, Nat.reduceLeDiff, Nat.reduceSub, ↓reduceIte, List.drop_succ_cons, List.drop_zero, List.take_succ_cons, List.take_zero, Bool.false_eq_true, List.nil_append, List.cons_append, Bool.not_true, Bool.not_false, cond_true, cond_false, bne, lv_ret, lv_normal, res1, res2, lv2_some, res_var, res_cell, lvf_v, lvf_slc, res1c, lvo1_some, e_mm, mm_max, mm_min]
      rw [loop_cong (v2 := L37 (.v (.slice none 0 0)) c es.length ((0 : Nat) : Int)) (by rfl), g1, ← hrest]
      simp only [blk_exit, thn_normal, c37_10, g3, run_nil, run_cons, stp_plain, stp_guard, put_some, pass_eq, pick_tt, pick_ff, pick_tf, pick_ft, pick_u, reg_some, thn_normal, thn_exit, thn_ret, cnd_t, cnd_f, blk_normal, blk_ret, blk_exit, x_seq, x_region, x_cond, x_block, x_loop, x_ret, x_exit, x_skip, e_mov, e_pick, pk_t, pk_f, withH_some, e_box, bx_some, e_load, e_store, stH_some, e_nil, e_bin, e_eqv, eqH_f, eqH_t, e_un, e_fa, e_ia, ia_eq, nat_eq, natV_nat, e_len, lnH_some, e_extract, ex_0, ex_1, e_call0, e_call1, e_call2, e_call3, pc0_eq, pc1_some, pc2_some, pc3_some, fin_some, g_var0, g_vars, g_loc0, g_locs, g_int, g_bool, g_str, g_sl, s_none, s_zero, s_succ, cl_nil, cl_str, cl_bool, cl_slc, cl_own, evFa, evNil, asEl, evBin, intBin, strBin, evUn, len_nil, len_slc, len_str, clr, List.length_nil, List.length_cons, List.getElem?_cons_zero, List.getElem?_cons_succ, Nat.reduceAdd, Nat.zero_add, Nat.add_zero, Nat.reduceLeDiff, Nat.reduceSub, ↓reduceIte, List.drop_succ_cons, List.drop_zero, List.take_succ_cons, List.take_zero, Bool.false_eq_true, List.nil_append, List.cons_append, Bool.not_true, Bool.not_false, cond_true, cond_false, bne, lv_ret, lv_normal, res1, res2, lv2_some, res_var, res_cell, lvf_v, lvf_slc, res1c, lvo1_some, e_mm, mm_max, mm_min]

/-! ### Vars -/
def addNew (p : List Int) (n : Int) : List Int := if p.contains n then p else p ++ [n]
def varsT (t : Tm) : List Int := (placesT t).foldl addNew []
def K19 : List Bool := [false, false, false, true, false, true, true, true, false, false]
def L19 (acc c : AV) (len i : Int) : List AV := [.junk, .junk, .junk, acc, .junk, c, .v (.int .i64 len), .v (.int .i64 i), .junk, .junk]
end Go.AE.Ytpgoibncgekflaa
end

/-! Vars walked. -/
section
set_option linter.unusedVariables false
set_option linter.unusedSimpArgs false
namespace Go.AE.Ytpgoibncgekflaa
open Go Go.AE Go.Proofs.Ytpgoibncgekflaa

theorem addNew_len (p : List Int) (n : Int) : (addNew p n).length ≤ p.length + 1 := by
  simp only [addNew]; split <;> simp
theorem foldNew_len : ∀ (l p : List Int), (l.foldl addNew p).length ≤ p.length + l.length
  | [], p => by simp
  | n :: l, p => by
    have := foldNew_len l (addNew p n)
    have := addNew_len p n
    simp only [List.foldl_cons, List.length_cons]; omega

theorem vars_loop {K : Nat} {c : AV} {es : List AV} (hs : Sl 1 c es) (hm : es.length ≤ 100000) :
    ∀ (l : List Int) (i : Nat) (acc : AV) (p : List Int) (h : List AO) (vars : List AV), i + l.length = es.length → p.length ≤ i → es.drop i = l.map iv →
      Acc 1 h acc (p.map iv) → clr K19 vars = L19 acc c es.length i →
      ∃ acc' h' x4 x8 x9, loopN (exec (callW F) K c19_8) K19 (l.length + 1) vars h = some (.exit 0, [.junk, .junk, .junk, acc', x4, c, .v (.int .i64 es.length), .v (.int .i64 es.length), x8, x9], h') ∧ Acc 1 h' acc' ((l.foldl addNew p).map iv) := by
  intro l
  induction l with
  | nil =>
    intro i acc p h vars hi hp _ ha hv
    have hil : i = es.length := by simpa using hi
    subst hil
    have hlt : decide ((es.length : Int) < (es.length : Int)) = false := by simp
    refine ⟨acc, h, .junk, .v (.bool false), .junk, loop_exit ?_, ha⟩
    rw [hv]
    simp only [L19, c19_8, c19_3, hlt, e_bslice1, e_bslice2, bs1, bs2, e_build, bdH_some, bd_nil, bd_cons, bd1, cl_agg, cl_int, toL, List.map_cons, List.map_nil, putAt, List.set_cons_zero, List.set_cons_succ, and_self, Nat.le_refl, app_get, app_set, g_agg, run_nil, run_cons, stp_plain, stp_guard, put_some, pass_eq, pick_tt, pick_ff, pick_tf, pick_ft, pick_u, reg_some, thn_normal, thn_exit, thn_ret, cnd_t, cnd_f, blk_normal, blk_ret, blk_exit, x_seq, x_region, x_cond, x_block, x_loop, x_ret, x_exit, x_skip, e_mov, e_pick, pk_t, pk_f, withH_some, e_box, bx_some, e_load, e_store, stH_some, e_nil, e_bin, e_eqv, eqH_f, eqH_t, e_un, e_fa, e_ia, ia_eq, nat_eq, natV_nat, e_len, lnH_some, e_extract, ex_0, ex_1, e_call0, e_call1, e_call2, e_call3, pc0_eq, pc1_some, pc2_some, pc3_some, fin_some, g_var0, g_vars, g_loc0, g_locs, g_int, g_bool, g_str, g_sl, s_none, s_zero, s_succ, cl_nil, cl_str, cl_bool, cl_slc, cl_own, evFa, evNil, asEl, evBin, intBin, strBin, evUn, len_nil, len_slc, len_str, clr, List.length_nil, List.length_cons, List.getElem?_cons_zero, List.getElem?_cons_succ, Nat.reduceAdd, Nat.zero_add, Nat.add_zero, Nat.reduceLeDiff, Nat.reduceSub, ↓reduceIte, List.drop_succ_cons, List.drop_zero, List.take_succ_cons, List.take_zero, Bool.false_eq_true, List.nil_append, List.cons_append, Bool.not_true, Bool.not_false, cond_true, cond_false, bne, lv_ret, lv_normal, res1, res2, lv2_some, res_var, res_cell, lvf_v, lvf_slc, res1c, lvo1_some, e_mm, mm_max, mm_min]
  | cons n l ih =>
    intro i acc p h vars hi hp hes ha hv
    have hil : i < es.length := by simp at hi; omega
    have he : es[i]? = some (iv n) := by
      have : (es.drop i)[0]? = some (iv n) := by rw [hes]; rfl
      simpa using this
    have hd : es.drop (i + 1) = l.map iv := by
      have h2 := congrArg List.tail hes
      simpa using h2
    have hlt : (decide ((i : Int) < (es.length : Int))) = true := by simp; omega
    have q1 := hs.ia he
    obtain ⟨f1, f2, c', f3, f4⟩ := ha.fix
    have hc := has_ok f4 (by omega) n
    have hmax : es.length ≤ maxLen := small_max hm
    rw [show (n :: l).length + 1 = (l.length + 1) + 1 from rfl, List.foldl_cons]
    cases hh : p.contains n with
    | true =>
      rw [hh] at hc
      have st : exec (callW F) K c19_8 (L19 acc c es.length i) h = some (.normal, [.junk, .junk, .junk, acc, .v (.int .i64 n), c, .v (.int .i64 es.length), .v (.int .i64 ((i + 1 : Nat) : Int)), .v (.bool true), .v (.bool false)], raise1 h acc) := by
        have q3 : ∀ h, evLoad h false 1 (.ip [.v (.int .i64 n)]) = some (.v (.int .i64 n)) := fun _ => rfl
        simp only [L19, iv, AV.cells, x_region_m, marked_eq, marked, List.foldl_cons, List.foldl_nil, doMark, List.getD_cons_zero, List.getD_cons_succ, c19_8, c19_3, c19_4, c19_5, c19_7, hlt, wrap_succ hil hmax, q1, q3, f3, hc, snapv, e_bslice1, e_bslice2, bs1, bs2, e_build, bdH_some, bd_nil, bd_cons, bd1, cl_agg, cl_int, toL, List.map_cons, List.map_nil, putAt, List.set_cons_zero, List.set_cons_succ, and_self, Nat.le_refl, app_get, app_set, g_agg, run_nil, run_cons, stp_plain, stp_guard, put_some, pass_eq, pick_tt, pick_ff, pick_tf, pick_ft, pick_u, reg_some, thn_normal, thn_exit, thn_ret, cnd_t, cnd_f, blk_normal, blk_ret, blk_exit, x_seq, x_region, x_cond, x_block, x_loop, x_ret, x_exit, x_skip, e_mov, e_pick, pk_t, pk_f, withH_some, e_box, bx_some, e_load, e_store, stH_some, e_nil, e_bin, e_eqv, eqH_f, eqH_t, e_un, e_fa, e_ia, ia_eq, nat_eq, natV_nat, e_len, lnH_some, e_extract, ex_0, ex_1, e_call0, e_call1, e_call2, e_call3, pc0_eq, pc1_some, pc2_some, pc3_some, fin_some, g_var0, g_vars, g_loc0, g_locs, g_int, g_bool, g_str, g_sl, s_none, s_zero, s_succ, cl_nil, cl_str, cl_bool, cl_slc, cl_own, evFa, evNil, asEl, evBin, intBin, strBin, evUn, len_nil, len_slc, len_str, clr, List.length_nil, List.length_cons, List.getElem?_cons_zero, List.getElem?_cons_succ, Nat.reduceAdd, Nat.zero_add, Nat.add_zero, Nat.reduceLeDiff, Nat.reduceSub, ↓reduceIte, List.drop_succ_cons, List.drop_zero, List.take_succ_cons, List.take_zero, Bool.false_eq_true, List.nil_append, List.cons_append, Bool.not_true, Bool.not_false, cond_true, cond_false, bne, lv_ret, lv_normal, res1, res2, lv2_some, res_var, res_cell, lvf_v, lvf_slc, res1c, lvo1_some, e_mm, mm_max, mm_min]
      rw [loop_normal (by rw [hv]; exact st)]
      have e : addNew p n = p := by simp only [addNew, hh, if_true]
      rw [e]
      exact ih (i + 1) acc p _ _ (by simp at hi; omega) (by omega) hd f1 rfl
    | false =>
      rw [hh] at hc
      have q3 : ∀ h, evLoad h false 1 (.ip [.v (.int .i64 n)]) = some (.v (.int .i64 n)) := fun _ => rfl
      obtain ⟨acc', h2, h3, h4, h5⟩ := f1.add (x := .slc 1 true true [.v (.int .i64 n)]) (ys := [.v (.int .i64 n)]) (bytes := 8) elems_one (by
        have : room = 140737488355328 := rfl
        simp only [fits, List.length_map, List.length_cons, List.length_nil, decide_eq_true_eq]; omega)
      have st : exec (callW F) K c19_8 (L19 acc c es.length i) h = some (.normal, [.junk, .junk, .junk, acc', .v (.int .i64 n), c, .v (.int .i64 es.length), .v (.int .i64 ((i + 1 : Nat) : Int)), .v (.bool true), .v (.bool true)], h2) := by
        simp only [L19, iv, AV.cells, x_region_m, marked_eq, marked, List.foldl_cons, List.foldl_nil, doMark, List.getD_cons_zero, List.getD_cons_succ, c19_8, c19_3, c19_4, c19_5, c19_6, c19_7, hlt, wrap_succ hil hmax, q1, q3, f3, hc, h3, snapv, e_append, bs1_some (y := .v (.int .i64 n)) (sz := 1) cl_int rfl, e_bslice1, e_bslice2, bs1, bs2, e_build, bdH_some, bd_nil, bd_cons, bd1, cl_agg, cl_int, toL, List.map_cons, List.map_nil, putAt, List.set_cons_zero, List.set_cons_succ, and_self, Nat.le_refl, app_get, app_set, g_agg, run_nil, run_cons, stp_plain, stp_guard, put_some, pass_eq, pick_tt, pick_ff, pick_tf, pick_ft, pick_u, reg_some, thn_normal, thn_exit, thn_ret, cnd_t, cnd_f, blk_normal, blk_ret, blk_exit, x_seq, x_region, x_cond, x_block, x_loop, x_ret, x_exit, x_skip, e_mov, e_pick, pk_t, pk_f, withH_some, e_box, bx_some, e_load, e_store, stH_some, e_nil, e_bin, e_eqv, eqH_f, eqH_t, e_un, e_fa, e_ia, ia_eq, nat_eq, natV_nat, e_len, lnH_some, e_extract, ex_0, ex_1, e_call0, e_call1, e_call2, e_call3, pc0_eq, pc1_some, pc2_some, pc3_some, fin_some, g_var0, g_vars, g_loc0, g_locs, g_int, g_bool, g_str, g_sl, s_none, s_zero, s_succ, cl_nil, cl_str, cl_bool, cl_slc, cl_own, evFa, evNil, asEl, evBin, intBin, strBin, evUn, len_nil, len_slc, len_str, clr, List.length_nil, List.length_cons, List.getElem?_cons_zero, List.getElem?_cons_succ, Nat.reduceAdd, Nat.zero_add, Nat.add_zero, Nat.reduceLeDiff, Nat.reduceSub, ↓reduceIte, List.drop_succ_cons, List.drop_zero, List.take_succ_cons, List.take_zero, Bool.false_eq_true, List.nil_append, List.cons_append, Bool.not_true, Bool.not_false, cond_true, cond_false, bne, lv_ret, lv_normal, res1, res2, lv2_some, res_var, res_cell, lvf_v, lvf_slc, res1c, lvo1_some, e_mm, mm_max, mm_min]
      rw [loop_normal (by rw [hv]; exact st)]
      have e : addNew p n = p ++ [n] := by simp only [addNew, hh]; rfl
      rw [e]
      have h4' : Acc 1 h2 acc' ((p ++ [n]).map iv) := by rw [List.map_append]; exact h4
      exact ih (i + 1) acc' (p ++ [n]) h2 _ (by simp at hi; omega) (by simp; omega) hd h4' rfl

theorem vars_ok {t : Tm} {a : AV} (hsz : size t ≤ 100000) (ha : IsT a t) : ∃ r, Sl 1 r ((varsT t).map iv) ∧ callW F 19 [a] [] = some (r, []) := by
  obtain ⟨c, hs, hc⟩ := places_ok _ t a (Nat.lt_succ_self _) hsz ha
  have hpl := places_len t
  have hlen : ((placesT t).map iv).length = (placesT t).length := by simp
  obtain ⟨acc', h', x4, x8, x9, g1, g2⟩ := vars_loop (K := (placesT t).length + 1) hs (by omega) (placesT t) 0 (.v (.slice none 0 0)) [] [.box a.cells] (L19 (.v (.slice none 0 0)) c ((placesT t).map iv).length (0 : Nat)) (by simp) (by simp) (by simp) .nil rfl
  obtain ⟨r, g3, g4⟩ := g2.lvf
  refine ⟨r, g4, callW_pure (c := c19) rfl rfl ((placesT t).length + 1) ?_⟩
  have q5 : ∀ h : List AO, a.snap1 h = some a := fun h => ha.snap
  show lv [.var 2] (exec (callW F) ((placesT t).length + 1) (.seq (.region [] [] c19_0) (.seq (.region [] [] c19_1) (.seq (.seq (.region [] [] c19_2) (.block 0 (.loop K19 [] c19_8))) (.seq (.region [] [] c19_9) .ret)))) _ _) = _
  generalize hrest : (CC.seq (.region [] [] c19_9) .ret) = rest
  generalize (placesT t).map iv = qs at hs g1
  cases ha
  simp only [AV.cells] at g1
  simp only [c19, start, List.replicate, c19_0, c19_1, c19_2, hc, q5, hs.len, e_bslice1, e_bslice2, bs1, bs2, e_build, bdH_some, bd_nil, bd_cons, bd1, cl_agg, cl_int, toL, List.map_cons, List.map_nil, putAt, List.set_cons_zero, List.set_cons_succ, and_self, Nat.le_refl, evStore, app_get, app_set, g_agg, run_nil, run_cons, stp_plain, stp_guard, put_some, pass_eq, pick_tt, pick_ff, pick_tf, pick_ft, pick_u, reg_some, thn_normal, thn_exit, thn_ret, cnd_t, cnd_f, blk_normal, blk_ret, blk_exit, x_seq, x_region, x_cond, x_block, x_loop, x_ret, x_exit, x_skip, e_mov, e_pick, pk_t, pk_f, withH_some, e_box, bx_some, e_load, e_store, stH_some, e_nil, e_bin, e_eqv, eqH_f, eqH_t, e_un, e_fa, e_ia, ia_eq, nat_eq, natV_nat, e_len, lnH_some, e_extract, ex_0, ex_1, e_call0, e_call1, e_call2, e_call3, pc0_eq, pc1_some, pc2_some, pc3_some, fin_some, g_var0, g_vars, g_loc0, g_locs, g_int, g_bool, g_str, g_sl, s_none, s_zero, s_succ, cl_nil, cl_str, cl_bool, cl_slc, cl_own, evFa, evNil, evLoad, asEl, evBin, intBin, strBin, evUn, len_nil, len_slc, len_str, clr, List.length_nil, List.length_cons, List.getElem?_cons_zero, List.getElem?_cons_succ, Nat.reduceAdd, Nat.zero_add, Nat.add_zero, Nat.reduceLeDiff, Nat.reduceSub, ↓reduceIte, List.drop_succ_cons, List.drop_zero, List.take_succ_cons, List.take_zero, Bool.false_eq_true, List.nil_append, List.cons_append, Bool.not_true, Bool.not_false, cond_true, cond_false, bne, lv_ret, lv_normal, res1, res2, lv2_some, res_var, res_cell, lvf_v, lvf_slc, res1c, lvo1_some, e_mm, mm_max, mm_min]
  rw [loop_cong (v2 := L19 (.v (.slice none 0 0)) c qs.length ((0 : Nat) : Int)) (by rfl), g1, ← hrest]
  simp only [blk_exit, thn_normal, c19_9, g3, run_nil, run_cons, stp_plain, stp_guard, put_some, pass_eq, pick_tt, pick_ff, pick_tf, pick_ft, pick_u, reg_some, thn_normal, thn_exit, thn_ret, cnd_t, cnd_f, blk_normal, blk_ret, blk_exit, x_seq, x_region, x_cond, x_block, x_loop, x_ret, x_exit, x_skip, e_mov, e_pick, pk_t, pk_f, withH_some, e_box, bx_some, e_load, e_store, stH_some, e_nil, e_bin, e_eqv, eqH_f, eqH_t, e_un, e_fa, e_ia, ia_eq, nat_eq, natV_nat, e_len, lnH_some, e_extract, ex_0, ex_1, e_call0, e_call1, e_call2, e_call3, pc0_eq, pc1_some, pc2_some, pc3_some, fin_some, g_var0, g_vars, g_loc0, g_locs, g_int, g_bool, g_str, g_sl, s_none, s_zero, s_succ, cl_nil, cl_str, cl_bool, cl_slc, cl_own, evFa, evNil, asEl, evBin, intBin, strBin, evUn, len_nil, len_slc, len_str, clr, List.length_nil, List.length_cons, List.getElem?_cons_zero, List.getElem?_cons_succ, Nat.reduceAdd, Nat.zero_add, Nat.add_zero, Nat.reduceLeDiff, Nat.reduceSub, ↓reduceIte, List.drop_succ_cons, List.drop_zero, List.take_succ_cons, List.take_zero, Bool.false_eq_true, List.nil_append, List.cons_append, Bool.not_true, Bool.not_false, cond_true, cond_false, bne, lv_ret, lv_normal, res1, res2, lv2_some, res_var, res_cell, lvf_v, lvf_slc, res1c, lvo1_some, e_mm, mm_max, mm_min]

theorem foldNew_sub : ∀ (l p : List Int) (n : Int), n ∈ l.foldl addNew p ↔ n ∈ p ∨ n ∈ l
  | [], p, n => by simp
  | k :: l, p, n => by
    rw [List.foldl_cons, foldNew_sub l]
    simp only [addNew]
    split
    · rename_i hc
      have : k ∈ p := by simpa using hc
      constructor
      · rintro (h | h)
        · exact .inl h
        · exact .inr (by simp [h])
      · rintro (h | h)
        · exact .inl h
        · rcases List.mem_cons.1 h with rfl | h
          · exact .inl this
          · exact .inr h
    · simp [or_assoc]
theorem vars_mem {t : Tm} {n : Int} : n ∈ varsT t ↔ n ∈ placesT t := by
  simp [varsT, foldNew_sub]
end Go.AE.Ytpgoibncgekflaa
end

/-! What is resolved has no Var that is bound, and is resolved as itself: the plain law. -/
section
set_option linter.unusedVariables false
set_option linter.unusedSimpArgs false
namespace Go.AE.Ytpgoibncgekflaa
open Go Go.AE Go.Proofs.Ytpgoibncgekflaa

theorem walkT_free (rs : List (Int × Tm)) : ∀ (m : Nat) (t : Tm), (walkT rs m t).2.1 = 0 → bound rs (walkT rs m t).1 = none := by
  intro m
  induction m with
  | zero =>
    intro t h
    cases hb : bound rs t with
    | some u => simp [walkT, hb] at h
    | none => simp [walkT, hb]
  | succ m ih =>
    intro t h
    cases hb : bound rs t with
    | some u =>
      simp only [walkT, hb] at h ⊢
      exact ih u h
    | none => simp [walkT, hb]
theorem meetT_free (rs : List (Int × Tm)) (m : Nat) (t : Tm) (h : (meetT rs m t).2.1 = 0) : bound rs (meetT rs m t).1 = none ∧ (meetT rs m t).2.2 + 1 ≤ m := by
  cases m with
  | zero => simp [meetT] at h
  | succ m => exact ⟨walkT_free rs m t h, Nat.succ_le_succ (walkT_le rs m t)⟩
theorem bound_nil (t : Tm) : bound [] t = none := by cases t; simp [bound, lookT]
theorem meetT_nil (m : Nat) (t : Tm) : meetT [] (m + 1) t = (t, 0, m) := by
  cases m <;> simp [meetT, walkT, bound_nil]

theorem resL_free {f g : Nat → Tm → Except Int (Tm × Nat)} {Q : Tm → Prop} (hf : ∀ m t x m2, f m t = .ok (x, m2) → Q x ∧ m2 + size x ≤ m ∧ ∀ m', size x ≤ m' → g m' x = .ok (x, m' - size x)) :
    ∀ (l : List Tm) (m m2 : Nat) (xs : List Tm), resL f m l = .ok (xs, m2) → (∀ x ∈ xs, Q x) ∧ m2 + sizeL xs ≤ m ∧ ∀ m', sizeL xs ≤ m' → resL g m' xs = .ok (xs, m' - sizeL xs) := by
  intro l
  induction l with
  | nil =>
    intro m m2 xs h
    simp only [resL] at h
    cases h
    exact ⟨by simp, by simp [sizeL], by simp [resL, sizeL]⟩
  | cons t l ih =>
    intro m m2 xs h
    simp only [resL] at h
    cases h1 : f m t with
    | error e => rw [h1] at h; cases h
    | ok q =>
      obtain ⟨x, m1⟩ := q
      rw [h1] at h
      simp only at h
      cases h2 : resL f m1 l with
      | error e => rw [h2] at h; cases h
      | ok q2 =>
        obtain ⟨ys, m3⟩ := q2
        rw [h2] at h
        simp only at h
        cases h
        have a := hf _ _ _ _ h1
        have b := ih _ _ _ h2
        refine ⟨fun y hy => ?_, ?_, fun m' hm' => ?_⟩
        · rcases List.mem_cons.1 hy with rfl | hy
          · exact a.1
          · exact b.1 y hy
        · simp only [sizeL]; omega
        · simp only [sizeL] at hm' ⊢
          simp only [resL, a.2.2 m' (by omega), b.2.2 (m' - size x) (by omega)]
          rw [Nat.sub_sub]

/-- no Var of it is bound -/
def Free (rs : List (Int × Tm)) (t : Tm) : Prop := ∀ n ∈ placesT t, lookT rs n = none
theorem placesL_mem : ∀ {l : List Tm} {n : Int}, n ∈ placesL l → ∃ t ∈ l, n ∈ placesT t
  | t :: l, n, h => by
    simp only [placesL, List.mem_append] at h
    rcases h with h | h
    · exact ⟨t, by simp, h⟩
    · obtain ⟨u, hu, hn⟩ := placesL_mem h
      exact ⟨u, by simp [hu], hn⟩
theorem resT_free (rs : List (Int × Tm)) : ∀ (d m : Nat) (t x : Tm) (m2 : Nat), resT rs d m t = .ok (x, m2) → Free rs x ∧ m2 + size x ≤ m ∧ ∀ m', size x ≤ m' → resT [] d m' x = .ok (x, m' - size x) := by
  intro d
  induction d with
  | zero =>
    intro m t x m2 h
    simp only [resT] at h
    split at h <;> cases h
  | succ d ih =>
    intro m t x m2 h
    simp only [resT] at h
    have hfree := meetT_free rs m t
    generalize meetT rs m t = w at h hfree
    obtain ⟨⟨k, s, n, l⟩, e, m'⟩ := w
    simp only at h
    split at h
    · rename_i he
      obtain ⟨g1, g2⟩ := hfree he
      simp only at g1 g2
      cases hl : resL (resT rs d) m' l with
      | error e => rw [hl] at h; cases h
      | ok q =>
        obtain ⟨xs, m3⟩ := q
        rw [hl] at h
        simp only at h
        cases h
        have b := resL_free (Q := Free rs) (g := resT [] d) (fun m t x m2 hh => ih m t x m2 hh) _ _ _ _ hl
        refine ⟨fun v hv => ?_, ?_, fun m' hm' => ?_⟩
        · simp only [placesT, List.mem_append] at hv
          rcases hv with hv | hv
          · split at hv
            · rename_i hk
              have : v = n := by simpa using hv
              subst this
              simpa [bound, hk] using g1
            · cases hv
          · obtain ⟨u, hu, hn⟩ := placesL_mem hv
            exact b.1 u hu v hn
        · simp only [size]; omega
        · simp only [size] at hm' ⊢
          obtain ⟨m1, rfl⟩ : ∃ m1, m' = m1 + 1 := ⟨m' - 1, by omega⟩
          simp only [resT, meetT_nil, if_true, b.2.2 m1 (by omega)]
          rw [show m1 + 1 - (1 + sizeL xs) = m1 - sizeL xs by omega]
    · cases h
end Go.AE.Ytpgoibncgekflaa
end

/-! All numbers shifted, what is resolved is shifted: the plain law. -/
section
set_option linter.unusedVariables false
set_option linter.unusedSimpArgs false
namespace Go.AE.Ytpgoibncgekflaa
open Go Go.AE Go.Proofs.Ytpgoibncgekflaa

theorem wrap_eq (x : Int) : ∃ k : Int, IntKind.i64.wrap x = x - 18446744073709551616 * k ∧ in64 (IntKind.i64.wrap x) := by
  have h : IntKind.i64.wrap x = (x + 9223372036854775808) % 18446744073709551616 - 9223372036854775808 := by
    first
      | rfl
      | (simp only [IntKind.wrap]; rfl)
      | (simp [IntKind.wrap, IntKind.bits, IntKind.signed]; omega)
  refine ⟨(x + 9223372036854775808) / 18446744073709551616, ?_, ?_⟩
  · rw [h]; omega
  · rw [h]; unfold in64; omega
theorem wrap_in {x : Int} (h : in64 x) : IntKind.i64.wrap x = x := by
  unfold in64 at h
  exact IntWalk.i64_in (by omega) (by omega)

def shiftB (x : Int) (rs : List (Int × Tm)) : List (Int × Tm) := rs.map fun p => (p.1 + x, shiftT x p.2)
/-- the numbers that are bound are small -/
def Small (rs : List (Int × Tm)) : Prop := ∀ p ∈ rs, -1000000 ≤ p.1 ∧ p.1 ≤ 1000000

theorem look_shift {x : Int} (hx : 0 ≤ x ∧ x ≤ 1000000) {n : Int} (hn : in64 n) : ∀ {rs : List (Int × Tm)}, Small rs → lookT (shiftB x rs) (IntKind.i64.wrap (n + x)) = (lookT rs n).map (shiftT x)
  | [], _ => rfl
  | (v, t) :: rs, hs => by
    have hv := hs (v, t) (by simp)
    have ih := look_shift hx hn (rs := rs) (fun p hp => hs p (by simp [hp]))
    obtain ⟨k, hk, hr⟩ := wrap_eq (n + x)
    have e : (v + x = IntKind.i64.wrap (n + x)) ↔ v = n := by
      unfold in64 at hn
      simp only at hv
      constructor
      · intro h; omega
      · intro h
        subst h
        rw [wrap_in (by unfold in64; omega)]
    simp only [shiftB, List.map_cons, lookT] at ih ⊢
    by_cases h : v = n
    · rw [if_pos (e.2 h), if_pos h]; rfl
    · rw [if_neg (fun g => h (e.1 g)), if_neg h]; exact ih
theorem bound_shift {x : Int} (hx : 0 ≤ x ∧ x ≤ 1000000) {rs : List (Int × Tm)} (hs : Small rs) {t : Tm} (ht : Rng t) : bound (shiftB x rs) (shiftT x t) = (bound rs t).map (shiftT x) := by
  cases t with
  | mk k s n l =>
    simp only [shiftT, bound]
    by_cases hk : k = 1
    · rw [if_pos hk, if_pos hk, if_pos hk]
      exact look_shift hx ht.1 hs
    · rw [if_neg hk, if_neg hk]; rfl
theorem RngB.mem : ∀ {rs : List (Int × Tm)}, RngB rs → ∀ p ∈ rs, Rng p.2
  | q :: rs, h, p, hp => by
    rcases List.mem_cons.1 hp with rfl | hp
    · exact h.1.2
    · exact h.2.mem p hp
theorem bound_rng {rs : List (Int × Tm)} (hr : ∀ p ∈ rs, Rng p.2) {t u : Tm} (h : bound rs t = some u) : Rng u := by
  obtain ⟨p, hp, rfl⟩ := bound_mem h
  exact hr p hp
theorem zero_shift (x : Int) : shiftT x zeroT = zeroT := by
  simp [zeroT, shiftT, shiftL]
theorem rng_zero : Rng zeroT := ⟨by unfold in64; omega, trivial⟩

theorem walk_shift {x : Int} (hx : 0 ≤ x ∧ x ≤ 1000000) {rs : List (Int × Tm)} (hs : Small rs) (hr : ∀ p ∈ rs, Rng p.2) : ∀ (m : Nat) (t : Tm), Rng t →
    walkT (shiftB x rs) m (shiftT x t) = (shiftT x (walkT rs m t).1, (walkT rs m t).2) ∧ Rng (walkT rs m t).1 := by
  intro m
  induction m with
  | zero =>
    intro t ht
    simp only [walkT, bound_shift hx hs ht]
    cases hb : bound rs t with
    | none => exact ⟨rfl, ht⟩
    | some u => exact ⟨by simp [zero_shift], rng_zero⟩
  | succ m ih =>
    intro t ht
    simp only [walkT, bound_shift hx hs ht]
    cases hb : bound rs t with
    | none => exact ⟨rfl, ht⟩
    | some u => exact ih u (bound_rng hr hb)
theorem meet_shift {x : Int} (hx : 0 ≤ x ∧ x ≤ 1000000) {rs : List (Int × Tm)} (hs : Small rs) (hr : ∀ p ∈ rs, Rng p.2) (m : Nat) (t : Tm) (ht : Rng t) :
    meetT (shiftB x rs) m (shiftT x t) = (shiftT x (meetT rs m t).1, (meetT rs m t).2) ∧ Rng (meetT rs m t).1 := by
  cases m with
  | zero => exact ⟨by simp [meetT, zero_shift], rng_zero⟩
  | succ m => exact walk_shift hx hs hr m t ht

def shiftR (x : Int) : Except Int (Tm × Nat) → Except Int (Tm × Nat)
  | .ok (t, m) => .ok (shiftT x t, m)
  | .error e => .error e
def shiftRL (x : Int) : Except Int (List Tm × Nat) → Except Int (List Tm × Nat)
  | .ok (l, m) => .ok (shiftL x l, m)
  | .error e => .error e
theorem resL_shift {x : Int} {f g : Nat → Tm → Except Int (Tm × Nat)} (hf : ∀ m t, Rng t → g m (shiftT x t) = shiftR x (f m t)) : ∀ (l : List Tm) (m : Nat), RngL l → resL g m (shiftL x l) = shiftRL x (resL f m l) := by
  intro l
  induction l with
  | nil => intro m _; rfl
  | cons t l ih =>
    intro m hl
    simp only [shiftL, resL, hf m t hl.1]
    cases h1 : f m t with
    | error e => rfl
    | ok q =>
      obtain ⟨u, m1⟩ := q
      simp only [shiftR, ih m1 hl.2]
      cases h2 : resL f m1 l with
      | error e => rfl
      | ok q2 => obtain ⟨us, m2⟩ := q2; rfl
theorem res_shift {x : Int} (hx : 0 ≤ x ∧ x ≤ 1000000) {rs : List (Int × Tm)} (hs : Small rs) (hr : ∀ p ∈ rs, Rng p.2) : ∀ (d m : Nat) (t : Tm), Rng t → resT (shiftB x rs) d m (shiftT x t) = shiftR x (resT rs d m t) := by
  intro d
  induction d with
  | zero =>
    intro m t ht
    have h := (meet_shift hx hs hr m t ht).1
    simp only [resT, h]
    generalize meetT rs m t = w
    obtain ⟨w1, w2, w3⟩ := w
    simp only
    split <;> rfl
  | succ d ih =>
    intro m t ht
    obtain ⟨h, hw⟩ := meet_shift hx hs hr m t ht
    simp only [resT, h]
    generalize meetT rs m t = w at hw
    obtain ⟨⟨k, s, n, l⟩, w2, w3⟩ := w
    simp only [shiftT]
    split
    · rw [resL_shift (fun m t ht => ih m t ht) l w3 hw.2]
      cases resL (resT rs d) w3 l with
      | error e => rfl
      | ok q => obtain ⟨us, m2⟩ := q; simp only [shiftRL, shiftR, shiftT]
    · rfl
theorem resA_shift {x : Int} (hx : 0 ≤ x ∧ x ≤ 1000000) {rs : List (Int × Tm)} (hs : Small rs) (hr : ∀ p ∈ rs, Rng p.2) {t : Tm} (ht : Rng t) : resA (shiftB x rs) (shiftT x t) = (shiftT x (resA rs t).1, (resA rs t).2) := by
  simp only [resA, res_shift hx hs hr 60 2000 t ht]
  cases resT rs 60 2000 t with
  | error e => simp only [shiftR, zero_shift]
  | ok q => obtain ⟨u, m⟩ := q; rfl
end Go.AE.Ytpgoibncgekflaa
end

/-! The row of SubstWalks, out of its plain law. -/
section
set_option linter.unusedVariables false
namespace Go.Proofs.Ytpgoibncgekflaa
open Go Go.AE Go.Proofs Go.ChangeShapes Go.WideShapes Go.ChangeAt Go.RowKit
open Go.ChangeMaps (open_string shut_string)
namespace substWalks
theorem args {I : Cells} {W : World} {a0 a1 a2 : AV} {v0 v1 v2 : Value} (r0 : Rep I W [] a0 v0) (r1 : Rep I W [] a1 v1) (r2 : Rep I W [] a2 v2) : ArgsRep I W [] [a0, a1, a2] #[v0, v1, v2] := by
  refine ⟨rfl, fun i a h => ?_⟩
  match i, h with
  | 0, h => cases h; exact r0
  | 1, h => cases h; exact r1
  | 2, h => cases h; exact r2
def Plain : Prop := ∀ a0 a1 a2 : AV, WT T 22 a0.cells → asEl ti22.agg a0.cells = some a0 → WT T 25 a1.cells → asEl ti25.agg a1.cells = some a1 → WT T 2 a2.cells → asEl ti2.agg a2.cells = some a2 →
  ∃ n, callN F n 3 [a0, a1, a2] [] = some (.v (.bool true), [])

set_option maxRecDepth 100000 in
theorem lifted (plain : Plain) (os : Os) (started : os.Started) (H : Type) (enc : TypeId × Value → H) :
    ReturnsInHanded {} Try.checked os 3 .any (Rows.substWalksSpec.pre6 enc Try.prog Try.f3 Rows.substWalksRow.domain false) (Rows.substWalksSpec.post enc Try.prog Try.f3 false true false false) := by
  refine returnsInHanded_of_change_sized (C := Try.checked) own started (by kernel_rfl) Try.func3
    (ChangeSpec.witness6 (enc := enc) (C := Try.checked) false ⟨#[], #[ti22.zero, ti25.zero, ti2.zero], []⟩ 8 (by kernel_rfl) (by kernel_rfl) (by kernel_rfl) (by kernel_rfl)) ?_
  intro W base args' ds gs before hval0 hW hcnd hsz0 _
  have hval : ∀ (j : Nat) t v, Try.f3.params[j]? = some t → args'[j]? = some v → Value.okWide Try.prog W .any base t v := hval0
  have hW' := hW
  obtain ⟨p, q, hA0, hV, rfl, hfz, hnd⟩ := hW
  have hA : DataW.TrodAll enc Try.prog W 0 (fun _ => true) true Try.f3.params.toList args'.toList ds p := hA0
  rw [Try.params3] at hA hval
  obtain ⟨v0, vs0, d0, ds0, p0, q0, hargs, rfl, rfl, h0, r0⟩ := trodAll_cons hA
  obtain ⟨v1, vs1, d1, ds1, p1, q1, rfl, rfl, rfl, h1, r1⟩ := trodAll_cons r0
  obtain ⟨v2, vs2, d2, ds2, p2, q2, rfl, rfl, rfl, h2, r2⟩ := trodAll_cons r1
  obtain ⟨rfl, rfl, rfl⟩ := trodAll_nil r2
  obtain rfl : args' = #[v0, v1, v2] := by cases args'; simp_all
  obtain ⟨rfl, rfl⟩ := trodVars_none hV
  obtain ⟨a0, w0, e0, x0⟩ := trod_arg hT hG (t := 22) (i := ti22) (by decide) rfl (hval 0 22 v0 rfl rfl) h0
  obtain ⟨a1, w1, e1, x1⟩ := trod_arg hT hG (t := 25) (i := ti25) (by decide) rfl (hval 1 25 v1 rfl rfl) h1
  obtain ⟨a2, w2, e2, x2⟩ := trod_arg hT hG (t := 2) (i := ti2) (by decide) rfl (hval 2 2 v2 rfl rfl) h2
  have l0 : ∀ x ∈ p0, x.block < W.heap.size := by obtain ⟨m, hm⟩ := h0; exact DataW.trod_lt m _ _ _ hm
  have l1 : ∀ x ∈ p1, x.block < W.heap.size := by obtain ⟨m, hm⟩ := h1; exact DataW.trod_lt m _ _ _ hm
  have l2 : ∀ x ∈ p2, x.block < W.heap.size := by obtain ⟨m, hm⟩ := h2; exact DataW.trod_lt m _ _ _ hm
  obtain ⟨n, hn⟩ := plain a0 a1 a2 w0 e0 w1 e1 w2 e2
  refine (law_calls (args x0 x1 x2) hn).mono fun e W' ⟨he, bel⟩ => ?_
  subst he
  exact ⟨_, rfl, _, _, _, [], _, [], hW', trodAll_mk1 (shut_bool Try.underlying4 _),
    (trodAll_cons_mk (Below.trod laidOut (by kernel_rfl) (of_decide_eq_true (by kernel_rfl)) h0 bel l0) (trodAll_cons_mk (Below.trod laidOut (by kernel_rfl) (of_decide_eq_true (by kernel_rfl)) h1 bel l1) (trodAll_cons_mk (Below.trod laidOut (by kernel_rfl) (of_decide_eq_true (by kernel_rfl)) h2 bel l2) trodAll_mk0))), rfl, bel.frame _, fun h => by cases h⟩
theorem over (plain : Plain) : Rows.substWalksRow.holds Try.pinned (OpenSpec.ofChange Rows.substWalksSpec) :=
  OpenClaim.holds_of_wide 3 Try.f3 rfl rfl rfl rfl rfl rfl rfl ⟨rfl, rfl, rfl, rfl, rfl⟩ rfl rfl rfl rfl rfl (by kernel_rfl) Try.func3 (by kernel_rfl)
    (of_decide_eq_true (by kernel_rfl)) (by unfold Func.isWrapper; first | (rw [if_pos (by decide +kernel)]; kernel_rfl) | (rw [if_neg (by decide +kernel)]; exact ⟨rfl, rfl⟩))
    (fun os started H enc _ => lifted plain os started H enc)
theorem proved (plain : Plain) : Rows.SubstWalksSaid := over plain
end substWalks
end Go.Proofs.Ytpgoibncgekflaa
end

/-! SubstWalks holds: whatever the input, it returns true, and the input reads as it did. Conditions: none. -/
section
set_option linter.unusedVariables false
set_option linter.unusedSimpArgs false
namespace Go.AE.Ytpgoibncgekflaa
open Go Go.AE Go.Proofs.Ytpgoibncgekflaa

theorem wrap_pred {m : Int} (h0 : 0 ≤ m) (h1 : m ≤ 1000000) : IntKind.i64.wrap (m - 1) = m - 1 := by
  rw [IntWalk.i64_in]; omega
mutual
theorem left_size : ∀ (t : Tm) (m : Int), 0 ≤ m → m ≤ 1000000 → -1 ≤ left t m ∧ left t m ≤ m ∧ (0 ≤ left t m → left t m + size t = m)
  | .mk k s n l, m, h0, h1 => by
    rw [left, size, wrap_pred h0 h1]
    have := leftL_size l (m - 1) (by omega) (by omega)
    refine ⟨this.1, by omega, fun h => ?_⟩
    have := this.2.2 h
    omega
theorem leftL_size : ∀ (l : List Tm) (m : Int), -1 ≤ m → m ≤ 1000000 → -1 ≤ leftL l m ∧ leftL l m ≤ m ∧ (0 ≤ leftL l m → leftL l m + sizeL l = m)
  | [], m, h0, h1 => by simp only [leftL, sizeL]; omega
  | t :: l, m, h0, h1 => by
    simp only [leftL, sizeL]
    by_cases hm : m < 0
    · rw [if_pos hm]; omega
    · rw [if_neg hm]
      have a := left_size t m (by omega) h1
      have b := leftL_size l (left t m) (by omega) (by omega)
      refine ⟨b.1, by omega, fun h => ?_⟩
      have := b.2.2 h
      have := a.2.2 (by omega)
      omega
end
theorem big_size {bs : List (Int × Tm)} {ts : List Tm} (h : big bs ts = false) : bs.length ≤ 100 ∧ (∀ p ∈ bs, size p.2 ≤ 300) ∧ (∀ t ∈ ts, size t ≤ 3000) := by
  simp only [big, Bool.or_eq_false_iff, decide_eq_false_iff_not, Bool.not_eq_false', List.all_eq_true, decide_eq_true_eq] at h
  refine ⟨by omega, fun p hp => ?_, fun t ht => ?_⟩
  · have h1 := h.1.2 p hp
    have := (left_size p.2 300 (by omega) (by omega)).2.2 h1
    omega
  · have h1 := h.2 t ht
    have := (left_size t 3000 (by omega) (by omega)).2.2 h1
    omega

theorem same_call {a b : AV} {t : Tm} (ha : IsT a t) (hb : IsT b t) : callW F 15 [a, b] [] = some (.v (.bool true), []) := by
  have := same_ok _ t t a b (Nat.lt_succ_self _) ha hb
  rw [same_refl] at this; exact this

theorem walks_ok {b t : AV} {T : Tm} {bs : List (Int × Tm)} (hb : IsB b bs) (ht : IsT t T) (x : Int) : callW F 3 [b, t, .v (.int .i64 x)] [] = some (.v (.bool true), []) := by
  have hlive := live_ok
  have hbig := big_ok (ts := .slc 4 true true [t]) hb rfl (All2.cons t T [] [] ht .nil) (by simp [maxLen])
  have s1 : ∀ h : List AO, t.snap1 h = some t := fun h => ht.snap
  have sb : ∀ h : List AO, b.snap1 h = some b := by intro h; cases hb <;> rfl
  have sl : ∀ h : List AO, (AV.slc 4 true true [t]).snap1 h = some (.slc 4 true true [t]) := fun _ => rfl
  have ht' := ht
  refine callW_pure (c := c3) rfl rfl 0 ?_
  cases hB : big bs [T] with
  | true =>
    rw [hB] at hbig
    cases ht with
    | mk k s n c l hc =>
    have b1 : ∀ h : List AO, bs1 h 4 (some (.agg [.v (.int .i64 k), .v (.string s), .v (.int .i64 n), c])) = some (.slc 4 true true [.agg [.v (.int .i64 k), .v (.string s), .v (.int .i64 n), c]], h) := fun h => bs1_some rfl rfl
    simp only [c3, start, List.replicate, c3_0, c3_1, c3_2, c3_3, hlive, s1, sb, sl, b1, hbig, e_bslice1, e_bslice2, bs1, bs2, e_build, bdH_some, bd_nil, bd_cons, bd1, cl_agg, cl_int, toL, List.map_cons, List.map_nil, putAt, List.set_cons_zero, List.set_cons_succ, and_self, Nat.le_refl, evStore, app_get, app_set, g_agg, run_nil, run_cons, stp_plain, stp_guard, put_some, pass_eq, pick_tt, pick_ff, pick_tf, pick_ft, pick_u, reg_some, thn_normal, thn_exit, thn_ret, cnd_t, cnd_f, blk_normal, blk_ret, blk_exit, x_seq, x_region, x_cond, x_block, x_loop, x_ret, x_exit, x_skip, e_mov, e_pick, pk_t, pk_f, withH_some, e_box, bx_some, e_load, e_store, stH_some, e_nil, e_bin, e_eqv, eqH_f, eqH_t, e_un, e_fa, e_ia, ia_eq, nat_eq, natV_nat, e_len, lnH_some, e_extract, ex_0, ex_1, e_call0, e_call1, e_call2, e_call3, pc0_eq, pc1_some, pc2_some, pc3_some, fin_some, g_var0, g_vars, g_loc0, g_locs, g_int, g_bool, g_str, g_sl, s_none, s_zero, s_succ, cl_nil, cl_str, cl_bool, cl_slc, cl_own, evFa, evNil, evLoad, asEl, evBin, intBin, strBin, evUn, len_nil, len_slc, len_str, clr, List.length_nil, List.length_cons, List.getElem?_cons_zero, List.getElem?_cons_succ, Nat.reduceAdd, Nat.zero_add, Nat.add_zero, Nat.reduceLeDiff, Nat.reduceSub, ↓reduceIte, List.drop_succ_cons, List.drop_zero, List.take_succ_cons, List.take_zero, Bool.false_eq_true, List.nil_append, List.cons_append, Bool.not_true, Bool.not_false, cond_true, cond_false, bne, lv_ret, lv_normal, res1, res2, lv2_some, res_var, res_cell, lvf_v, lvf_slc, res1c, lvo1_some, e_mm, mm_max, mm_min]
  | false =>
    rw [hB] at hbig
    have hsz := big_size hB
    obtain ⟨y, z, hy, hz, w1, w2⟩ := walks hb (by omega) ht
    obtain ⟨es, hes, k1, k2⟩ := looks hb (by omega)
    obtain ⟨f1, hf1, g1⟩ := shift16 x (t := T) (by have := hsz.2.2 T (by simp); omega) ht
    obtain ⟨f2, hf2, g2⟩ := shift17 x (t := T) (by have := hsz.2.2 T (by simp); omega) ht
    have e1 := same_call hy hz
    have e2 := same_call hf1 hf2
    have sy : ∀ h : List AO, y.snap1 h = some y := fun h => hy.snap
    have sz : ∀ h : List AO, z.snap1 h = some z := fun h => hz.snap
    have sf1 : ∀ h : List AO, f1.snap1 h = some f1 := fun h => hf1.snap
    have sf2 : ∀ h : List AO, f2.snap1 h = some f2 := fun h => hf2.snap
    cases ht with
    | mk k s n c l hc =>
    obtain ⟨cs, u, f, hla, hu⟩ := look_form n hes.reverse
    have k1 := k1 n
    have k2 := k2 n
    rw [hla] at k1 k2
    have e3 := same_call hu hu
    have su : ∀ h : List AO, (AV.agg cs).snap1 h = some (.agg cs) := fun h => hu.snap
    have b1 : ∀ h : List AO, bs1 h 4 (some (.agg [.v (.int .i64 k), .v (.string s), .v (.int .i64 n), c])) = some (.slc 4 true true [.agg [.v (.int .i64 k), .v (.string s), .v (.int .i64 n), c]], h) := fun h => bs1_some rfl rfl
    generalize walkT bs.reverse 2000 (Tm.mk k s n l) = w at hy hz w1 w2
    obtain ⟨o1, o2, o3⟩ := w
    have hq : (o2 == o2) = true := by simp
    have hq2 : ∀ h, eqNil h .bool (.v (.bool f)) (.v (.bool f)) = some true := by intro h; simp [eqNil]
    cases hy
    cases hz
    cases hu
    simp only [c3, start, List.replicate, c3_0, c3_1, c3_2, c3_4, c3_5, c3_6, c3_7, c3_8, hlive, s1, sb, sl, b1, hbig, w1, w2, k1, k2, g1, g2, e1, e2, e3, sy, sz, su, sf1, sf2, hq, hq2, snapv, q9z, e_bslice1, e_bslice2, bs1, bs2, e_build, bdH_some, bd_nil, bd_cons, bd1, cl_agg, cl_int, toL, List.map_cons, List.map_nil, putAt, List.set_cons_zero, List.set_cons_succ, and_self, Nat.le_refl, evStore, app_get, app_set, g_agg, run_nil, run_cons, stp_plain, stp_guard, put_some, pass_eq, pick_tt, pick_ff, pick_tf, pick_ft, pick_u, reg_some, thn_normal, thn_exit, thn_ret, cnd_t, cnd_f, blk_normal, blk_ret, blk_exit, x_seq, x_region, x_cond, x_block, x_loop, x_ret, x_exit, x_skip, e_mov, e_pick, pk_t, pk_f, withH_some, e_box, bx_some, e_load, e_store, stH_some, e_nil, e_bin, e_eqv, eqH_f, eqH_t, e_un, e_fa, e_ia, ia_eq, nat_eq, natV_nat, e_len, lnH_some, e_extract, ex_0, ex_1, e_call0, e_call1, e_call2, e_call3, pc0_eq, pc1_some, pc2_some, pc3_some, fin_some, g_var0, g_vars, g_loc0, g_locs, g_int, g_bool, g_str, g_sl, s_none, s_zero, s_succ, cl_nil, cl_str, cl_bool, cl_slc, cl_own, evFa, evNil, evLoad, asEl, evBin, intBin, strBin, evUn, len_nil, len_slc, len_str, clr, List.length_nil, List.length_cons, List.getElem?_cons_zero, List.getElem?_cons_succ, Nat.reduceAdd, Nat.zero_add, Nat.add_zero, Nat.reduceLeDiff, Nat.reduceSub, ↓reduceIte, List.drop_succ_cons, List.drop_zero, List.take_succ_cons, List.take_zero, Bool.false_eq_true, List.nil_append, List.cons_append, Bool.not_true, Bool.not_false, cond_true, cond_false, bne, lv_ret, lv_normal, res1, res2, lv2_some, res_var, res_cell, lvf_v, lvf_slc, res1c, lvo1_some, e_mm, mm_max, mm_min]

theorem walks_plain : substWalks.Plain := by
  intro a0 a1 a2 w0 e0 w1 e1 w2 e2
  obtain ⟨c0, bs, h0, hb⟩ := (wt_good w0).2.2.2.2.2.2 rfl
  obtain ⟨n2, h2⟩ := (wt_good w2).2.2.1 rfl
  obtain ⟨x, hx⟩ := (wt_good w1).1 rfl
  rw [one_cell e0 h0, one_cell e2 h2]
  have h3 : AV.agg a1.cells = a1 := by
    have : asEl true a1.cells = some a1 := e1
    simpa [asEl] using this
  rw [h3] at hx
  exact callW_iff.1 (walks_ok hb hx n2)
end Go.AE.Ytpgoibncgekflaa
namespace Go.Proofs.Ytpgoibncgekflaa
theorem substWalks_holds : Rows.SubstWalksSaid := substWalks.proved Go.AE.Ytpgoibncgekflaa.walks_plain
#print axioms substWalks_holds
end Go.Proofs.Ytpgoibncgekflaa
end

/-! The row of SubstShifts, out of its plain law. -/
section
set_option linter.unusedVariables false
namespace Go.Proofs.Ytpgoibncgekflaa
open Go Go.AE Go.Proofs Go.ChangeShapes Go.WideShapes Go.ChangeAt Go.RowKit
open Go.ChangeMaps (open_string shut_string)
namespace substShifts
theorem args {I : Cells} {W : World} {a0 a1 a2 : AV} {v0 v1 v2 : Value} (r0 : Rep I W [] a0 v0) (r1 : Rep I W [] a1 v1) (r2 : Rep I W [] a2 v2) : ArgsRep I W [] [a0, a1, a2] #[v0, v1, v2] := by
  refine ⟨rfl, fun i a h => ?_⟩
  match i, h with
  | 0, h => cases h; exact r0
  | 1, h => cases h; exact r1
  | 2, h => cases h; exact r2
def Plain : Prop := ∀ a0 a1 a2 : AV, WT T 22 a0.cells → asEl ti22.agg a0.cells = some a0 → WT T 25 a1.cells → asEl ti25.agg a1.cells = some a1 → WT T 2 a2.cells → asEl ti2.agg a2.cells = some a2 →
  ∃ n, callN F n 6 [a0, a1, a2] [] = some (.v (.bool true), [])

set_option maxRecDepth 100000 in
theorem lifted (plain : Plain) (os : Os) (started : os.Started) (H : Type) (enc : TypeId × Value → H) :
    ReturnsInHanded {} Try.checked os 6 .any (Rows.substShiftsSpec.pre6 enc Try.prog Try.f6 Rows.substShiftsRow.domain false) (Rows.substShiftsSpec.post enc Try.prog Try.f6 false true false false) := by
  refine returnsInHanded_of_change_sized (C := Try.checked) own started (by kernel_rfl) Try.func6
    (ChangeSpec.witness6 (enc := enc) (C := Try.checked) false ⟨#[], #[ti22.zero, ti25.zero, ti2.zero], []⟩ 8 (by kernel_rfl) (by kernel_rfl) (by kernel_rfl) (by kernel_rfl)) ?_
  intro W base args' ds gs before hval0 hW hcnd hsz0 _
  have hval : ∀ (j : Nat) t v, Try.f6.params[j]? = some t → args'[j]? = some v → Value.okWide Try.prog W .any base t v := hval0
  have hW' := hW
  obtain ⟨p, q, hA0, hV, rfl, hfz, hnd⟩ := hW
  have hA : DataW.TrodAll enc Try.prog W 0 (fun _ => true) true Try.f6.params.toList args'.toList ds p := hA0
  rw [Try.params6] at hA hval
  obtain ⟨v0, vs0, d0, ds0, p0, q0, hargs, rfl, rfl, h0, r0⟩ := trodAll_cons hA
  obtain ⟨v1, vs1, d1, ds1, p1, q1, rfl, rfl, rfl, h1, r1⟩ := trodAll_cons r0
  obtain ⟨v2, vs2, d2, ds2, p2, q2, rfl, rfl, rfl, h2, r2⟩ := trodAll_cons r1
  obtain ⟨rfl, rfl, rfl⟩ := trodAll_nil r2
  obtain rfl : args' = #[v0, v1, v2] := by cases args'; simp_all
  obtain ⟨rfl, rfl⟩ := trodVars_none hV
  obtain ⟨a0, w0, e0, x0⟩ := trod_arg hT hG (t := 22) (i := ti22) (by decide) rfl (hval 0 22 v0 rfl rfl) h0
  obtain ⟨a1, w1, e1, x1⟩ := trod_arg hT hG (t := 25) (i := ti25) (by decide) rfl (hval 1 25 v1 rfl rfl) h1
  obtain ⟨a2, w2, e2, x2⟩ := trod_arg hT hG (t := 2) (i := ti2) (by decide) rfl (hval 2 2 v2 rfl rfl) h2
  have l0 : ∀ x ∈ p0, x.block < W.heap.size := by obtain ⟨m, hm⟩ := h0; exact DataW.trod_lt m _ _ _ hm
  have l1 : ∀ x ∈ p1, x.block < W.heap.size := by obtain ⟨m, hm⟩ := h1; exact DataW.trod_lt m _ _ _ hm
  have l2 : ∀ x ∈ p2, x.block < W.heap.size := by obtain ⟨m, hm⟩ := h2; exact DataW.trod_lt m _ _ _ hm
  obtain ⟨n, hn⟩ := plain a0 a1 a2 w0 e0 w1 e1 w2 e2
  refine (law_calls (args x0 x1 x2) hn).mono fun e W' ⟨he, bel⟩ => ?_
  subst he
  exact ⟨_, rfl, _, _, _, [], _, [], hW', trodAll_mk1 (shut_bool Try.underlying4 _),
    (trodAll_cons_mk (Below.trod laidOut (by kernel_rfl) (of_decide_eq_true (by kernel_rfl)) h0 bel l0) (trodAll_cons_mk (Below.trod laidOut (by kernel_rfl) (of_decide_eq_true (by kernel_rfl)) h1 bel l1) (trodAll_cons_mk (Below.trod laidOut (by kernel_rfl) (of_decide_eq_true (by kernel_rfl)) h2 bel l2) trodAll_mk0))), rfl, bel.frame _, fun h => by cases h⟩
theorem over (plain : Plain) : Rows.substShiftsRow.holds Try.pinned (OpenSpec.ofChange Rows.substShiftsSpec) :=
  OpenClaim.holds_of_wide 6 Try.f6 rfl rfl rfl rfl rfl rfl rfl ⟨rfl, rfl, rfl, rfl, rfl⟩ rfl rfl rfl rfl rfl (by kernel_rfl) Try.func6 (by kernel_rfl)
    (of_decide_eq_true (by kernel_rfl)) (by unfold Func.isWrapper; first | (rw [if_pos (by decide +kernel)]; kernel_rfl) | (rw [if_neg (by decide +kernel)]; exact ⟨rfl, rfl⟩))
    (fun os started H enc _ => lifted plain os started H enc)
theorem proved (plain : Plain) : Rows.SubstShiftsSaid := over plain
end substShifts
end Go.Proofs.Ytpgoibncgekflaa
end

/- Texts of this claim, put together. -/
import Derived.Test.YtpgoibncgekflaaDoorPart4
import Derived.Test.YtpgoibncgekflaaDoorTie
import Derived.Test.YtpgoibncgekflaaDoorCards
import Derived.Lib.LaidIn
import Derived.Lib.LaidU8T
import Derived.Handed
import Derived.SevenTiedAt
/-! UnifyShifts walked, its loops. (Printed by wip/gen/ushifts.py.) -/
section
set_option linter.unusedVariables false
set_option linter.unusedSimpArgs false
namespace Go.AE.YtpgoibncgekflaaDoor
open Go Go.AE Go.Proofs.YtpgoibncgekflaaDoor

theorem loopN_mono {step : List AV → List AO → CRun} {keep : List Bool} : ∀ (n m : Nat), n ≤ m → ∀ (v : List AV) (h : List AO) (q : AXit × List AV × List AO), loopN step keep n v h = some q → loopN step keep m v h = some q := by
  intro n
  induction n with
  | zero => intro m _ v h q hq; cases hq
  | succ n ih =>
    intro m hm v h q hq
    obtain ⟨d, rfl⟩ : ∃ d, m = d + 1 := ⟨m - 1, by omega⟩
    simp only [loopN] at hq ⊢
    cases hstep : step (clr keep v) h with
    | none => rw [hstep] at hq; cases hq
    | some w =>
      obtain ⟨x, v', h'⟩ := w
      rw [hstep] at hq
      cases x with
      | normal => exact ih d (by omega) v' h' q hq
      | exit id => exact hq
      | ret => exact hq
theorem q9bu : (ofVal (.agg #[(.int .i64 0), (.int .i64 0), (.string ⟨#[]⟩), (.int .i64 0), (.slice none 0 0)])).cl = some zeroB5 := q9b5
/-- the law returns, and tells that all is well -/
def Back (r : CRun) : Prop := ∃ vs h', r = some (.ret, vs, h') ∧ getO vs [] (.var 6) = .v (.bool true)

def KU0 : List Bool := (true :: false :: false :: true :: true :: true :: false :: true :: true :: false :: false :: false :: false :: false :: false :: false :: false :: false :: false :: false :: false :: false :: true :: true :: true :: false :: false :: false :: false :: false :: false :: false :: false :: false :: false :: false :: false :: false :: false :: false :: false :: false :: false :: false :: false :: false :: false :: false :: false :: false :: false :: [])
def KU2 : List Bool := (true :: false :: false :: true :: true :: true :: false :: true :: true :: false :: false :: false :: false :: false :: false :: false :: false :: false :: false :: false :: false :: false :: false :: false :: false :: false :: false :: true :: true :: true :: false :: false :: false :: false :: false :: false :: false :: false :: false :: false :: false :: false :: false :: false :: false :: false :: false :: false :: false :: false :: false :: [])
def KU4 : List Bool := (true :: false :: false :: true :: true :: true :: false :: true :: true :: false :: false :: false :: false :: false :: false :: false :: false :: false :: false :: false :: false :: false :: false :: false :: false :: false :: false :: true :: true :: true :: false :: false :: true :: true :: true :: false :: false :: false :: false :: false :: false :: false :: false :: false :: false :: false :: false :: false :: false :: false :: false :: [])
def KU6 : List Bool := (true :: false :: false :: true :: true :: true :: false :: true :: true :: false :: false :: false :: false :: false :: false :: false :: false :: false :: false :: false :: false :: false :: false :: false :: false :: false :: false :: false :: false :: false :: false :: false :: false :: false :: false :: false :: false :: true :: true :: true :: false :: false :: false :: false :: false :: false :: false :: false :: false :: false :: false :: [])
def KU8 : List Bool := (true :: false :: false :: true :: true :: true :: false :: true :: true :: false :: false :: false :: false :: false :: false :: false :: false :: false :: false :: false :: false :: false :: false :: false :: false :: false :: false :: false :: false :: false :: false :: false :: false :: false :: false :: false :: false :: true :: true :: true :: false :: true :: true :: true :: false :: false :: false :: false :: false :: false :: false :: [])
def KU10 : List Bool := (false :: false :: false :: true :: false :: false :: false :: true :: false :: false :: false :: false :: false :: false :: true :: false :: false :: true :: false :: false :: false :: false :: false :: false :: false :: false :: false :: false :: false :: false :: false :: false :: false :: false :: false :: false :: false :: false :: false :: false :: false :: false :: false :: false :: false :: false :: false :: true :: true :: false :: false :: [])
def LU0 (b : AV) (x : Int) (acc : AV) (len i : Int) : List AV := (b :: .junk :: .junk :: .v (.int .i64 x) :: .ptr 0 0 :: .ptr 1 0 :: .junk :: .v (.bool true) :: acc :: .junk :: .junk :: .junk :: .junk :: .junk :: .junk :: .junk :: .junk :: .junk :: .junk :: .junk :: .junk :: .junk :: b :: .v (.int .i64 len) :: .v (.int .i64 i) :: .junk :: .junk :: .junk :: .junk :: .junk :: .junk :: .junk :: .junk :: .junk :: .junk :: .junk :: .junk :: .junk :: .junk :: .junk :: .junk :: .junk :: .junk :: .junk :: .junk :: .junk :: .junk :: .junk :: .junk :: .junk :: .junk :: [])
def LU2 (b : AV) (x : Int) (acc c : AV) (len i : Int) : List AV := (b :: .junk :: .junk :: .v (.int .i64 x) :: .ptr 0 0 :: .ptr 1 0 :: .junk :: .v (.bool true) :: acc :: .junk :: .junk :: .junk :: .junk :: .junk :: .junk :: .junk :: .junk :: .junk :: .junk :: .junk :: .junk :: .junk :: .junk :: .junk :: .junk :: .junk :: .junk :: c :: .v (.int .i64 len) :: .v (.int .i64 i) :: .junk :: .junk :: .junk :: .junk :: .junk :: .junk :: .junk :: .junk :: .junk :: .junk :: .junk :: .junk :: .junk :: .junk :: .junk :: .junk :: .junk :: .junk :: .junk :: .junk :: .junk :: [])
def LU4 (b : AV) (x : Int) (acc c : AV) (cl ci : Int) (d : AV) (len i : Int) : List AV := (b :: .junk :: .junk :: .v (.int .i64 x) :: .ptr 0 0 :: .ptr 1 0 :: .junk :: .v (.bool true) :: acc :: .junk :: .junk :: .junk :: .junk :: .junk :: .junk :: .junk :: .junk :: .junk :: .junk :: .junk :: .junk :: .junk :: .junk :: .junk :: .junk :: .junk :: .junk :: c :: .v (.int .i64 cl) :: .v (.int .i64 ci) :: .junk :: .junk :: d :: .v (.int .i64 len) :: .v (.int .i64 i) :: .junk :: .junk :: .junk :: .junk :: .junk :: .junk :: .junk :: .junk :: .junk :: .junk :: .junk :: .junk :: .junk :: .junk :: .junk :: .junk :: [])
def LU6 (b : AV) (x : Int) (acc c : AV) (len i : Int) : List AV := (b :: .junk :: .junk :: .v (.int .i64 x) :: .ptr 0 0 :: .ptr 1 0 :: .junk :: .v (.bool true) :: acc :: .junk :: .junk :: .junk :: .junk :: .junk :: .junk :: .junk :: .junk :: .junk :: .junk :: .junk :: .junk :: .junk :: .junk :: .junk :: .junk :: .junk :: .junk :: .junk :: .junk :: .junk :: .junk :: .junk :: .junk :: .junk :: .junk :: .junk :: .junk :: c :: .v (.int .i64 len) :: .v (.int .i64 i) :: .junk :: .junk :: .junk :: .junk :: .junk :: .junk :: .junk :: .junk :: .junk :: .junk :: .junk :: [])
def LU8 (b : AV) (x : Int) (acc c : AV) (cl ci : Int) (d : AV) (len i : Int) : List AV := (b :: .junk :: .junk :: .v (.int .i64 x) :: .ptr 0 0 :: .ptr 1 0 :: .junk :: .v (.bool true) :: acc :: .junk :: .junk :: .junk :: .junk :: .junk :: .junk :: .junk :: .junk :: .junk :: .junk :: .junk :: .junk :: .junk :: .junk :: .junk :: .junk :: .junk :: .junk :: .junk :: .junk :: .junk :: .junk :: .junk :: .junk :: .junk :: .junk :: .junk :: .junk :: c :: .v (.int .i64 cl) :: .v (.int .i64 ci) :: .junk :: d :: .v (.int .i64 len) :: .v (.int .i64 i) :: .junk :: .junk :: .junk :: .junk :: .junk :: .junk :: .junk :: [])
def LU10 (x : Int) (l m : AV) (len i : Int) : List AV := (.junk :: .junk :: .junk :: .v (.int .i64 x) :: .junk :: .junk :: .junk :: .v (.bool true) :: .junk :: .junk :: .junk :: .junk :: .junk :: .junk :: l :: .junk :: .junk :: m :: .junk :: .junk :: .junk :: .junk :: .junk :: .junk :: .junk :: .junk :: .junk :: .junk :: .junk :: .junk :: .junk :: .junk :: .junk :: .junk :: .junk :: .junk :: .junk :: .junk :: .junk :: .junk :: .junk :: .junk :: .junk :: .junk :: .junk :: .junk :: .junk :: .v (.int .i64 len) :: .v (.int .i64 i) :: .junk :: .junk :: [])

section
variable {K : Nat} {b acc : AV} {x : Int}
/-! ### the bindings shifted -/
theorem shl_loop {es : List AV} (hs : Sl 5 b es) (hm : es.length ≤ 100000) (hx : 0 ≤ x ∧ x ≤ 1000000) :
    ∀ (l : List (Int × Tm)) (i : Nat) (acc : AV) (ds : List AV) (dl : List (Int × Tm)) (h : List AO) (vars : List AV), i + l.length = es.length → ds.length = i → AllB (es.drop i) l → AllB ds dl → (∀ p ∈ l, size p.2 ≤ 100000) →
      Acc 5 h acc ds → clr KU0 vars = LU0 b x acc es.length i →
      Back (loopN (exec (callW F) K c7_13) KU0 (l.length + 1) vars h) ∨
      ((∀ p ∈ l, -1000000 ≤ p.1 ∧ p.1 ≤ 1000000) ∧ ∃ acc' ds' h', loopN (exec (callW F) K c7_13) KU0 (l.length + 1) vars h = some (.exit 0, (b :: .junk :: .junk :: .v (.int .i64 x) :: .ptr 0 0 :: .ptr 1 0 :: .junk :: .v (.bool true) :: acc' :: .junk :: .junk :: .junk :: .junk :: .junk :: .junk :: .junk :: .junk :: .junk :: .junk :: .junk :: .junk :: .junk :: b :: .v (.int .i64 es.length) :: .v (.int .i64 es.length) :: .v (.bool false) :: .junk :: .junk :: .junk :: .junk :: .junk :: .junk :: .junk :: .junk :: .junk :: .junk :: .junk :: .junk :: .junk :: .junk :: .junk :: .junk :: .junk :: .junk :: .junk :: .junk :: .junk :: .junk :: .junk :: .junk :: .junk :: []), h') ∧ Acc 5 h' acc' ds' ∧ AllB ds' (dl ++ shiftB x l) ∧ Keeps h h') := by
  intro l
  induction l with
  | nil =>
    intro i acc ds dl h vars hi hds _ hall _ ha hv
    have hil : i = es.length := by simpa using hi
    subst hil
    have hlt : decide ((es.length : Int) < (es.length : Int)) = false := by simp
    refine .inr ⟨fun p hp => by simp at hp, acc, ds, h, loop_exit ?_, ha, by simpa [shiftB] using hall, .refl h⟩
    rw [hv]
    simp only [LU0, c7_13, c7_7, hlt, e_bslice1, e_bslice2, bs1, bs2, e_build, bdH_some, bd_nil, bd_cons, bd1, cl_agg, cl_int, toL, List.map_cons, List.map_nil, putAt, List.set_cons_zero, List.set_cons_succ, and_self, Nat.le_refl, app_get, app_set, g_agg, run_nil, run_cons, stp_plain, stp_guard, put_some, pass_eq, pick_tt, pick_ff, pick_tf, pick_ft, pick_u, reg_some, thn_normal, thn_exit, thn_ret, cnd_t, cnd_f, blk_normal, blk_ret, blk_exit, x_seq, x_region, x_cond, x_block, x_loop, x_ret, x_exit, x_skip, e_mov, e_pick, pk_t, pk_f, withH_some, e_box, bx_some, e_load, e_store, stH_some, e_nil, e_bin, e_eqv, eqH_f, eqH_t, e_un, e_fa, e_ia, ia_eq, nat_eq, natV_nat, e_len, lnH_some, e_extract, ex_0, ex_1, e_call0, e_call1, e_call2, e_call3, pc0_eq, pc1_some, pc2_some, pc3_some, fin_some, g_var0, g_vars, g_loc0, g_locs, g_int, g_bool, g_str, g_sl, s_none, s_zero, s_succ, cl_nil, cl_str, cl_bool, cl_slc, cl_own, evFa, evNil, asEl, evBin, intBin, strBin, evUn, len_nil, len_slc, len_str, clr, List.length_nil, List.length_cons, List.getElem?_cons_zero, List.getElem?_cons_succ, Nat.reduceAdd, Nat.zero_add, Nat.add_zero, Nat.reduceLeDiff, Nat.reduceSub, ↓reduceIte, List.drop_succ_cons, List.drop_zero, List.take_succ_cons, List.take_zero, Bool.false_eq_true, List.nil_append, List.cons_append, Bool.not_true, Bool.not_false, cond_true, cond_false, bne, lv_ret, lv_normal, res1, res2, lv2_some, res_var, res_cell, lvf_v, lvf_slc, res1c, lvo1_some, e_mm, mm_max, mm_min]
  | cons p l ih =>
    intro i acc ds dl h vars hi hds hes hall hsz ha hv
    obtain ⟨v, t⟩ := p
    have hil : i < es.length := by simp at hi; omega
    have he : es[i]? = some (es[i]'hil) := List.getElem?_eq_getElem _
    have hd : es.drop i = es[i] :: es.drop (i + 1) := List.drop_eq_getElem_cons hil
    rw [hd] at hes
    generalize es[i]'hil = e at hes he
    cases hes with
    | cons _ _ _ _ _ hT hs' =>
    have hT0 := hT
    cases hT with
    | mk v cs t ht =>
    have hlt : (decide ((i : Int) < (es.length : Int))) = true := by simp; omega
    have q1 := hs.ia he
    have hcsl : cs.length = 4 := ht.cl.2
    have q3 : ∀ h : List AO, evLoad h true 5 (.ip (.v (.int .i64 v) :: cs)) = some (.agg (.v (.int .i64 v) :: cs)) := fun h => hT0.load
    have q6 : ∀ h : List AO, evStore (h ++ [.box zeroB5]) 5 (.ptr h.length 0) (.agg (.v (.int .i64 v) :: cs)) = some (h ++ [.box (.v (.int .i64 v) :: cs)]) := fun h => st_new cl_agg (by simp [hcsl]) rfl
    have q7 : ∀ h : List AO, evLoad (h ++ [.box (.v (.int .i64 v) :: cs)]) false 1 (.ptr h.length 0) = some (.v (.int .i64 v)) := by
      intro h
      rw [ld_new, if_pos (by simp)]; rfl
    have q8 : ∀ h : List AO, evLoad (h ++ [.box (.v (.int .i64 v) :: cs)]) true 4 (.ptr h.length 1) = some (.agg cs) := by
      intro h
      rw [ld_new, if_pos (by simp [hcsl]), List.drop_succ_cons, List.drop_zero, List.take_of_length_le (by omega)]
      simp [asEl]
    simp only [zeroB5] at q6
    have q9 := q9bu
    simp only [zeroB5] at q9
    simp only [AV.cells] at q1
    by_cases hbig : v > 1000000
    · left
      have d1 : decide (v > 1000000) = true := by simpa using hbig
      refine ⟨(b :: .junk :: .junk :: .v (.int .i64 x) :: .ptr 0 0 :: .ptr 1 0 :: .v (.bool true) :: .v (.bool true) :: acc :: .ptr h.length 0 :: .junk :: .junk :: .junk :: .junk :: .junk :: .junk :: .junk :: .junk :: .junk :: .junk :: .junk :: .junk :: b :: .v (.int .i64 es.length) :: .v (.int .i64 i) :: .v (.bool true) :: .v (.bool true) :: .junk :: .junk :: .junk :: .junk :: .junk :: .junk :: .junk :: .junk :: .junk :: .junk :: .junk :: .junk :: .junk :: .junk :: .junk :: .junk :: .junk :: .junk :: .junk :: .junk :: .junk :: .junk :: .junk :: .junk :: []), h ++ [.box (.v (.int .i64 v) :: cs)], loop_ret ?_, rfl⟩
      rw [hv]
      simp only [LU0, AV.cells, c7_13, c7_7, c7_8, c7_9, c7_10, hlt, d1, q1, q3, q6, q7, q9, pick_und, e_bslice1, e_bslice2, bs1, bs2, e_build, bdH_some, bd_nil, bd_cons, bd1, cl_agg, cl_int, toL, List.map_cons, List.map_nil, putAt, List.set_cons_zero, List.set_cons_succ, and_self, Nat.le_refl, app_get, app_set, g_agg, run_nil, run_cons, stp_plain, stp_guard, put_some, pass_eq, pick_tt, pick_ff, pick_tf, pick_ft, pick_u, reg_some, thn_normal, thn_exit, thn_ret, cnd_t, cnd_f, blk_normal, blk_ret, blk_exit, x_seq, x_region, x_cond, x_block, x_loop, x_ret, x_exit, x_skip, e_mov, e_pick, pk_t, pk_f, withH_some, e_box, bx_some, e_load, e_store, stH_some, e_nil, e_bin, e_eqv, eqH_f, eqH_t, e_un, e_fa, e_ia, ia_eq, nat_eq, natV_nat, e_len, lnH_some, e_extract, ex_0, ex_1, e_call0, e_call1, e_call2, e_call3, pc0_eq, pc1_some, pc2_some, pc3_some, fin_some, g_var0, g_vars, g_loc0, g_locs, g_int, g_bool, g_str, g_sl, s_none, s_zero, s_succ, cl_nil, cl_str, cl_bool, cl_slc, cl_own, evFa, evNil, asEl, evBin, intBin, strBin, evUn, len_nil, len_slc, len_str, clr, List.length_nil, List.length_cons, List.getElem?_cons_zero, List.getElem?_cons_succ, Nat.reduceAdd, Nat.zero_add, Nat.add_zero, Nat.reduceLeDiff, Nat.reduceSub, ↓reduceIte, List.drop_succ_cons, List.drop_zero, List.take_succ_cons, List.take_zero, Bool.false_eq_true, List.nil_append, List.cons_append, Bool.not_true, Bool.not_false, cond_true, cond_false, bne, lv_ret, lv_normal, res1, res2, lv2_some, res_var, res_cell, lvf_v, lvf_slc, res1c, lvo1_some, e_mm, mm_max, mm_min]
    · have d1 : decide (v > 1000000) = false := by simpa using hbig
      by_cases hlow : v < -1000000
      · left
        have d2 : decide (v < -1000000) = true := by simpa using hlow
        refine ⟨(b :: .junk :: .junk :: .v (.int .i64 x) :: .ptr 0 0 :: .ptr 1 0 :: .v (.bool true) :: .v (.bool true) :: acc :: .ptr h.length 0 :: .junk :: .junk :: .junk :: .junk :: .junk :: .junk :: .junk :: .junk :: .junk :: .junk :: .junk :: .junk :: b :: .v (.int .i64 es.length) :: .v (.int .i64 i) :: .v (.bool true) :: .v (.bool true) :: .junk :: .junk :: .junk :: .junk :: .junk :: .junk :: .junk :: .junk :: .junk :: .junk :: .junk :: .junk :: .junk :: .junk :: .junk :: .junk :: .junk :: .junk :: .junk :: .junk :: .junk :: .junk :: .junk :: .junk :: []), h ++ [.box (.v (.int .i64 v) :: cs)], loop_ret ?_, rfl⟩
        rw [hv]
        simp only [LU0, AV.cells, c7_13, c7_7, c7_8, c7_9, c7_10, hlt, d1, d2, q1, q3, q6, q7, q9, pick_und, e_bslice1, e_bslice2, bs1, bs2, e_build, bdH_some, bd_nil, bd_cons, bd1, cl_agg, cl_int, toL, List.map_cons, List.map_nil, putAt, List.set_cons_zero, List.set_cons_succ, and_self, Nat.le_refl, app_get, app_set, g_agg, run_nil, run_cons, stp_plain, stp_guard, put_some, pass_eq, pick_tt, pick_ff, pick_tf, pick_ft, pick_u, reg_some, thn_normal, thn_exit, thn_ret, cnd_t, cnd_f, blk_normal, blk_ret, blk_exit, x_seq, x_region, x_cond, x_block, x_loop, x_ret, x_exit, x_skip, e_mov, e_pick, pk_t, pk_f, withH_some, e_box, bx_some, e_load, e_store, stH_some, e_nil, e_bin, e_eqv, eqH_f, eqH_t, e_un, e_fa, e_ia, ia_eq, nat_eq, natV_nat, e_len, lnH_some, e_extract, ex_0, ex_1, e_call0, e_call1, e_call2, e_call3, pc0_eq, pc1_some, pc2_some, pc3_some, fin_some, g_var0, g_vars, g_loc0, g_locs, g_int, g_bool, g_str, g_sl, s_none, s_zero, s_succ, cl_nil, cl_str, cl_bool, cl_slc, cl_own, evFa, evNil, asEl, evBin, intBin, strBin, evUn, len_nil, len_slc, len_str, clr, List.length_nil, List.length_cons, List.getElem?_cons_zero, List.getElem?_cons_succ, Nat.reduceAdd, Nat.zero_add, Nat.add_zero, Nat.reduceLeDiff, Nat.reduceSub, ↓reduceIte, List.drop_succ_cons, List.drop_zero, List.take_succ_cons, List.take_zero, Bool.false_eq_true, List.nil_append, List.cons_append, Bool.not_true, Bool.not_false, cond_true, cond_false, bne, lv_ret, lv_normal, res1, res2, lv2_some, res_var, res_cell, lvf_v, lvf_slc, res1c, lvo1_some, e_mm, mm_max, mm_min]
      · have d2 : decide (v < -1000000) = false := by simpa using hlow
        obtain ⟨r, hr, hc⟩ := shift35 x _ t _ (Nat.lt_succ_self _) (hsz (v, t) (by simp)) ht
        have hw : IntKind.i64.wrap (v + x) = v + x := by rw [IntWalk.i64_in] <;> omega
        have hrc := hr.cl
        have hre := hr.eta
        have s1 : ∀ h : List AO, (AV.agg cs).snap1 h = some (.agg cs) := fun h => ht.snap
        obtain ⟨acc', h2, h3, h4, h5⟩ := (ha.app (.box (.v (.int .i64 v) :: cs))).add (x := .slc 5 true true [.agg (.v (.int .i64 (v + x)) :: r.cells)]) (ys := [.agg (.v (.int .i64 (v + x)) :: r.cells)]) (bytes := 64) elems_one (by
          have : room = 140737488355328 := rfl
          simp only [fits, List.length_cons, List.length_nil, decide_eq_true_eq]; omega)
        have hbd : IsBd (.agg (.v (.int .i64 (v + x)) :: r.cells)) (v + x) (shiftT x t) := .mk _ _ _ (by rw [hre]; exact hr)
        have st : exec (callW F) K c7_13 (LU0 b x acc es.length i) h = some (.normal, (b :: .junk :: .junk :: .v (.int .i64 x) :: .ptr 0 0 :: .ptr 1 0 :: .junk :: .v (.bool true) :: acc' :: .ptr h.length 0 :: .junk :: .junk :: .junk :: .junk :: .junk :: .junk :: .junk :: .junk :: .junk :: .junk :: .junk :: .junk :: b :: .v (.int .i64 es.length) :: .v (.int .i64 ((i + 1 : Nat) : Int)) :: .v (.bool true) :: .v (.bool false) :: .junk :: .junk :: .junk :: .junk :: .junk :: .junk :: .junk :: .junk :: .junk :: .junk :: .junk :: .junk :: .junk :: .junk :: .junk :: .junk :: .junk :: .junk :: .junk :: .junk :: .junk :: .junk :: .junk :: .junk :: []), h2) := by
          generalize shiftT x t = u at hr
          cases hr with
          | mk k2 s2 n2 c2 l2 hc2 =>
          have sn2 : ∀ h : List AO, (AV.agg [.v (.int .i64 (v + x)), .v (.int .i64 k2), .v (.string s2), .v (.int .i64 n2), c2]).snap1 h = some (.agg [.v (.int .i64 (v + x)), .v (.int .i64 k2), .v (.string s2), .v (.int .i64 n2), c2]) := by
            intro h; cases hc2 <;> rfl
          simp only [AV.cells] at h3
          simp only [LU0, AV.cells, c7_13, c7_7, c7_8, c7_9, c7_11, c7_12, hlt, d1, d2, hw, wrap_succ hil (small_max hm), q1, q3, q6, q7, q8, q9, s1, sn2, hc, h3, snapv, e_append, bs1_some (y := .agg [.v (.int .i64 (v + x)), .v (.int .i64 k2), .v (.string s2), .v (.int .i64 n2), c2]) (sz := 5) cl_agg rfl, pick_und, e_bslice1, e_bslice2, bs1, bs2, e_build, bdH_some, bd_nil, bd_cons, bd1, cl_agg, cl_int, toL, List.map_cons, List.map_nil, putAt, List.set_cons_zero, List.set_cons_succ, and_self, Nat.le_refl, app_get, app_set, g_agg, run_nil, run_cons, stp_plain, stp_guard, put_some, pass_eq, pick_tt, pick_ff, pick_tf, pick_ft, pick_u, reg_some, thn_normal, thn_exit, thn_ret, cnd_t, cnd_f, blk_normal, blk_ret, blk_exit, x_seq, x_region, x_cond, x_block, x_loop, x_ret, x_exit, x_skip, e_mov, e_pick, pk_t, pk_f, withH_some, e_box, bx_some, e_load, e_store, stH_some, e_nil, e_bin, e_eqv, eqH_f, eqH_t, e_un, e_fa, e_ia, ia_eq, nat_eq, natV_nat, e_len, lnH_some, e_extract, ex_0, ex_1, e_call0, e_call1, e_call2, e_call3, pc0_eq, pc1_some, pc2_some, pc3_some, fin_some, g_var0, g_vars, g_loc0, g_locs, g_int, g_bool, g_str, g_sl, s_none, s_zero, s_succ, cl_nil, cl_str, cl_bool, cl_slc, cl_own, evFa, evNil, asEl, evBin, intBin, strBin, evUn, len_nil, len_slc, len_str, clr, List.length_nil, List.length_cons, List.getElem?_cons_zero, List.getElem?_cons_succ, Nat.reduceAdd, Nat.zero_add, Nat.add_zero, Nat.reduceLeDiff, Nat.reduceSub, ↓reduceIte, List.drop_succ_cons, List.drop_zero, List.take_succ_cons, List.take_zero, Bool.false_eq_true, List.nil_append, List.cons_append, Bool.not_true, Bool.not_false, cond_true, cond_false, bne, lv_ret, lv_normal, res1, res2, lv2_some, res_var, res_cell, lvf_v, lvf_slc, res1c, lvo1_some, e_mm, mm_max, mm_min]
        have hnext := ih (i + 1) acc' (ds ++ [.agg (.v (.int .i64 (v + x)) :: r.cells)]) (dl ++ [(v + x, shiftT x t)]) h2 (b :: .junk :: .junk :: .v (.int .i64 x) :: .ptr 0 0 :: .ptr 1 0 :: .junk :: .v (.bool true) :: acc' :: .ptr h.length 0 :: .junk :: .junk :: .junk :: .junk :: .junk :: .junk :: .junk :: .junk :: .junk :: .junk :: .junk :: .junk :: b :: .v (.int .i64 es.length) :: .v (.int .i64 ((i + 1 : Nat) : Int)) :: .v (.bool true) :: .v (.bool false) :: .junk :: .junk :: .junk :: .junk :: .junk :: .junk :: .junk :: .junk :: .junk :: .junk :: .junk :: .junk :: .junk :: .junk :: .junk :: .junk :: .junk :: .junk :: .junk :: .junk :: .junk :: .junk :: .junk :: .junk :: []) (by simp at hi; omega) (by simp [hds]) hs' (hall.append' (.cons _ _ _ _ _ hbd .nil)) (fun p hp => hsz p (by simp [hp])) h4 rfl
        have hln := loop_normal (call := callW F) (fuel := K) (keep := KU0) (b := c7_13) (n := l.length + 1) (vars := vars) (h := h) (by rw [hv]; exact st)
        rw [show ((v, t) :: l).length + 1 = (l.length + 1) + 1 from rfl]
        rw [hln]
        rcases hnext with hb | ⟨hsm, acc'', ds', h', g1, g2, g3, g4⟩
        · exact .inl hb
        · refine .inr ⟨fun p hp => ?_, acc'', ds', h', g1, g2, ?_, ((Keeps.app _ _).trans h5).trans g4⟩
          · rcases List.mem_cons.1 hp with rfl | hp
            · exact ⟨by simp only; omega, by simp only; omega⟩
            · exact hsm p hp
          · simpa [shiftB] using g3

theorem num_loop {c d : AV} {cl ci : Int} {es : List AV} (hs : Sl 1 d es) (hm : es.length ≤ 1000000) :
    ∀ (l : List Int) (i : Nat) (h : List AO) (vars : List AV), i + l.length = es.length → es.drop i = l.map iv → clr KU4 vars = LU4 b x acc c cl ci d es.length i →
      Back (loopN (exec (callW F) K c7_25) KU4 (l.length + 1) vars h) ∨
      ((∀ n ∈ l, n ≤ 1000000) ∧ loopN (exec (callW F) K c7_25) KU4 (l.length + 1) vars h = some (.exit 4, (b :: .junk :: .junk :: .v (.int .i64 x) :: .ptr 0 0 :: .ptr 1 0 :: .junk :: .v (.bool true) :: acc :: .junk :: .junk :: .junk :: .junk :: .junk :: .junk :: .junk :: .junk :: .junk :: .junk :: .junk :: .junk :: .junk :: .junk :: .junk :: .junk :: .junk :: .junk :: c :: .v (.int .i64 cl) :: .v (.int .i64 ci) :: .junk :: .junk :: d :: .v (.int .i64 es.length) :: .v (.int .i64 es.length) :: .v (.bool false) :: .junk :: .junk :: .junk :: .junk :: .junk :: .junk :: .junk :: .junk :: .junk :: .junk :: .junk :: .junk :: .junk :: .junk :: .junk :: []), h)) := by
  intro l
  induction l with
  | nil =>
    intro i h vars hi _ hv
    have hil : i = es.length := by simpa using hi
    subst hil
    have hlt : decide ((es.length : Int) < (es.length : Int)) = false := by simp
    refine .inr ⟨fun p hp => by simp at hp, loop_exit ?_⟩
    rw [hv]
    simp only [LU4, c7_25, c7_20, hlt, e_bslice1, e_bslice2, bs1, bs2, e_build, bdH_some, bd_nil, bd_cons, bd1, cl_agg, cl_int, toL, List.map_cons, List.map_nil, putAt, List.set_cons_zero, List.set_cons_succ, and_self, Nat.le_refl, app_get, app_set, g_agg, run_nil, run_cons, stp_plain, stp_guard, put_some, pass_eq, pick_tt, pick_ff, pick_tf, pick_ft, pick_u, reg_some, thn_normal, thn_exit, thn_ret, cnd_t, cnd_f, blk_normal, blk_ret, blk_exit, x_seq, x_region, x_cond, x_block, x_loop, x_ret, x_exit, x_skip, e_mov, e_pick, pk_t, pk_f, withH_some, e_box, bx_some, e_load, e_store, stH_some, e_nil, e_bin, e_eqv, eqH_f, eqH_t, e_un, e_fa, e_ia, ia_eq, nat_eq, natV_nat, e_len, lnH_some, e_extract, ex_0, ex_1, e_call0, e_call1, e_call2, e_call3, pc0_eq, pc1_some, pc2_some, pc3_some, fin_some, g_var0, g_vars, g_loc0, g_locs, g_int, g_bool, g_str, g_sl, s_none, s_zero, s_succ, cl_nil, cl_str, cl_bool, cl_slc, cl_own, evFa, evNil, asEl, evBin, intBin, strBin, evUn, len_nil, len_slc, len_str, clr, List.length_nil, List.length_cons, List.getElem?_cons_zero, List.getElem?_cons_succ, Nat.reduceAdd, Nat.zero_add, Nat.add_zero, Nat.reduceLeDiff, Nat.reduceSub, ↓reduceIte, List.drop_succ_cons, List.drop_zero, List.take_succ_cons, List.take_zero, Bool.false_eq_true, List.nil_append, List.cons_append, Bool.not_true, Bool.not_false, cond_true, cond_false, bne, lv_ret, lv_normal, res1, res2, lv2_some, res_var, res_cell, lvf_v, lvf_slc, res1c, lvo1_some, e_mm, mm_max, mm_min]
  | cons n l ih =>
    intro i h vars hi hes hv
    have hil : i < es.length := by simp at hi; omega
    have he : es[i]? = some (iv n) := by
      have : (es.drop i)[0]? = some (iv n) := by rw [hes]; rfl
      simpa using this
    have hd : es.drop (i + 1) = l.map iv := by
      have h2 := congrArg List.tail hes
      simpa using h2
    have hlt : (decide ((i : Int) < (es.length : Int))) = true := by simp; omega
    have q1 := hs.ia he
    have q3 : ∀ h : List AO, evLoad h false 1 (.ip [.v (.int .i64 n)]) = some (.v (.int .i64 n)) := fun h => rfl
    have hw : IntKind.i64.wrap ((i : Int) + 1) = ((i + 1 : Nat) : Int) := by rw [wrap_ok (by omega) (by omega)]; omega
    simp only [iv, AV.cells] at q1
    by_cases hbig : n > 1000000
    · left
      have d1 : decide (n > 1000000) = true := by simpa using hbig
      refine ⟨(b :: .junk :: .junk :: .v (.int .i64 x) :: .ptr 0 0 :: .ptr 1 0 :: .v (.bool true) :: .v (.bool true) :: acc :: .junk :: .junk :: .v (.int .i64 n) :: .junk :: .junk :: .junk :: .junk :: .junk :: .junk :: .junk :: .junk :: .junk :: .junk :: .junk :: .junk :: .junk :: .junk :: .junk :: c :: .v (.int .i64 cl) :: .v (.int .i64 ci) :: .junk :: .junk :: d :: .v (.int .i64 es.length) :: .v (.int .i64 i) :: .v (.bool true) :: .v (.bool true) :: .junk :: .junk :: .junk :: .junk :: .junk :: .junk :: .junk :: .junk :: .junk :: .junk :: .junk :: .junk :: .junk :: .junk :: []), h, loop_ret ?_, rfl⟩
      rw [hv]
      simp only [LU4, c7_25, c7_20, c7_21, c7_22, c7_23, hlt, d1, q1, q3, e_bslice1, e_bslice2, bs1, bs2, e_build, bdH_some, bd_nil, bd_cons, bd1, cl_agg, cl_int, toL, List.map_cons, List.map_nil, putAt, List.set_cons_zero, List.set_cons_succ, and_self, Nat.le_refl, app_get, app_set, g_agg, run_nil, run_cons, stp_plain, stp_guard, put_some, pass_eq, pick_tt, pick_ff, pick_tf, pick_ft, pick_u, reg_some, thn_normal, thn_exit, thn_ret, cnd_t, cnd_f, blk_normal, blk_ret, blk_exit, x_seq, x_region, x_cond, x_block, x_loop, x_ret, x_exit, x_skip, e_mov, e_pick, pk_t, pk_f, withH_some, e_box, bx_some, e_load, e_store, stH_some, e_nil, e_bin, e_eqv, eqH_f, eqH_t, e_un, e_fa, e_ia, ia_eq, nat_eq, natV_nat, e_len, lnH_some, e_extract, ex_0, ex_1, e_call0, e_call1, e_call2, e_call3, pc0_eq, pc1_some, pc2_some, pc3_some, fin_some, g_var0, g_vars, g_loc0, g_locs, g_int, g_bool, g_str, g_sl, s_none, s_zero, s_succ, cl_nil, cl_str, cl_bool, cl_slc, cl_own, evFa, evNil, asEl, evBin, intBin, strBin, evUn, len_nil, len_slc, len_str, clr, List.length_nil, List.length_cons, List.getElem?_cons_zero, List.getElem?_cons_succ, Nat.reduceAdd, Nat.zero_add, Nat.add_zero, Nat.reduceLeDiff, Nat.reduceSub, ↓reduceIte, List.drop_succ_cons, List.drop_zero, List.take_succ_cons, List.take_zero, Bool.false_eq_true, List.nil_append, List.cons_append, Bool.not_true, Bool.not_false, cond_true, cond_false, bne, lv_ret, lv_normal, res1, res2, lv2_some, res_var, res_cell, lvf_v, lvf_slc, res1c, lvo1_some, e_mm, mm_max, mm_min]
    · have d1 : decide (n > 1000000) = false := by simpa using hbig
      have st : exec (callW F) K c7_25 (LU4 b x acc c cl ci d es.length i) h = some (.normal, (b :: .junk :: .junk :: .v (.int .i64 x) :: .ptr 0 0 :: .ptr 1 0 :: .junk :: .v (.bool true) :: acc :: .junk :: .junk :: .v (.int .i64 n) :: .junk :: .junk :: .junk :: .junk :: .junk :: .junk :: .junk :: .junk :: .junk :: .junk :: .junk :: .junk :: .junk :: .junk :: .junk :: c :: .v (.int .i64 cl) :: .v (.int .i64 ci) :: .junk :: .junk :: d :: .v (.int .i64 es.length) :: .v (.int .i64 ((i + 1 : Nat) : Int)) :: .v (.bool true) :: .v (.bool false) :: .junk :: .junk :: .junk :: .junk :: .junk :: .junk :: .junk :: .junk :: .junk :: .junk :: .junk :: .junk :: .junk :: .junk :: []), h) := by
        simp only [LU4, c7_25, c7_20, c7_21, c7_22, c7_24, hlt, d1, hw, q1, q3, e_bslice1, e_bslice2, bs1, bs2, e_build, bdH_some, bd_nil, bd_cons, bd1, cl_agg, cl_int, toL, List.map_cons, List.map_nil, putAt, List.set_cons_zero, List.set_cons_succ, and_self, Nat.le_refl, app_get, app_set, g_agg, run_nil, run_cons, stp_plain, stp_guard, put_some, pass_eq, pick_tt, pick_ff, pick_tf, pick_ft, pick_u, reg_some, thn_normal, thn_exit, thn_ret, cnd_t, cnd_f, blk_normal, blk_ret, blk_exit, x_seq, x_region, x_cond, x_block, x_loop, x_ret, x_exit, x_skip, e_mov, e_pick, pk_t, pk_f, withH_some, e_box, bx_some, e_load, e_store, stH_some, e_nil, e_bin, e_eqv, eqH_f, eqH_t, e_un, e_fa, e_ia, ia_eq, nat_eq, natV_nat, e_len, lnH_some, e_extract, ex_0, ex_1, e_call0, e_call1, e_call2, e_call3, pc0_eq, pc1_some, pc2_some, pc3_some, fin_some, g_var0, g_vars, g_loc0, g_locs, g_int, g_bool, g_str, g_sl, s_none, s_zero, s_succ, cl_nil, cl_str, cl_bool, cl_slc, cl_own, evFa, evNil, asEl, evBin, intBin, strBin, evUn, len_nil, len_slc, len_str, clr, List.length_nil, List.length_cons, List.getElem?_cons_zero, List.getElem?_cons_succ, Nat.reduceAdd, Nat.zero_add, Nat.add_zero, Nat.reduceLeDiff, Nat.reduceSub, ↓reduceIte, List.drop_succ_cons, List.drop_zero, List.take_succ_cons, List.take_zero, Bool.false_eq_true, List.nil_append, List.cons_append, Bool.not_true, Bool.not_false, cond_true, cond_false, bne, lv_ret, lv_normal, res1, res2, lv2_some, res_var, res_cell, lvf_v, lvf_slc, res1c, lvo1_some, e_mm, mm_max, mm_min]
      have hln := loop_normal (call := callW F) (fuel := K) (keep := KU4) (b := c7_25) (n := l.length + 1) (vars := vars) (h := h) (by rw [hv]; exact st)
      rw [show (n :: l).length + 1 = (l.length + 1) + 1 from rfl]
      rw [hln]
      rcases ih (i + 1) h (b :: .junk :: .junk :: .v (.int .i64 x) :: .ptr 0 0 :: .ptr 1 0 :: .junk :: .v (.bool true) :: acc :: .junk :: .junk :: .v (.int .i64 n) :: .junk :: .junk :: .junk :: .junk :: .junk :: .junk :: .junk :: .junk :: .junk :: .junk :: .junk :: .junk :: .junk :: .junk :: .junk :: c :: .v (.int .i64 cl) :: .v (.int .i64 ci) :: .junk :: .junk :: d :: .v (.int .i64 es.length) :: .v (.int .i64 ((i + 1 : Nat) : Int)) :: .v (.bool true) :: .v (.bool false) :: .junk :: .junk :: .junk :: .junk :: .junk :: .junk :: .junk :: .junk :: .junk :: .junk :: .junk :: .junk :: .junk :: .junk :: []) (by simp at hi; omega) hd rfl with hb | ⟨h1, h2⟩
      · exact .inl hb
      · refine .inr ⟨fun p hp => ?_, h2⟩
        rcases List.mem_cons.1 hp with rfl | hp
        · omega
        · exact h1 p hp

theorem num_loop2 {c d : AV} {cl ci : Int} {es : List AV} (hs : Sl 1 d es) (hm : es.length ≤ 1000000) :
    ∀ (l : List Int) (i : Nat) (h : List AO) (vars : List AV), i + l.length = es.length → es.drop i = l.map iv → clr KU8 vars = LU8 b x acc c cl ci d es.length i →
      Back (loopN (exec (callW F) K c7_37) KU8 (l.length + 1) vars h) ∨
      ((∀ n ∈ l, 0 ≤ n ∧ n ≤ 1000000) ∧ loopN (exec (callW F) K c7_37) KU8 (l.length + 1) vars h = some (.exit 8, (b :: .junk :: .junk :: .v (.int .i64 x) :: .ptr 0 0 :: .ptr 1 0 :: .junk :: .v (.bool true) :: acc :: .junk :: .junk :: .junk :: .junk :: .junk :: .junk :: .junk :: .junk :: .junk :: .junk :: .junk :: .junk :: .junk :: .junk :: .junk :: .junk :: .junk :: .junk :: .junk :: .junk :: .junk :: .junk :: .junk :: .junk :: .junk :: .junk :: .junk :: .junk :: c :: .v (.int .i64 cl) :: .v (.int .i64 ci) :: .junk :: d :: .v (.int .i64 es.length) :: .v (.int .i64 es.length) :: .v (.bool false) :: .junk :: .junk :: .junk :: .junk :: .junk :: .junk :: []), h)) := by
  intro l
  induction l with
  | nil =>
    intro i h vars hi _ hv
    have hil : i = es.length := by simpa using hi
    subst hil
    have hlt : decide ((es.length : Int) < (es.length : Int)) = false := by simp
    refine .inr ⟨fun p hp => by simp at hp, loop_exit ?_⟩
    rw [hv]
    simp only [LU8, c7_37, c7_32, hlt, e_bslice1, e_bslice2, bs1, bs2, e_build, bdH_some, bd_nil, bd_cons, bd1, cl_agg, cl_int, toL, List.map_cons, List.map_nil, putAt, List.set_cons_zero, List.set_cons_succ, and_self, Nat.le_refl, app_get, app_set, g_agg, run_nil, run_cons, stp_plain, stp_guard, put_some, pass_eq, pick_tt, pick_ff, pick_tf, pick_ft, pick_u, reg_some, thn_normal, thn_exit, thn_ret, cnd_t, cnd_f, blk_normal, blk_ret, blk_exit, x_seq, x_region, x_cond, x_block, x_loop, x_ret, x_exit, x_skip, e_mov, e_pick, pk_t, pk_f, withH_some, e_box, bx_some, e_load, e_store, stH_some, e_nil, e_bin, e_eqv, eqH_f, eqH_t, e_un, e_fa, e_ia, ia_eq, nat_eq, natV_nat, e_len, lnH_some, e_extract, ex_0, ex_1, e_call0, e_call1, e_call2, e_call3, pc0_eq, pc1_some, pc2_some, pc3_some, fin_some, g_var0, g_vars, g_loc0, g_locs, g_int, g_bool, g_str, g_sl, s_none, s_zero, s_succ, cl_nil, cl_str, cl_bool, cl_slc, cl_own, evFa, evNil, asEl, evBin, intBin, strBin, evUn, len_nil, len_slc, len_str, clr, List.length_nil, List.length_cons, List.getElem?_cons_zero, List.getElem?_cons_succ, Nat.reduceAdd, Nat.zero_add, Nat.add_zero, Nat.reduceLeDiff, Nat.reduceSub, ↓reduceIte, List.drop_succ_cons, List.drop_zero, List.take_succ_cons, List.take_zero, Bool.false_eq_true, List.nil_append, List.cons_append, Bool.not_true, Bool.not_false, cond_true, cond_false, bne, lv_ret, lv_normal, res1, res2, lv2_some, res_var, res_cell, lvf_v, lvf_slc, res1c, lvo1_some, e_mm, mm_max, mm_min]
  | cons n l ih =>
    intro i h vars hi hes hv
    have hil : i < es.length := by simp at hi; omega
    have he : es[i]? = some (iv n) := by
      have : (es.drop i)[0]? = some (iv n) := by rw [hes]; rfl
      simpa using this
    have hd : es.drop (i + 1) = l.map iv := by
      have h2 := congrArg List.tail hes
      simpa using h2
    have hlt : (decide ((i : Int) < (es.length : Int))) = true := by simp; omega
    have q1 := hs.ia he
    have q3 : ∀ h : List AO, evLoad h false 1 (.ip [.v (.int .i64 n)]) = some (.v (.int .i64 n)) := fun h => rfl
    have hw : IntKind.i64.wrap ((i : Int) + 1) = ((i + 1 : Nat) : Int) := by rw [wrap_ok (by omega) (by omega)]; omega
    simp only [iv, AV.cells] at q1
    by_cases hbig : n > 1000000
    · left
      have d1 : decide (n > 1000000) = true := by simpa using hbig
      refine ⟨(b :: .junk :: .junk :: .v (.int .i64 x) :: .ptr 0 0 :: .ptr 1 0 :: .v (.bool true) :: .v (.bool true) :: acc :: .junk :: .junk :: .junk :: .junk :: .v (.int .i64 n) :: .junk :: .junk :: .junk :: .junk :: .junk :: .junk :: .junk :: .junk :: .junk :: .junk :: .junk :: .junk :: .junk :: .junk :: .junk :: .junk :: .junk :: .junk :: .junk :: .junk :: .junk :: .junk :: .junk :: c :: .v (.int .i64 cl) :: .v (.int .i64 ci) :: .junk :: d :: .v (.int .i64 es.length) :: .v (.int .i64 i) :: .v (.bool true) :: .v (.bool true) :: .junk :: .junk :: .junk :: .junk :: .junk :: []), h, loop_ret ?_, rfl⟩
      rw [hv]
      simp only [LU8, c7_37, c7_32, c7_33, c7_34, c7_35, hlt, d1, q1, q3, pick_und, e_bslice1, e_bslice2, bs1, bs2, e_build, bdH_some, bd_nil, bd_cons, bd1, cl_agg, cl_int, toL, List.map_cons, List.map_nil, putAt, List.set_cons_zero, List.set_cons_succ, and_self, Nat.le_refl, app_get, app_set, g_agg, run_nil, run_cons, stp_plain, stp_guard, put_some, pass_eq, pick_tt, pick_ff, pick_tf, pick_ft, pick_u, reg_some, thn_normal, thn_exit, thn_ret, cnd_t, cnd_f, blk_normal, blk_ret, blk_exit, x_seq, x_region, x_cond, x_block, x_loop, x_ret, x_exit, x_skip, e_mov, e_pick, pk_t, pk_f, withH_some, e_box, bx_some, e_load, e_store, stH_some, e_nil, e_bin, e_eqv, eqH_f, eqH_t, e_un, e_fa, e_ia, ia_eq, nat_eq, natV_nat, e_len, lnH_some, e_extract, ex_0, ex_1, e_call0, e_call1, e_call2, e_call3, pc0_eq, pc1_some, pc2_some, pc3_some, fin_some, g_var0, g_vars, g_loc0, g_locs, g_int, g_bool, g_str, g_sl, s_none, s_zero, s_succ, cl_nil, cl_str, cl_bool, cl_slc, cl_own, evFa, evNil, asEl, evBin, intBin, strBin, evUn, len_nil, len_slc, len_str, clr, List.length_nil, List.length_cons, List.getElem?_cons_zero, List.getElem?_cons_succ, Nat.reduceAdd, Nat.zero_add, Nat.add_zero, Nat.reduceLeDiff, Nat.reduceSub, ↓reduceIte, List.drop_succ_cons, List.drop_zero, List.take_succ_cons, List.take_zero, Bool.false_eq_true, List.nil_append, List.cons_append, Bool.not_true, Bool.not_false, cond_true, cond_false, bne, lv_ret, lv_normal, res1, res2, lv2_some, res_var, res_cell, lvf_v, lvf_slc, res1c, lvo1_some, e_mm, mm_max, mm_min]
    · have d1 : decide (n > 1000000) = false := by simpa using hbig
      by_cases hlow : n < 0
      · left
        have d2 : decide (n < 0) = true := by simpa using hlow
        refine ⟨(b :: .junk :: .junk :: .v (.int .i64 x) :: .ptr 0 0 :: .ptr 1 0 :: .v (.bool true) :: .v (.bool true) :: acc :: .junk :: .junk :: .junk :: .junk :: .v (.int .i64 n) :: .junk :: .junk :: .junk :: .junk :: .junk :: .junk :: .junk :: .junk :: .junk :: .junk :: .junk :: .junk :: .junk :: .junk :: .junk :: .junk :: .junk :: .junk :: .junk :: .junk :: .junk :: .junk :: .junk :: c :: .v (.int .i64 cl) :: .v (.int .i64 ci) :: .junk :: d :: .v (.int .i64 es.length) :: .v (.int .i64 i) :: .v (.bool true) :: .v (.bool true) :: .junk :: .junk :: .junk :: .junk :: .junk :: []), h, loop_ret ?_, rfl⟩
        rw [hv]
        simp only [LU8, c7_37, c7_32, c7_33, c7_34, c7_35, hlt, d1, d2, q1, q3, pick_und, e_bslice1, e_bslice2, bs1, bs2, e_build, bdH_some, bd_nil, bd_cons, bd1, cl_agg, cl_int, toL, List.map_cons, List.map_nil, putAt, List.set_cons_zero, List.set_cons_succ, and_self, Nat.le_refl, app_get, app_set, g_agg, run_nil, run_cons, stp_plain, stp_guard, put_some, pass_eq, pick_tt, pick_ff, pick_tf, pick_ft, pick_u, reg_some, thn_normal, thn_exit, thn_ret, cnd_t, cnd_f, blk_normal, blk_ret, blk_exit, x_seq, x_region, x_cond, x_block, x_loop, x_ret, x_exit, x_skip, e_mov, e_pick, pk_t, pk_f, withH_some, e_box, bx_some, e_load, e_store, stH_some, e_nil, e_bin, e_eqv, eqH_f, eqH_t, e_un, e_fa, e_ia, ia_eq, nat_eq, natV_nat, e_len, lnH_some, e_extract, ex_0, ex_1, e_call0, e_call1, e_call2, e_call3, pc0_eq, pc1_some, pc2_some, pc3_some, fin_some, g_var0, g_vars, g_loc0, g_locs, g_int, g_bool, g_str, g_sl, s_none, s_zero, s_succ, cl_nil, cl_str, cl_bool, cl_slc, cl_own, evFa, evNil, asEl, evBin, intBin, strBin, evUn, len_nil, len_slc, len_str, clr, List.length_nil, List.length_cons, List.getElem?_cons_zero, List.getElem?_cons_succ, Nat.reduceAdd, Nat.zero_add, Nat.add_zero, Nat.reduceLeDiff, Nat.reduceSub, ↓reduceIte, List.drop_succ_cons, List.drop_zero, List.take_succ_cons, List.take_zero, Bool.false_eq_true, List.nil_append, List.cons_append, Bool.not_true, Bool.not_false, cond_true, cond_false, bne, lv_ret, lv_normal, res1, res2, lv2_some, res_var, res_cell, lvf_v, lvf_slc, res1c, lvo1_some, e_mm, mm_max, mm_min]
      · have d2 : decide (n < 0) = false := by simpa using hlow
        have st : exec (callW F) K c7_37 (LU8 b x acc c cl ci d es.length i) h = some (.normal, (b :: .junk :: .junk :: .v (.int .i64 x) :: .ptr 0 0 :: .ptr 1 0 :: .junk :: .v (.bool true) :: acc :: .junk :: .junk :: .junk :: .junk :: .v (.int .i64 n) :: .junk :: .junk :: .junk :: .junk :: .junk :: .junk :: .junk :: .junk :: .junk :: .junk :: .junk :: .junk :: .junk :: .junk :: .junk :: .junk :: .junk :: .junk :: .junk :: .junk :: .junk :: .junk :: .junk :: c :: .v (.int .i64 cl) :: .v (.int .i64 ci) :: .junk :: d :: .v (.int .i64 es.length) :: .v (.int .i64 ((i + 1 : Nat) : Int)) :: .v (.bool true) :: .v (.bool false) :: .junk :: .junk :: .junk :: .junk :: .junk :: []), h) := by
          simp only [LU8, c7_37, c7_32, c7_33, c7_34, c7_36, hlt, d1, d2, hw, q1, q3, pick_und, e_bslice1, e_bslice2, bs1, bs2, e_build, bdH_some, bd_nil, bd_cons, bd1, cl_agg, cl_int, toL, List.map_cons, List.map_nil, putAt, List.set_cons_zero, List.set_cons_succ, and_self, Nat.le_refl, app_get, app_set, g_agg, run_nil, run_cons, stp_plain, stp_guard, put_some, pass_eq, pick_tt, pick_ff, pick_tf, pick_ft, pick_u, reg_some, thn_normal, thn_exit, thn_ret, cnd_t, cnd_f, blk_normal, blk_ret, blk_exit, x_seq, x_region, x_cond, x_block, x_loop, x_ret, x_exit, x_skip, e_mov, e_pick, pk_t, pk_f, withH_some, e_box, bx_some, e_load, e_store, stH_some, e_nil, e_bin, e_eqv, eqH_f, eqH_t, e_un, e_fa, e_ia, ia_eq, nat_eq, natV_nat, e_len, lnH_some, e_extract, ex_0, ex_1, e_call0, e_call1, e_call2, e_call3, pc0_eq, pc1_some, pc2_some, pc3_some, fin_some, g_var0, g_vars, g_loc0, g_locs, g_int, g_bool, g_str, g_sl, s_none, s_zero, s_succ, cl_nil, cl_str, cl_bool, cl_slc, cl_own, evFa, evNil, asEl, evBin, intBin, strBin, evUn, len_nil, len_slc, len_str, clr, List.length_nil, List.length_cons, List.getElem?_cons_zero, List.getElem?_cons_succ, Nat.reduceAdd, Nat.zero_add, Nat.add_zero, Nat.reduceLeDiff, Nat.reduceSub, ↓reduceIte, List.drop_succ_cons, List.drop_zero, List.take_succ_cons, List.take_zero, Bool.false_eq_true, List.nil_append, List.cons_append, Bool.not_true, Bool.not_false, cond_true, cond_false, bne, lv_ret, lv_normal, res1, res2, lv2_some, res_var, res_cell, lvf_v, lvf_slc, res1c, lvo1_some, e_mm, mm_max, mm_min]
        have hln := loop_normal (call := callW F) (fuel := K) (keep := KU8) (b := c7_37) (n := l.length + 1) (vars := vars) (h := h) (by rw [hv]; exact st)
        rw [show (n :: l).length + 1 = (l.length + 1) + 1 from rfl]
        rw [hln]
        rcases ih (i + 1) h (b :: .junk :: .junk :: .v (.int .i64 x) :: .ptr 0 0 :: .ptr 1 0 :: .junk :: .v (.bool true) :: acc :: .junk :: .junk :: .junk :: .junk :: .v (.int .i64 n) :: .junk :: .junk :: .junk :: .junk :: .junk :: .junk :: .junk :: .junk :: .junk :: .junk :: .junk :: .junk :: .junk :: .junk :: .junk :: .junk :: .junk :: .junk :: .junk :: .junk :: .junk :: .junk :: .junk :: c :: .v (.int .i64 cl) :: .v (.int .i64 ci) :: .junk :: d :: .v (.int .i64 es.length) :: .v (.int .i64 ((i + 1 : Nat) : Int)) :: .v (.bool true) :: .v (.bool false) :: .junk :: .junk :: .junk :: .junk :: .junk :: []) (by simp at hi; omega) hd rfl with hb | ⟨h1, h2⟩
        · exact .inl hb
        · refine .inr ⟨fun p hp => ?_, h2⟩
          rcases List.mem_cons.1 hp with rfl | hp
          · exact ⟨by omega, by omega⟩
          · exact h1 p hp

theorem vars_len {t : Tm} (h : size t ≤ 100000) : (varsT t).length ≤ 1000000 := by
  have h1 := foldNew_len (placesT t) []
  have h2 := places_len t
  simp only [varsT, List.length_nil] at h1 ⊢
  omega

theorem terms_loop {N : Nat} {c : AV} {es : List AV} (hs : Sl 4 c es) (hm : es.length ≤ 100000) (hN : 100000 ≤ N) :
    ∀ (l : List Tm) (i : Nat) (h : List AO) (vars : List AV), i + l.length = es.length → All2 (es.drop i) l → (∀ p ∈ l, size p ≤ 50000) → clr KU2 vars = LU2 b x acc c es.length i →
      Back (loopN (exec (callW F) (N + 1) c7_27) KU2 (l.length + 1) vars h) ∨
      ((∀ t ∈ l, checkT t = 0 ∧ ∀ n ∈ varsT t, n ≤ 1000000) ∧ ∃ l2, loopN (exec (callW F) (N + 1) c7_27) KU2 (l.length + 1) vars h = some (.exit 2, (b :: .junk :: .junk :: .v (.int .i64 x) :: .ptr 0 0 :: .ptr 1 0 :: .junk :: .v (.bool true) :: acc :: .junk :: .junk :: .junk :: .junk :: .junk :: .junk :: .junk :: .junk :: .junk :: .junk :: .junk :: .junk :: .junk :: .junk :: .junk :: .junk :: .junk :: .junk :: c :: .v (.int .i64 es.length) :: .v (.int .i64 es.length) :: .v (.bool false) :: .junk :: .junk :: .junk :: .junk :: .junk :: .junk :: .junk :: .junk :: .junk :: .junk :: .junk :: .junk :: .junk :: .junk :: .junk :: .junk :: .junk :: .junk :: .junk :: .junk :: []), h ++ l2)) := by
  intro l
  induction l with
  | nil =>
    intro i h vars hi _ _ hv
    have hil : i = es.length := by simpa using hi
    subst hil
    have hlt : decide ((es.length : Int) < (es.length : Int)) = false := by simp
    refine .inr ⟨fun p hp => by simp at hp, [], loop_exit ?_⟩
    rw [hv, List.append_nil]
    simp only [LU2, c7_27, c7_15, hlt, e_bslice1, e_bslice2, bs1, bs2, e_build, bdH_some, bd_nil, bd_cons, bd1, cl_agg, cl_int, toL, List.map_cons, List.map_nil, putAt, List.set_cons_zero, List.set_cons_succ, and_self, Nat.le_refl, app_get, app_set, g_agg, run_nil, run_cons, stp_plain, stp_guard, put_some, pass_eq, pick_tt, pick_ff, pick_tf, pick_ft, pick_u, reg_some, thn_normal, thn_exit, thn_ret, cnd_t, cnd_f, blk_normal, blk_ret, blk_exit, x_seq, x_region, x_cond, x_block, x_loop, x_ret, x_exit, x_skip, e_mov, e_pick, pk_t, pk_f, withH_some, e_box, bx_some, e_load, e_store, stH_some, e_nil, e_bin, e_eqv, eqH_f, eqH_t, e_un, e_fa, e_ia, ia_eq, nat_eq, natV_nat, e_len, lnH_some, e_extract, ex_0, ex_1, e_call0, e_call1, e_call2, e_call3, pc0_eq, pc1_some, pc2_some, pc3_some, fin_some, g_var0, g_vars, g_loc0, g_locs, g_int, g_bool, g_str, g_sl, s_none, s_zero, s_succ, cl_nil, cl_str, cl_bool, cl_slc, cl_own, evFa, evNil, asEl, evBin, intBin, strBin, evUn, len_nil, len_slc, len_str, clr, List.length_nil, List.length_cons, List.getElem?_cons_zero, List.getElem?_cons_succ, Nat.reduceAdd, Nat.zero_add, Nat.add_zero, Nat.reduceLeDiff, Nat.reduceSub, ↓reduceIte, List.drop_succ_cons, List.drop_zero, List.take_succ_cons, List.take_zero, Bool.false_eq_true, List.nil_append, List.cons_append, Bool.not_true, Bool.not_false, cond_true, cond_false, bne, lv_ret, lv_normal, res1, res2, lv2_some, res_var, res_cell, lvf_v, lvf_slc, res1c, lvo1_some, e_mm, mm_max, mm_min]
  | cons t l ih =>
    intro i h vars hi hes hsz hv
    have hil : i < es.length := by simp at hi; omega
    have he : es[i]? = some (es[i]'hil) := List.getElem?_eq_getElem _
    have hd : es.drop i = es[i] :: es.drop (i + 1) := List.drop_eq_getElem_cons hil
    rw [hd] at hes
    generalize es[i]'hil = e at hes he
    cases hes with
    | cons _ _ _ _ hT hs' =>
    have hlt : (decide ((i : Int) < (es.length : Int))) = true := by simp; omega
    have q1 := hs.ia he
    have q3 : ∀ h : List AO, evLoad h true 4 (.ip e.cells) = some e := fun h => hT.load
    have q5 : ∀ h : List AO, e.snap1 h = some e := fun h => hT.snap
    have hzz : ([.v (.int .i64 0), .v (.string ⟨#[]⟩), .v (.int .i64 0), .v (.slice none 0 0)] : List AV).length = 4 := rfl
    have hst := hsz t (by simp)
    have hck := check_ok (by omega) hT
    obtain ⟨r, hr, hvr⟩ := vars_ok (by omega) hT
    have hw : IntKind.i64.wrap ((i : Int) + 1) = ((i + 1 : Nat) : Int) := by rw [wrap_ok (by omega) (by omega)]; omega
    cases hz : (checkT t == 0) with
    | false =>
      left
      refine ⟨(b :: .junk :: .junk :: .v (.int .i64 x) :: .ptr 0 0 :: .ptr 1 0 :: .v (.bool true) :: .v (.bool true) :: acc :: .junk :: .ptr h.length 0 :: .junk :: .junk :: .junk :: .junk :: .junk :: .junk :: .junk :: .junk :: .junk :: .junk :: .junk :: .junk :: .junk :: .junk :: .junk :: .junk :: c :: .v (.int .i64 es.length) :: .v (.int .i64 i) :: .v (.bool true) :: .v (.bool true) :: .junk :: .junk :: .junk :: .junk :: .junk :: .junk :: .junk :: .junk :: .junk :: .junk :: .junk :: .junk :: .junk :: .junk :: .junk :: .junk :: .junk :: .junk :: .junk :: []), h ++ [.box e.cells], loop_ret ?_, rfl⟩
      rw [hv]
      simp only [LU2, c7_27, c7_15, c7_16, c7_17, c7_18, hlt, q1, q3, q5, hck, hz, hT.st _ _ hzz, hT.ld, q9z, e_bslice1, e_bslice2, bs1, bs2, e_build, bdH_some, bd_nil, bd_cons, bd1, cl_agg, cl_int, toL, List.map_cons, List.map_nil, putAt, List.set_cons_zero, List.set_cons_succ, and_self, Nat.le_refl, app_get, app_set, g_agg, run_nil, run_cons, stp_plain, stp_guard, put_some, pass_eq, pick_tt, pick_ff, pick_tf, pick_ft, pick_u, reg_some, thn_normal, thn_exit, thn_ret, cnd_t, cnd_f, blk_normal, blk_ret, blk_exit, x_seq, x_region, x_cond, x_block, x_loop, x_ret, x_exit, x_skip, e_mov, e_pick, pk_t, pk_f, withH_some, e_box, bx_some, e_load, e_store, stH_some, e_nil, e_bin, e_eqv, eqH_f, eqH_t, e_un, e_fa, e_ia, ia_eq, nat_eq, natV_nat, e_len, lnH_some, e_extract, ex_0, ex_1, e_call0, e_call1, e_call2, e_call3, pc0_eq, pc1_some, pc2_some, pc3_some, fin_some, g_var0, g_vars, g_loc0, g_locs, g_int, g_bool, g_str, g_sl, s_none, s_zero, s_succ, cl_nil, cl_str, cl_bool, cl_slc, cl_own, evFa, evNil, asEl, evBin, intBin, strBin, evUn, len_nil, len_slc, len_str, clr, List.length_nil, List.length_cons, List.getElem?_cons_zero, List.getElem?_cons_succ, Nat.reduceAdd, Nat.zero_add, Nat.add_zero, Nat.reduceLeDiff, Nat.reduceSub, ↓reduceIte, List.drop_succ_cons, List.drop_zero, List.take_succ_cons, List.take_zero, Bool.false_eq_true, List.nil_append, List.cons_append, Bool.not_true, Bool.not_false, cond_true, cond_false, bne, lv_ret, lv_normal, res1, res2, lv2_some, res_var, res_cell, lvf_v, lvf_slc, res1c, lvo1_some, e_mm, mm_max, mm_min]
    | true =>
      have hz' : checkT t = 0 := by simpa using hz
      have vl := vars_len (t := t) (by omega)
      have vl2 : (varsT t).length ≤ 100000 := by
        have h1 := foldNew_len (placesT t) []
        have h2 := places_len t
        simp only [varsT, List.length_nil] at h1 ⊢
        omega
      have e1 : ((varsT t).map iv).length = (varsT t).length := by simp
      have key := num_loop (K := N + 1) (b := b) (x := x) (acc := acc) (c := c) (cl := es.length) (ci := i) hr (by omega) (varsT t) 0 (h ++ [.box e.cells]) (LU4 b x acc c es.length i r ((varsT t).map iv).length (0 : Nat)) (by simp) (by simp) rfl
      have hlr := hr.len
      -- the round, up to the inner loop
      have pre : exec (callW F) (N + 1) c7_27 (LU2 b x acc c es.length i) h = thn (callW F) (N + 1) (.region [] [] c7_26) (blk 3 (blk 4 (loopN (exec (callW F) (N + 1) c7_25) KU4 (N + 1) (LU4 b x acc c es.length i r ((varsT t).map iv).length ((0 : Nat) : Int)) (h ++ [.box e.cells])))) := by
        have e0 : c7_27 = (.seq (.region [] [] c7_15) (.seq (.cond (.var 30) .skip (.exit 2)) (.seq (.block 3 (.seq (.region [] [] c7_16) (.seq (.seq (.region [] [] c7_17) (.cond (.var 31) (.seq (.region [] [] c7_18) .ret) .skip)) (.seq (.region [] [] c7_19) (.block 4 (.loop KU4 [] c7_25)))))) (.region [] [] c7_26)))) := rfl
        rw [e0]
        generalize hrest : (CC.region [] [] c7_26) = rest
        simp only [LU2, c7_15, c7_16, c7_17, c7_19, hlt, q1, q3, q5, hck, hz, hvr, hlr, hT.st _ _ hzz, hT.ld, q9z, e_bslice1, e_bslice2, bs1, bs2, e_build, bdH_some, bd_nil, bd_cons, bd1, cl_agg, cl_int, toL, List.map_cons, List.map_nil, putAt, List.set_cons_zero, List.set_cons_succ, and_self, Nat.le_refl, app_get, app_set, g_agg, run_nil, run_cons, stp_plain, stp_guard, put_some, pass_eq, pick_tt, pick_ff, pick_tf, pick_ft, pick_u, reg_some, thn_normal, thn_exit, thn_ret, cnd_t, cnd_f, blk_normal, blk_ret, blk_exit, x_seq, x_region, x_cond, x_block, x_loop, x_ret, x_exit, x_skip, e_mov, e_pick, pk_t, pk_f, withH_some, e_box, bx_some, e_load, e_store, stH_some, e_nil, e_bin, e_eqv, eqH_f, eqH_t, e_un, e_fa, e_ia, ia_eq, nat_eq, natV_nat, e_len, lnH_some, e_extract, ex_0, ex_1, e_call0, e_call1, e_call2, e_call3, pc0_eq, pc1_some, pc2_some, pc3_some, fin_some, g_var0, g_vars, g_loc0, g_locs, g_int, g_bool, g_str, g_sl, s_none, s_zero, s_succ, cl_nil, cl_str, cl_bool, cl_slc, cl_own, evFa, evNil, asEl, evBin, intBin, strBin, evUn, len_nil, len_slc, len_str, clr, List.length_nil, List.length_cons, List.getElem?_cons_zero, List.getElem?_cons_succ, Nat.reduceAdd, Nat.zero_add, Nat.add_zero, Nat.reduceLeDiff, Nat.reduceSub, ↓reduceIte, List.drop_succ_cons, List.drop_zero, List.take_succ_cons, List.take_zero, Bool.false_eq_true, List.nil_append, List.cons_append, Bool.not_true, Bool.not_false, cond_true, cond_false, bne, lv_ret, lv_normal, res1, res2, lv2_some, res_var, res_cell, lvf_v, lvf_slc, res1c, lvo1_some, e_mm, mm_max, mm_min]
        rw [loop_cong (v2 := LU4 b x acc c es.length i r ((varsT t).map iv).length ((0 : Nat) : Int)) (by rfl)]
      rcases key with ⟨vs, h', g1, g2⟩ | ⟨hP, g1⟩
      · left
        have g1 := loopN_mono _ (N + 1) (by omega) _ _ _ g1
        exact ⟨vs, h', loop_ret (by rw [hv, pre, g1]; rfl), g2⟩
      · have g1 := loopN_mono _ (N + 1) (by omega) _ _ _ g1
        have st : exec (callW F) (N + 1) c7_27 (LU2 b x acc c es.length i) h = some (.normal, (b :: .junk :: .junk :: .v (.int .i64 x) :: .ptr 0 0 :: .ptr 1 0 :: .junk :: .v (.bool true) :: acc :: .junk :: .junk :: .junk :: .junk :: .junk :: .junk :: .junk :: .junk :: .junk :: .junk :: .junk :: .junk :: .junk :: .junk :: .junk :: .junk :: .junk :: .junk :: c :: .v (.int .i64 es.length) :: .v (.int .i64 ((i + 1 : Nat) : Int)) :: .junk :: .junk :: r :: .v (.int .i64 ((varsT t).map iv).length) :: .v (.int .i64 ((varsT t).map iv).length) :: .v (.bool false) :: .junk :: .junk :: .junk :: .junk :: .junk :: .junk :: .junk :: .junk :: .junk :: .junk :: .junk :: .junk :: .junk :: .junk :: .junk :: []), h ++ [.box e.cells]) := by
          rw [pre, g1]
          simp only [blk_exit, blk_normal, thn_normal, c7_26, hw, e_bslice1, e_bslice2, bs1, bs2, e_build, bdH_some, bd_nil, bd_cons, bd1, cl_agg, cl_int, toL, List.map_cons, List.map_nil, putAt, List.set_cons_zero, List.set_cons_succ, and_self, Nat.le_refl, app_get, app_set, g_agg, run_nil, run_cons, stp_plain, stp_guard, put_some, pass_eq, pick_tt, pick_ff, pick_tf, pick_ft, pick_u, reg_some, thn_normal, thn_exit, thn_ret, cnd_t, cnd_f, blk_normal, blk_ret, blk_exit, x_seq, x_region, x_cond, x_block, x_loop, x_ret, x_exit, x_skip, e_mov, e_pick, pk_t, pk_f, withH_some, e_box, bx_some, e_load, e_store, stH_some, e_nil, e_bin, e_eqv, eqH_f, eqH_t, e_un, e_fa, e_ia, ia_eq, nat_eq, natV_nat, e_len, lnH_some, e_extract, ex_0, ex_1, e_call0, e_call1, e_call2, e_call3, pc0_eq, pc1_some, pc2_some, pc3_some, fin_some, g_var0, g_vars, g_loc0, g_locs, g_int, g_bool, g_str, g_sl, s_none, s_zero, s_succ, cl_nil, cl_str, cl_bool, cl_slc, cl_own, evFa, evNil, asEl, evBin, intBin, strBin, evUn, len_nil, len_slc, len_str, clr, List.length_nil, List.length_cons, List.getElem?_cons_zero, List.getElem?_cons_succ, Nat.reduceAdd, Nat.zero_add, Nat.add_zero, Nat.reduceLeDiff, Nat.reduceSub, ↓reduceIte, List.drop_succ_cons, List.drop_zero, List.take_succ_cons, List.take_zero, Bool.false_eq_true, List.nil_append, List.cons_append, Bool.not_true, Bool.not_false, cond_true, cond_false, bne, lv_ret, lv_normal, res1, res2, lv2_some, res_var, res_cell, lvf_v, lvf_slc, res1c, lvo1_some, e_mm, mm_max, mm_min]
        have hln := loop_normal (call := callW F) (fuel := (N + 1)) (keep := KU2) (b := c7_27) (n := l.length + 1) (vars := vars) (h := h) (by rw [hv]; exact st)
        rw [show (t :: l).length + 1 = (l.length + 1) + 1 from rfl]
        rw [hln]
        rcases ih (i + 1) (h ++ [.box e.cells]) (b :: .junk :: .junk :: .v (.int .i64 x) :: .ptr 0 0 :: .ptr 1 0 :: .junk :: .v (.bool true) :: acc :: .junk :: .junk :: .junk :: .junk :: .junk :: .junk :: .junk :: .junk :: .junk :: .junk :: .junk :: .junk :: .junk :: .junk :: .junk :: .junk :: .junk :: .junk :: c :: .v (.int .i64 es.length) :: .v (.int .i64 ((i + 1 : Nat) : Int)) :: .junk :: .junk :: r :: .v (.int .i64 ((varsT t).map iv).length) :: .v (.int .i64 ((varsT t).map iv).length) :: .v (.bool false) :: .junk :: .junk :: .junk :: .junk :: .junk :: .junk :: .junk :: .junk :: .junk :: .junk :: .junk :: .junk :: .junk :: .junk :: .junk :: []) (by simp at hi; omega) hs' (fun p hp => hsz p (by simp [hp])) rfl with hb | ⟨h1, l2, h2⟩
        · exact .inl hb
        · refine .inr ⟨fun p hp => ?_, [.box e.cells] ++ l2, by rw [h2, List.append_assoc]⟩
          rcases List.mem_cons.1 hp with rfl | hp
          · exact ⟨hz', hP⟩
          · exact h1 p hp

theorem binds_loop {N : Nat} {c : AV} {es : List AV} (hs : Sl 5 c es) (hm : es.length ≤ 100000) (hN : 100000 ≤ N) :
    ∀ (l : List (Int × Tm)) (i : Nat) (h : List AO) (vars : List AV), i + l.length = es.length → AllB (es.drop i) l → (∀ p ∈ l, size p.2 ≤ 50000) → clr KU6 vars = LU6 b x acc c es.length i →
      Back (loopN (exec (callW F) (N + 1) c7_39) KU6 (l.length + 1) vars h) ∨
      ((∀ p ∈ l, ∀ n ∈ varsT p.2, 0 ≤ n ∧ n ≤ 1000000) ∧ ∃ l2, loopN (exec (callW F) (N + 1) c7_39) KU6 (l.length + 1) vars h = some (.exit 6, (b :: .junk :: .junk :: .v (.int .i64 x) :: .ptr 0 0 :: .ptr 1 0 :: .junk :: .v (.bool true) :: acc :: .junk :: .junk :: .junk :: .junk :: .junk :: .junk :: .junk :: .junk :: .junk :: .junk :: .junk :: .junk :: .junk :: .junk :: .junk :: .junk :: .junk :: .junk :: .junk :: .junk :: .junk :: .junk :: .junk :: .junk :: .junk :: .junk :: .junk :: .junk :: c :: .v (.int .i64 es.length) :: .v (.int .i64 es.length) :: .v (.bool false) :: .junk :: .junk :: .junk :: .junk :: .junk :: .junk :: .junk :: .junk :: .junk :: .junk :: []), h ++ l2)) := by
  intro l
  induction l with
  | nil =>
    intro i h vars hi _ _ hv
    have hil : i = es.length := by simpa using hi
    subst hil
    have hlt : decide ((es.length : Int) < (es.length : Int)) = false := by simp
    refine .inr ⟨fun p hp => by simp at hp, [], loop_exit ?_⟩
    rw [hv, List.append_nil]
    simp only [LU6, c7_39, c7_29, hlt, e_bslice1, e_bslice2, bs1, bs2, e_build, bdH_some, bd_nil, bd_cons, bd1, cl_agg, cl_int, toL, List.map_cons, List.map_nil, putAt, List.set_cons_zero, List.set_cons_succ, and_self, Nat.le_refl, app_get, app_set, g_agg, run_nil, run_cons, stp_plain, stp_guard, put_some, pass_eq, pick_tt, pick_ff, pick_tf, pick_ft, pick_u, reg_some, thn_normal, thn_exit, thn_ret, cnd_t, cnd_f, blk_normal, blk_ret, blk_exit, x_seq, x_region, x_cond, x_block, x_loop, x_ret, x_exit, x_skip, e_mov, e_pick, pk_t, pk_f, withH_some, e_box, bx_some, e_load, e_store, stH_some, e_nil, e_bin, e_eqv, eqH_f, eqH_t, e_un, e_fa, e_ia, ia_eq, nat_eq, natV_nat, e_len, lnH_some, e_extract, ex_0, ex_1, e_call0, e_call1, e_call2, e_call3, pc0_eq, pc1_some, pc2_some, pc3_some, fin_some, g_var0, g_vars, g_loc0, g_locs, g_int, g_bool, g_str, g_sl, s_none, s_zero, s_succ, cl_nil, cl_str, cl_bool, cl_slc, cl_own, evFa, evNil, asEl, evBin, intBin, strBin, evUn, len_nil, len_slc, len_str, clr, List.length_nil, List.length_cons, List.getElem?_cons_zero, List.getElem?_cons_succ, Nat.reduceAdd, Nat.zero_add, Nat.add_zero, Nat.reduceLeDiff, Nat.reduceSub, ↓reduceIte, List.drop_succ_cons, List.drop_zero, List.take_succ_cons, List.take_zero, Bool.false_eq_true, List.nil_append, List.cons_append, Bool.not_true, Bool.not_false, cond_true, cond_false, bne, lv_ret, lv_normal, res1, res2, lv2_some, res_var, res_cell, lvf_v, lvf_slc, res1c, lvo1_some, e_mm, mm_max, mm_min]
  | cons p l ih =>
    intro i h vars hi hes hsz hv
    obtain ⟨v, t⟩ := p
    have hil : i < es.length := by simp at hi; omega
    have he : es[i]? = some (es[i]'hil) := List.getElem?_eq_getElem _
    have hd : es.drop i = es[i] :: es.drop (i + 1) := List.drop_eq_getElem_cons hil
    rw [hd] at hes
    generalize es[i]'hil = e at hes he
    cases hes with
    | cons _ _ _ _ _ hT hs' =>
    have hT0 := hT
    cases hT with
    | mk v cs t ht =>
    have hlt : (decide ((i : Int) < (es.length : Int))) = true := by simp; omega
    have q1 := hs.ia he
    have hcsl : cs.length = 4 := ht.cl.2
    have q3 : ∀ h : List AO, evLoad h true 5 (.ip (.v (.int .i64 v) :: cs)) = some (.agg (.v (.int .i64 v) :: cs)) := fun h => hT0.load
    have q6 : ∀ h : List AO, evStore (h ++ [.box zeroB5]) 5 (.ptr h.length 0) (.agg (.v (.int .i64 v) :: cs)) = some (h ++ [.box (.v (.int .i64 v) :: cs)]) := fun h => st_new cl_agg (by simp [hcsl]) rfl
    have q8 : ∀ h : List AO, evLoad (h ++ [.box (.v (.int .i64 v) :: cs)]) true 4 (.ptr h.length 1) = some (.agg cs) := by
      intro h
      rw [ld_new, if_pos (by simp [hcsl]), List.drop_succ_cons, List.drop_zero, List.take_of_length_le (by omega)]
      simp [asEl]
    simp only [zeroB5] at q6
    have q9 := q9bu
    simp only [zeroB5] at q9
    simp only [AV.cells] at q1
    have s1 : ∀ h : List AO, (AV.agg cs).snap1 h = some (.agg cs) := fun h => ht.snap
    have hst := hsz (v, t) (by simp)
    dsimp only at hst
    obtain ⟨r, hr, hvr⟩ := vars_ok (by omega) ht
    have hw : IntKind.i64.wrap ((i : Int) + 1) = ((i + 1 : Nat) : Int) := by rw [wrap_ok (by omega) (by omega)]; omega
    have vl2 : (varsT t).length ≤ 100000 := by
      have h1 := foldNew_len (placesT t) []
      have h2 := places_len t
      simp only [varsT, List.length_nil] at h1 ⊢
      omega
    have e1 : ((varsT t).map iv).length = (varsT t).length := by simp
    have key := num_loop2 (K := N + 1) (b := b) (x := x) (acc := acc) (c := c) (cl := es.length) (ci := i) hr (by omega) (varsT t) 0 (h ++ [.box (.v (.int .i64 v) :: cs)]) (LU8 b x acc c es.length i r ((varsT t).map iv).length (0 : Nat)) (by simp) (by simp) rfl
    have hlr := hr.len
    have pre : exec (callW F) (N + 1) c7_39 (LU6 b x acc c es.length i) h = thn (callW F) (N + 1) (.region [] [] c7_38) (blk 7 (blk 8 (loopN (exec (callW F) (N + 1) c7_37) KU8 (N + 1) (LU8 b x acc c es.length i r ((varsT t).map iv).length ((0 : Nat) : Int)) (h ++ [.box (.v (.int .i64 v) :: cs)])))) := by
      have e0 : c7_39 = (.seq (.region [] [] c7_29) (.seq (.cond (.var 40) .skip (.exit 6)) (.seq (.block 7 (.seq (.region [] [] c7_30) (.seq (.region [] [] c7_31) (.block 8 (.loop KU8 [] c7_37))))) (.region [] [] c7_38)))) := rfl
      rw [e0]
      generalize hrest : (CC.region [] [] c7_38) = rest
      simp only [LU6, AV.cells, c7_29, c7_30, c7_31, hlt, q1, q3, q6, q8, q9, s1, hvr, hlr, e_bslice1, e_bslice2, bs1, bs2, e_build, bdH_some, bd_nil, bd_cons, bd1, cl_agg, cl_int, toL, List.map_cons, List.map_nil, putAt, List.set_cons_zero, List.set_cons_succ, and_self, Nat.le_refl, app_get, app_set, g_agg, run_nil, run_cons, stp_plain, stp_guard, put_some, pass_eq, pick_tt, pick_ff, pick_tf, pick_ft, pick_u, reg_some, thn_normal, thn_exit, thn_ret, cnd_t, cnd_f, blk_normal, blk_ret, blk_exit, x_seq, x_region, x_cond, x_block, x_loop, x_ret, x_exit, x_skip, e_mov, e_pick, pk_t, pk_f, withH_some, e_box, bx_some, e_load, e_store, stH_some, e_nil, e_bin, e_eqv, eqH_f, eqH_t, e_un, e_fa, e_ia, ia_eq, nat_eq, natV_nat, e_len, lnH_some, e_extract, ex_0, ex_1, e_call0, e_call1, e_call2, e_call3, pc0_eq, pc1_some, pc2_some, pc3_some, fin_some, g_var0, g_vars, g_loc0, g_locs, g_int, g_bool, g_str, g_sl, s_none, s_zero, s_succ, cl_nil, cl_str, cl_bool, cl_slc, cl_own, evFa, evNil, asEl, evBin, intBin, strBin, evUn, len_nil, len_slc, len_str, clr, List.length_nil, List.length_cons, List.getElem?_cons_zero, List.getElem?_cons_succ, Nat.reduceAdd, Nat.zero_add, Nat.add_zero, Nat.reduceLeDiff, Nat.reduceSub, ↓reduceIte, List.drop_succ_cons, List.drop_zero, List.take_succ_cons, List.take_zero, Bool.false_eq_true, List.nil_append, List.cons_append, Bool.not_true, Bool.not_false, cond_true, cond_false, bne, lv_ret, lv_normal, res1, res2, lv2_some, res_var, res_cell, lvf_v, lvf_slc, res1c, lvo1_some, e_mm, mm_max, mm_min]
      rw [loop_cong (v2 := LU8 b x acc c es.length i r ((varsT t).map iv).length ((0 : Nat) : Int)) (by rfl)]
    rcases key with ⟨vs, h', g1, g2⟩ | ⟨hP, g1⟩
    · left
      have g1 := loopN_mono _ (N + 1) (by omega) _ _ _ g1
      exact ⟨vs, h', loop_ret (by rw [hv, pre, g1]; rfl), g2⟩
    · have g1 := loopN_mono _ (N + 1) (by omega) _ _ _ g1
      have st : exec (callW F) (N + 1) c7_39 (LU6 b x acc c es.length i) h = some (.normal, (b :: .junk :: .junk :: .v (.int .i64 x) :: .ptr 0 0 :: .ptr 1 0 :: .junk :: .v (.bool true) :: acc :: .junk :: .junk :: .junk :: .junk :: .junk :: .junk :: .junk :: .junk :: .junk :: .junk :: .junk :: .junk :: .junk :: .junk :: .junk :: .junk :: .junk :: .junk :: .junk :: .junk :: .junk :: .junk :: .junk :: .junk :: .junk :: .junk :: .junk :: .junk :: c :: .v (.int .i64 es.length) :: .v (.int .i64 ((i + 1 : Nat) : Int)) :: .junk :: r :: .v (.int .i64 ((varsT t).map iv).length) :: .v (.int .i64 ((varsT t).map iv).length) :: .v (.bool false) :: .junk :: .junk :: .junk :: .junk :: .junk :: .junk :: []), h ++ [.box (.v (.int .i64 v) :: cs)]) := by
        rw [pre, g1]
        simp only [blk_exit, blk_normal, thn_normal, c7_38, hw, e_bslice1, e_bslice2, bs1, bs2, e_build, bdH_some, bd_nil, bd_cons, bd1, cl_agg, cl_int, toL, List.map_cons, List.map_nil, putAt, List.set_cons_zero, List.set_cons_succ, and_self, Nat.le_refl, app_get, app_set, g_agg, run_nil, run_cons, stp_plain, stp_guard, put_some, pass_eq, pick_tt, pick_ff, pick_tf, pick_ft, pick_u, reg_some, thn_normal, thn_exit, thn_ret, cnd_t, cnd_f, blk_normal, blk_ret, blk_exit, x_seq, x_region, x_cond, x_block, x_loop, x_ret, x_exit, x_skip, e_mov, e_pick, pk_t, pk_f, withH_some, e_box, bx_some, e_load, e_store, stH_some, e_nil, e_bin, e_eqv, eqH_f, eqH_t, e_un, e_fa, e_ia, ia_eq, nat_eq, natV_nat, e_len, lnH_some, e_extract, ex_0, ex_1, e_call0, e_call1, e_call2, e_call3, pc0_eq, pc1_some, pc2_some, pc3_some, fin_some, g_var0, g_vars, g_loc0, g_locs, g_int, g_bool, g_str, g_sl, s_none, s_zero, s_succ, cl_nil, cl_str, cl_bool, cl_slc, cl_own, evFa, evNil, asEl, evBin, intBin, strBin, evUn, len_nil, len_slc, len_str, clr, List.length_nil, List.length_cons, List.getElem?_cons_zero, List.getElem?_cons_succ, Nat.reduceAdd, Nat.zero_add, Nat.add_zero, Nat.reduceLeDiff, Nat.reduceSub, ↓reduceIte, List.drop_succ_cons, List.drop_zero, List.take_succ_cons, List.take_zero, Bool.false_eq_true, List.nil_append, List.cons_append, Bool.not_true, Bool.not_false, cond_true, cond_false, bne, lv_ret, lv_normal, res1, res2, lv2_some, res_var, res_cell, lvf_v, lvf_slc, res1c, lvo1_some, e_mm, mm_max, mm_min]
      have hln := loop_normal (call := callW F) (fuel := (N + 1)) (keep := KU6) (b := c7_39) (n := l.length + 1) (vars := vars) (h := h) (by rw [hv]; exact st)
      rw [show ((v, t) :: l).length + 1 = (l.length + 1) + 1 from rfl]
      rw [hln]
      rcases ih (i + 1) (h ++ [.box (.v (.int .i64 v) :: cs)]) (b :: .junk :: .junk :: .v (.int .i64 x) :: .ptr 0 0 :: .ptr 1 0 :: .junk :: .v (.bool true) :: acc :: .junk :: .junk :: .junk :: .junk :: .junk :: .junk :: .junk :: .junk :: .junk :: .junk :: .junk :: .junk :: .junk :: .junk :: .junk :: .junk :: .junk :: .junk :: .junk :: .junk :: .junk :: .junk :: .junk :: .junk :: .junk :: .junk :: .junk :: .junk :: c :: .v (.int .i64 es.length) :: .v (.int .i64 ((i + 1 : Nat) : Int)) :: .junk :: r :: .v (.int .i64 ((varsT t).map iv).length) :: .v (.int .i64 ((varsT t).map iv).length) :: .v (.bool false) :: .junk :: .junk :: .junk :: .junk :: .junk :: .junk :: []) (by simp at hi; omega) hs' (fun p hp => hsz p (by simp [hp])) rfl with hb | ⟨h1, l2, h2⟩
      · exact .inl hb
      · refine .inr ⟨fun p hp => ?_, [.box (.v (.int .i64 v) :: cs)] ++ l2, by rw [h2, List.append_assoc]⟩
        rcases List.mem_cons.1 hp with rfl | hp
        · exact hP
        · exact h1 p hp

/-! ### what was bound, compared -/
theorem last_loop {c d : AV} {es es' : List AV} (hs : Sl 5 c es) (hs' : Sl 5 d es') (hlen : es.length = es'.length) (hm : es.length ≤ 200000) (hx : 0 ≤ x ∧ x ≤ 1000000) :
    ∀ (l : List (Int × Tm)) (i : Nat) (h : List AO) (vars : List AV), i + l.length = es.length → AllB (es.drop i) l → AllB (es'.drop i) (shiftB x l) → (∀ p ∈ l, -1000000 ≤ p.1 ∧ p.1 ≤ 1000000) → (∀ p ∈ l, size p.2 ≤ 50000) → clr KU10 vars = LU10 x c d es.length i →
      loopN (exec (callW F) K c7_50) KU10 (l.length + 1) vars h = some (.exit 10, (.junk :: .junk :: .junk :: .v (.int .i64 x) :: .junk :: .junk :: .junk :: .v (.bool true) :: .junk :: .junk :: .junk :: .junk :: .junk :: .junk :: c :: .junk :: .junk :: d :: .junk :: .junk :: .junk :: .junk :: .junk :: .junk :: .junk :: .junk :: .junk :: .junk :: .junk :: .junk :: .junk :: .junk :: .junk :: .junk :: .junk :: .junk :: .junk :: .junk :: .junk :: .junk :: .junk :: .junk :: .junk :: .junk :: .junk :: .junk :: .junk :: .v (.int .i64 es.length) :: .v (.int .i64 es.length) :: .v (.bool false) :: .junk :: []), h) := by
  intro l
  induction l with
  | nil =>
    intro i h vars hi _ _ _ _ hv
    have hil : i = es.length := by simpa using hi
    subst hil
    have hlt : decide ((es.length : Int) < (es.length : Int)) = false := by simp
    refine loop_exit ?_
    rw [hv]
    simp only [LU10, c7_50, c7_45, hlt, e_bslice1, e_bslice2, bs1, bs2, e_build, bdH_some, bd_nil, bd_cons, bd1, cl_agg, cl_int, toL, List.map_cons, List.map_nil, putAt, List.set_cons_zero, List.set_cons_succ, and_self, Nat.le_refl, app_get, app_set, g_agg, run_nil, run_cons, stp_plain, stp_guard, put_some, pass_eq, pick_tt, pick_ff, pick_tf, pick_ft, pick_u, reg_some, thn_normal, thn_exit, thn_ret, cnd_t, cnd_f, blk_normal, blk_ret, blk_exit, x_seq, x_region, x_cond, x_block, x_loop, x_ret, x_exit, x_skip, e_mov, e_pick, pk_t, pk_f, withH_some, e_box, bx_some, e_load, e_store, stH_some, e_nil, e_bin, e_eqv, eqH_f, eqH_t, e_un, e_fa, e_ia, ia_eq, nat_eq, natV_nat, e_len, lnH_some, e_extract, ex_0, ex_1, e_call0, e_call1, e_call2, e_call3, pc0_eq, pc1_some, pc2_some, pc3_some, fin_some, g_var0, g_vars, g_loc0, g_locs, g_int, g_bool, g_str, g_sl, s_none, s_zero, s_succ, cl_nil, cl_str, cl_bool, cl_slc, cl_own, evFa, evNil, asEl, evBin, intBin, strBin, evUn, len_nil, len_slc, len_str, clr, List.length_nil, List.length_cons, List.getElem?_cons_zero, List.getElem?_cons_succ, Nat.reduceAdd, Nat.zero_add, Nat.add_zero, Nat.reduceLeDiff, Nat.reduceSub, ↓reduceIte, List.drop_succ_cons, List.drop_zero, List.take_succ_cons, List.take_zero, Bool.false_eq_true, List.nil_append, List.cons_append, Bool.not_true, Bool.not_false, cond_true, cond_false, bne, lv_ret, lv_normal, res1, res2, lv2_some, res_var, res_cell, lvf_v, lvf_slc, res1c, lvo1_some, e_mm, mm_max, mm_min]
  | cons p l ih =>
    intro i h vars hi hes hes' hnum hsz hv
    obtain ⟨v, t⟩ := p
    have hil : i < es.length := by simp at hi; omega
    have hil' : i < es'.length := by omega
    have he : es[i]? = some (es[i]'hil) := List.getElem?_eq_getElem _
    have he' : es'[i]? = some (es'[i]'hil') := List.getElem?_eq_getElem _
    have hd : es.drop i = es[i] :: es.drop (i + 1) := List.drop_eq_getElem_cons hil
    have hd' : es'.drop i = es'[i] :: es'.drop (i + 1) := List.drop_eq_getElem_cons hil'
    rw [hd] at hes
    rw [hd'] at hes'
    simp only [shiftB, List.map_cons] at hes'
    generalize es[i]'hil = e at hes he
    generalize es'[i]'hil' = e' at hes' he'
    cases hes with
    | cons _ _ _ _ _ hT hsr =>
    cases hes' with
    | cons _ _ _ _ _ hT' hsr' =>
    cases hT with
    | mk v cs t ht =>
    generalize hv1 : v + x = v1 at hT'
    generalize ht1 : shiftT x t = t1 at hT'
    cases hT' with
    | mk v1 cs' t1 ht' =>
    have hlt : (decide ((i : Int) < (es.length : Int))) = true := by simp; omega
    have q1 := hs.ia he
    have q2 := hs'.ia he'
    have hcs : cs.length = 4 := ht.cl.2
    have hcs' : cs'.length = 4 := ht'.cl.2
    have q3 : ∀ h : List AO, evLoad h true 4 (.ip cs) = some (.agg cs) := fun h => ht.load
    have q4 : ∀ h : List AO, evLoad h true 4 (.ip cs') = some (.agg cs') := fun h => ht'.load
    have q5 : ∀ (h : List AO) (x : AV) (cs : List AV), evLoad h false 1 (.ip (x :: cs)) = some x := by
      intro h x cs; simp [evLoad, asEl]
    have s1 : ∀ h : List AO, (AV.agg cs).snap1 h = some (.agg cs) := fun h => ht.snap
    have s2 : ∀ h : List AO, (AV.agg cs').snap1 h = some (.agg cs') := fun h => ht'.snap
    have hz := hsz (v, t) (by simp)
    have hnv := hnum (v, t) (by simp)
    dsimp only at hz hnv
    obtain ⟨r, hr, hc⟩ := shift35 x _ t _ (Nat.lt_succ_self _) (by omega) ht
    rw [ht1] at hr
    have s3 : ∀ h : List AO, r.snap1 h = some r := fun h => hr.snap
    have hsm := same_call ht' hr
    have hw1 : IntKind.i64.wrap (v + x) = v1 := by rw [IntWalk.i64_in] <;> omega
    have hvv : (v1 == v1) = true := by simp
    simp only [AV.cells] at q1 q2
    have hw : IntKind.i64.wrap ((i : Int) + 1) = ((i + 1 : Nat) : Int) := by rw [wrap_ok (by omega) (by omega)]; omega
    have st : exec (callW F) K c7_50 (LU10 x c d es.length i) h = some (.normal, (.junk :: .junk :: .junk :: .v (.int .i64 x) :: .junk :: .junk :: .junk :: .v (.bool true) :: .junk :: .junk :: .junk :: .junk :: .junk :: .junk :: c :: .junk :: .junk :: d :: .junk :: .junk :: .v (.int .i64 i) :: .junk :: .junk :: .junk :: .junk :: .junk :: .junk :: .junk :: .junk :: .junk :: .junk :: .junk :: .junk :: .junk :: .junk :: .junk :: .junk :: .junk :: .junk :: .junk :: .junk :: .junk :: .junk :: .junk :: .junk :: .junk :: .junk :: .v (.int .i64 es.length) :: .v (.int .i64 ((i + 1 : Nat) : Int)) :: .v (.bool true) :: .v (.bool false) :: []), h) := by
      simp only [LU10, AV.cells, c7_50, c7_45, c7_46, c7_47, c7_49, hlt, hw, hw1, hvv, q1, q2, q3, q4, q5, s1, s2, s3, hc, hsm, snapv, pick_und, e_bslice1, e_bslice2, bs1, bs2, e_build, bdH_some, bd_nil, bd_cons, bd1, cl_agg, cl_int, toL, List.map_cons, List.map_nil, putAt, List.set_cons_zero, List.set_cons_succ, and_self, Nat.le_refl, app_get, app_set, g_agg, run_nil, run_cons, stp_plain, stp_guard, put_some, pass_eq, pick_tt, pick_ff, pick_tf, pick_ft, pick_u, reg_some, thn_normal, thn_exit, thn_ret, cnd_t, cnd_f, blk_normal, blk_ret, blk_exit, x_seq, x_region, x_cond, x_block, x_loop, x_ret, x_exit, x_skip, e_mov, e_pick, pk_t, pk_f, withH_some, e_box, bx_some, e_load, e_store, stH_some, e_nil, e_bin, e_eqv, eqH_f, eqH_t, e_un, e_fa, e_ia, ia_eq, nat_eq, natV_nat, e_len, lnH_some, e_extract, ex_0, ex_1, e_call0, e_call1, e_call2, e_call3, pc0_eq, pc1_some, pc2_some, pc3_some, fin_some, g_var0, g_vars, g_loc0, g_locs, g_int, g_bool, g_str, g_sl, s_none, s_zero, s_succ, cl_nil, cl_str, cl_bool, cl_slc, cl_own, evFa, evNil, asEl, evBin, intBin, strBin, evUn, len_nil, len_slc, len_str, clr, List.length_nil, List.length_cons, List.getElem?_cons_zero, List.getElem?_cons_succ, Nat.reduceAdd, Nat.zero_add, Nat.add_zero, Nat.reduceLeDiff, Nat.reduceSub, ↓reduceIte, List.drop_succ_cons, List.drop_zero, List.take_succ_cons, List.take_zero, Bool.false_eq_true, List.nil_append, List.cons_append, Bool.not_true, Bool.not_false, cond_true, cond_false, bne, lv_ret, lv_normal, res1, res2, lv2_some, res_var, res_cell, lvf_v, lvf_slc, res1c, lvo1_some, e_mm, mm_max, mm_min]
    rw [show ((v, t) :: l).length + 1 = (l.length + 1) + 1 from rfl, loop_normal (by rw [hv]; exact st)]
    exact ih (i + 1) h _ (by simp at hi; omega) hsr hsr' (fun p hp => hnum p (by simp [hp])) (fun p hp => hsz p (by simp [hp])) rfl
end
end Go.AE.YtpgoibncgekflaaDoor
end

/-! What all rows of this seat need: the world in which the library's two tables lie. -/
section
set_option linter.unusedVariables false
namespace Go.Proofs.YtpgoibncgekflaaDoor
open Go Go.AE Go.Proofs Go.RowKit Go.Lib Go.Shelf

/-- a world in which the two variables hold what their initialisers lay -/
noncomputable def laidWorld (os : Os) : World :=
  let w0 := World.holding Tryd.prog os ⟨#[], #[], []⟩
  let put (h : Array Obj) (g : Nat) (cs : Array Value) : Array Obj := h.modify g fun
    | .cells _ t frozen => .cells cs t frozen
    | o => o
  let h1 := put w0.heap (Tryd.laysValid_ren.g 3) (Lib.firstTab.map fun z => Value.int .u8 z).toArray
  let h2 := put h1 (Tryd.laysValid_ren.g 4) ((List.range 16).flatMap fun i => [Value.int .u8 (Lib.accLo i), Value.int .u8 (Lib.accHi i)]).toArray
  { w0 with heap := h2 }
set_option maxRecDepth 1000000 in
theorem laid_met (os : Os) (args : Array Value) : laidMetH Tryd.prog Rows.substApartRow.laid ((laidWorld os).forCall (fun _ _ => 0) ⟨#[], args, []⟩).memory :=
  (LaidIn.of_run (l := [("unicode/utf8.acceptRanges", Lib.acceptData), ("unicode/utf8.first", Lib.firstData)]) [0, 1] 8 (by kernel_rfl) (by kernel_rfl) (by kernel_rfl) (by kernel_rfl)).met
set_option maxRecDepth 1000000 in
theorem tabs_of {W : World} (hL : laidMetH Tryd.prog Rows.substApartRow.laid W) : Lib.Utf8Tabs (Tryd.laysValid_ren.g 3) (Tryd.laysValid_ren.g 4) W :=
  utf8Tabs_of_readsT (U8Types.of196 Tryd.laysValid) ⟨by kernel_rfl, by kernel_rfl, by kernel_rfl, by kernel_rfl, by kernel_rfl, by kernel_rfl, by kernel_rfl⟩ (Lib.laidMet.reads (l := Rows.substApartRow.laid) hL (.tail _ (.head _))) (Lib.laidMet.reads (l := Rows.substApartRow.laid) hL (.head _))
end Go.Proofs.YtpgoibncgekflaaDoor
end

/-! The row and the card of UnifyShifts, out of its plain law. -/
section
set_option linter.unusedVariables false
namespace Go.Proofs.YtpgoibncgekflaaDoor
open Go Go.AE Go.Proofs Go.ChangeShapes Go.WideShapes Go.ChangeAt Go.RowKit
open Go.ChangeMaps (open_string shut_string)
namespace unifyShifts
theorem args {I : Cells} {W : World} {a0 a1 a2 a3 : AV} {v0 v1 v2 v3 : Value} (r0 : Rep I W [] a0 v0) (r1 : Rep I W [] a1 v1) (r2 : Rep I W [] a2 v2) (r3 : Rep I W [] a3 v3) : ArgsRep I W [] [a0, a1, a2, a3] #[v0, v1, v2, v3] := by
  refine ⟨rfl, fun i a h => ?_⟩
  match i, h with
  | 0, h => cases h; exact r0
  | 1, h => cases h; exact r1
  | 2, h => cases h; exact r2
  | 3, h => cases h; exact r3
def Plain : Prop := ∀ a0 a1 a2 a3 : AV, WT T 22 a0.cells → asEl ti22.agg a0.cells = some a0 → WT T 25 a1.cells → asEl ti25.agg a1.cells = some a1 → WT T 25 a2.cells → asEl ti25.agg a2.cells = some a2 → WT T 2 a3.cells → asEl ti2.agg a3.cells = some a3 →
  ∃ n, callN F n 7 [a0, a1, a2, a3] [] = some (.v (.bool true), [])

set_option maxRecDepth 100000 in
theorem lifted (plain : Plain) (os : Os) (started : os.Started) (H : Type) (enc : TypeId × Value → H) :
    ReturnsInHanded {} Tryd.checked os 7 .any (fun w args => (Rows.unifyShiftsSpec.pre enc Tryd.prog Tryd.f7 [] false w args ∧ laidMetH Tryd.prog Rows.unifyShiftsRow.laid w) ∧ sizedMet enc Tryd.prog Tryd.f7 (OpenSpec.ofChange Rows.unifyShiftsSpec) false w args)
      (Rows.unifyShiftsSpec.post enc Tryd.prog Tryd.f7 false true false false) := by
  refine returnsInHanded_of_change_and (C := Tryd.checked) (X := fun w _ => laidMetH Tryd.prog Rows.unifyShiftsRow.laid w) (fun _ _ _ hh h => h.of_heap hh) own started (by kernel_rfl) Tryd.func7
    (ChangeSpec.witness_at (enc := enc) (C := Tryd.checked) (os := os) (X := fun w _ => laidMetH Tryd.prog Rows.unifyShiftsRow.laid w) false (laidWorld os) #[ti22.zero, ti25.zero, ti25.zero, ti2.zero] 8 rfl (by kernel_rfl) (by kernel_rfl) (by kernel_rfl) (by kernel_rfl) (by kernel_rfl) (laid_met os _)) ?_
  intro W base args' ds gs before hval0 hW _ _ hL _
  have hval : ∀ (j : Nat) t v, Tryd.f7.params[j]? = some t → args'[j]? = some v → Value.okWide Tryd.prog W .any base t v := hval0
  have hW' := hW
  obtain ⟨p, q, hA0, hV, rfl, hfz, hnd⟩ := hW
  have hA : DataW.TrodAll enc Tryd.prog W 0 (fun _ => true) true Tryd.f7.params.toList args'.toList ds p := hA0
  rw [Tryd.params7] at hA hval
  obtain ⟨v0, vs0, d0, ds0, p0, q0, hargs, rfl, rfl, h0, r0⟩ := trodAll_cons hA
  obtain ⟨v1, vs1, d1, ds1, p1, q1, rfl, rfl, rfl, h1, r1⟩ := trodAll_cons r0
  obtain ⟨v2, vs2, d2, ds2, p2, q2, rfl, rfl, rfl, h2, r2⟩ := trodAll_cons r1
  obtain ⟨v3, vs3, d3, ds3, p3, q3, rfl, rfl, rfl, h3, r3⟩ := trodAll_cons r2
  obtain ⟨rfl, rfl, rfl⟩ := trodAll_nil r3
  obtain rfl : args' = #[v0, v1, v2, v3] := by cases args'; simp_all
  obtain ⟨rfl, rfl⟩ := trodVars_none hV
  obtain ⟨a0, w0, e0, x0⟩ := trod_arg hT hG (t := 22) (i := ti22) (by decide) rfl (hval 0 22 v0 rfl rfl) h0
  obtain ⟨a1, w1, e1, x1⟩ := trod_arg hT hG (t := 25) (i := ti25) (by decide) rfl (hval 1 25 v1 rfl rfl) h1
  obtain ⟨a2, w2, e2, x2⟩ := trod_arg hT hG (t := 25) (i := ti25) (by decide) rfl (hval 2 25 v2 rfl rfl) h2
  obtain ⟨a3, w3, e3, x3⟩ := trod_arg hT hG (t := 2) (i := ti2) (by decide) rfl (hval 3 2 v3 rfl rfl) h3
  have l0 : ∀ x ∈ p0, x.block < W.heap.size := by obtain ⟨m, hm⟩ := h0; exact DataW.trod_lt m _ _ _ hm
  have l1 : ∀ x ∈ p1, x.block < W.heap.size := by obtain ⟨m, hm⟩ := h1; exact DataW.trod_lt m _ _ _ hm
  have l2 : ∀ x ∈ p2, x.block < W.heap.size := by obtain ⟨m, hm⟩ := h2; exact DataW.trod_lt m _ _ _ hm
  have l3 : ∀ x ∈ p3, x.block < W.heap.size := by obtain ⟨m, hm⟩ := h3; exact DataW.trod_lt m _ _ _ hm
  obtain ⟨n, hn⟩ := plain a0 a1 a2 a3 w0 e0 w1 e1 w2 e2 w3 e3
  refine (law_calls ⟨rfl, tabs_of hL⟩ (args x0 x1 x2 x3) hn).mono fun e W' ⟨he, bel⟩ => ?_
  subst he
  exact ⟨_, rfl, _, _, _, [], _, [], hW', trodAll_mk1 (shut_bool Tryd.underlying4 _),
    (trodAll_cons_mk (Below.trod laidOut (by kernel_rfl) (of_decide_eq_true (by kernel_rfl)) h0 bel l0) (trodAll_cons_mk (Below.trod laidOut (by kernel_rfl) (of_decide_eq_true (by kernel_rfl)) h1 bel l1) (trodAll_cons_mk (Below.trod laidOut (by kernel_rfl) (of_decide_eq_true (by kernel_rfl)) h2 bel l2) (trodAll_cons_mk (Below.trod laidOut (by kernel_rfl) (of_decide_eq_true (by kernel_rfl)) h3 bel l3) trodAll_mk0)))), rfl, bel.frame _, fun h => by cases h⟩
theorem over (plain : Plain) : Rows.unifyShiftsRow.holds Tryd.pinned (OpenSpec.ofChange Rows.unifyShiftsSpec) :=
  OpenClaim.holds_of_wide 7 Tryd.f7 rfl rfl rfl rfl rfl rfl rfl ⟨rfl, rfl, rfl, rfl, rfl⟩ rfl rfl rfl rfl rfl (by kernel_rfl) Tryd.func7 (by kernel_rfl)
    (of_decide_eq_true (by kernel_rfl)) (by unfold Func.isWrapper; first | (rw [if_pos (by decide +kernel)]; kernel_rfl) | (rw [if_neg (by decide +kernel)]; exact ⟨rfl, rfl⟩))
    (fun os started H enc _ => lifted plain os started H enc)
theorem proved (plain : Plain) : Rows.UnifyShiftsCardSaid :=
  Claim7.holds_tied_plain_at .later [] Rows.unifyShiftsCard.laidKinds true Rows.unifyShiftsCard.stood.harness Rows.unifyShiftsCard.stood.looks
    (over plain) (fun _ h => by cases h) (by kernel_rfl) (fun _ h => by cases h) unifyShifts_row_tie rfl ⟨rfl, rfl⟩ (by kernel_rfl) rfl
    (fun f fn hf hfn => by
      obtain rfl : f = 7 := Option.some.inj ((show Tryd.prog.funcNamed Rows.unifyShiftsRow.func = some 7 by kernel_rfl).symm.trans hf) |>.symm
      obtain rfl : fn = Tryd.f7 := (Option.some.inj (Tryd.func7.symm.trans hfn)).symm
      refine ⟨by kernel_rfl, fun j t ht => ?_⟩
      rw [Tryd.params7] at ht
      match j, ht with
      | 0, ht => cases ht; exact (show Tryd.prog.wantsStandIn 22 = false by kernel_rfl)
      | 1, ht => cases ht; exact (show Tryd.prog.wantsStandIn 25 = false by kernel_rfl)
      | 2, ht => cases ht; exact (show Tryd.prog.wantsStandIn 25 = false by kernel_rfl)
      | 3, ht => cases ht; exact (show Tryd.prog.wantsStandIn 2 = false by kernel_rfl)
      | _ + 4, ht => simp at ht)
    (by kernel_rfl)
end unifyShifts
end Go.Proofs.YtpgoibncgekflaaDoor
end

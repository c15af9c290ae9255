/- Texts of this claim, put together. -/
import Derived.Test.YtpgoibncgekflaaPart2
import Derived.Test.YtpgoibncgekflaaEval3
import Derived.Test.YtpgoibncgekflaaPart1
import Derived.Test.YtpgoibncgekflaaRows
import Derived.WalkKit
import Derived.ProofKit
import Derived.OpenShut
import Derived.ShutString
import Derived.ChangeOld
import Derived.Below
import Derived.SizedLaws
/-! Resolve: what it computes. -/
section
set_option linter.unusedVariables false
set_option linter.unusedSimpArgs false
namespace Go.AE.Ytpgoibncgekflaa
open Go Go.AE Go.Proofs.Ytpgoibncgekflaa

def resL (f : Nat → Tm → Except Int (Tm × Nat)) : Nat → List Tm → Except Int (List Tm × Nat)
  | m, [] => .ok ([], m)
  | m, t :: l => match f m t with
    | .error e => .error e
    | .ok (x, m1) => match resL f m1 l with
      | .error e => .error e
      | .ok (xs, m2) => .ok (x :: xs, m2)
/-- a term's bindings put in: d levels below it, m steps are left -/
def resT (rs : List (Int × Tm)) : Nat → Nat → Tm → Except Int (Tm × Nat)
  | 0, m, t => match meetT rs m t with
    | (_, e, _) => if e = 0 then .error 3 else .error e
  | d + 1, m, t => match meetT rs m t with
    | (.mk k s n l, e, m') => if e = 0 then (match resL (resT rs d) m' l with
      | .error e => .error e
      | .ok (xs, m2) => .ok (.mk k s n xs, m2)) else .error e

theorem walkT_le (rs : List (Int × Tm)) : ∀ (m : Nat) (t : Tm), (walkT rs m t).2.2 ≤ m := by
  intro m
  induction m with
  | zero => intro t; simp only [walkT]; split <;> exact Nat.le_refl _
  | succ m ih =>
    intro t
    simp only [walkT]
    split
    · exact Nat.le_succ_of_le (ih _)
    · exact Nat.le_refl _
theorem meetT_le (rs : List (Int × Tm)) (m : Nat) (t : Tm) : (meetT rs m t).2.2 ≤ m := by
  cases m with
  | zero => exact Nat.le_refl _
  | succ m => exact Nat.le_succ_of_le (walkT_le rs m t)
theorem walkT_err (rs : List (Int × Tm)) : ∀ (m : Nat) (t : Tm), (walkT rs m t).2.1 = 0 ∨ (walkT rs m t).2.1 = 140 ∧ (walkT rs m t).1 = zeroT := by
  intro m
  induction m with
  | zero => intro t; simp only [walkT]; split <;> simp
  | succ m ih =>
    intro t
    simp only [walkT]
    split
    · exact ih _
    · simp
theorem meetT_err (rs : List (Int × Tm)) (m : Nat) (t : Tm) : (meetT rs m t).2.1 = 0 ∨ (meetT rs m t).2.1 = 140 ∧ (meetT rs m t).1 = zeroT := by
  cases m with
  | zero => exact .inr ⟨rfl, rfl⟩
  | succ m => exact walkT_err rs m t
theorem lookT_mem {rs : List (Int × Tm)} {n : Int} {t : Tm} : lookT rs n = some t → ∃ p ∈ rs, p.2 = t := by
  induction rs with
  | nil => intro h; cases h
  | cons p rs ih =>
    obtain ⟨v, u⟩ := p
    intro h
    simp only [lookT] at h
    split at h
    · cases h; exact ⟨(v, _), by simp, rfl⟩
    · obtain ⟨p, hp, e⟩ := ih h; exact ⟨p, by simp [hp], e⟩
theorem bound_mem {rs : List (Int × Tm)} {t u : Tm} (h : bound rs t = some u) : ∃ p ∈ rs, p.2 = u := by
  cases t with
  | mk k s n l =>
    simp only [bound] at h
    split at h
    · exact lookT_mem h
    · cases h
theorem walkT_size {rs : List (Int × Tm)} {M : Nat} (hM : 1 ≤ M) (hrs : ∀ p ∈ rs, size p.2 ≤ M) : ∀ (m : Nat) (t : Tm), size t ≤ M → size (walkT rs m t).1 ≤ M := by
  have hz : size zeroT = 1 := by simp [zeroT, size, sizeL]
  intro m
  induction m with
  | zero => intro t ht; simp only [walkT]; split
            · simp only [hz]; exact hM
            · exact ht
  | succ m ih =>
    intro t ht
    simp only [walkT]
    split
    · rename_i t' hb
      obtain ⟨p, hp, rfl⟩ := bound_mem hb
      exact ih _ (hrs p hp)
    · exact ht
theorem meetT_size {rs : List (Int × Tm)} {M : Nat} (hM : 1 ≤ M) (hrs : ∀ p ∈ rs, size p.2 ≤ M) (m : Nat) (t : Tm) (ht : size t ≤ M) : size (meetT rs m t).1 ≤ M := by
  have hz : size zeroT = 1 := by simp [zeroT, size, sizeL]
  cases m with
  | zero => simp only [meetT, hz]; exact hM
  | succ m => exact walkT_size hM hrs m t ht

def ms (b : AV) (d : Int) : List AV := [b, .v (.int .i64 0), .v (.int .i64 d)]
section
variable {h : List AO} {id : Nat} {b : AV} {d d' m : Int} {l : List AO}
theorem Ctr.ms (c : Ctr h id 1 (ms b d)) (d' : Int) : Ctr h id 1 (Ytpgoibncgekflaa.ms b d') := by
  refine ⟨c.lt, by simp [Ytpgoibncgekflaa.ms], c.bel, ?_⟩
  have := c.mb
  simp only [Ytpgoibncgekflaa.ms, List.all_cons, List.all_nil, Bool.and_true, Bool.and_eq_true] at this ⊢
  exact ⟨this.1, rfl, rfl⟩
theorem ms_eq : ctr h id 1 (ms b d) m = h.set id (.box [b, .v (.int .i64 m), .v (.int .i64 d)]) := rfl
theorem r_ld0 (c : Ctr h id 1 (ms b d)) : evLoad (ctr h id 1 (ms b d) m ++ l) false 1 (.ptr id 0) = some b := by
  have h1 : (ctr h id 1 (ms b d) m ++ l)[id]? = some (.box [b, .v (.int .i64 m), .v (.int .i64 d)]) := his_get (set_get c.lt)
  rw [bx_ld h1]; rfl
theorem r_ld2 (c : Ctr h id 1 (ms b d)) : evLoad (ctr h id 1 (ms b d) m ++ l) false 1 (.ptr id 2) = some (.v (.int .i64 d)) := by
  have h1 : (ctr h id 1 (ms b d) m ++ l)[id]? = some (.box [b, .v (.int .i64 m), .v (.int .i64 d)]) := his_get (set_get c.lt)
  rw [bx_ld h1]; rfl
theorem r_st2 (c : Ctr h id 1 (ms b d)) : evStore (ctr h id 1 (ms b d) m ++ l) 1 (.ptr id 2) (.v (.int .i64 d')) = some (ctr h id 1 (ms b d') m ++ l) := by
  have h1 : (ctr h id 1 (ms b d) m ++ l)[id]? = some (.box [b, .v (.int .i64 m), .v (.int .i64 d)]) := his_get (set_get c.lt)
  rw [bx_st (n := 1) (o := 2) (xs := [.v (.int .i64 d')]) h1 cl_int rfl (by simp), his_set (by rw [ctr_len]; exact c.lt)]
  simp [ms_eq, putAt]

/-- what f36 is to be shown to do, d levels below the first -/
def Res36 (rs : List (Int × Tm)) (b : AV) (d : Nat) : Prop := ∀ (h : List AO) (id : Nat) (m : Nat) (t : Tm) (a : AV), Ctr h id 1 (ms b (60 - (d : Int))) → m ≤ 5000 → size t ≤ 100000 → IsT a t →
  match resT rs d m t with
  | .ok (x, m2) => m2 ≤ m ∧ ∃ r, IsT r x ∧ callW F 36 [.ptr id 0, a] (ctr h id 1 (ms b (60 - (d : Int))) m) = some (.tup [r, .v (.int .i64 0)], ctr h id 1 (ms b (60 - (d : Int))) m2)
  | .error e => e ≠ 0 ∧ ∃ (r : AV) (l' d' : Int), IsT r zeroT ∧ callW F 36 [.ptr id 0, a] (ctr h id 1 (ms b (60 - (d : Int))) m) = some (.tup [r, .v (.int .i64 e)], ctr h id 1 (ms b d') l')

def K36 : List Bool := [true, false, true, true, false, false, true, false, false, false, false, false, false, true, true, true, false, false]
def L36 (id B n : Nat) (c : AV) (i : Int) : List AV := [.ptr id 0, .junk, .ptr B 0, .ptr (B + 1) 0, .junk, .junk, .own 4 (B + 2) 0 0 n, .junk, .junk, .junk, .junk, .junk, .junk, c, .v (.int .i64 n), .v (.int .i64 i), .junk, .junk]

theorem res_loop {K : Nat} {c : AV} {es : List AV} {cs0 : List AV} {rs : List (Int × Tm)} (hs : Sl 4 c es) (hm : es.length ≤ 100000) (d : Nat) (hb0 : (AO.box cs0).below 0 = true) (hR : Res36 rs b d) (hC : Ctr h id 1 (ms b (60 - (d : Int)))) :
    ∀ (l : List Tm) (i m : Nat) (ds : List AV) (dl : List Tm) (tail : List AO) (vars : List AV), i + l.length = es.length → ds.length = i → m ≤ 5000 → All2 (es.drop i) l → All2 ds dl → (∀ t ∈ l, size t ≤ 100000) → tail.all (AO.below 0) = true →
      clr K36 vars = L36 id h.length es.length c i →
      match resL (resT rs d) m l with
      | .ok (xs, m2) => m2 ≤ m ∧ ∃ ds' tail' x1 x4 x5 x7 x8 x9 x10 x11 x12 x16 x17, loopN (exec (callW F) K c36_16) K36 (l.length + 1) vars (ctr h id 1 (ms b (60 - (d : Int))) m ++ (.box cs0 :: .box zeroC :: .row 4 0 (ds ++ List.replicate l.length (.agg zeroC)) 0 :: tail)) = some (.exit 1, [.ptr id 0, x1, .ptr h.length 0, .ptr (h.length + 1) 0, x4, x5, .own 4 (h.length + 2) 0 0 es.length, x7, x8, x9, x10, x11, x12, c, .v (.int .i64 es.length), .v (.int .i64 es.length), x16, x17], ctr h id 1 (ms b (60 - (d : Int))) m2 ++ (.box cs0 :: .box zeroC :: .row 4 0 ds' 0 :: tail')) ∧ All2 ds' (dl ++ xs) ∧ ds'.length = es.length
      | .error e => e ≠ 0 ∧ ∃ (l' d' : Int) (o : AO) (tail' : List AO) (vs : List AV), loopN (exec (callW F) K c36_16) K36 (l.length + 1) vars (ctr h id 1 (ms b (60 - (d : Int))) m ++ (.box cs0 :: .box zeroC :: .row 4 0 (ds ++ List.replicate l.length (.agg zeroC)) 0 :: tail)) = some (.ret, vs, ctr h id 1 (ms b d') l' ++ (o :: .box zeroC :: tail')) ∧ getO vs [] (.var 3) = .ptr (h.length + 1) 0 ∧ getO vs [] (.var 4) = .v (.int .i64 e) := by
  intro l
  induction l with
  | nil =>
    intro i m ds dl tail vars hi hds hm5 _ hall hszs htl hv
    have hil : i = es.length := by simpa using hi
    subst hil
    have hlt : decide ((es.length : Int) < (es.length : Int)) = false := by simp
    simp only [resL]
    refine ⟨Nat.le_refl _, ds, tail, .junk, .junk, .junk, .junk, .junk, .junk, .junk, .junk, .junk, .v (.bool false), .junk, loop_exit ?_, by simpa using hall, hds⟩
    rw [hv]
    simp only [L36, c36_16, c36_9, hlt, List.replicate, List.append_nil, e_bslice1, e_bslice2, bs1, bs2, e_build, bdH_some, bd_nil, bd_cons, bd1, cl_agg, cl_int, toL, List.map_cons, List.map_nil, putAt, List.set_cons_zero, List.set_cons_succ, and_self, Nat.le_refl, app_get, app_set, g_agg, run_nil, run_cons, stp_plain, stp_guard, put_some, pass_eq, pick_tt, pick_ff, pick_tf, pick_ft, pick_u, reg_some, thn_normal, thn_exit, thn_ret, cnd_t, cnd_f, blk_normal, blk_ret, blk_exit, x_seq, x_region, x_cond, x_block, x_loop, x_ret, x_exit, x_skip, e_mov, e_pick, pk_t, pk_f, withH_some, e_box, e_load, e_store, stH_some, e_nil, e_bin, e_eqv, eqH_f, eqH_t, e_un, e_fa, e_ia, ia_eq, nat_eq, natV_nat, e_len, lnH_some, e_extract, ex_0, ex_1, e_call0, e_call1, e_call2, e_call3, pc0_eq, pc1_some, pc2_some, pc3_some, fin_some, g_var0, g_vars, g_loc0, g_locs, g_int, g_bool, g_str, g_sl, s_none, s_zero, s_succ, cl_nil, cl_str, cl_bool, cl_slc, cl_own, evFa, evNil, asEl, evBin, intBin, strBin, evUn, len_nil, len_slc, len_str, clr, List.length_nil, List.length_cons, List.getElem?_cons_zero, List.getElem?_cons_succ, Nat.reduceAdd, Nat.zero_add, Nat.add_zero, Nat.reduceLeDiff, Nat.reduceSub, ↓reduceIte, List.drop_succ_cons, List.drop_zero, List.take_succ_cons, List.take_zero, Bool.false_eq_true, List.nil_append, List.cons_append, Bool.not_true, Bool.not_false, cond_true, cond_false, bne, lv_ret, lv_normal, res1, res2, lv2_some, res_var, res_cell, lvf_v, lvf_slc, res1c, lvo1_some, e_mm, mm_max, mm_min]
  | cons t l ih =>
    intro i m ds dl tail vars hi hds hm5 hes hall hszs htl hv
    have hil : i < es.length := by simp at hi; omega
    have he : es[i]? = some (es[i]'hil) := List.getElem?_eq_getElem _
    have hd : es.drop i = es[i] :: es.drop (i + 1) := List.drop_eq_getElem_cons hil
    rw [hd] at hes
    generalize es[i]'hil = e at hes he
    cases hes with
    | cons _ _ _ _ hT hs' =>
    have hlt : (decide ((i : Int) < (es.length : Int))) = true := by simp; omega
    have hlen : (ds ++ List.replicate (t :: l).length (AV.agg zeroC)).length = es.length := by simp at hi ⊢; omega
    have tl2 : (tail ++ [AO.box e.cells]).all (AO.below 0) = true := by
      have := hT.bel
      simp only [List.all_append, List.all_cons, List.all_nil, htl, this, Bool.and_true]
    have hz : (AO.box zeroC).below 0 = true := rfl
    have hrw : ∀ L : List AV, (AO.row 4 0 L 0).below 0 = true := fun _ => rfl
    have hl2 : (.box cs0 :: .box zeroC :: .row 4 0 (ds ++ List.replicate (t :: l).length (.agg zeroC)) 0 :: (tail ++ [AO.box e.cells]) : List AO).all (AO.below 0) = true := by
      simp only [List.all_cons, hb0, hz, hrw, tl2, Bool.and_true]
    have hrec := hR (h ++ (.box cs0 :: .box zeroC :: .row 4 0 (ds ++ List.replicate (t :: l).length (.agg zeroC)) 0 :: (tail ++ [AO.box e.cells]))) id m t e (hC.app0 hl2) hm5 (hszs t (by simp)) hT
    have q1 := hs.ia he
    have q3 : ∀ h : List AO, evLoad h true 4 (.ip e.cells) = some e := fun h => hT.load
    have q4 : e.cl = some e.cells := hT.cl.1
    have q4b : e.cells.length = 4 := hT.cl.2
    have q5 := hT.asEl
    -- up to the call
    have hst : ∀ (q : List AO) (R : List AV), evStore (ctr h id 1 (ms b (60 - (d : Int))) m ++ (.box cs0 :: .box zeroC :: .row 4 0 R 0 :: (tail ++ [AO.box zeroC]))) 4 (.ptr (h.length + (tail.length + 1 + 1 + 1)) 0) e = some (ctr h id 1 (ms b (60 - (d : Int))) m ++ (.box cs0 :: .box zeroC :: .row 4 0 R 0 :: (tail ++ [AO.box e.cells]))) := by
      intro q R
      have hg := hT
      cases hg with
      | mk k s n c2 l2 hc2 =>
      simp only [c_st, stAt, zeroC, AV.cells, e_bslice1, e_bslice2, bs1, bs2, e_build, bdH_some, bd_nil, bd_cons, bd1, cl_agg, cl_int, toL, List.map_cons, List.map_nil, putAt, List.set_cons_zero, List.set_cons_succ, and_self, Nat.le_refl, app_get, app_set, g_agg, run_nil, run_cons, stp_plain, stp_guard, put_some, pass_eq, pick_tt, pick_ff, pick_tf, pick_ft, pick_u, reg_some, thn_normal, thn_exit, thn_ret, cnd_t, cnd_f, blk_normal, blk_ret, blk_exit, x_seq, x_region, x_cond, x_block, x_loop, x_ret, x_exit, x_skip, e_mov, e_pick, pk_t, pk_f, withH_some, e_box, e_load, e_store, stH_some, e_nil, e_bin, e_eqv, eqH_f, eqH_t, e_un, e_fa, e_ia, ia_eq, nat_eq, natV_nat, e_len, lnH_some, e_extract, ex_0, ex_1, e_call0, e_call1, e_call2, e_call3, pc0_eq, pc1_some, pc2_some, pc3_some, fin_some, g_var0, g_vars, g_loc0, g_locs, g_int, g_bool, g_str, g_sl, s_none, s_zero, s_succ, cl_nil, cl_str, cl_bool, cl_slc, cl_own, evFa, evNil, asEl, evBin, intBin, strBin, evUn, len_nil, len_slc, len_str, clr, List.length_nil, List.length_cons, List.getElem?_cons_zero, List.getElem?_cons_succ, Nat.reduceAdd, Nat.zero_add, Nat.add_zero, Nat.reduceLeDiff, Nat.reduceSub, ↓reduceIte, List.drop_succ_cons, List.drop_zero, List.take_succ_cons, List.take_zero, Bool.false_eq_true, List.nil_append, List.cons_append, Bool.not_true, Bool.not_false, cond_true, cond_false, bne, lv_ret, lv_normal, res1, res2, lv2_some, res_var, res_cell, lvf_v, lvf_slc, res1c, lvo1_some, e_mm, mm_max, mm_min]
      rfl
    have hld : ∀ (m : Int) (R : List AV), evLoad (ctr h id 1 (ms b (60 - (d : Int))) m ++ (.box cs0 :: .box zeroC :: .row 4 0 R 0 :: (tail ++ [AO.box e.cells]))) true 4 (.ptr (h.length + (tail.length + 1 + 1 + 1)) 0) = some e := by
      intro m R
      rw [c_ld]
      simp only [ldAt, List.getElem?_cons_succ, app_get, q4b, List.drop_zero, q5]
      rfl
    have hst' := hst []
    simp only [zeroC] at hst' hld
    simp only [resL]
    cases hres : resT rs d m t with
    | error er =>
      rw [hres] at hrec
      obtain ⟨hne, r, l', d', hr, hc⟩ := hrec
      simp only [ctr_app hC.lt] at hc
      refine ⟨hne, l', d', .box cs0, .row 4 0 (ds ++ List.replicate (t :: l).length (.agg zeroC)) 0 :: (tail ++ [AO.box e.cells, .box r.cells]), [.ptr id 0, .junk, .ptr h.length 0, .ptr (h.length + 1) 0, .v (.int .i64 er), .junk, .own 4 (h.length + 2) 0 0 es.length, .v (.int .i64 i), .ptr (h.length + (tail.length + 1 + 1 + 1)) 0, .ptr (h.length + (tail.length + 1 + 1 + 1 + 1)) 0, .v (.int .i64 er), .junk, .junk, c, .v (.int .i64 es.length), .v (.int .i64 i), .v (.bool true), .v (.bool true)], loop_ret ?_, rfl, rfl⟩
      rw [hv]
      have hnb : (er == 0) = false := by simpa using hne
      generalize (ds ++ List.replicate (t :: l).length (AV.agg zeroC)) = R at hc ⊢
      have hst2 : ∀ (m d : Int), evStore (ctr h id 1 (ms b d) m ++ (.box cs0 :: .box zeroC :: .row 4 0 R 0 :: (tail ++ [AO.box e.cells] ++ [AO.box zeroC]))) 4 (.ptr (h.length + (tail.length + 1 + 1 + 1 + 1)) 0) r = some (ctr h id 1 (ms b d) m ++ (.box cs0 :: .box zeroC :: .row 4 0 R 0 :: (tail ++ [AO.box e.cells] ++ [AO.box r.cells]))) := by
        intro m d
        have e1 : tail.length + 1 = (tail ++ [AO.box e.cells]).length := by simp
        have hg := hr
        generalize zeroT = zt at hg
        rw [show tail.length + 1 + 1 + 1 + 1 = (tail ++ [AO.box e.cells]).length + 1 + 1 + 1 by simp]
        generalize tail ++ [AO.box e.cells] = tl
        cases hg with
        | mk k s n c2 l2 hc2 =>
        simp only [c_st, stAt, zeroC, AV.cells, e_bslice1, e_bslice2, bs1, bs2, e_build, bdH_some, bd_nil, bd_cons, bd1, cl_agg, cl_int, toL, List.map_cons, List.map_nil, putAt, List.set_cons_zero, List.set_cons_succ, and_self, Nat.le_refl, app_get, app_set, g_agg, run_nil, run_cons, stp_plain, stp_guard, put_some, pass_eq, pick_tt, pick_ff, pick_tf, pick_ft, pick_u, reg_some, thn_normal, thn_exit, thn_ret, cnd_t, cnd_f, blk_normal, blk_ret, blk_exit, x_seq, x_region, x_cond, x_block, x_loop, x_ret, x_exit, x_skip, e_mov, e_pick, pk_t, pk_f, withH_some, e_box, e_load, e_store, stH_some, e_nil, e_bin, e_eqv, eqH_f, eqH_t, e_un, e_fa, e_ia, ia_eq, nat_eq, natV_nat, e_len, lnH_some, e_extract, ex_0, ex_1, e_call0, e_call1, e_call2, e_call3, pc0_eq, pc1_some, pc2_some, pc3_some, fin_some, g_var0, g_vars, g_loc0, g_locs, g_int, g_bool, g_str, g_sl, s_none, s_zero, s_succ, cl_nil, cl_str, cl_bool, cl_slc, cl_own, evFa, evNil, asEl, evBin, intBin, strBin, evUn, len_nil, len_slc, len_str, clr, List.length_nil, List.length_cons, List.getElem?_cons_zero, List.getElem?_cons_succ, Nat.reduceAdd, Nat.zero_add, Nat.add_zero, Nat.reduceLeDiff, Nat.reduceSub, ↓reduceIte, List.drop_succ_cons, List.drop_zero, List.take_succ_cons, List.take_zero, Bool.false_eq_true, List.nil_append, List.cons_append, Bool.not_true, Bool.not_false, cond_true, cond_false, bne, lv_ret, lv_normal, res1, res2, lv2_some, res_var, res_cell, lvf_v, lvf_slc, res1c, lvo1_some, e_mm, mm_max, mm_min]
        rfl
      simp only [List.append_assoc, zeroC, List.cons_append, List.nil_append] at hst2 hc
      simp only [L36, zeroC, c36_16, c36_9, c36_10, c36_11, c36_12, c36_13, hlt, hnb, q1, q3, hc, hst', hst2, hld, e_callh, q9z, c_ld, c_ld0, c_st, c_st0, c_bx, ldAt, stAt, preH_some, List.append_assoc, List.length_append, e_bslice1, e_bslice2, bs1, bs2, e_build, bdH_some, bd_nil, bd_cons, bd1, cl_agg, cl_int, toL, List.map_cons, List.map_nil, putAt, List.set_cons_zero, List.set_cons_succ, and_self, Nat.le_refl, app_get, app_set, g_agg, run_nil, run_cons, stp_plain, stp_guard, put_some, pass_eq, pick_tt, pick_ff, pick_tf, pick_ft, pick_u, reg_some, thn_normal, thn_exit, thn_ret, cnd_t, cnd_f, blk_normal, blk_ret, blk_exit, x_seq, x_region, x_cond, x_block, x_loop, x_ret, x_exit, x_skip, e_mov, e_pick, pk_t, pk_f, withH_some, e_box, e_load, e_store, stH_some, e_nil, e_bin, e_eqv, eqH_f, eqH_t, e_un, e_fa, e_ia, ia_eq, nat_eq, natV_nat, e_len, lnH_some, e_extract, ex_0, ex_1, e_call0, e_call1, e_call2, e_call3, pc0_eq, pc1_some, pc2_some, pc3_some, fin_some, g_var0, g_vars, g_loc0, g_locs, g_int, g_bool, g_str, g_sl, s_none, s_zero, s_succ, cl_nil, cl_str, cl_bool, cl_slc, cl_own, evFa, evNil, asEl, evBin, intBin, strBin, evUn, len_nil, len_slc, len_str, clr, List.length_nil, List.length_cons, List.getElem?_cons_zero, List.getElem?_cons_succ, Nat.reduceAdd, Nat.zero_add, Nat.add_zero, Nat.reduceLeDiff, Nat.reduceSub, ↓reduceIte, List.drop_succ_cons, List.drop_zero, List.take_succ_cons, List.take_zero, Bool.false_eq_true, List.nil_append, List.cons_append, Bool.not_true, Bool.not_false, cond_true, cond_false, bne, lv_ret, lv_normal, res1, res2, lv2_some, res_var, res_cell, lvf_v, lvf_slc, res1c, lvo1_some, e_mm, mm_max, mm_min]
    | ok q =>
      obtain ⟨x, m1⟩ := q
      rw [hres] at hrec
      obtain ⟨hle, r, hr, hc⟩ := hrec
      simp only [ctr_app hC.lt] at hc
      have tl3 : (tail ++ [AO.box e.cells, AO.box r.cells]).all (AO.below 0) = true := by
        have h1 := hT.bel
        have h2 := hr.bel
        simp only [List.all_append, List.all_cons, List.all_nil, htl, h1, h2, Bool.and_true]
      have row : ∀ tl : List AO, (AO.box cs0 :: .box zeroC :: .row 4 0 (ds ++ List.replicate (t :: l).length (.agg zeroC)) 0 :: tl : List AO)[2]? = some (.row 4 0 (ds ++ List.replicate (t :: l).length (.agg zeroC)) 0) := fun _ => rfl
      have q7 := own_ia (sz := 4) (H := ctr h id 1 (ms b (60 - (d : Int))) m1) ctr_len (row (tail ++ [AO.box e.cells, AO.box r.cells])) (n := es.length) (by omega) hil
      have hel : (ds ++ List.replicate (t :: l).length (AV.agg zeroC))[i]? = some (.agg zeroC) := by
        rw [List.getElem?_append_right (by omega)]
        simp [hds, List.replicate]
      have q8 := own_est (sz := 4) (H := ctr h id 1 (ms b (60 - (d : Int))) m1) ctr_len (row (tail ++ [AO.box e.cells, AO.box r.cells])) hel rfl (x := r) (hr.snap) hr.cl.1 hr.cl.2 hr.cellB
      have hset : (ds ++ List.replicate (t :: l).length (AV.agg zeroC)).set i (AV.agg r.cells) = (ds ++ [r]) ++ List.replicate l.length (AV.agg zeroC) := by
        rw [List.set_append_right _ _ (by omega)]
        have : AV.agg r.cells = r := hr.eta
        rw [this]
        simp [hds, List.replicate]
      rw [hset] at q8
      simp only [List.set_cons_succ, List.set_cons_zero] at q8
      have st : ∀ R R2, R = ds ++ List.replicate (t :: l).length (AV.agg zeroC) → R2 = (ds ++ [r]) ++ List.replicate l.length (AV.agg zeroC) → exec (callW F) K c36_16 (L36 id h.length es.length c i) (ctr h id 1 (ms b (60 - (d : Int))) m ++ (.box cs0 :: .box zeroC :: .row 4 0 R 0 :: tail)) = some (.normal, [.ptr id 0, .junk, .ptr h.length 0, .ptr (h.length + 1) 0, .junk, .junk, .own 4 (h.length + 2) 0 0 es.length, .v (.int .i64 i), .ptr (h.length + (tail.length + 1 + 1 + 1)) 0, .ptr (h.length + (tail.length + 1 + 1 + 1 + 1)) 0, .v (.int .i64 0), .junk, .junk, c, .v (.int .i64 es.length), .v (.int .i64 ((i + 1 : Nat) : Int)), .v (.bool true), .v (.bool false)], ctr h id 1 (ms b (60 - (d : Int))) m1 ++ (.box cs0 :: .box zeroC :: .row 4 0 R2 0 :: (tail ++ [AO.box e.cells, AO.box r.cells]))) := by
        intro R R2 hR hR2
        rw [← hR] at hc q7 q8
        rw [← hR2] at q8
        have hst2 : ∀ (m d : Int), evStore (ctr h id 1 (ms b d) m ++ (.box cs0 :: .box zeroC :: .row 4 0 R 0 :: (tail ++ [AO.box e.cells] ++ [AO.box zeroC]))) 4 (.ptr (h.length + (tail.length + 1 + 1 + 1 + 1)) 0) r = some (ctr h id 1 (ms b d) m ++ (.box cs0 :: .box zeroC :: .row 4 0 R 0 :: (tail ++ [AO.box e.cells] ++ [AO.box r.cells]))) := by
          intro m d
          have hg := hr
          rw [show tail.length + 1 + 1 + 1 + 1 = (tail ++ [AO.box e.cells]).length + 1 + 1 + 1 by simp]
          generalize tail ++ [AO.box e.cells] = tl
          cases hg with
          | mk k s n c2 l2 hc2 =>
          simp only [c_st, stAt, zeroC, AV.cells, e_bslice1, e_bslice2, bs1, bs2, e_build, bdH_some, bd_nil, bd_cons, bd1, cl_agg, cl_int, toL, List.map_cons, List.map_nil, putAt, List.set_cons_zero, List.set_cons_succ, and_self, Nat.le_refl, app_get, app_set, g_agg, run_nil, run_cons, stp_plain, stp_guard, put_some, pass_eq, pick_tt, pick_ff, pick_tf, pick_ft, pick_u, reg_some, thn_normal, thn_exit, thn_ret, cnd_t, cnd_f, blk_normal, blk_ret, blk_exit, x_seq, x_region, x_cond, x_block, x_loop, x_ret, x_exit, x_skip, e_mov, e_pick, pk_t, pk_f, withH_some, e_box, e_load, e_store, stH_some, e_nil, e_bin, e_eqv, eqH_f, eqH_t, e_un, e_fa, e_ia, ia_eq, nat_eq, natV_nat, e_len, lnH_some, e_extract, ex_0, ex_1, e_call0, e_call1, e_call2, e_call3, pc0_eq, pc1_some, pc2_some, pc3_some, fin_some, g_var0, g_vars, g_loc0, g_locs, g_int, g_bool, g_str, g_sl, s_none, s_zero, s_succ, cl_nil, cl_str, cl_bool, cl_slc, cl_own, evFa, evNil, asEl, evBin, intBin, strBin, evUn, len_nil, len_slc, len_str, clr, List.length_nil, List.length_cons, List.getElem?_cons_zero, List.getElem?_cons_succ, Nat.reduceAdd, Nat.zero_add, Nat.add_zero, Nat.reduceLeDiff, Nat.reduceSub, ↓reduceIte, List.drop_succ_cons, List.drop_zero, List.take_succ_cons, List.take_zero, Bool.false_eq_true, List.nil_append, List.cons_append, Bool.not_true, Bool.not_false, cond_true, cond_false, bne, lv_ret, lv_normal, res1, res2, lv2_some, res_var, res_cell, lvf_v, lvf_slc, res1c, lvo1_some, e_mm, mm_max, mm_min]
          rfl
        have hld2 : ∀ (m d : Int), evLoad (ctr h id 1 (ms b d) m ++ (.box cs0 :: .box zeroC :: .row 4 0 R 0 :: (tail ++ [AO.box e.cells] ++ [AO.box r.cells]))) true 4 (.ptr (h.length + (tail.length + 1 + 1 + 1 + 1)) 0) = some r := by
          intro m d
          rw [show tail.length + 1 + 1 + 1 + 1 = (tail ++ [AO.box e.cells]).length + 1 + 1 + 1 by simp]
          generalize tail ++ [AO.box e.cells] = tl
          rw [c_ld]
          simp only [ldAt, List.getElem?_cons_succ, app_get, hr.cl.2, List.drop_zero, hr.asEl]
          rfl
        have hnb : ((0 : Int) == 0) = true := rfl
        simp only [List.append_assoc, zeroC, List.cons_append, List.nil_append] at hst2 hld2 hc q7 q8
        simp only [L36, zeroC, c36_16, c36_9, c36_10, c36_11, c36_12, c36_14, c36_15, hlt, hnb, wrap_succ hil (small_max hm), q1, q3, q7, q8, hc, hst', hst2, hld2, hld, e_callh, q9z, c_ld, c_ld0, c_st, c_st0, c_bx, ldAt, stAt, preH_some, List.append_assoc, List.length_append, e_bslice1, e_bslice2, bs1, bs2, e_build, bdH_some, bd_nil, bd_cons, bd1, cl_agg, cl_int, toL, List.map_cons, List.map_nil, putAt, List.set_cons_zero, List.set_cons_succ, and_self, Nat.le_refl, app_get, app_set, g_agg, run_nil, run_cons, stp_plain, stp_guard, put_some, pass_eq, pick_tt, pick_ff, pick_tf, pick_ft, pick_u, reg_some, thn_normal, thn_exit, thn_ret, cnd_t, cnd_f, blk_normal, blk_ret, blk_exit, x_seq, x_region, x_cond, x_block, x_loop, x_ret, x_exit, x_skip, e_mov, e_pick, pk_t, pk_f, withH_some, e_box, e_load, e_store, stH_some, e_nil, e_bin, e_eqv, eqH_f, eqH_t, e_un, e_fa, e_ia, ia_eq, nat_eq, natV_nat, e_len, lnH_some, e_extract, ex_0, ex_1, e_call0, e_call1, e_call2, e_call3, pc0_eq, pc1_some, pc2_some, pc3_some, fin_some, g_var0, g_vars, g_loc0, g_locs, g_int, g_bool, g_str, g_sl, s_none, s_zero, s_succ, cl_nil, cl_str, cl_bool, cl_slc, cl_own, evFa, evNil, asEl, evBin, intBin, strBin, evUn, len_nil, len_slc, len_str, clr, List.length_nil, List.length_cons, List.getElem?_cons_zero, List.getElem?_cons_succ, Nat.reduceAdd, Nat.zero_add, Nat.add_zero, Nat.reduceLeDiff, Nat.reduceSub, ↓reduceIte, List.drop_succ_cons, List.drop_zero, List.take_succ_cons, List.take_zero, Bool.false_eq_true, List.nil_append, List.cons_append, Bool.not_true, Bool.not_false, cond_true, cond_false, bne, lv_ret, lv_normal, res1, res2, lv2_some, res_var, res_cell, lvf_v, lvf_slc, res1c, lvo1_some, e_mm, mm_max, mm_min]
      have hnext := ih (i + 1) m1 (ds ++ [r]) (dl ++ [x]) (tail ++ [AO.box e.cells, AO.box r.cells]) [.ptr id 0, .junk, .ptr h.length 0, .ptr (h.length + 1) 0, .junk, .junk, .own 4 (h.length + 2) 0 0 es.length, .v (.int .i64 i), .ptr (h.length + (tail.length + 1 + 1 + 1)) 0, .ptr (h.length + (tail.length + 1 + 1 + 1 + 1)) 0, .v (.int .i64 0), .junk, .junk, c, .v (.int .i64 es.length), .v (.int .i64 ((i + 1 : Nat) : Int)), .v (.bool true), .v (.bool false)] (by simp at hi; omega) (by simp [hds]) (by omega) hs' (hall.app (.one hr)) (fun t ht => hszs t (by simp [ht])) tl3 rfl
      have hln : ∀ X, loopN (exec (callW F) K c36_16) K36 ((t :: l).length + 1) vars (ctr h id 1 (ms b (60 - (d : Int))) m ++ (.box cs0 :: .box zeroC :: .row 4 0 (ds ++ List.replicate (t :: l).length (.agg zeroC)) 0 :: tail)) = X ↔ _ = X := fun X => by
        rw [show (t :: l).length + 1 = (l.length + 1) + 1 from rfl, loop_normal (by rw [hv]; exact st _ _ rfl rfl)]
      dsimp only
      cases hrl : resL (resT rs d) m1 l with
      | error er =>
        rw [hrl] at hnext
        obtain ⟨hne, l', d', o, tail', vs, g1, g2, g3⟩ := hnext
        exact ⟨hne, l', d', o, tail', vs, (hln _).2 g1, g2, g3⟩
      | ok q =>
        obtain ⟨xs, m2⟩ := q
        rw [hrl] at hnext
        obtain ⟨hle2, ds', tail', x1, x4, x5, x7, x8, x9, x10, x11, x12, x16, x17, g1, g2, g3⟩ := hnext
        exact ⟨by omega, ds', tail', x1, x4, x5, x7, x8, x9, x10, x11, x12, x16, x17, (hln _).2 g1, by simpa using g2, g3⟩
end
end Go.AE.Ytpgoibncgekflaa
end

/-! The walker of Unify and Compare: its objects. -/
section
set_option linter.unusedVariables false
set_option linter.unusedSimpArgs false
namespace Go.AE.Ytpgoibncgekflaa
open Go Go.AE Go.Proofs.Ytpgoibncgekflaa

/-- two terms, the row of what is to be done, the walker, whatever else -/
def wh (X Y : List AV) (ver : Nat) (L : List AV) (B : AV) (m : Int) (n : Nat) (tl : List AO) : List AO := .box X :: .box Y :: .row 8 ver L 0 :: .box [B, .v (.int .i64 m), .own 8 2 ver 0 n] :: tl
def wb (tl : List AO) : Nat := tl.length + 4
section
variable {X Y : List AV} {ver : Nat} {L : List AV} {B : AV} {m m' : Int} {n : Nat} {tl l : List AO}
theorem wh_len : (wh X Y ver L B m n tl).length = wb tl := rfl
theorem wh_app : wh X Y ver L B m n tl ++ l = wh X Y ver L B m n (tl ++ l) := rfl
theorem w_bx {cs : List AV} : bx (wh X Y ver L B m n tl ++ l) (some cs) = some (.ptr (wb tl + l.length) 0, wh X Y ver L B m n tl ++ (l ++ [.box cs])) := own_bx wh_len
theorem w_ld {a : Bool} {sz k o : Nat} : evLoad (wh X Y ver L B m n tl ++ l) a sz (.ptr (wb tl + k) o) = ldAt l k a sz o := own_ld wh_len
theorem w_ld0 {a : Bool} {sz o : Nat} : evLoad (wh X Y ver L B m n tl ++ l) a sz (.ptr (wb tl) o) = ldAt l 0 a sz o := own_ld0 wh_len
theorem w_st {sz k o : Nat} {x : AV} : evStore (wh X Y ver L B m n tl ++ l) sz (.ptr (wb tl + k) o) x = preH (wh X Y ver L B m n tl) (stAt l sz k o x) := own_st wh_len
theorem w_st0 {sz o : Nat} {x : AV} : evStore (wh X Y ver L B m n tl ++ l) sz (.ptr (wb tl) o) x = preH (wh X Y ver L B m n tl) (stAt l sz 0 o x) := own_st0 wh_len
theorem w_b : evLoad (wh X Y ver L B m n tl ++ l) false 1 (.ptr 3 0) = some B := rfl
theorem w_todo : evLoad (wh X Y ver L B m n tl ++ l) false 1 (.ptr 3 2) = some (.own 8 2 ver 0 n) := rfl
theorem w_fa0 {o : Nat} : evFa (wh X Y ver L B m n tl ++ l) o (.ptr 3 0) = some (.ptr 3 (0 + o)) := rfl
theorem w_cut {n' : Nat} : evStore (wh X Y ver L B m n tl ++ l) 1 (.ptr 3 2) (.own 8 2 ver 0 n') = some (wh X Y ver L B m n' tl ++ l) := rfl
theorem w_row (hn : n ≤ L.length) : rowAt (wh X Y ver L B m n tl ++ l) 8 2 ver n = some (L, 0) := by
  have : (wh X Y ver L B m n tl ++ l)[2]? = some (.row 8 ver L 0) := rfl
  simp [rowAt, this, hn]
theorem w_len (hn : n ≤ L.length) : evLen (wh X Y ver L B m n tl ++ l) .slice (.own 8 2 ver 0 n) = some n := by
  simp [evLen, w_row hn]
theorem w_ia {i : Nat} (hn : n ≤ L.length) (hi : i < n) : iaV (wh X Y ver L B m n tl ++ l) 8 (.own 8 2 ver 0 n) (some i) = some (.ep 8 2 ver i 0) := by
  simp [iaV, w_row hn, hi]
theorem w_el {i : Nat} {cs : List AV} (hn : L[i]? = some (.agg cs)) (hc : cs.length = 8) : evLoad (wh X Y ver L B m n tl ++ l) true 8 (.ep 8 2 ver i 0) = some (.agg cs) := by
  have h1 : (wh X Y ver L B m n tl ++ l)[2]? = some (.row 8 ver L 0) := rfl
  have h2 : i + 1 ≤ L.length := (List.getElem?_eq_some_iff.1 hn).1
  have h3 : cs.take 8 = cs := List.take_of_length_le (by omega)
  simp [evLoad, rowAt, h1, h2, hn, AV.cells, asEl, hc, h3]
theorem e_slice {vars env : List AV} {h : List AO} {call : CallF} {sz : Nat} {x : Opd} {lo hi mx : Option Opd} : evOp call vars env h (.slice sz x lo hi mx) = withH h (evSlice vars env h sz (getO vars env x) lo hi mx) := map_withH
def cutO (ver N : Nat) : Option Nat → Option AV
  | some k => if k ≤ N then some (.own 8 2 ver 0 k) else none
  | none => none
theorem cut_pred {ver N : Nat} : cutO ver (N + 1) (some N) = some (.own 8 2 ver 0 N) := by simp [cutO]
theorem w_sl {vars env : List AV} {y : Opd} {N : Nat} (hn : N ≤ L.length) : evSlice vars env (wh X Y ver L B m N tl ++ l) 8 (.own 8 2 ver 0 N) none (some y) none = cutO ver N (natO vars env y) := by
  simp only [evSlice, Nat.zero_add, w_row hn, bounds, optN, if_true]
  cases natO vars env y with
  | none => rfl
  | some k =>
    simp only [cutO, Option.bind_eq_bind, Option.bind_some, Nat.zero_le, true_and]
    by_cases hk : k ≤ N
    · simp [hk]
    · simp [hk]
theorem w_all {K : Nat} (hX : (AO.box X).below 0 = true) (hY : (AO.box Y).below 0 = true) (hB : B.below0 K = true) (h2 : 2 < K) (ht : tl.all (AO.below 0) = true) : (wh X Y ver L B m n tl).all (AO.below K) = true := by
  have h1 := below_mono (Nat.zero_le K) _ hX
  have h3 := below_mono (Nat.zero_le K) _ hY
  have h4 := all_below_mono (Nat.zero_le K) ht
  have hr : (AO.row 8 ver L 0).below K = true := rfl
  have hb : (AO.box [B, .v (.int .i64 m), .own 8 2 ver 0 n]).below K = true := by
    have : B.below1 K = true := by cases B <;> first | exact hB | (simp [AV.below0] at hB) | skip
                                   rename_i f a b
                                   cases a <;> cases b <;> simp [AV.below0] at hB
                                   rfl
    have h5 : (AV.v (.int .i64 m)).below1 K = true := rfl
    have h6 : (AV.own 8 2 ver 0 n).below1 K = true := by simp [AV.below1, AV.below0, h2]
    simp only [AO.below, List.all_cons, List.all_nil, this, h5, h6, Bool.and_self]
  simp only [wh, List.all_cons, h1, h3, hr, hb, h4, Bool.and_self]
theorem w_ctr (hX : (AO.box X).below 0 = true) (hY : (AO.box Y).below 0 = true) (hB : B.below0 (wb tl) = true) (ht : tl.all (AO.below 0) = true) (hl : l.all (AO.below 0) = true) : Ctr (wh X Y ver L B 0 n tl ++ l) 3 1 [B, .v (.int .i64 0), .own 8 2 ver 0 n] := by
  have hlen : (wh X Y ver L B 0 n tl ++ l).length = wb tl + l.length := by rw [List.length_append, wh_len]
  have h2 : 2 < wb tl + l.length := by unfold wb; omega
  have hB' : B.below0 (wb tl + l.length) = true := below0_mono (Nat.le_add_right _ _) _ hB
  have hB1 : B.below1 (wb tl + l.length) = true := by
    cases B <;> first | exact hB' | (simp [AV.below0] at hB') | skip
    rename_i f a b
    cases a <;> cases b <;> simp [AV.below0] at hB'
    rfl
  refine ⟨by rw [hlen]; unfold wb; omega, by simp, ?_, ?_⟩
  · rw [hlen, List.all_append, Bool.and_eq_true]
    exact ⟨w_all hX hY hB' h2 ht, all_below_mono (Nat.zero_le _) hl⟩
  · rw [hlen]
    have h5 : (AV.v (.int .i64 0)).below1 (wb tl + l.length) = true := rfl
    have h6 : (AV.own 8 2 ver 0 n).below1 (wb tl + l.length) = true := by simp [AV.below1, AV.below0, h2]
    simp only [List.all_cons, List.all_nil, hB1, h5, h6, Bool.and_self]
theorem w_ctr_eq {m : Int} : ctr (wh X Y ver L B 0 n tl ++ l) 3 1 [B, .v (.int .i64 0), .own 8 2 ver 0 n] m = wh X Y ver L B m n tl ++ l := rfl
end
end Go.AE.Ytpgoibncgekflaa
end

/-! The walker's next pair. -/
section
set_option linter.unusedVariables false
set_option linter.unusedSimpArgs false
namespace Go.AE.Ytpgoibncgekflaa
open Go Go.AE Go.Proofs.Ytpgoibncgekflaa

/-- two terms met, the second where the first one could be -/
def nextT (rs : List (Int × Tm)) (m : Nat) (x y : Tm) : Tm × Tm × Int × Nat :=
  if (meetT rs m x).2.1 = 0 then ((meetT rs m x).1, (meetT rs (meetT rs m x).2.2 y).1, (meetT rs (meetT rs m x).2.2 y).2.1, (meetT rs (meetT rs m x).2.2 y).2.2)
  else ((meetT rs m x).1, zeroT, (meetT rs m x).2.1, (meetT rs m x).2.2)
/-- two terms as one element -/
inductive PairOk : AV → Tm × Tm → Prop
  | mk (a b c d a' b' c' d' : AV) (x y : Tm) (hx : IsT (.agg [a, b, c, d]) x) (hy : IsT (.agg [a', b', c', d']) y) : PairOk (.agg [a, b, c, d, a', b', c', d']) (x, y)
def apR (b : Bool) (r : CRun) : CRun := if b = true then r else none
theorem apR_t {r : CRun} : apR true r = r := rfl
theorem x_region_ap {call : CallF} {fuel : Nat} {p : Option Nat × Nat} {ops : List CO} {vars : List AV} {h : List AO} : exec call fuel (.region [] [p] ops) vars h = apR (apB vars p) (reg (run call ops (some ⟨vars, [], h⟩))) := by
  simp only [exec, List.all_cons, List.all_nil, Bool.and_true, apR, List.foldl_nil, ops_run]
  cases run call ops (some ⟨vars, [], h⟩) <;> rfl
theorem ex_2 {h : List AO} {u v w : AV} {vs : List AV} : exH h 2 (.tup (u :: v :: w :: vs)) = some (w, h) := rfl
theorem lvo_three {H l : List AO} {B : Nat} {x y z r s t : AV} (h : x.frz1 B (H ++ l) = some r) (h' : y.frz1 B (H ++ l) = some s) (h'' : z.frz1 B (H ++ l) = some t) : lvo B H l (some [x, y, z]) = some (.tup [r, s, t], H) := by
  simp [lvo, pack, AV.frz2, h, h', h'']
theorem own_res3 {H l : List AO} {vars : List AV} {a b c : CRes} {x y z : AV} (h : resOf vars (H ++ l) a = some x) (h' : resOf vars (H ++ l) b = some y) (h'' : resOf vars (H ++ l) c = some z) : [a, b, c].mapM (resOf vars (H ++ l)) = some [x, y, z] := by
  simp [h, h', h'']
theorem q9p : (ofVal (.agg #[(.int .i64 0), (.string ⟨#[]⟩), (.int .i64 0), (.slice none 0 0), (.int .i64 0), (.string ⟨#[]⟩), (.int .i64 0), (.slice none 0 0)])).cl = some [.v (.int .i64 0), .v (.string ⟨#[]⟩), .v (.int .i64 0), .v (.slice none 0 0), .v (.int .i64 0), .v (.string ⟨#[]⟩), .v (.int .i64 0), .v (.slice none 0 0)] := by simp [ofVal, AV.cl, Value.oneCell']

section
variable {X Y : List AV} {ver : Nat} {L : List AV} {B : AV} {n : Nat} {tl : List AO}
theorem next_ok (hX : (AO.box X).below 0 = true) (hY : (AO.box Y).below 0 = true) (hB : B.below0 (wb tl) = true) (ht : tl.all (AO.below 0) = true)
    {es : List AV} {rs : List (Int × Tm)} (hes : AllB es rs) {B' : AV} (hbs : ∀ (m : Int) (n : Nat) (l : List AO), B.snap1 (wh X Y ver L B m n tl ++ l) = some B') (hlook : ∀ n, callW F 13 [B', .v (.int .i64 n)] [] = some (lookA n es, []))
    {p : AV} {x y : Tm} (hp : PairOk p (x, y)) (hL : L[n]? = some p) {m : Nat} (hm : m ≤ 5000) (hn : n ≤ 1000000000) :
    ∃ rx ry, IsT rx (nextT rs m x y).1 ∧ IsT ry (nextT rs m x y).2.1 ∧ callW F 41 [.ptr 3 0] (wh X Y ver L B m (n + 1) tl) = some (.tup [rx, ry, .v (.int .i64 (nextT rs m x y).2.2.1)], wh X Y ver L B (nextT rs m x y).2.2.2 n tl) := by
  cases hp with
  | mk a b c d a' b' c' d' x y hx hy =>
  have hnl : n + 1 ≤ L.length := (List.getElem?_eq_some_iff.1 hL).1
  have hl3 : ([.box zeroC, .box zeroC, .box [a, b, c, d, a', b', c', d']] : List AO).all (AO.below 0) = true := by
    have h1 := hx.bel
    have h2 := hy.bel
    have hz : (AO.box zeroC).below 0 = true := rfl
    have h3 : (AO.box [a, b, c, d, a', b', c', d']).below 0 = true := by
      simp only [AO.below, AV.cells, List.all_cons, List.all_nil, Bool.and_true, Bool.and_eq_true] at h1 h2 ⊢
      exact ⟨h1.1, h1.2.1, h1.2.2.1, h1.2.2.2, h2⟩
    simp only [List.all_cons, List.all_nil, hz, h3, Bool.and_true]
  have C1 := w_ctr (X := X) (Y := Y) (ver := ver) (L := L) (n := n) hX hY hB ht hl3
  obtain ⟨rc, hrc, hc⟩ := meet_ok C1 hes (b := B) (b' := B') (fun m l => by rw [w_ctr_eq, List.append_assoc]; exact hbs m n _) hlook m hm hx
  rw [w_ctr_eq, w_ctr_eq] at hc
  have hw1 : IntKind.i64.wrap (((n + 1 : Nat) : Int) - 1) = (n : Int) := by rw [wrap_ok (by omega) (by omega)]; omega
  have hall : ∀ m : Int, (wh X Y ver L B m n tl).all (AO.below (wb tl)) = true := fun m => w_all hX hY hB (by unfold wb; omega) ht
  have hres : c41.res = [.cell 1 true 4, .cell 2 true 4, .var 3] := rfl
  have hap : ∀ a0 a3 a4 a5 : AV, apB [a0, .ptr (wb tl) 0, .ptr (wb tl + 1) 0, a3, a4, a5] (some 1, 2) = true := by
    intro a0 a3 a4 a5
    simp [apB]
  have q8 : ∀ l, evLoad (wh X Y ver L B m (n + 1) tl ++ l) true 8 (.ep 8 2 ver n 0) = some (.agg [a, b, c, d, a', b', c', d']) := fun l => w_el hL rfl
  have q7 : ∀ l, iaV (wh X Y ver L B m (n + 1) tl ++ l) 8 (.own 8 2 ver 0 (n + 1)) (some n) = some (.ep 8 2 ver n 0) := fun l => w_ia hnl (by omega)
  have q6 : ∀ l, evLen (wh X Y ver L B m (n + 1) tl ++ l) .slice (.own 8 2 ver 0 (n + 1)) = some (n + 1) := fun l => w_len hnl
  simp only [zeroC] at hc
  have hm2 := meetT_le rs m x
  by_cases h0 : (meetT rs m x).2.1 = 0
  · simp only [nextT, if_pos h0]
    have hl3' : ([.box rc, .box zeroC, .box [a, b, c, d, a', b', c', d']] : List AO).all (AO.below 0) = true := by
      have h1 := hrc.bel
      simp only [List.all_cons, Bool.and_eq_true, AV.cells] at hl3 h1 ⊢
      exact ⟨h1, hl3.2⟩
    have C2 := w_ctr (X := X) (Y := Y) (ver := ver) (L := L) (n := n) hX hY hB ht hl3'
    obtain ⟨rd, hrd, hd⟩ := meet_ok C2 hes (b := B) (b' := B') (fun m l => by rw [w_ctr_eq, List.append_assoc]; exact hbs m n _) hlook (meetT rs m x).2.2 (by omega) hy
    rw [w_ctr_eq, w_ctr_eq] at hd
    simp only [zeroC] at hd
    have z0 : ((0 : Int) == 0) = true := rfl
    refine ⟨.agg rc, .agg rd, hrc, hrd, callW_own (c := c41) rfl rfl 0 ?_⟩
    rw [wh_len]
    generalize meetT rs (meetT rs m x).2.2 y = w' at hd hrd ⊢
    generalize meetT rs m x = w at hrc hc hd h0 ⊢
    obtain ⟨w1, w2, w3⟩ := w
    obtain ⟨v1, v2, v3⟩ := w'
    dsimp only at hrc hc hrd hd h0 ⊢
    subst h0
    have body : exec (callW F) 0 c41.body (start c41 [.ptr 3 0]) (wh X Y ver L B m (n + 1) tl ++ []) = some (.ret, [.ptr 3 0, .ptr (wb tl) 0, .ptr (wb tl + 1) 0, .v (.int .i64 v2), .ptr (wb tl + 2) 0, .v (.bool true)], wh X Y ver L B v3 n tl ++ [.box rc, .box rd, .box [a, b, c, d, a', b', c', d']]) := by
      cases hrc
      cases hrd
      simp only [c41, start, zeroC, List.replicate, c41_0, c41_1, c41_2, c41_3, c41_4, c41_5, c41_6, x_region_ap, hap, apR_t, hw1, hc, hd, z0, q6, q7, q8, w_bx, w_ld, w_ld0, w_st, w_st0, w_b, w_todo, w_cut, w_sl hnl, cut_pred, e_slice, ex_2, e_callh, q9z, q9p, AV.cells, evNil, ldAt, stAt, preH_some, List.append_assoc, e_bslice1, e_bslice2, bs1, bs2, e_build, bdH_some, bd_nil, bd_cons, bd1, cl_agg, cl_int, toL, List.map_cons, List.map_nil, putAt, List.set_cons_zero, List.set_cons_succ, and_self, Nat.le_refl, app_get, app_set, g_agg, run_nil, run_cons, stp_plain, stp_guard, put_some, pass_eq, pick_tt, pick_ff, pick_tf, pick_ft, pick_u, reg_some, thn_normal, thn_exit, thn_ret, cnd_t, cnd_f, blk_normal, blk_ret, blk_exit, x_seq, x_region, x_cond, x_block, x_loop, x_ret, x_exit, x_skip, e_mov, e_pick, pk_t, pk_f, withH_some, e_box, e_load, e_store, stH_some, e_nil, e_bin, e_eqv, eqH_f, eqH_t, e_un, e_fa, e_ia, ia_eq, nat_eq, natV_nat, e_len, lnH_some, e_extract, ex_0, ex_1, e_call0, e_call1, e_call2, e_call3, pc0_eq, pc1_some, pc2_some, pc3_some, fin_some, g_var0, g_vars, g_loc0, g_locs, g_int, g_bool, g_str, g_sl, s_none, s_zero, s_succ, cl_nil, cl_str, cl_bool, cl_slc, cl_own, evFa, evNil, asEl, evBin, intBin, strBin, evUn, len_nil, len_slc, len_str, clr, List.length_nil, List.length_cons, List.getElem?_cons_zero, List.getElem?_cons_succ, Nat.reduceAdd, Nat.zero_add, Nat.add_zero, Nat.reduceLeDiff, Nat.reduceSub, ↓reduceIte, List.drop_succ_cons, List.drop_zero, List.take_succ_cons, List.take_zero, Bool.false_eq_true, List.nil_append, List.cons_append, Bool.not_true, Bool.not_false, cond_true, cond_false, bne, lv_ret, lv_normal, res1, res2, lv2_some, res_var, res_cell, lvf_v, lvf_slc, res1c, lvo1_some, e_mm, mm_max, mm_min]
    rw [body, leave_own wh_len (hall _), hres, own_res3 (x := .agg rc) (y := .agg rd) (z := .v (.int .i64 v2)) _ _ _]
    · exact lvo_three (hrc.frz _ _) (hrd.frz _ _) rfl
    · cases hrc; simp only [res_cell, w_ld, w_ld0, ldAt, e_bslice1, e_bslice2, bs1, bs2, e_build, bdH_some, bd_nil, bd_cons, bd1, cl_agg, cl_int, toL, List.map_cons, List.map_nil, putAt, List.set_cons_zero, List.set_cons_succ, and_self, Nat.le_refl, app_get, app_set, g_agg, run_nil, run_cons, stp_plain, stp_guard, put_some, pass_eq, pick_tt, pick_ff, pick_tf, pick_ft, pick_u, reg_some, thn_normal, thn_exit, thn_ret, cnd_t, cnd_f, blk_normal, blk_ret, blk_exit, x_seq, x_region, x_cond, x_block, x_loop, x_ret, x_exit, x_skip, e_mov, e_pick, pk_t, pk_f, withH_some, e_box, e_load, e_store, stH_some, e_nil, e_bin, e_eqv, eqH_f, eqH_t, e_un, e_fa, e_ia, ia_eq, nat_eq, natV_nat, e_len, lnH_some, e_extract, ex_0, ex_1, e_call0, e_call1, e_call2, e_call3, pc0_eq, pc1_some, pc2_some, pc3_some, fin_some, g_var0, g_vars, g_loc0, g_locs, g_int, g_bool, g_str, g_sl, s_none, s_zero, s_succ, cl_nil, cl_str, cl_bool, cl_slc, cl_own, evFa, evNil, asEl, evBin, intBin, strBin, evUn, len_nil, len_slc, len_str, clr, List.length_nil, List.length_cons, List.getElem?_cons_zero, List.getElem?_cons_succ, Nat.reduceAdd, Nat.zero_add, Nat.add_zero, Nat.reduceLeDiff, Nat.reduceSub, ↓reduceIte, List.drop_succ_cons, List.drop_zero, List.take_succ_cons, List.take_zero, Bool.false_eq_true, List.nil_append, List.cons_append, Bool.not_true, Bool.not_false, cond_true, cond_false, bne, lv_ret, lv_normal, res1, res2, lv2_some, res_var, res_cell, lvf_v, lvf_slc, res1c, lvo1_some, e_mm, mm_max, mm_min]
    · cases hrd; simp only [res_cell, w_ld, w_ld0, ldAt, e_bslice1, e_bslice2, bs1, bs2, e_build, bdH_some, bd_nil, bd_cons, bd1, cl_agg, cl_int, toL, List.map_cons, List.map_nil, putAt, List.set_cons_zero, List.set_cons_succ, and_self, Nat.le_refl, app_get, app_set, g_agg, run_nil, run_cons, stp_plain, stp_guard, put_some, pass_eq, pick_tt, pick_ff, pick_tf, pick_ft, pick_u, reg_some, thn_normal, thn_exit, thn_ret, cnd_t, cnd_f, blk_normal, blk_ret, blk_exit, x_seq, x_region, x_cond, x_block, x_loop, x_ret, x_exit, x_skip, e_mov, e_pick, pk_t, pk_f, withH_some, e_box, e_load, e_store, stH_some, e_nil, e_bin, e_eqv, eqH_f, eqH_t, e_un, e_fa, e_ia, ia_eq, nat_eq, natV_nat, e_len, lnH_some, e_extract, ex_0, ex_1, e_call0, e_call1, e_call2, e_call3, pc0_eq, pc1_some, pc2_some, pc3_some, fin_some, g_var0, g_vars, g_loc0, g_locs, g_int, g_bool, g_str, g_sl, s_none, s_zero, s_succ, cl_nil, cl_str, cl_bool, cl_slc, cl_own, evFa, evNil, asEl, evBin, intBin, strBin, evUn, len_nil, len_slc, len_str, clr, List.length_nil, List.length_cons, List.getElem?_cons_zero, List.getElem?_cons_succ, Nat.reduceAdd, Nat.zero_add, Nat.add_zero, Nat.reduceLeDiff, Nat.reduceSub, ↓reduceIte, List.drop_succ_cons, List.drop_zero, List.take_succ_cons, List.take_zero, Bool.false_eq_true, List.nil_append, List.cons_append, Bool.not_true, Bool.not_false, cond_true, cond_false, bne, lv_ret, lv_normal, res1, res2, lv2_some, res_var, res_cell, lvf_v, lvf_slc, res1c, lvo1_some, e_mm, mm_max, mm_min]
    · rfl
  · simp only [nextT, if_neg h0]
    refine ⟨.agg rc, .agg zeroC, hrc, isT_zero, callW_own (c := c41) rfl rfl 0 ?_⟩
    rw [wh_len]
    generalize meetT rs m x = w at hrc hc h0 ⊢
    obtain ⟨w1, w2, w3⟩ := w
    dsimp only at hrc hc h0 ⊢
    have z0 : (w2 == 0) = false := by simpa using h0
    have body : exec (callW F) 0 c41.body (start c41 [.ptr 3 0]) (wh X Y ver L B m (n + 1) tl ++ []) = some (.ret, [.ptr 3 0, .ptr (wb tl) 0, .ptr (wb tl + 1) 0, .v (.int .i64 w2), .ptr (wb tl + 2) 0, .v (.bool false)], wh X Y ver L B w3 n tl ++ [.box rc, .box zeroC, .box [a, b, c, d, a', b', c', d']]) := by
      cases hrc
      simp only [c41, start, zeroC, List.replicate, c41_0, c41_1, c41_2, c41_3, c41_4, c41_6, x_region_ap, hap, apR_t, hw1, hc, z0, q6, q7, q8, w_bx, w_ld, w_ld0, w_st, w_st0, w_b, w_todo, w_cut, w_sl hnl, cut_pred, e_slice, ex_2, e_callh, q9z, q9p, AV.cells, evNil, ldAt, stAt, preH_some, List.append_assoc, e_bslice1, e_bslice2, bs1, bs2, e_build, bdH_some, bd_nil, bd_cons, bd1, cl_agg, cl_int, toL, List.map_cons, List.map_nil, putAt, List.set_cons_zero, List.set_cons_succ, and_self, Nat.le_refl, app_get, app_set, g_agg, run_nil, run_cons, stp_plain, stp_guard, put_some, pass_eq, pick_tt, pick_ff, pick_tf, pick_ft, pick_u, reg_some, thn_normal, thn_exit, thn_ret, cnd_t, cnd_f, blk_normal, blk_ret, blk_exit, x_seq, x_region, x_cond, x_block, x_loop, x_ret, x_exit, x_skip, e_mov, e_pick, pk_t, pk_f, withH_some, e_box, e_load, e_store, stH_some, e_nil, e_bin, e_eqv, eqH_f, eqH_t, e_un, e_fa, e_ia, ia_eq, nat_eq, natV_nat, e_len, lnH_some, e_extract, ex_0, ex_1, e_call0, e_call1, e_call2, e_call3, pc0_eq, pc1_some, pc2_some, pc3_some, fin_some, g_var0, g_vars, g_loc0, g_locs, g_int, g_bool, g_str, g_sl, s_none, s_zero, s_succ, cl_nil, cl_str, cl_bool, cl_slc, cl_own, evFa, evNil, asEl, evBin, intBin, strBin, evUn, len_nil, len_slc, len_str, clr, List.length_nil, List.length_cons, List.getElem?_cons_zero, List.getElem?_cons_succ, Nat.reduceAdd, Nat.zero_add, Nat.add_zero, Nat.reduceLeDiff, Nat.reduceSub, ↓reduceIte, List.drop_succ_cons, List.drop_zero, List.take_succ_cons, List.take_zero, Bool.false_eq_true, List.nil_append, List.cons_append, Bool.not_true, Bool.not_false, cond_true, cond_false, bne, lv_ret, lv_normal, res1, res2, lv2_some, res_var, res_cell, lvf_v, lvf_slc, res1c, lvo1_some, e_mm, mm_max, mm_min]
    rw [body, leave_own wh_len (hall _), hres, own_res3 (x := .agg rc) (y := .agg zeroC) (z := .v (.int .i64 w2)) _ _ _]
    · exact lvo_three (hrc.frz _ _) (isT_zero.frz _ _) rfl
    · cases hrc; simp only [res_cell, w_ld, w_ld0, ldAt, e_bslice1, e_bslice2, bs1, bs2, e_build, bdH_some, bd_nil, bd_cons, bd1, cl_agg, cl_int, toL, List.map_cons, List.map_nil, putAt, List.set_cons_zero, List.set_cons_succ, and_self, Nat.le_refl, app_get, app_set, g_agg, run_nil, run_cons, stp_plain, stp_guard, put_some, pass_eq, pick_tt, pick_ff, pick_tf, pick_ft, pick_u, reg_some, thn_normal, thn_exit, thn_ret, cnd_t, cnd_f, blk_normal, blk_ret, blk_exit, x_seq, x_region, x_cond, x_block, x_loop, x_ret, x_exit, x_skip, e_mov, e_pick, pk_t, pk_f, withH_some, e_box, e_load, e_store, stH_some, e_nil, e_bin, e_eqv, eqH_f, eqH_t, e_un, e_fa, e_ia, ia_eq, nat_eq, natV_nat, e_len, lnH_some, e_extract, ex_0, ex_1, e_call0, e_call1, e_call2, e_call3, pc0_eq, pc1_some, pc2_some, pc3_some, fin_some, g_var0, g_vars, g_loc0, g_locs, g_int, g_bool, g_str, g_sl, s_none, s_zero, s_succ, cl_nil, cl_str, cl_bool, cl_slc, cl_own, evFa, evNil, asEl, evBin, intBin, strBin, evUn, len_nil, len_slc, len_str, clr, List.length_nil, List.length_cons, List.getElem?_cons_zero, List.getElem?_cons_succ, Nat.reduceAdd, Nat.zero_add, Nat.add_zero, Nat.reduceLeDiff, Nat.reduceSub, ↓reduceIte, List.drop_succ_cons, List.drop_zero, List.take_succ_cons, List.take_zero, Bool.false_eq_true, List.nil_append, List.cons_append, Bool.not_true, Bool.not_false, cond_true, cond_false, bne, lv_ret, lv_normal, res1, res2, lv2_some, res_var, res_cell, lvf_v, lvf_slc, res1c, lvo1_some, e_mm, mm_max, mm_min]
    · simp only [zeroC, res_cell, w_ld, w_ld0, ldAt, e_bslice1, e_bslice2, bs1, bs2, e_build, bdH_some, bd_nil, bd_cons, bd1, cl_agg, cl_int, toL, List.map_cons, List.map_nil, putAt, List.set_cons_zero, List.set_cons_succ, and_self, Nat.le_refl, app_get, app_set, g_agg, run_nil, run_cons, stp_plain, stp_guard, put_some, pass_eq, pick_tt, pick_ff, pick_tf, pick_ft, pick_u, reg_some, thn_normal, thn_exit, thn_ret, cnd_t, cnd_f, blk_normal, blk_ret, blk_exit, x_seq, x_region, x_cond, x_block, x_loop, x_ret, x_exit, x_skip, e_mov, e_pick, pk_t, pk_f, withH_some, e_box, e_load, e_store, stH_some, e_nil, e_bin, e_eqv, eqH_f, eqH_t, e_un, e_fa, e_ia, ia_eq, nat_eq, natV_nat, e_len, lnH_some, e_extract, ex_0, ex_1, e_call0, e_call1, e_call2, e_call3, pc0_eq, pc1_some, pc2_some, pc3_some, fin_some, g_var0, g_vars, g_loc0, g_locs, g_int, g_bool, g_str, g_sl, s_none, s_zero, s_succ, cl_nil, cl_str, cl_bool, cl_slc, cl_own, evFa, evNil, asEl, evBin, intBin, strBin, evUn, len_nil, len_slc, len_str, clr, List.length_nil, List.length_cons, List.getElem?_cons_zero, List.getElem?_cons_succ, Nat.reduceAdd, Nat.zero_add, Nat.add_zero, Nat.reduceLeDiff, Nat.reduceSub, ↓reduceIte, List.drop_succ_cons, List.drop_zero, List.take_succ_cons, List.take_zero, Bool.false_eq_true, List.nil_append, List.cons_append, Bool.not_true, Bool.not_false, cond_true, cond_false, bne, lv_ret, lv_normal, res1, res2, lv2_some, res_var, res_cell, lvf_v, lvf_slc, res1c, lvo1_some, e_mm, mm_max, mm_min]
    · rfl
end
end Go.AE.Ytpgoibncgekflaa
end

/-! The walker: the arguments of two terms wait. -/
section
set_option linter.unusedVariables false
set_option linter.unusedSimpArgs false
namespace Go.AE.Ytpgoibncgekflaa
open Go Go.AE Go.Proofs.Ytpgoibncgekflaa

inductive AllP : List AV → List (Tm × Tm) → Prop
  | nil : AllP [] []
  | cons (a : AV) (p : Tm × Tm) (es : List AV) (ps : List (Tm × Tm)) (h : PairOk a p) (hs : AllP es ps) : AllP (a :: es) (p :: ps)
theorem AllP.app {es es' : List AV} {l l' : List (Tm × Tm)} (h : AllP es l) (h' : AllP es' l') : AllP (es ++ es') (l ++ l') := by
  induction h with
  | nil => exact h'
  | cons a p es ps h hs ih => exact .cons a p _ _ h ih
theorem AllP.len {es : List AV} {l : List (Tm × Tm)} (h : AllP es l) : es.length = l.length := by
  induction h with
  | nil => rfl
  | cons a p es ps h hs ih => simp [ih]

theorem leave_own_n {H l : List AO} {B : Nat} {c : CFun} {vars : List AV} (hB : H.length = B) (hb : H.all (AO.below B) = true) : leave B c (some (.normal, vars, H ++ l)) = lvo B H l (c.res.mapM (resOf vars (H ++ l))) := leave_own hB hb
/-- a row of one element -/
def br1 (h : List AO) (sz : Nat) : Option AV → Option (AV × List AO)
  | some y => match y.cl with
    | some ys => if ys.length = sz then some (.own sz h.length 0 0 1, h ++ [.row sz 0 [y] 0]) else none
    | none => none
  | none => none
theorem e_brow1 {call : CallF} {vars env : List AV} {h : List AO} {sz : Nat} {zero : List Value} {x : Opd} : evOp call vars env h (.brow sz zero 1 [(0, x)]) = br1 h sz ((getO vars env x).snap1 h) := by
  simp only [evOp, evElems]
  cases (getO vars env x).snap1 h with
  | none => rfl
  | some y =>
    simp only [Option.bind_some, br1]
    cases y.cl with
    | none => rfl
    | some ys =>
      simp only [Option.map_some, List.length_replicate, Nat.lt_one_iff, and_true]
      by_cases hl : ys.length = sz
      · simp [hl]
      · simp [hl]
def wi (X Y : List AV) (ver : Nat) (L : List AV) (B : AV) (m : Int) (ver' n : Nat) (tl : List AO) : List AO := .box X :: .box Y :: .row 8 ver L 0 :: .box [B, .v (.int .i64 m), .own 8 2 ver' 0 n] :: tl
section
variable {X Y : List AV} {ver : Nat} {L : List AV} {B : AV} {m m' : Int} {n : Nat} {tl l : List AO}
theorem wi_cut {ver' n' : Nat} : evStore (wi X Y ver L B m ver' n tl ++ l) 1 (.ptr 3 2) (.own 8 2 ver 0 n') = some (wh X Y ver L B m n' tl ++ l) := rfl
theorem w_br {p : AV} {ps : List AV} (hp : p.cl = some ps) (hl : ps.length = 8) : br1 (wh X Y ver L B m n tl ++ l) 8 (some p) = some (.own 8 (wb tl + l.length) 0 0 1, wh X Y ver L B m n tl ++ (l ++ [.row 8 0 [p] 0])) := by
  simp only [br1, hp, hl, if_true, List.length_append, wh_len, List.append_assoc]
theorem w_push {p : AV} (hn : n ≤ L.length) (hf : n ≤ 1000000000) : evAppend (wh X Y ver L B m n tl ++ (l ++ [.row 8 0 [p] 0])) 8 112 (.own 8 2 ver 0 n) (.own 8 (wb tl + l.length) 0 0 1) = some (.own 8 2 (ver + 1) 0 (n + 1), wi X Y (ver + 1) (L.take n ++ [p]) B m ver n tl ++ (l ++ [.row 8 0 [p] 0])) := by
  have h1 : (wh X Y ver L B m n tl ++ (l ++ [.row 8 0 [p] 0]))[wb tl + l.length]? = some (.row 8 0 [p] 0) := by
    rw [obj_get wh_len]; simp
  have h2 := w_row (X := X) (Y := Y) (ver := ver) (B := B) (m := m) (tl := tl) (l := l ++ [.row 8 0 [p] 0]) hn
  have h3 : fits (n + 1) 112 = true := by
    have : room = 140737488355328 := rfl
    simp only [fits, decide_eq_true_eq]; omega
  have h4 : elemsOf (wh X Y ver L B m n tl ++ (l ++ [.row 8 0 [p] 0])) 8 (.own 8 (wb tl + l.length) 0 0 1) = some [p] := by
    simp [elemsOf, rowAt, h1]
  simp only [evAppend, h4, Nat.zero_add, h2, Nat.zero_le, if_true, List.length_cons, List.length_nil, h3, List.drop_zero, Nat.zero_sub]
  rfl

def K39 : List Bool := [true, false, false, true, true, true, false]
def L39 (tl : List AO) (i : Int) : List AV := [.ptr 3 0, .junk, .junk, .ptr (wb tl) 0, .ptr (wb tl + 1) 0, .v (.int .i64 i), .junk]
theorem within_loop {K : Nat} {c c' : AV} {es es' : List AV} {T T' : List Tm} {k1 k2 k3 k1' k2' k3' : AV} (hs : Sl 4 c es) (hs' : Sl 4 c' es') (ht : All2 es T) (ht' : All2 es' T') (hlen : es.length = es'.length) (hm : es.length ≤ 100000) :
    ∀ (j : Nat) (ver : Nat) (L : List AV) (n : Nat) (tail : List AO) (vars : List AV), j ≤ es.length → n ≤ L.length → n + j ≤ 1000000000 → clr K39 vars = L39 tl ((j : Int) - 1) →
      ∃ ver' L' tail' vs ps, loopN (exec (callW F) K c43_5) K39 (j + 1) vars (wh X Y ver L B m n tl ++ (.box [k1, k2, k3, c] :: .box [k1', k2', k3', c'] :: tail)) = some (.exit 0, vs, wh X Y ver' L' B m (n + j) tl ++ (.box [k1, k2, k3, c] :: .box [k1', k2', k3', c'] :: tail')) ∧ n + j ≤ L'.length ∧ (L'.take (n + j)).reverse = ps ++ (L.take n).reverse ∧ AllP ps ((T.zip T').take j) := by
  intro j
  induction j with
  | zero =>
    intro ver L n tail vars hj hn hnj hv
    have hge : decide ((((0 : Nat) : Int) - 1) ≥ 0) = false := rfl
    refine ⟨ver, L, tail, [.ptr 3 0, .junk, .junk, .ptr (wb tl) 0, .ptr (wb tl + 1) 0, .v (.int .i64 (((0 : Nat) : Int) - 1)), .v (.bool false)], [], loop_exit ?_, hn, rfl, .nil⟩
    rw [hv]
    simp only [L39, c43_5, c43_2, hge, e_bslice1, e_bslice2, bs1, bs2, e_build, bdH_some, bd_nil, bd_cons, bd1, cl_agg, cl_int, toL, List.map_cons, List.map_nil, putAt, List.set_cons_zero, List.set_cons_succ, and_self, Nat.le_refl, app_get, app_set, g_agg, run_nil, run_cons, stp_plain, stp_guard, put_some, pass_eq, pick_tt, pick_ff, pick_tf, pick_ft, pick_u, reg_some, thn_normal, thn_exit, thn_ret, cnd_t, cnd_f, blk_normal, blk_ret, blk_exit, x_seq, x_region, x_cond, x_block, x_loop, x_ret, x_exit, x_skip, e_mov, e_pick, pk_t, pk_f, withH_some, e_box, e_load, e_store, stH_some, e_nil, e_bin, e_eqv, eqH_f, eqH_t, e_un, e_fa, e_ia, ia_eq, nat_eq, natV_nat, e_len, lnH_some, e_extract, ex_0, ex_1, e_call0, e_call1, e_call2, e_call3, pc0_eq, pc1_some, pc2_some, pc3_some, fin_some, g_var0, g_vars, g_loc0, g_locs, g_int, g_bool, g_str, g_sl, s_none, s_zero, s_succ, cl_nil, cl_str, cl_bool, cl_slc, cl_own, evFa, evNil, asEl, evBin, intBin, strBin, evUn, len_nil, len_slc, len_str, clr, List.length_nil, List.length_cons, List.getElem?_cons_zero, List.getElem?_cons_succ, Nat.reduceAdd, Nat.zero_add, Nat.add_zero, Nat.reduceLeDiff, Nat.reduceSub, ↓reduceIte, List.drop_succ_cons, List.drop_zero, List.take_succ_cons, List.take_zero, Bool.false_eq_true, List.nil_append, List.cons_append, Bool.not_true, Bool.not_false, cond_true, cond_false, bne, lv_ret, lv_normal, res1, res2, lv2_some, res_var, res_cell, lvf_v, lvf_slc, res1c, lvo1_some, e_mm, mm_max, mm_min]
  | succ j ih =>
    intro ver L n tail vars hj hn hnj hv
    have e1 : (((j + 1 : Nat) : Int) - 1) = (j : Int) := by omega
    rw [e1] at hv
    have hge : decide ((j : Int) ≥ 0) = true := by simp
    have hw : IntKind.i64.wrap ((j : Int) - 1) = (j : Int) - 1 := by rw [IntWalk.i64_in]; omega
    obtain ⟨e, he⟩ : ∃ e, es[j]? = some e := ⟨_, List.getElem?_eq_getElem (by omega)⟩
    obtain ⟨e', he'⟩ : ∃ e, es'[j]? = some e := ⟨_, List.getElem?_eq_getElem (by omega)⟩
    obtain ⟨t, hT, hIs⟩ := ht.get he
    obtain ⟨t', hT', hIs'⟩ := ht'.get he'
    have q1 := hs.ia he
    have q2 := hs'.ia he'
    have q3 : ∀ h : List AO, evLoad h true 4 (.ip e.cells) = some e := fun h => hIs.load
    have q4 : ∀ h : List AO, evLoad h true 4 (.ip e'.cells) = some e' := fun h => hIs'.load
    have hpair : ∃ p ps, PairOk p (t, t') ∧ p.cl = some ps ∧ ps.length = 8 ∧ exec (callW F) K c43_5 (L39 tl (j : Int)) (wh X Y ver L B m n tl ++ (.box [k1, k2, k3, c] :: .box [k1', k2', k3', c'] :: tail)) = some (.normal, [.ptr 3 0, .junk, .junk, .ptr (wb tl) 0, .ptr (wb tl + 1) 0, .v (.int .i64 ((j : Int) - 1)), .v (.bool true)], wh X Y (ver + 1) (L.take n ++ [p]) B m (n + 1) tl ++ (.box [k1, k2, k3, c] :: .box [k1', k2', k3', c'] :: (tail ++ [.row 8 0 [p] 0]))) := by
      cases hIs with
      | mk a1 a2 a3 a4 la hla =>
      cases hIs' with
      | mk b1 b2 b3 b4 lb hlb =>
      refine ⟨.agg [.v (.int .i64 a1), .v (.string a2), .v (.int .i64 a3), a4, .v (.int .i64 b1), .v (.string b2), .v (.int .i64 b3), b4], _, .mk _ _ _ _ _ _ _ _ _ _ (.mk _ _ _ _ _ hla) (.mk _ _ _ _ _ hlb), rfl, rfl, ?_⟩
      have sn : ∀ h : List AO, (AV.agg [.v (.int .i64 a1), .v (.string a2), .v (.int .i64 a3), a4, .v (.int .i64 b1), .v (.string b2), .v (.int .i64 b3), b4]).snap1 h = some (.agg [.v (.int .i64 a1), .v (.string a2), .v (.int .i64 a3), a4, .v (.int .i64 b1), .v (.string b2), .v (.int .i64 b3), b4]) := by
        intro h
        cases hla <;> cases hlb <;> rfl
      have hbr := w_br (X := X) (Y := Y) (ver := ver) (L := L) (B := B) (m := m) (n := n) (tl := tl) (l := (.box [k1, k2, k3, c] :: .box [k1', k2', k3', c'] :: tail)) (p := .agg [.v (.int .i64 a1), .v (.string a2), .v (.int .i64 a3), a4, .v (.int .i64 b1), .v (.string b2), .v (.int .i64 b3), b4]) rfl rfl
      have hpu := w_push (X := X) (Y := Y) (ver := ver) (L := L) (B := B) (m := m) (n := n) (tl := tl) (l := (.box [k1, k2, k3, c] :: .box [k1', k2', k3', c'] :: tail)) (p := .agg [.v (.int .i64 a1), .v (.string a2), .v (.int .i64 a3), a4, .v (.int .i64 b1), .v (.string b2), .v (.int .i64 b3), b4]) hn (by omega)
      simp only [List.length_cons] at hbr hpu
      simp only [List.cons_append] at hbr hpu
      simp only [AV.cells] at q1 q2 q3 q4
      simp only [L39, c43_5, c43_2, c43_3, c43_4, hge, hw, q1, q2, q3, q4, sn, hbr, hpu, e_brow1, e_append, w_ld, w_ld0, w_todo, wi_cut, e_callh, AV.cells, evNil, ldAt, e_bslice1, e_bslice2, bs1, bs2, e_build, bdH_some, bd_nil, bd_cons, bd1, cl_agg, cl_int, toL, List.map_cons, List.map_nil, putAt, List.set_cons_zero, List.set_cons_succ, and_self, Nat.le_refl, app_get, app_set, g_agg, run_nil, run_cons, stp_plain, stp_guard, put_some, pass_eq, pick_tt, pick_ff, pick_tf, pick_ft, pick_u, reg_some, thn_normal, thn_exit, thn_ret, cnd_t, cnd_f, blk_normal, blk_ret, blk_exit, x_seq, x_region, x_cond, x_block, x_loop, x_ret, x_exit, x_skip, e_mov, e_pick, pk_t, pk_f, withH_some, e_box, e_load, e_store, stH_some, e_nil, e_bin, e_eqv, eqH_f, eqH_t, e_un, e_fa, e_ia, ia_eq, nat_eq, natV_nat, e_len, lnH_some, e_extract, ex_0, ex_1, e_call0, e_call1, e_call2, e_call3, pc0_eq, pc1_some, pc2_some, pc3_some, fin_some, g_var0, g_vars, g_loc0, g_locs, g_int, g_bool, g_str, g_sl, s_none, s_zero, s_succ, cl_nil, cl_str, cl_bool, cl_slc, cl_own, evFa, evNil, asEl, evBin, intBin, strBin, evUn, len_nil, len_slc, len_str, clr, List.length_nil, List.length_cons, List.getElem?_cons_zero, List.getElem?_cons_succ, Nat.reduceAdd, Nat.zero_add, Nat.add_zero, Nat.reduceLeDiff, Nat.reduceSub, ↓reduceIte, List.drop_succ_cons, List.drop_zero, List.take_succ_cons, List.take_zero, Bool.false_eq_true, List.nil_append, List.cons_append, Bool.not_true, Bool.not_false, cond_true, cond_false, bne, lv_ret, lv_normal, res1, res2, lv2_some, res_var, res_cell, lvf_v, lvf_slc, res1c, lvo1_some, e_mm, mm_max, mm_min]
    obtain ⟨p, ps, hp, hpc, hpl, st⟩ := hpair
    rw [loop_normal (by rw [hv]; exact st)]
    obtain ⟨ver', L', tail', vs, qs, g1, g2, g3, g4⟩ := ih (ver + 1) (L.take n ++ [p]) (n + 1) (tail ++ [.row 8 0 [p] 0]) [.ptr 3 0, .junk, .junk, .ptr (wb tl) 0, .ptr (wb tl + 1) 0, .v (.int .i64 ((j : Int) - 1)), .v (.bool true)] (by omega) (by simp; omega) (by omega) rfl
    refine ⟨ver', L', tail', vs, qs ++ [p], ?_, by omega, ?_, ?_⟩
    · rw [g1, show n + (j + 1) = n + 1 + j by omega]
    · rw [show n + (j + 1) = n + 1 + j by omega, g3, List.take_of_length_le (by simp; omega)]
      simp
    · rw [List.take_add_one]
      have : (T.zip T')[j]? = some (t, t') := by simp [List.getElem?_zip_eq_some, hT, hT']
      rw [this]
      exact g4.app (.cons _ _ _ _ hp .nil)

theorem within_ok (hX : (AO.box X).below 0 = true) (hY : (AO.box Y).below 0 = true) (hB : B.below0 (wb tl) = true) (ht : tl.all (AO.below 0) = true)
    {a b : AV} {k k' n1 n1' : Int} {s s' : ByteArray} {T T' : List Tm} (ha : IsT a (.mk k s n1 T)) (hb : IsT b (.mk k' s' n1' T')) (hlen : T.length = T'.length) (hm : T.length ≤ 100000) (hn : n ≤ L.length) (hnj : n + T.length ≤ 1000000000) :
    ∃ ver' L' ps, callW F 43 [.ptr 3 0, a, b] (wh X Y ver L B m n tl) = some (.tup [], wh X Y ver' L' B m (n + T.length) tl) ∧ n + T.length ≤ L'.length ∧ (L'.take (n + T.length)).reverse = ps ++ (L.take n).reverse ∧ AllP ps (T.zip T') := by
  cases ha with
  | mk k s n1 c T hc =>
  cases hb with
  | mk k' s' n1' c' T' hc' =>
  obtain ⟨es, hs, hes, hmx⟩ := hc.sl
  obtain ⟨es', hs', hes', hmx'⟩ := hc'.sl
  have e1 := hes.length
  have e2 := hes'.length
  obtain ⟨ver', L', tail', vs, ps, g1, g2, g3, g4⟩ := within_loop (K := es.length + 1) (X := X) (Y := Y) (B := B) (m := m) (tl := tl) (k1 := .v (.int .i64 k)) (k2 := .v (.string s)) (k3 := .v (.int .i64 n1)) (k1' := .v (.int .i64 k')) (k2' := .v (.string s')) (k3' := .v (.int .i64 n1')) hs hs' hes hes' (by omega) (by omega) es.length ver L n [] (L39 tl ((es.length : Int) - 1)) (Nat.le_refl _) hn (by omega) rfl
  rw [List.take_of_length_le (by simp; omega)] at g4
  refine ⟨ver', L', ps, callW_own (c := c43) rfl rfl (es.length + 1) ?_, by omega, by rw [← e1]; exact g3, g4⟩
  have hw : IntKind.i64.wrap ((es.length : Int) - 1) = (es.length : Int) - 1 := by rw [IntWalk.i64_in]; omega
  have hl := hs.len
  have body : exec (callW F) (es.length + 1) c43.body (start c43 [.ptr 3 0, .agg [.v (.int .i64 k), .v (.string s), .v (.int .i64 n1), c], .agg [.v (.int .i64 k'), .v (.string s'), .v (.int .i64 n1'), c']]) (wh X Y ver L B m n tl ++ []) = blk 0 (loopN (exec (callW F) (es.length + 1) c43_5) K39 (es.length + 1) (L39 tl ((es.length : Int) - 1)) (wh X Y ver L B m n tl ++ (.box [.v (.int .i64 k), .v (.string s), .v (.int .i64 n1), c] :: .box [.v (.int .i64 k'), .v (.string s'), .v (.int .i64 n1'), c'] :: []))) := by
    show exec (callW F) (es.length + 1) (.seq (.region [] [] c43_0) (.seq (.region [] [] c43_1) (.block 0 (.loop K39 [] c43_5)))) _ _ = _
    simp only [c43, start, List.replicate, c43_0, c43_1, hw, hl, w_bx, w_ld, w_ld0, AV.cells, evNil, ldAt, e_bslice1, e_bslice2, bs1, bs2, e_build, bdH_some, bd_nil, bd_cons, bd1, cl_agg, cl_int, toL, List.map_cons, List.map_nil, putAt, List.set_cons_zero, List.set_cons_succ, and_self, Nat.le_refl, app_get, app_set, g_agg, run_nil, run_cons, stp_plain, stp_guard, put_some, pass_eq, pick_tt, pick_ff, pick_tf, pick_ft, pick_u, reg_some, thn_normal, thn_exit, thn_ret, cnd_t, cnd_f, blk_normal, blk_ret, blk_exit, x_seq, x_region, x_cond, x_block, x_loop, x_ret, x_exit, x_skip, e_mov, e_pick, pk_t, pk_f, withH_some, e_box, e_load, e_store, stH_some, e_nil, e_bin, e_eqv, eqH_f, eqH_t, e_un, e_fa, e_ia, ia_eq, nat_eq, natV_nat, e_len, lnH_some, e_extract, ex_0, ex_1, e_call0, e_call1, e_call2, e_call3, pc0_eq, pc1_some, pc2_some, pc3_some, fin_some, g_var0, g_vars, g_loc0, g_locs, g_int, g_bool, g_str, g_sl, s_none, s_zero, s_succ, cl_nil, cl_str, cl_bool, cl_slc, cl_own, evFa, evNil, asEl, evBin, intBin, strBin, evUn, len_nil, len_slc, len_str, clr, List.length_nil, List.length_cons, List.getElem?_cons_zero, List.getElem?_cons_succ, Nat.reduceAdd, Nat.zero_add, Nat.add_zero, Nat.reduceLeDiff, Nat.reduceSub, ↓reduceIte, List.drop_succ_cons, List.drop_zero, List.take_succ_cons, List.take_zero, Bool.false_eq_true, List.nil_append, List.cons_append, Bool.not_true, Bool.not_false, cond_true, cond_false, bne, lv_ret, lv_normal, res1, res2, lv2_some, res_var, res_cell, lvf_v, lvf_slc, res1c, lvo1_some, e_mm, mm_max, mm_min]
    rw [loop_cong (v2 := L39 tl ((es.length : Int) - 1)) (by rfl)]
  rw [wh_len, body, g1, blk_exit]
  have hres : c43.res = [] := rfl
  rw [leave_own_n wh_len (w_all hX hY hB (by unfold wb; omega) ht), hres, e1]
  rfl
end
end Go.AE.Ytpgoibncgekflaa
end

/-! The walker's bindings: fixed, one more, cloned. -/
section
set_option linter.unusedVariables false
set_option linter.unusedSimpArgs false
namespace Go.AE.Ytpgoibncgekflaa
open Go Go.AE Go.Proofs.Ytpgoibncgekflaa

/-- a slice that isn't nil, if it is without elements -/
def NN : AV → Prop
  | .slc _ _ nn es => nn = true ∨ es ≠ []
  | _ => True
/-- the walker's bindings -/
inductive Bs (tl : List AO) : AV → List (Int × Tm) → Prop
  | nil : Bs tl (.v (.slice none 0 0)) []
  | slc (nn : Bool) (es : List AV) (bs : List (Int × Tm)) (h : AllB es bs) (hb : es.length ≤ maxLen) (hn : nn = true ∨ es ≠ []) : Bs tl (.slc 5 true nn es) bs
  | own (id ver k : Nat) (es : List AV) (bs : List (Int × Tm)) (hr : tl[id]? = some (.row 5 ver es k)) (hk : k ≤ es.length) (hne : es ≠ []) (hb : es.length ≤ maxLen) (h : AllB es bs) : Bs tl (.own 5 (id + 4) ver 0 es.length) bs
theorem AllB.append' {es es' : List AV} {l l' : List (Int × Tm)} (h : AllB es l) (h' : AllB es' l') : AllB (es ++ es') (l ++ l') := by
  induction h with
  | nil => exact h'
  | cons a v t es bs h hs ih => exact .cons a v t _ _ h ih
section
variable {tl : List AO} {B : AV} {bs : List (Int × Tm)}
theorem Bs.bel (h : Bs tl B bs) : B.below0 (wb tl) = true := by
  cases h with
  | nil => rfl
  | slc nn es bs h hb hn => rfl
  | own id ver k es bs hr hk hne hb h =>
    have : id < tl.length := (List.getElem?_eq_some_iff.1 hr).1
    show decide (id + 4 < tl.length + 4) = true
    rw [decide_eq_true_eq]; omega
theorem Bs.app (h : Bs tl B bs) (l : List AO) : Bs (tl ++ l) B bs := by
  cases h with
  | nil => exact .nil
  | slc nn es bs h hb hn => exact .slc nn es bs h hb hn
  | own id ver k es bs hr hk hne hb h => exact .own id ver k es bs (his_get hr) hk hne hb h
theorem wh_get {X Y : List AV} {ver : Nat} {L : List AV} {B : AV} {m : Int} {n : Nat} {l : List AO} {id : Nat} {o : AO} (h : tl[id]? = some o) : (wh X Y ver L B m n tl ++ l)[id + 4]? = some o := his_get (h := wh X Y ver L B m n tl) h
theorem wh_set {X Y : List AV} {ver : Nat} {L : List AV} {B : AV} {m : Int} {n : Nat} {id : Nat} {o : AO} : (wh X Y ver L B m n tl).set (id + 4) o = wh X Y ver L B m n (tl.set id o) := rfl
theorem Bs.fix (h : Bs tl B bs) : ∃ tl', (∀ (X Y : List AV) (ver : Nat) (L : List AV) (B0 : AV) (m : Int) (n : Nat), raise0 (wh X Y ver L B0 m n tl) B = wh X Y ver L B0 m n tl') ∧ Bs tl' B bs ∧ (tl.all (AO.below 0) = true → tl'.all (AO.below 0) = true) ∧
    ∃ B', (∀ (X Y : List AV) (ver : Nat) (L : List AV) (B0 : AV) (m : Int) (n : Nat) (l : List AO), B.snap1 (wh X Y ver L B0 m n tl' ++ l) = some B') ∧ IsB B' bs ∧ NN B' := by
  cases h with
  | nil => exact ⟨tl, fun _ _ _ _ _ _ _ => rfl, .nil, id, _, fun _ _ _ _ _ _ _ _ => rfl, .nil, trivial⟩
  | slc nn es bs h hb hn => exact ⟨tl, fun _ _ _ _ _ _ _ => rfl, .slc nn es bs h hb hn, id, _, fun _ _ _ _ _ _ _ _ => rfl, .slc true nn es bs h hb, hn⟩
  | own id ver k es bs hr hk hne hb h =>
    have hlt : id < tl.length := (List.getElem?_eq_some_iff.1 hr).1
    have hg : (tl.set id (.row 5 ver es es.length))[id]? = some (.row 5 ver es es.length) := by simp [hlt]
    refine ⟨tl.set id (.row 5 ver es es.length), fun X Y ver' L B0 m n => ?_, .own id ver es.length es bs hg (Nat.le_refl _) hne hb h, fun ht => ?_, .slc 5 false false es, fun X Y ver' L B0 m n l => ?_, .slc _ _ _ _ h hb, .inr hne⟩
    · have := wh_get (X := X) (Y := Y) (ver := ver') (L := L) (B := B0) (m := m) (n := n) (l := []) hr
      rw [List.append_nil] at this
      simp only [raise0, raise, rowAt, this, Nat.zero_add, and_self, true_and, Nat.le_refl, if_true, Nat.max_eq_right hk, wh_set]
    · simp only [List.all_eq_true] at ht ⊢
      intro o ho
      rcases List.mem_or_eq_of_mem_set ho with h1 | h1
      · exact ht o h1
      · subst h1; rfl
    · have := wh_get (X := X) (Y := Y) (ver := ver') (L := L) (B := B0) (m := m) (n := n) (l := l) hg
      simp only [AV.snap1, AV.snap0, rowAt, this, Nat.zero_add, and_self, true_and, Nat.le_refl, if_true, List.drop_zero, List.take_length]
theorem Bs.add (h : Bs tl B bs) (hn : bs.length ≤ 1000000) {e : AV} {v : Int} {t : Tm} (he : IsBd e v t) : ∃ i ver N tl2, (∀ (X Y : List AV) (ver' : Nat) (L : List AV) (B0 : AV) (m : Int) (n : Nat), evAppend (wh X Y ver' L B0 m n tl) 5 64 B (.slc 5 true true [e]) = some (.own 5 i ver 0 N, wh X Y ver' L B0 m n tl2)) ∧ Bs tl2 (.own 5 i ver 0 N) (bs ++ [(v, t)]) ∧ (tl.all (AO.below 0) = true → tl2.all (AO.below 0) = true) := by
  have ft : ∀ n, n ≤ 1000000 → fits (n + 1) 64 = true := by
    intro n hn
    have : room = 140737488355328 := rfl
    simp only [fits, decide_eq_true_eq]; omega
  have hmx : maxLen = 9223372036854775807 := rfl
  cases h with
  | nil =>
    refine ⟨tl.length + 4, 0, 1, tl ++ [.row 5 0 [e] 0], fun X Y ver' L B0 m n => ?_, .own tl.length 0 0 [e] _ (by simp) (Nat.zero_le _) (by simp) (by simp [hmx]) (.cons _ _ _ _ _ he .nil), fun ht => ?_⟩
    · simp only [evAppend, elemsOf, if_true, List.length_cons, List.length_nil, ft 0 (by omega), Nat.zero_add]
      rfl
    · simp only [List.all_append, ht, List.all_cons, List.all_nil, Bool.and_true, Bool.true_and]; rfl
  | slc nn es bs h hb hnn =>
    have hl := h.length
    refine ⟨tl.length + 4, 0, es.length + 1, tl ++ [.row 5 0 (es ++ [e]) 0], fun X Y ver' L B0 m n => ?_, ?_, fun ht => ?_⟩
    · simp only [evAppend, elemsOf, if_true, List.length_cons, List.length_nil, ft es.length (by omega), Nat.zero_add]
      rfl
    · have := Bs.own (tl := tl ++ [.row 5 0 (es ++ [e]) 0]) tl.length 0 0 (es ++ [e]) (bs ++ [(v, t)]) (by simp) (Nat.zero_le _) (by simp) (by simp; omega) (h.append' (.cons _ _ _ _ _ he .nil))
      simpa using this
    · simp only [List.all_append, ht, List.all_cons, List.all_nil, Bool.and_true, Bool.true_and]; rfl
  | own id ver k es bs hr hk hne hb h =>
    have hl := h.length
    have hlt : id < tl.length := (List.getElem?_eq_some_iff.1 hr).1
    refine ⟨id + 4, ver + 1, es.length + 1, tl.set id (.row 5 (ver + 1) (es ++ [e]) k), fun X Y ver' L B0 m n => ?_, ?_, fun ht => ?_⟩
    · have := wh_get (X := X) (Y := Y) (ver := ver') (L := L) (B := B0) (m := m) (n := n) (l := []) hr
      rw [List.append_nil] at this
      simp only [evAppend, elemsOf, if_true, rowAt, this, Nat.zero_add, and_self, true_and, Nat.le_refl, hk, List.length_cons, List.length_nil, ft es.length (by omega), List.drop_zero, List.take_length, Nat.sub_zero, wh_set]
      rfl
    · have := Bs.own (tl := tl.set id (.row 5 (ver + 1) (es ++ [e]) k)) id (ver + 1) k (es ++ [e]) (bs ++ [(v, t)]) (by simp [hlt]) (by simp; omega) (by simp) (by simp; omega) (h.append' (.cons _ _ _ _ _ he .nil))
      simpa using this
    · simp only [List.all_eq_true] at ht ⊢
      intro o ho
      rcases List.mem_or_eq_of_mem_set ho with h1 | h1
      · exact ht o h1
      · subst h1; rfl
theorem clone_ok {c : AV} (h : IsB c bs) (hn : NN c) (hm : bs.length ≤ 1000000) : ∃ r, IsB r bs ∧ NN r ∧ callW F 44 [c] [] = some (r, []) := by
  have e0 : ∀ h : List AO, eqNil h .slice (.v (.slice none 0 0)) (.v (.slice none 0 0)) = some true := fun _ => rfl
  cases h with
  | nil =>
    refine ⟨.v (.slice none 0 0), .nil, trivial, callW_pure (c := c44) rfl rfl 0 ?_⟩
    simp only [c44, start, List.replicate, c44_0, c44_1, c44_2, e0, e_bslice1, e_bslice2, bs1, bs2, e_build, bdH_some, bd_nil, bd_cons, bd1, cl_agg, cl_int, toL, List.map_cons, List.map_nil, putAt, List.set_cons_zero, List.set_cons_succ, and_self, Nat.le_refl, evStore, app_get, app_set, g_agg, run_nil, run_cons, stp_plain, stp_guard, put_some, pass_eq, pick_tt, pick_ff, pick_tf, pick_ft, pick_u, reg_some, thn_normal, thn_exit, thn_ret, cnd_t, cnd_f, blk_normal, blk_ret, blk_exit, x_seq, x_region, x_cond, x_block, x_loop, x_ret, x_exit, x_skip, e_mov, e_pick, pk_t, pk_f, withH_some, e_box, bx_some, e_load, e_store, stH_some, e_nil, e_bin, e_eqv, eqH_f, eqH_t, e_un, e_fa, e_ia, ia_eq, nat_eq, natV_nat, e_len, lnH_some, e_extract, ex_0, ex_1, e_call0, e_call1, e_call2, e_call3, pc0_eq, pc1_some, pc2_some, pc3_some, fin_some, g_var0, g_vars, g_loc0, g_locs, g_int, g_bool, g_str, g_sl, s_none, s_zero, s_succ, cl_nil, cl_str, cl_bool, cl_slc, cl_own, evFa, evNil, evLoad, asEl, evBin, intBin, strBin, evUn, len_nil, len_slc, len_str, clr, List.length_nil, List.length_cons, List.getElem?_cons_zero, List.getElem?_cons_succ, Nat.reduceAdd, Nat.zero_add, Nat.add_zero, Nat.reduceLeDiff, Nat.reduceSub, ↓reduceIte, List.drop_succ_cons, List.drop_zero, List.take_succ_cons, List.take_zero, Bool.false_eq_true, List.nil_append, List.cons_append, Bool.not_true, Bool.not_false, cond_true, cond_false, bne, lv_ret, lv_normal, res1, res2, lv2_some, res_var, res_cell, lvf_v, lvf_slc, res1c, lvo1_some, e_mm, mm_max, mm_min]
  | slc ex nn es bs h hb =>
    have hl := h.length
    have e1 : ∀ h : List AO, eqNil h .slice (.slc 5 ex nn es) (.v (.slice none 0 0)) = some false := by
      intro h
      rcases hn with h1 | h1
      · simp [eqNil, h1]
      · cases es with
        | nil => exact absurd rfl h1
        | cons a es => simp [eqNil]
    have b0 : ∀ {call : CallF} {vars env : List AV} {h : List AO} {zero : List Value}, evOp call vars env h (.bslice 5 zero 0 []) = some (.slc 5 true true [], h) := by
      intros; simp [evOp, evElems]
    by_cases he : es = []
    · subst he
      have ap : ∀ h : List AO, evAppend h 5 64 (.slc 5 true true []) (.slc 5 ex nn []) = some (.slc 5 true true [], h) := by intro h; simp [evAppend, elemsOf]
      refine ⟨.slc 5 true true [], .slc _ _ _ _ h hb, .inl rfl, callW_pure (c := c44) rfl rfl 0 ?_⟩
      simp only [c44, start, List.replicate, c44_0, c44_1, c44_3, e1, b0, ap, e_append, e_bslice1, e_bslice2, bs1, bs2, e_build, bdH_some, bd_nil, bd_cons, bd1, cl_agg, cl_int, toL, List.map_cons, List.map_nil, putAt, List.set_cons_zero, List.set_cons_succ, and_self, Nat.le_refl, evStore, app_get, app_set, g_agg, run_nil, run_cons, stp_plain, stp_guard, put_some, pass_eq, pick_tt, pick_ff, pick_tf, pick_ft, pick_u, reg_some, thn_normal, thn_exit, thn_ret, cnd_t, cnd_f, blk_normal, blk_ret, blk_exit, x_seq, x_region, x_cond, x_block, x_loop, x_ret, x_exit, x_skip, e_mov, e_pick, pk_t, pk_f, withH_some, e_box, bx_some, e_load, e_store, stH_some, e_nil, e_bin, e_eqv, eqH_f, eqH_t, e_un, e_fa, e_ia, ia_eq, nat_eq, natV_nat, e_len, lnH_some, e_extract, ex_0, ex_1, e_call0, e_call1, e_call2, e_call3, pc0_eq, pc1_some, pc2_some, pc3_some, fin_some, g_var0, g_vars, g_loc0, g_locs, g_int, g_bool, g_str, g_sl, s_none, s_zero, s_succ, cl_nil, cl_str, cl_bool, cl_slc, cl_own, evFa, evNil, evLoad, asEl, evBin, intBin, strBin, evUn, len_nil, len_slc, len_str, clr, List.length_nil, List.length_cons, List.getElem?_cons_zero, List.getElem?_cons_succ, Nat.reduceAdd, Nat.zero_add, Nat.add_zero, Nat.reduceLeDiff, Nat.reduceSub, ↓reduceIte, List.drop_succ_cons, List.drop_zero, List.take_succ_cons, List.take_zero, Bool.false_eq_true, List.nil_append, List.cons_append, Bool.not_true, Bool.not_false, cond_true, cond_false, bne, lv_ret, lv_normal, res1, res2, lv2_some, res_var, res_cell, lvf_v, lvf_slc, res1c, lvo1_some, e_mm, mm_max, mm_min]
    · have ft : fits es.length 64 = true := by
        have : room = 140737488355328 := rfl
        simp only [fits, decide_eq_true_eq]; omega
      have ap : evAppend [] 5 64 (.slc 5 true true []) (.slc 5 ex nn es) = some (.own 5 0 0 0 es.length, [.row 5 0 es 0]) := by simp [evAppend, elemsOf, he, ft]
      refine ⟨.slc 5 false false es, .slc _ _ _ _ h hb, .inr he, callW_pure (c := c44) rfl rfl 0 ?_⟩
      have lf : lvf [.row 5 0 es 0] (.own 5 0 0 0 es.length) = some (.slc 5 false false es, []) := by
        simp [lvf, AV.frz2, AV.frz1, AV.frz0, rowAt]
      simp only [c44, start, List.replicate, c44_0, c44_1, c44_3, e1, b0, ap, lf, e_append, e_bslice1, e_bslice2, bs1, bs2, e_build, bdH_some, bd_nil, bd_cons, bd1, cl_agg, cl_int, toL, List.map_cons, List.map_nil, putAt, List.set_cons_zero, List.set_cons_succ, and_self, Nat.le_refl, evStore, app_get, app_set, g_agg, run_nil, run_cons, stp_plain, stp_guard, put_some, pass_eq, pick_tt, pick_ff, pick_tf, pick_ft, pick_u, reg_some, thn_normal, thn_exit, thn_ret, cnd_t, cnd_f, blk_normal, blk_ret, blk_exit, x_seq, x_region, x_cond, x_block, x_loop, x_ret, x_exit, x_skip, e_mov, e_pick, pk_t, pk_f, withH_some, e_box, bx_some, e_load, e_store, stH_some, e_nil, e_bin, e_eqv, eqH_f, eqH_t, e_un, e_fa, e_ia, ia_eq, nat_eq, natV_nat, e_len, lnH_some, e_extract, ex_0, ex_1, e_call0, e_call1, e_call2, e_call3, pc0_eq, pc1_some, pc2_some, pc3_some, fin_some, g_var0, g_vars, g_loc0, g_locs, g_int, g_bool, g_str, g_sl, s_none, s_zero, s_succ, cl_nil, cl_str, cl_bool, cl_slc, cl_own, evFa, evNil, evLoad, asEl, evBin, intBin, strBin, evUn, len_nil, len_slc, len_str, clr, List.length_nil, List.length_cons, List.getElem?_cons_zero, List.getElem?_cons_succ, Nat.reduceAdd, Nat.zero_add, Nat.add_zero, Nat.reduceLeDiff, Nat.reduceSub, ↓reduceIte, List.drop_succ_cons, List.drop_zero, List.take_succ_cons, List.take_zero, Bool.false_eq_true, List.nil_append, List.cons_append, Bool.not_true, Bool.not_false, cond_true, cond_false, bne, lv_ret, lv_normal, res1, res2, lv2_some, res_var, res_cell, lvf_v, lvf_slc, res1c, lvo1_some, e_mm, mm_max, mm_min]
theorem IsB.cap {c : AV} (h : IsB c bs) (hn : NN c) : ∃ c', Bs [] c' bs ∧ ∀ (vars env : List AV) (h : List AO) (y z : Opd), natO vars env y = some bs.length → natO vars env z = some bs.length → evSlice vars env h 5 c none (some y) (some z) = some c' := by
  cases h with
  | nil =>
    refine ⟨_, .nil, fun vars env h y z hy hz => ?_⟩
    simp only [List.length_nil] at hy hz
    simp [evSlice, bounds, optN, hy, hz]
  | slc ex nn es bs h hb =>
    have hl := h.length
    refine ⟨_, .slc nn es bs h hb hn, fun vars env h y z hy hz => ?_⟩
    simp [evSlice, bounds, optN, hy, hz, hl]
    rw [← hl, List.take_length]
end
end Go.AE.Ytpgoibncgekflaa
end

/-! Unify: what it computes. -/
section
set_option linter.unusedVariables false
set_option linter.unusedSimpArgs false
namespace Go.AE.Ytpgoibncgekflaa
open Go Go.AE Go.Proofs.Ytpgoibncgekflaa

inductive US where
  | skip
  | bind (v : Int) (t : Tm)
  | fail
  | into (l : List (Tm × Tm))
/-- two terms that were met -/
def uStep : Tm → Tm → US
  | .mk k s n l, .mk k' s' n' l' =>
    if k = 1 ∧ k' = 1 ∧ n = n' then .skip
    else if k = 1 ∧ (k' ≠ 1 ∨ n > n') then .bind n (.mk k' s' n' l')
    else if k' = 1 then .bind n' (.mk k s n l)
    else if k = k' ∧ s.toList = s'.toList ∧ n = n' ∧ l.length = l'.length then .into (l.zip l')
    else .fail
def uRun : Nat → List (Int × Tm) → Nat → List (Tm × Tm) → List (Int × Tm) × Bool × Int
  | _, bs, _, [] => (bs, true, 0)
  | 0, _, _, _ :: _ => ([], false, 140)
  | f + 1, bs, m, (x, y) :: r =>
    if (nextT bs.reverse m x y).2.2.1 = 0 then
      match uStep (nextT bs.reverse m x y).1 (nextT bs.reverse m x y).2.1 with
      | .skip => uRun f bs (nextT bs.reverse m x y).2.2.2 r
      | .bind v t => uRun f (bs ++ [(v, t)]) (nextT bs.reverse m x y).2.2.2 r
      | .fail => ([], false, 0)
      | .into l => uRun f bs (nextT bs.reverse m x y).2.2.2 (l ++ r)
    else ([], false, (nextT bs.reverse m x y).2.2.1)

theorem meetT_lt {rs : List (Int × Tm)} {m : Nat} {x : Tm} (h : (meetT rs m x).2.1 = 0) : (meetT rs m x).2.2 < m := by
  cases m with
  | zero => simp [meetT] at h
  | succ m => have := walkT_le rs m x; simp only [meetT]; omega
theorem nextT_lt {rs : List (Int × Tm)} {m : Nat} {x y : Tm} (h : (nextT rs m x y).2.2.1 = 0) : (nextT rs m x y).2.2.2 < m := by
  by_cases h0 : (meetT rs m x).2.1 = 0
  · simp only [nextT, if_pos h0] at h ⊢
    have := meetT_lt h0
    have := meetT_lt h
    omega
  · simp only [nextT, if_neg h0] at h
    exact absurd h h0
theorem nextT_size {rs : List (Int × Tm)} {M : Nat} (hM : 1 ≤ M) (hrs : ∀ p ∈ rs, size p.2 ≤ M) {m : Nat} {x y : Tm} (hx : size x ≤ M) (hy : size y ≤ M) : size (nextT rs m x y).1 ≤ M ∧ size (nextT rs m x y).2.1 ≤ M := by
  have h1 := meetT_size hM hrs m x hx
  have h2 := meetT_size hM hrs (meetT rs m x).2.2 y hy
  have hz : size zeroT = 1 := by simp [zeroT, size, sizeL]
  by_cases h0 : (meetT rs m x).2.1 = 0
  · simp only [nextT, if_pos h0]; exact ⟨h1, h2⟩
  · simp only [nextT, if_neg h0, hz]; exact ⟨h1, hM⟩

/-! ### the code, in parts -/
def K22 : List Bool := [false, false, false, false, false, false, false, false, true, false, false, false, false, false, false, false, false, false, false, false]
def L22 : List AV := [.junk, .junk, .junk, .junk, .junk, .junk, .junk, .junk, .ptr 3 0, .junk, .junk, .junk, .junk, .junk, .junk, .junk, .junk, .junk, .junk, .junk]
def rest22 : CC := (.block 2 (.seq (.region [] [] c23_7) (.cond (.var 16) .skip (.seq (.region [] [] c23_8) (.cond (.var 17) (.region [] [] c23_9) (.seq (.region [] [] c23_10) (.cond (.var 18) (.region [] [] c23_11) (.seq (.region [] [] c23_12) (.cond (.var 19) (.seq (.region [] [] c23_13) .ret) (.region [] [] c23_14))))))))))
def front22 (rest : CC) : CC := (.seq (.seq (.region [] [] c23_2) (.cond (.var 14) .skip (.exit 0))) (.block 1 (.seq (.region [.p 8 0 1] [] c23_3) (.seq (.seq (.region [] [] c23_4) (.cond (.var 15) (.seq (.region [] [] c23_5) .ret) .skip)) (.seq (.region [] [] c23_6) rest)))))
theorem body22 : c23_15 = front22 rest22 := rfl
/-- what the rest of a round meets -/
def M22 (tl : List AO) (f o : Bool) : List AV := [.junk, .junk, .junk, .junk, .junk, .junk, .junk, .junk, .ptr 3 0, .ptr (wb tl) 0, .ptr (wb tl + 1) 0, .v (.int .i64 0), .v (.bool f), .v (.bool o), .v (.bool true), .v (.bool false), .junk, .junk, .junk, .junk]

section
variable {X Y : List AV} {ver : Nat} {L : List AV} {B : AV} {m : Int} {n : Nat} {tl : List AO} {K : Nat}
theorem front_end (rest : CC) : exec (callW F) K (front22 rest) L22 (wh X Y ver L B m 0 tl) = some (.exit 0, [.junk, .junk, .junk, .junk, .junk, .junk, .junk, .junk, .ptr 3 0, .junk, .junk, .junk, .junk, .junk, .v (.bool false), .junk, .junk, .junk, .junk, .junk], wh X Y ver L B m 0 tl) := by
  have h0 : decide (((0 : Nat) : Int) > 0) = false := rfl
  have q : ∀ l, evLen (wh X Y ver L B m 0 tl ++ l) .slice (.own 8 2 ver 0 0) = some 0 := fun l => w_len (Nat.zero_le _)
  have w : wh X Y ver L B m 0 tl = wh X Y ver L B m 0 tl ++ [] := (List.append_nil _).symm
  rw [w]
  simp only [L22, front22, c23_2, h0, q, w_todo, evNil, e_bslice1, e_bslice2, bs1, bs2, e_build, bdH_some, bd_nil, bd_cons, bd1, cl_agg, cl_int, toL, List.map_cons, List.map_nil, putAt, List.set_cons_zero, List.set_cons_succ, and_self, Nat.le_refl, app_get, app_set, g_agg, run_nil, run_cons, stp_plain, stp_guard, put_some, pass_eq, pick_tt, pick_ff, pick_tf, pick_ft, pick_u, reg_some, thn_normal, thn_exit, thn_ret, cnd_t, cnd_f, blk_normal, blk_ret, blk_exit, x_seq, x_region, x_cond, x_block, x_loop, x_ret, x_exit, x_skip, e_mov, e_pick, pk_t, pk_f, withH_some, e_box, e_load, e_store, stH_some, e_nil, e_bin, e_eqv, eqH_f, eqH_t, e_un, e_fa, e_ia, ia_eq, nat_eq, natV_nat, e_len, lnH_some, e_extract, ex_0, ex_1, e_call0, e_call1, e_call2, e_call3, pc0_eq, pc1_some, pc2_some, pc3_some, fin_some, g_var0, g_vars, g_loc0, g_locs, g_int, g_bool, g_str, g_sl, s_none, s_zero, s_succ, cl_nil, cl_str, cl_bool, cl_slc, cl_own, evFa, evNil, asEl, evBin, intBin, strBin, evUn, len_nil, len_slc, len_str, clr, List.length_nil, List.length_cons, List.getElem?_cons_zero, List.getElem?_cons_succ, Nat.reduceAdd, Nat.zero_add, Nat.add_zero, Nat.reduceLeDiff, Nat.reduceSub, ↓reduceIte, List.drop_succ_cons, List.drop_zero, List.take_succ_cons, List.take_zero, Bool.false_eq_true, List.nil_append, List.cons_append, Bool.not_true, Bool.not_false, cond_true, cond_false, bne, lv_ret, lv_normal, res1, res2, lv2_some, res_var, res_cell, lvf_v, lvf_slc, res1c, lvo1_some, e_mm, mm_max, mm_min]

theorem front_step {rest : CC} {tl' : List AO} {mk : ∀ (X Y : List AV) (ver : Nat) (L : List AV) (B0 : AV) (m : Int) (n : Nat), raise0 (wh X Y ver L B0 m n tl) B = wh X Y ver L B0 m n tl'} {rx ry : AV} {k k' n1 n1' : Int} {s s' : ByteArray} {l l' : List Tm} {m' e : Int}
    (hn : n + 1 ≤ L.length) (hx : IsT rx (.mk k s n1 l)) (hy : IsT ry (.mk k' s' n1' l')) (hc : callW F 41 [.ptr 3 0] (wh X Y ver L B m (n + 1) tl') = some (.tup [rx, ry, .v (.int .i64 e)], wh X Y ver L B m' n tl')) :
    exec (callW F) K (front22 rest) L22 (wh X Y ver L B m (n + 1) tl) = if e = 0 then blk 1 (exec (callW F) K rest (M22 tl' (k == 1) (k' == 1)) (wh X Y ver L B m' n tl' ++ [.box rx.cells, .box ry.cells]))
      else some (.ret, [.junk, .junk, .junk, .junk, .junk, .v (.slice none 0 0), .v (.bool false), .v (.int .i64 e), .ptr 3 0, .ptr (wb tl') 0, .ptr (wb tl' + 1) 0, .v (.int .i64 e), .junk, .junk, .v (.bool true), .v (.bool true), .junk, .junk, .junk, .junk], wh X Y ver L B m' n tl' ++ [.box rx.cells, .box ry.cells]) := by
  have h0 : decide (((n + 1 : Nat) : Int) > 0) = true := decide_eq_true (by omega)
  have q : ∀ l, evLen (wh X Y ver L B m (n + 1) tl ++ l) .slice (.own 8 2 ver 0 (n + 1)) = some (n + 1) := fun l => w_len hn
  have w : ∀ tl n m, wh X Y ver L B m n tl = wh X Y ver L B m n tl ++ [] := fun _ _ _ => (List.append_nil _).symm
  have hc' : callW F 41 [.ptr 3 0] (wh X Y ver L B m (n + 1) tl' ++ []) = some (.tup [rx, ry, .v (.int .i64 e)], wh X Y ver L B m' n tl' ++ []) := by rw [← w, ← w]; exact hc
  have dm : doMark ([.junk, .junk, .junk, .junk, .junk, .junk, .junk, .junk, .ptr 3 0, .junk, .junk, .junk, .junk, .junk, .v (.bool true), .junk, .junk, .junk, .junk, .junk], wh X Y ver L B m (n + 1) tl ++ []) (.p 8 0 1) = ([.junk, .junk, .junk, .junk, .junk, .junk, .junk, .junk, .ptr 3 0, .junk, .junk, .junk, .junk, .junk, .v (.bool true), .junk, .junk, .junk, .junk, .junk], wh X Y ver L B m (n + 1) tl' ++ []) := by
    have := mk X Y ver L B m (n + 1)
    rw [← w, ← w, ← this]
    rfl
  rw [w tl]
  generalize hR : rest = rest'
  by_cases he : e = 0
  · have e1 : (e != 0) = false := by simp [he]
    rw [if_pos he]
    subst he
    cases hx
    cases hy
    have e2 : ((0 : Int) == 0) = true := rfl
    simp only [L22, M22, front22, c23_2, c23_3, c23_4, c23_6, h0, q, hc', dm, e2, x_region_m, List.foldl_cons, List.foldl_nil, marked, w_bx, w_ld, w_ld0, w_st, w_st0, w_todo, ex_2, e_callh, q9z, AV.cells, evNil, ldAt, stAt, preH_some, List.append_assoc, e_bslice1, e_bslice2, bs1, bs2, e_build, bdH_some, bd_nil, bd_cons, bd1, cl_agg, cl_int, toL, List.map_cons, List.map_nil, putAt, List.set_cons_zero, List.set_cons_succ, and_self, Nat.le_refl, app_get, app_set, g_agg, run_nil, run_cons, stp_plain, stp_guard, put_some, pass_eq, pick_tt, pick_ff, pick_tf, pick_ft, pick_u, reg_some, thn_normal, thn_exit, thn_ret, cnd_t, cnd_f, blk_normal, blk_ret, blk_exit, x_seq, x_region, x_cond, x_block, x_loop, x_ret, x_exit, x_skip, e_mov, e_pick, pk_t, pk_f, withH_some, e_box, e_load, e_store, stH_some, e_nil, e_bin, e_eqv, eqH_f, eqH_t, e_un, e_fa, e_ia, ia_eq, nat_eq, natV_nat, e_len, lnH_some, e_extract, ex_0, ex_1, e_call0, e_call1, e_call2, e_call3, pc0_eq, pc1_some, pc2_some, pc3_some, fin_some, g_var0, g_vars, g_loc0, g_locs, g_int, g_bool, g_str, g_sl, s_none, s_zero, s_succ, cl_nil, cl_str, cl_bool, cl_slc, cl_own, evFa, evNil, asEl, evBin, intBin, strBin, evUn, len_nil, len_slc, len_str, clr, List.length_nil, List.length_cons, List.getElem?_cons_zero, List.getElem?_cons_succ, Nat.reduceAdd, Nat.zero_add, Nat.add_zero, Nat.reduceLeDiff, Nat.reduceSub, ↓reduceIte, List.drop_succ_cons, List.drop_zero, List.take_succ_cons, List.take_zero, Bool.false_eq_true, List.nil_append, List.cons_append, Bool.not_true, Bool.not_false, cond_true, cond_false, bne, lv_ret, lv_normal, res1, res2, lv2_some, res_var, res_cell, lvf_v, lvf_slc, res1c, lvo1_some, e_mm, mm_max, mm_min]
  · have e2 : (e == 0) = false := by simpa using he
    rw [if_neg he]
    cases hx
    cases hy
    simp only [L22, M22, front22, c23_2, c23_3, c23_4, c23_5, h0, q, hc', dm, e2, x_region_m, List.foldl_cons, List.foldl_nil, marked, w_bx, w_ld, w_ld0, w_st, w_st0, w_todo, ex_2, e_callh, q9z, AV.cells, evNil, ldAt, stAt, preH_some, List.append_assoc, e_bslice1, e_bslice2, bs1, bs2, e_build, bdH_some, bd_nil, bd_cons, bd1, cl_agg, cl_int, toL, List.map_cons, List.map_nil, putAt, List.set_cons_zero, List.set_cons_succ, and_self, Nat.le_refl, app_get, app_set, g_agg, run_nil, run_cons, stp_plain, stp_guard, put_some, pass_eq, pick_tt, pick_ff, pick_tf, pick_ft, pick_u, reg_some, thn_normal, thn_exit, thn_ret, cnd_t, cnd_f, blk_normal, blk_ret, blk_exit, x_seq, x_region, x_cond, x_block, x_loop, x_ret, x_exit, x_skip, e_mov, e_pick, pk_t, pk_f, withH_some, e_box, e_load, e_store, stH_some, e_nil, e_bin, e_eqv, eqH_f, eqH_t, e_un, e_fa, e_ia, ia_eq, nat_eq, natV_nat, e_len, lnH_some, e_extract, ex_0, ex_1, e_call0, e_call1, e_call2, e_call3, pc0_eq, pc1_some, pc2_some, pc3_some, fin_some, g_var0, g_vars, g_loc0, g_locs, g_int, g_bool, g_str, g_sl, s_none, s_zero, s_succ, cl_nil, cl_str, cl_bool, cl_slc, cl_own, evFa, evNil, asEl, evBin, intBin, strBin, evUn, len_nil, len_slc, len_str, clr, List.length_nil, List.length_cons, List.getElem?_cons_zero, List.getElem?_cons_succ, Nat.reduceAdd, Nat.zero_add, Nat.add_zero, Nat.reduceLeDiff, Nat.reduceSub, ↓reduceIte, List.drop_succ_cons, List.drop_zero, List.take_succ_cons, List.take_zero, Bool.false_eq_true, List.nil_append, List.cons_append, Bool.not_true, Bool.not_false, cond_true, cond_false, bne, lv_ret, lv_normal, res1, res2, lv2_some, res_var, res_cell, lvf_v, lvf_slc, res1c, lvo1_some, e_mm, mm_max, mm_min]
end
theorem pick_und {w : Bool} {y n : Option St} : pick1 (.v undef) w y n = n := rfl
section
variable {tl : List AO}
theorem tl_two {a b : AV} {x y : Tm} (ht : tl.all (AO.below 0) = true) (ha : IsT a x) (hb : IsT b y) : (tl ++ [AO.box a.cells, AO.box b.cells]).all (AO.below 0) = true := by
  have h1 := ha.bel
  have h2 := hb.bel
  simp only [List.all_append, List.all_cons, List.all_nil, ht, h1, h2, Bool.and_true]
theorem todo_top {L : List AV} {n : Nat} {p : Tm × Tm} {r : List (Tm × Tm)} (hn : n ≤ L.length) (h : AllP (L.take n).reverse (p :: r)) : ∃ n0 a, n = n0 + 1 ∧ L[n0]? = some a ∧ PairOk a p ∧ AllP (L.take n0).reverse r := by
  cases n with
  | zero => simp at h; cases h
  | succ n0 =>
    have hg : L[n0]? = some (L[n0]'(by omega)) := List.getElem?_eq_getElem _
    rw [List.take_add_one, hg] at h
    simp only [Option.toList_some, List.reverse_append, List.reverse_cons, List.reverse_nil, List.nil_append, List.cons_append] at h
    cases h with
    | cons a p es ps h1 h2 => exact ⟨n0, _, rfl, hg, h1, h2⟩

theorem br_some {h : List AO} {sz : Nat} {y : AV} {ys : List AV} (h1 : y.cl = some ys) (h2 : ys.length = sz) : br1 h sz (some y) = some (.own sz h.length 0 0 1, h ++ [.row sz 0 [y] 0]) := by
  simp only [br1, h1, h2, if_true]

end
end Go.AE.Ytpgoibncgekflaa
end

/-! Unify: the rest of a round. -/
section
set_option linter.unusedVariables false
set_option linter.unusedSimpArgs false
namespace Go.AE.Ytpgoibncgekflaa
open Go Go.AE Go.Proofs.Ytpgoibncgekflaa

/-- what a round leaves -/
def After (r : CRun) (X Y : List AV) (m : Int) (bs' : List (Int × Tm)) (n' : Nat) (S : List AV) : Prop :=
  ∃ vs ver' L' B' tl', r = some (.normal, vs, wh X Y ver' L' B' m n' tl') ∧ clr K22 vs = L22 ∧ Bs tl' B' bs' ∧ tl'.all (AO.below 0) = true ∧ n' ≤ L'.length ∧ (L'.take n').reverse = S
section
variable {X Y : List AV} {ver : Nat} {L : List AV} {B : AV} {m : Int} {n : Nat} {tl : List AO} {K : Nat} {bs : List (Int × Tm)} {rx ry : AV} {k k' n1 n1' : Int} {s s' : ByteArray} {l l' : List Tm}
theorem wb_st {i v N : Nat} {l : List AO} : evStore (wh X Y ver L B m n tl ++ l) 1 (.ptr 3 0) (.own 5 i v 0 N) = some (wh X Y ver L (.own 5 i v 0 N) m n tl ++ l) := rfl
theorem snap5 {v : Int} {r : List AV} {t : Tm} (h : IsT (.agg r) t) (H : List AO) : (AV.agg (.v (.int .i64 v) :: r)).snap1 H = some (.agg (.v (.int .i64 v) :: r)) := by
  cases h with
  | mk k s n c l hc => cases hc <;> rfl

theorem rest_skip (hn : n ≤ L.length) (hx : IsT rx (.mk k s n1 l)) (hy : IsT ry (.mk k' s' n1' l')) (hB : Bs tl B bs) (ht : tl.all (AO.below 0) = true) (h1 : k = 1) (h2 : k' = 1) (h3 : n1 = n1') :
    After (blk 1 (exec (callW F) K rest22 (M22 tl (k == 1) (k' == 1)) (wh X Y ver L B m n tl ++ [.box rx.cells, .box ry.cells]))) X Y m bs n (L.take n).reverse := by
  refine ⟨[.junk, .junk, .junk, .junk, .junk, .junk, .junk, .junk, .ptr 3 0, .ptr (wb tl) 0, .ptr (wb tl + 1) 0, .v (.int .i64 0), .v (.bool true), .v (.bool true), .v (.bool true), .v (.bool false), .v (.bool true), .junk, .junk, .junk], ver, L, B, tl ++ [.box rx.cells, .box ry.cells], ?_, rfl, hB.app _, tl_two ht hx hy, hn, rfl⟩
  rw [← wh_app]
  subst h1 h2 h3
  have e1 : ((1 : Int) == 1) = true := rfl
  have e3 : (n1 == n1) = true := by simp
  cases hx
  cases hy
  simp only [M22, rest22, c23_7, e1, e3, pick_und, w_ld, w_ld0, AV.cells, evNil, ldAt, e_bslice1, e_bslice2, bs1, bs2, e_build, bdH_some, bd_nil, bd_cons, bd1, cl_agg, cl_int, toL, List.map_cons, List.map_nil, putAt, List.set_cons_zero, List.set_cons_succ, and_self, Nat.le_refl, app_get, app_set, g_agg, run_nil, run_cons, stp_plain, stp_guard, put_some, pass_eq, pick_tt, pick_ff, pick_tf, pick_ft, pick_u, reg_some, thn_normal, thn_exit, thn_ret, cnd_t, cnd_f, blk_normal, blk_ret, blk_exit, x_seq, x_region, x_cond, x_block, x_loop, x_ret, x_exit, x_skip, e_mov, e_pick, pk_t, pk_f, withH_some, e_box, e_load, e_store, stH_some, e_nil, e_bin, e_eqv, eqH_f, eqH_t, e_un, e_fa, e_ia, ia_eq, nat_eq, natV_nat, e_len, lnH_some, e_extract, ex_0, ex_1, e_call0, e_call1, e_call2, e_call3, pc0_eq, pc1_some, pc2_some, pc3_some, fin_some, g_var0, g_vars, g_loc0, g_locs, g_int, g_bool, g_str, g_sl, s_none, s_zero, s_succ, cl_nil, cl_str, cl_bool, cl_slc, cl_own, evFa, evNil, asEl, evBin, intBin, strBin, evUn, len_nil, len_slc, len_str, clr, List.length_nil, List.length_cons, List.getElem?_cons_zero, List.getElem?_cons_succ, Nat.reduceAdd, Nat.zero_add, Nat.add_zero, Nat.reduceLeDiff, Nat.reduceSub, ↓reduceIte, List.drop_succ_cons, List.drop_zero, List.take_succ_cons, List.take_zero, Bool.false_eq_true, List.nil_append, List.cons_append, Bool.not_true, Bool.not_false, cond_true, cond_false, bne, lv_ret, lv_normal, res1, res2, lv2_some, res_var, res_cell, lvf_v, lvf_slc, res1c, lvo1_some, e_mm, mm_max, mm_min]

theorem rest_x (hn : n ≤ L.length) (hx : IsT rx (.mk k s n1 l)) (hy : IsT ry (.mk k' s' n1' l')) (hB : Bs tl B bs) (hb : bs.length ≤ 1000000) (hsz : size (.mk k' s' n1' l') ≤ 100000) (ht : tl.all (AO.below 0) = true) (h1 : k = 1) (h2 : ¬ (k' = 1 ∧ n1 = n1')) (h3 : k' ≠ 1 ∨ n1 > n1') :
    After (blk 1 (exec (callW F) K rest22 (M22 tl (k == 1) (k' == 1)) (wh X Y ver L B m n tl ++ [.box rx.cells, .box ry.cells]))) X Y m (bs ++ [(n1, .mk k' s' n1' l')]) n (L.take n).reverse := by
  obtain ⟨r, hr, hcp⟩ := copy_ok hsz hy
  have hre := hr.eta
  rw [← hre] at hr
  have sn := snap5 (v := n1) hr
  have hrl : r.cells.length = 4 := hr.cl.2
  generalize hrc : r.cells = rc at hr hre sn hrl
  subst hre
  obtain ⟨i, v, N, tl2, ap, hB2, ht2⟩ := (hB.app [.box rx.cells, .box ry.cells]).add hb (IsBd.mk n1 rc (.mk k' s' n1' l') hr)
  have ap' : ∀ (X Y : List AV) (ver' : Nat) (L : List AV) (B0 : AV) (m : Int) (n : Nat), evAppend (wh X Y ver' L B0 m n tl ++ [.box rx.cells, .box ry.cells]) 5 64 B (.slc 5 true true [.agg (.v (.int .i64 n1) :: rc)]) = some (.own 5 i v 0 N, wh X Y ver' L B0 m n tl2 ++ []) := by
    intro X Y ver' L B0 m n
    rw [List.append_nil]
    exact ap X Y ver' L B0 m n
  subst h1
  have e1 : ((1 : Int) == 1) = true := rfl
  have sy : ∀ h : List AO, ry.snap1 h = some ry := fun h => hy.snap
  have key : ∀ b16 b17, After (some (.normal, [.junk, .junk, .junk, .junk, .junk, .junk, .junk, .junk, .ptr 3 0, .ptr (wb tl) 0, .ptr (wb tl + 1) 0, .v (.int .i64 0), .v (.bool true), .v (.bool (k' == 1)), .v (.bool true), .v (.bool false), b16, b17, .junk, .junk], wh X Y ver L (.own 5 i v 0 N) m n tl2 ++ [])) X Y m (bs ++ [(n1, .mk k' s' n1' l')]) n (L.take n).reverse :=
    fun b16 b17 => ⟨_, ver, L, _, tl2, by rw [List.append_nil], rfl, hB2, ht2 (tl_two ht hx hy), hn, rfl⟩
  have bs1r : ∀ h : List AO, bs1 h 5 (some (.agg (.v (.int .i64 n1) :: rc))) = some (.slc 5 true true [.agg (.v (.int .i64 n1) :: rc)], h) := fun h => bs1_some cl_agg (by simp [hrl])
  cases hx
  cases hr
  cases hy with
  | mk k' s' n1' c' l' hc' =>
  simp only [AV.cells] at ap'
  cases h4 : (k' == 1) with
  | false =>
    have := key (.v (.bool false)) (.v (.bool true))
    rw [h4] at this
    refine cast ?_ this
    congr 1
    simp only [M22, rest22, c23_7, c23_8, c23_9, e1, hcp, sy, sn, ap', bs1r, wb_st, e_append, e_bslice1, w_b, pick_und, w_ld, w_ld0, AV.cells, evNil, ldAt, e_bslice1, e_bslice2, bs1, bs2, e_build, bdH_some, bd_nil, bd_cons, bd1, cl_agg, cl_int, toL, List.map_cons, List.map_nil, putAt, List.set_cons_zero, List.set_cons_succ, and_self, Nat.le_refl, app_get, app_set, g_agg, run_nil, run_cons, stp_plain, stp_guard, put_some, pass_eq, pick_tt, pick_ff, pick_tf, pick_ft, pick_u, reg_some, thn_normal, thn_exit, thn_ret, cnd_t, cnd_f, blk_normal, blk_ret, blk_exit, x_seq, x_region, x_cond, x_block, x_loop, x_ret, x_exit, x_skip, e_mov, e_pick, pk_t, pk_f, withH_some, e_box, e_load, e_store, stH_some, e_nil, e_bin, e_eqv, eqH_f, eqH_t, e_un, e_fa, e_ia, ia_eq, nat_eq, natV_nat, e_len, lnH_some, e_extract, ex_0, ex_1, e_call0, e_call1, e_call2, e_call3, pc0_eq, pc1_some, pc2_some, pc3_some, fin_some, g_var0, g_vars, g_loc0, g_locs, g_int, g_bool, g_str, g_sl, s_none, s_zero, s_succ, cl_nil, cl_str, cl_bool, cl_slc, cl_own, evFa, evNil, asEl, evBin, intBin, strBin, evUn, len_nil, len_slc, len_str, clr, List.length_nil, List.length_cons, List.getElem?_cons_zero, List.getElem?_cons_succ, Nat.reduceAdd, Nat.zero_add, Nat.add_zero, Nat.reduceLeDiff, Nat.reduceSub, ↓reduceIte, List.drop_succ_cons, List.drop_zero, List.take_succ_cons, List.take_zero, Bool.false_eq_true, List.nil_append, List.cons_append, Bool.not_true, Bool.not_false, cond_true, cond_false, bne, lv_ret, lv_normal, res1, res2, lv2_some, res_var, res_cell, lvf_v, lvf_slc, res1c, lvo1_some, e_mm, mm_max, mm_min]
  | true =>
    have h5 : (n1 == n1') = false := by
      have : k' = 1 := by simpa using h4
      rw [beq_eq_false_iff_ne]
      exact fun h => h2 ⟨this, h⟩
    have h6 : decide (n1 > n1') = true := by
      have : k' = 1 := by simpa using h4
      rcases h3 with h | h
      · exact absurd this h
      · exact decide_eq_true h
    have := key (.v (.bool false)) (.v (.bool true))
    rw [h4] at this
    refine cast ?_ this
    congr 1
    simp only [M22, rest22, c23_7, c23_8, c23_9, e1, h5, h6, hcp, sy, sn, ap', bs1r, wb_st, e_append, e_bslice1, w_b, pick_und, w_ld, w_ld0, AV.cells, evNil, ldAt, e_bslice1, e_bslice2, bs1, bs2, e_build, bdH_some, bd_nil, bd_cons, bd1, cl_agg, cl_int, toL, List.map_cons, List.map_nil, putAt, List.set_cons_zero, List.set_cons_succ, and_self, Nat.le_refl, app_get, app_set, g_agg, run_nil, run_cons, stp_plain, stp_guard, put_some, pass_eq, pick_tt, pick_ff, pick_tf, pick_ft, pick_u, reg_some, thn_normal, thn_exit, thn_ret, cnd_t, cnd_f, blk_normal, blk_ret, blk_exit, x_seq, x_region, x_cond, x_block, x_loop, x_ret, x_exit, x_skip, e_mov, e_pick, pk_t, pk_f, withH_some, e_box, e_load, e_store, stH_some, e_nil, e_bin, e_eqv, eqH_f, eqH_t, e_un, e_fa, e_ia, ia_eq, nat_eq, natV_nat, e_len, lnH_some, e_extract, ex_0, ex_1, e_call0, e_call1, e_call2, e_call3, pc0_eq, pc1_some, pc2_some, pc3_some, fin_some, g_var0, g_vars, g_loc0, g_locs, g_int, g_bool, g_str, g_sl, s_none, s_zero, s_succ, cl_nil, cl_str, cl_bool, cl_slc, cl_own, evFa, evNil, asEl, evBin, intBin, strBin, evUn, len_nil, len_slc, len_str, clr, List.length_nil, List.length_cons, List.getElem?_cons_zero, List.getElem?_cons_succ, Nat.reduceAdd, Nat.zero_add, Nat.add_zero, Nat.reduceLeDiff, Nat.reduceSub, ↓reduceIte, List.drop_succ_cons, List.drop_zero, List.take_succ_cons, List.take_zero, Bool.false_eq_true, List.nil_append, List.cons_append, Bool.not_true, Bool.not_false, cond_true, cond_false, bne, lv_ret, lv_normal, res1, res2, lv2_some, res_var, res_cell, lvf_v, lvf_slc, res1c, lvo1_some, e_mm, mm_max, mm_min]
theorem rest_y (hn : n ≤ L.length) (hx : IsT rx (.mk k s n1 l)) (hy : IsT ry (.mk k' s' n1' l')) (hB : Bs tl B bs) (hb : bs.length ≤ 1000000) (hsz : size (.mk k s n1 l) ≤ 100000) (ht : tl.all (AO.below 0) = true) (h1 : k' = 1) (h2 : ¬ (k = 1 ∧ n1 = n1')) (h3 : k ≠ 1 ∨ ¬ n1 > n1') :
    After (blk 1 (exec (callW F) K rest22 (M22 tl (k == 1) (k' == 1)) (wh X Y ver L B m n tl ++ [.box rx.cells, .box ry.cells]))) X Y m (bs ++ [(n1', .mk k s n1 l)]) n (L.take n).reverse := by
  obtain ⟨r, hr, hcp⟩ := copy_ok hsz hx
  have hre := hr.eta
  rw [← hre] at hr
  have sn := snap5 (v := n1') hr
  have hrl : r.cells.length = 4 := hr.cl.2
  generalize hrc : r.cells = rc at hr hre sn hrl
  subst hre
  obtain ⟨i, v, N, tl2, ap, hB2, ht2⟩ := (hB.app [.box rx.cells, .box ry.cells]).add hb (IsBd.mk n1' rc (.mk k s n1 l) hr)
  have ap' : ∀ (X Y : List AV) (ver' : Nat) (L : List AV) (B0 : AV) (m : Int) (n : Nat), evAppend (wh X Y ver' L B0 m n tl ++ [.box rx.cells, .box ry.cells]) 5 64 B (.slc 5 true true [.agg (.v (.int .i64 n1') :: rc)]) = some (.own 5 i v 0 N, wh X Y ver' L B0 m n tl2 ++ []) := by
    intro X Y ver' L B0 m n
    rw [List.append_nil]
    exact ap X Y ver' L B0 m n
  subst h1
  have e1 : ((1 : Int) == 1) = true := rfl
  have sy : ∀ h : List AO, rx.snap1 h = some rx := fun h => hx.snap
  have key : ∀ b16 b17 b18, After (some (.normal, [.junk, .junk, .junk, .junk, .junk, .junk, .junk, .junk, .ptr 3 0, .ptr (wb tl) 0, .ptr (wb tl + 1) 0, .v (.int .i64 0), .v (.bool (k == 1)), .v (.bool true), .v (.bool true), .v (.bool false), b16, b17, b18, .junk], wh X Y ver L (.own 5 i v 0 N) m n tl2 ++ [])) X Y m (bs ++ [(n1', .mk k s n1 l)]) n (L.take n).reverse :=
    fun b16 b17 b18 => ⟨_, ver, L, _, tl2, by rw [List.append_nil], rfl, hB2, ht2 (tl_two ht hx hy), hn, rfl⟩
  have bs1r : ∀ h : List AO, bs1 h 5 (some (.agg (.v (.int .i64 n1') :: rc))) = some (.slc 5 true true [.agg (.v (.int .i64 n1') :: rc)], h) := fun h => bs1_some cl_agg (by simp [hrl])
  cases hy
  cases hr
  cases hx with
  | mk k s n1 c l hc' =>
  simp only [AV.cells] at ap'
  have this := key (.v (.bool false)) (.v (.bool false)) (.v (.bool true))
  refine cast ?_ this
  congr 1
  cases h4 : (k == 1) with
  | false =>
    simp only [M22, rest22, c23_7, c23_8, c23_10, c23_11, e1, hcp, sy, sn, ap', bs1r, wb_st, e_append, e_bslice1, w_b, pick_und, w_ld, w_ld0, AV.cells, evNil, ldAt, e_bslice1, e_bslice2, bs1, bs2, e_build, bdH_some, bd_nil, bd_cons, bd1, cl_agg, cl_int, toL, List.map_cons, List.map_nil, putAt, List.set_cons_zero, List.set_cons_succ, and_self, Nat.le_refl, app_get, app_set, g_agg, run_nil, run_cons, stp_plain, stp_guard, put_some, pass_eq, pick_tt, pick_ff, pick_tf, pick_ft, pick_u, reg_some, thn_normal, thn_exit, thn_ret, cnd_t, cnd_f, blk_normal, blk_ret, blk_exit, x_seq, x_region, x_cond, x_block, x_loop, x_ret, x_exit, x_skip, e_mov, e_pick, pk_t, pk_f, withH_some, e_box, e_load, e_store, stH_some, e_nil, e_bin, e_eqv, eqH_f, eqH_t, e_un, e_fa, e_ia, ia_eq, nat_eq, natV_nat, e_len, lnH_some, e_extract, ex_0, ex_1, e_call0, e_call1, e_call2, e_call3, pc0_eq, pc1_some, pc2_some, pc3_some, fin_some, g_var0, g_vars, g_loc0, g_locs, g_int, g_bool, g_str, g_sl, s_none, s_zero, s_succ, cl_nil, cl_str, cl_bool, cl_slc, cl_own, evFa, evNil, asEl, evBin, intBin, strBin, evUn, len_nil, len_slc, len_str, clr, List.length_nil, List.length_cons, List.getElem?_cons_zero, List.getElem?_cons_succ, Nat.reduceAdd, Nat.zero_add, Nat.add_zero, Nat.reduceLeDiff, Nat.reduceSub, ↓reduceIte, List.drop_succ_cons, List.drop_zero, List.take_succ_cons, List.take_zero, Bool.false_eq_true, List.nil_append, List.cons_append, Bool.not_true, Bool.not_false, cond_true, cond_false, bne, lv_ret, lv_normal, res1, res2, lv2_some, res_var, res_cell, lvf_v, lvf_slc, res1c, lvo1_some, e_mm, mm_max, mm_min]
  | true =>
    have hk : k = 1 := by simpa using h4
    have h5 : (n1 == n1') = false := by
      rw [beq_eq_false_iff_ne]
      exact fun h => h2 ⟨hk, h⟩
    have h6 : decide (n1 > n1') = false := by
      rcases h3 with h | h
      · exact absurd hk h
      · exact decide_eq_false h
    simp only [M22, rest22, c23_7, c23_8, c23_10, c23_11, e1, h5, h6, hcp, sy, sn, ap', bs1r, wb_st, e_append, e_bslice1, w_b, pick_und, w_ld, w_ld0, AV.cells, evNil, ldAt, e_bslice1, e_bslice2, bs1, bs2, e_build, bdH_some, bd_nil, bd_cons, bd1, cl_agg, cl_int, toL, List.map_cons, List.map_nil, putAt, List.set_cons_zero, List.set_cons_succ, and_self, Nat.le_refl, app_get, app_set, g_agg, run_nil, run_cons, stp_plain, stp_guard, put_some, pass_eq, pick_tt, pick_ff, pick_tf, pick_ft, pick_u, reg_some, thn_normal, thn_exit, thn_ret, cnd_t, cnd_f, blk_normal, blk_ret, blk_exit, x_seq, x_region, x_cond, x_block, x_loop, x_ret, x_exit, x_skip, e_mov, e_pick, pk_t, pk_f, withH_some, e_box, e_load, e_store, stH_some, e_nil, e_bin, e_eqv, eqH_f, eqH_t, e_un, e_fa, e_ia, ia_eq, nat_eq, natV_nat, e_len, lnH_some, e_extract, ex_0, ex_1, e_call0, e_call1, e_call2, e_call3, pc0_eq, pc1_some, pc2_some, pc3_some, fin_some, g_var0, g_vars, g_loc0, g_locs, g_int, g_bool, g_str, g_sl, s_none, s_zero, s_succ, cl_nil, cl_str, cl_bool, cl_slc, cl_own, evFa, evNil, asEl, evBin, intBin, strBin, evUn, len_nil, len_slc, len_str, clr, List.length_nil, List.length_cons, List.getElem?_cons_zero, List.getElem?_cons_succ, Nat.reduceAdd, Nat.zero_add, Nat.add_zero, Nat.reduceLeDiff, Nat.reduceSub, ↓reduceIte, List.drop_succ_cons, List.drop_zero, List.take_succ_cons, List.take_zero, Bool.false_eq_true, List.nil_append, List.cons_append, Bool.not_true, Bool.not_false, cond_true, cond_false, bne, lv_ret, lv_normal, res1, res2, lv2_some, res_var, res_cell, lvf_v, lvf_slc, res1c, lvo1_some, e_mm, mm_max, mm_min]

theorem rest_into (hX : (AO.box X).below 0 = true) (hY : (AO.box Y).below 0 = true) (hn : n ≤ L.length) (hx : IsT rx (.mk k s n1 l)) (hy : IsT ry (.mk k' s' n1' l')) (hB : Bs tl B bs) (hsz : l.length ≤ 100000) (hnj : n + l.length ≤ 1000000000) (ht : tl.all (AO.below 0) = true) (h1 : k ≠ 1) (h2 : k' ≠ 1) (h3 : k = k' ∧ s.toList = s'.toList ∧ n1 = n1' ∧ l.length = l'.length) :
    ∃ ps, AllP ps (l.zip l') ∧ After (blk 1 (exec (callW F) K rest22 (M22 tl (k == 1) (k' == 1)) (wh X Y ver L B m n tl ++ [.box rx.cells, .box ry.cells]))) X Y m bs (n + l.length) (ps ++ (L.take n).reverse) := by
  obtain ⟨ver', L', ps, g1, g2, g3, g4⟩ := within_ok (X := X) (Y := Y) (ver := ver) (L := L) (B := B) (m := m) (n := n) (tl := tl ++ [.box rx.cells, .box ry.cells]) hX hY (hB.app _).bel (tl_two ht hx hy) hx hy h3.2.2.2 hsz hn hnj
  refine ⟨ps, g4, [.junk, .junk, .junk, .junk, .junk, .junk, .junk, .junk, .ptr 3 0, .ptr (wb tl) 0, .ptr (wb tl + 1) 0, .v (.int .i64 0), .v (.bool false), .v (.bool false), .v (.bool true), .v (.bool false), .v (.bool false), .v (.bool false), .v (.bool false), .v (.bool false)], ver', L', B, tl ++ [.box rx.cells, .box ry.cells], ?_, rfl, hB.app _, tl_two ht hx hy, g2, g3⟩
  · rw [← wh_app] at g1 ⊢
    have e1 : (k == 1) = false := by simpa using h1
    have e2 : (k' == 1) = false := by simpa using h2
    have e3 : (k == k') = true := by simpa using h3.1
    have e4 : (s.toList == s'.toList) = true := by simpa using h3.2.1
    have e5 : (n1 == n1') = true := by simpa using h3.2.2.1
    have e6 : ((l.length : Int) == (l'.length : Int)) = true := by rw [h3.2.2.2]; simp
    cases hx with
    | mk k s n1 c l hc =>
    cases hy with
    | mk k' s' n1' c' l' hc' =>
    obtain ⟨es, hs, hes, hm⟩ := hc.sl
    obtain ⟨es', hs', hes', hm'⟩ := hc'.sl
    have l1 := hs.len
    have l2 := hs'.len
    rw [hes.length] at l1
    rw [hes'.length] at l2
    rw [← wh_app] at g1
    simp only [AV.cells] at g1
    simp only [M22, rest22, c23_7, c23_8, c23_10, c23_12, c23_14, e1, e2, e3, e4, e5, e6, l1, l2, g1, e_callh, pick_und, w_ld, w_ld0, AV.cells, evNil, ldAt, e_bslice1, e_bslice2, bs1, bs2, e_build, bdH_some, bd_nil, bd_cons, bd1, cl_agg, cl_int, toL, List.map_cons, List.map_nil, putAt, List.set_cons_zero, List.set_cons_succ, and_self, Nat.le_refl, app_get, app_set, g_agg, run_nil, run_cons, stp_plain, stp_guard, put_some, pass_eq, pick_tt, pick_ff, pick_tf, pick_ft, pick_u, reg_some, thn_normal, thn_exit, thn_ret, cnd_t, cnd_f, blk_normal, blk_ret, blk_exit, x_seq, x_region, x_cond, x_block, x_loop, x_ret, x_exit, x_skip, e_mov, e_pick, pk_t, pk_f, withH_some, e_box, e_load, e_store, stH_some, e_nil, e_bin, e_eqv, eqH_f, eqH_t, e_un, e_fa, e_ia, ia_eq, nat_eq, natV_nat, e_len, lnH_some, e_extract, ex_0, ex_1, e_call0, e_call1, e_call2, e_call3, pc0_eq, pc1_some, pc2_some, pc3_some, fin_some, g_var0, g_vars, g_loc0, g_locs, g_int, g_bool, g_str, g_sl, s_none, s_zero, s_succ, cl_nil, cl_str, cl_bool, cl_slc, cl_own, evFa, evNil, asEl, evBin, intBin, strBin, evUn, len_nil, len_slc, len_str, clr, List.length_nil, List.length_cons, List.getElem?_cons_zero, List.getElem?_cons_succ, Nat.reduceAdd, Nat.zero_add, Nat.add_zero, Nat.reduceLeDiff, Nat.reduceSub, ↓reduceIte, List.drop_succ_cons, List.drop_zero, List.take_succ_cons, List.take_zero, Bool.false_eq_true, List.nil_append, List.cons_append, Bool.not_true, Bool.not_false, cond_true, cond_false, bne, lv_ret, lv_normal, res1, res2, lv2_some, res_var, res_cell, lvf_v, lvf_slc, res1c, lvo1_some, e_mm, mm_max, mm_min]

theorem rest_fail (hx : IsT rx (.mk k s n1 l)) (hy : IsT ry (.mk k' s' n1' l')) (h1 : k ≠ 1) (h2 : k' ≠ 1) (h3 : ¬ (k = k' ∧ s.toList = s'.toList ∧ n1 = n1' ∧ l.length = l'.length)) :
    ∃ vs h', blk 1 (exec (callW F) K rest22 (M22 tl (k == 1) (k' == 1)) (wh X Y ver L B m n tl ++ [.box rx.cells, .box ry.cells])) = some (.ret, vs, h') ∧ getO vs [] (.var 5) = .v (.slice none 0 0) ∧ getO vs [] (.var 6) = .v (.bool false) ∧ getO vs [] (.var 7) = .v (.int .i64 0) := by
  refine ⟨[.junk, .junk, .junk, .junk, .junk, .v (.slice none 0 0), .v (.bool false), .v (.int .i64 0), .ptr 3 0, .ptr (wb tl) 0, .ptr (wb tl + 1) 0, .v (.int .i64 0), .v (.bool false), .v (.bool false), .v (.bool true), .v (.bool false), .v (.bool false), .v (.bool false), .v (.bool false), .v (.bool true)], wh X Y ver L B m n tl ++ [.box rx.cells, .box ry.cells], ?_, rfl, rfl, rfl⟩
  have e1 : (k == 1) = false := by simpa using h1
  have e2 : (k' == 1) = false := by simpa using h2
  cases hx with
  | mk k s n1 c l hc =>
  cases hy with
  | mk k' s' n1' c' l' hc' =>
  obtain ⟨es, hs, hes, hm⟩ := hc.sl
  obtain ⟨es', hs', hes', hm'⟩ := hc'.sl
  have l1 := hs.len
  have l2 := hs'.len
  rw [hes.length] at l1
  rw [hes'.length] at l2
  cases e3 : (k == k') with
  | false => simp only [M22, rest22, c23_7, c23_8, c23_10, c23_12, c23_13, e1, e2, e3, e_callh, pick_und, w_ld, w_ld0, AV.cells, evNil, ldAt, e_bslice1, e_bslice2, bs1, bs2, e_build, bdH_some, bd_nil, bd_cons, bd1, cl_agg, cl_int, toL, List.map_cons, List.map_nil, putAt, List.set_cons_zero, List.set_cons_succ, and_self, Nat.le_refl, app_get, app_set, g_agg, run_nil, run_cons, stp_plain, stp_guard, put_some, pass_eq, pick_tt, pick_ff, pick_tf, pick_ft, pick_u, reg_some, thn_normal, thn_exit, thn_ret, cnd_t, cnd_f, blk_normal, blk_ret, blk_exit, x_seq, x_region, x_cond, x_block, x_loop, x_ret, x_exit, x_skip, e_mov, e_pick, pk_t, pk_f, withH_some, e_box, e_load, e_store, stH_some, e_nil, e_bin, e_eqv, eqH_f, eqH_t, e_un, e_fa, e_ia, ia_eq, nat_eq, natV_nat, e_len, lnH_some, e_extract, ex_0, ex_1, e_call0, e_call1, e_call2, e_call3, pc0_eq, pc1_some, pc2_some, pc3_some, fin_some, g_var0, g_vars, g_loc0, g_locs, g_int, g_bool, g_str, g_sl, s_none, s_zero, s_succ, cl_nil, cl_str, cl_bool, cl_slc, cl_own, evFa, evNil, asEl, evBin, intBin, strBin, evUn, len_nil, len_slc, len_str, clr, List.length_nil, List.length_cons, List.getElem?_cons_zero, List.getElem?_cons_succ, Nat.reduceAdd, Nat.zero_add, Nat.add_zero, Nat.reduceLeDiff, Nat.reduceSub, ↓reduceIte, List.drop_succ_cons, List.drop_zero, List.take_succ_cons, List.take_zero, Bool.false_eq_true, List.nil_append, List.cons_append, Bool.not_true, Bool.not_false, cond_true, cond_false, bne, lv_ret, lv_normal, res1, res2, lv2_some, res_var, res_cell, lvf_v, lvf_slc, res1c, lvo1_some, e_mm, mm_max, mm_min]
  | true =>
  cases e4 : (s.toList == s'.toList) with
  | false => simp only [M22, rest22, c23_7, c23_8, c23_10, c23_12, c23_13, e1, e2, e3, e4, e_callh, pick_und, w_ld, w_ld0, AV.cells, evNil, ldAt, e_bslice1, e_bslice2, bs1, bs2, e_build, bdH_some, bd_nil, bd_cons, bd1, cl_agg, cl_int, toL, List.map_cons, List.map_nil, putAt, List.set_cons_zero, List.set_cons_succ, and_self, Nat.le_refl, app_get, app_set, g_agg, run_nil, run_cons, stp_plain, stp_guard, put_some, pass_eq, pick_tt, pick_ff, pick_tf, pick_ft, pick_u, reg_some, thn_normal, thn_exit, thn_ret, cnd_t, cnd_f, blk_normal, blk_ret, blk_exit, x_seq, x_region, x_cond, x_block, x_loop, x_ret, x_exit, x_skip, e_mov, e_pick, pk_t, pk_f, withH_some, e_box, e_load, e_store, stH_some, e_nil, e_bin, e_eqv, eqH_f, eqH_t, e_un, e_fa, e_ia, ia_eq, nat_eq, natV_nat, e_len, lnH_some, e_extract, ex_0, ex_1, e_call0, e_call1, e_call2, e_call3, pc0_eq, pc1_some, pc2_some, pc3_some, fin_some, g_var0, g_vars, g_loc0, g_locs, g_int, g_bool, g_str, g_sl, s_none, s_zero, s_succ, cl_nil, cl_str, cl_bool, cl_slc, cl_own, evFa, evNil, asEl, evBin, intBin, strBin, evUn, len_nil, len_slc, len_str, clr, List.length_nil, List.length_cons, List.getElem?_cons_zero, List.getElem?_cons_succ, Nat.reduceAdd, Nat.zero_add, Nat.add_zero, Nat.reduceLeDiff, Nat.reduceSub, ↓reduceIte, List.drop_succ_cons, List.drop_zero, List.take_succ_cons, List.take_zero, Bool.false_eq_true, List.nil_append, List.cons_append, Bool.not_true, Bool.not_false, cond_true, cond_false, bne, lv_ret, lv_normal, res1, res2, lv2_some, res_var, res_cell, lvf_v, lvf_slc, res1c, lvo1_some, e_mm, mm_max, mm_min]
  | true =>
  cases e5 : (n1 == n1') with
  | false => simp only [M22, rest22, c23_7, c23_8, c23_10, c23_12, c23_13, e1, e2, e3, e4, e5, e_callh, pick_und, w_ld, w_ld0, AV.cells, evNil, ldAt, e_bslice1, e_bslice2, bs1, bs2, e_build, bdH_some, bd_nil, bd_cons, bd1, cl_agg, cl_int, toL, List.map_cons, List.map_nil, putAt, List.set_cons_zero, List.set_cons_succ, and_self, Nat.le_refl, app_get, app_set, g_agg, run_nil, run_cons, stp_plain, stp_guard, put_some, pass_eq, pick_tt, pick_ff, pick_tf, pick_ft, pick_u, reg_some, thn_normal, thn_exit, thn_ret, cnd_t, cnd_f, blk_normal, blk_ret, blk_exit, x_seq, x_region, x_cond, x_block, x_loop, x_ret, x_exit, x_skip, e_mov, e_pick, pk_t, pk_f, withH_some, e_box, e_load, e_store, stH_some, e_nil, e_bin, e_eqv, eqH_f, eqH_t, e_un, e_fa, e_ia, ia_eq, nat_eq, natV_nat, e_len, lnH_some, e_extract, ex_0, ex_1, e_call0, e_call1, e_call2, e_call3, pc0_eq, pc1_some, pc2_some, pc3_some, fin_some, g_var0, g_vars, g_loc0, g_locs, g_int, g_bool, g_str, g_sl, s_none, s_zero, s_succ, cl_nil, cl_str, cl_bool, cl_slc, cl_own, evFa, evNil, asEl, evBin, intBin, strBin, evUn, len_nil, len_slc, len_str, clr, List.length_nil, List.length_cons, List.getElem?_cons_zero, List.getElem?_cons_succ, Nat.reduceAdd, Nat.zero_add, Nat.add_zero, Nat.reduceLeDiff, Nat.reduceSub, ↓reduceIte, List.drop_succ_cons, List.drop_zero, List.take_succ_cons, List.take_zero, Bool.false_eq_true, List.nil_append, List.cons_append, Bool.not_true, Bool.not_false, cond_true, cond_false, bne, lv_ret, lv_normal, res1, res2, lv2_some, res_var, res_cell, lvf_v, lvf_slc, res1c, lvo1_some, e_mm, mm_max, mm_min]
  | true =>
  have e6 : ((l.length : Int) == (l'.length : Int)) = false := by
    rw [beq_eq_false_iff_ne]
    intro h
    exact h3 ⟨by simpa using e3, by simpa using e4, by simpa using e5, by omega⟩
  simp only [M22, rest22, c23_7, c23_8, c23_10, c23_12, c23_13, e1, e2, e3, e4, e5, e6, l1, l2, e_callh, pick_und, w_ld, w_ld0, AV.cells, evNil, ldAt, e_bslice1, e_bslice2, bs1, bs2, e_build, bdH_some, bd_nil, bd_cons, bd1, cl_agg, cl_int, toL, List.map_cons, List.map_nil, putAt, List.set_cons_zero, List.set_cons_succ, and_self, Nat.le_refl, app_get, app_set, g_agg, run_nil, run_cons, stp_plain, stp_guard, put_some, pass_eq, pick_tt, pick_ff, pick_tf, pick_ft, pick_u, reg_some, thn_normal, thn_exit, thn_ret, cnd_t, cnd_f, blk_normal, blk_ret, blk_exit, x_seq, x_region, x_cond, x_block, x_loop, x_ret, x_exit, x_skip, e_mov, e_pick, pk_t, pk_f, withH_some, e_box, e_load, e_store, stH_some, e_nil, e_bin, e_eqv, eqH_f, eqH_t, e_un, e_fa, e_ia, ia_eq, nat_eq, natV_nat, e_len, lnH_some, e_extract, ex_0, ex_1, e_call0, e_call1, e_call2, e_call3, pc0_eq, pc1_some, pc2_some, pc3_some, fin_some, g_var0, g_vars, g_loc0, g_locs, g_int, g_bool, g_str, g_sl, s_none, s_zero, s_succ, cl_nil, cl_str, cl_bool, cl_slc, cl_own, evFa, evNil, asEl, evBin, intBin, strBin, evUn, len_nil, len_slc, len_str, clr, List.length_nil, List.length_cons, List.getElem?_cons_zero, List.getElem?_cons_succ, Nat.reduceAdd, Nat.zero_add, Nat.add_zero, Nat.reduceLeDiff, Nat.reduceSub, ↓reduceIte, List.drop_succ_cons, List.drop_zero, List.take_succ_cons, List.take_zero, Bool.false_eq_true, List.nil_append, List.cons_append, Bool.not_true, Bool.not_false, cond_true, cond_false, bne, lv_ret, lv_normal, res1, res2, lv2_some, res_var, res_cell, lvf_v, lvf_slc, res1c, lvo1_some, e_mm, mm_max, mm_min]
end
end Go.AE.Ytpgoibncgekflaa
end

/-! How many parts there may be; two terms that are the same. -/
section
set_option linter.unusedVariables false
set_option linter.unusedSimpArgs false
namespace Go.AE.Ytpgoibncgekflaa
open Go Go.AE Go.Proofs.Ytpgoibncgekflaa

theorem wrap_pred {m : Int} (h0 : 0 ≤ m) (h1 : m ≤ 1000000) : IntKind.i64.wrap (m - 1) = m - 1 := by
  rw [IntWalk.i64_in]; omega
mutual
theorem left_size : ∀ (t : Tm) (m : Int), 0 ≤ m → m ≤ 1000000 → -1 ≤ left t m ∧ left t m ≤ m ∧ (0 ≤ left t m → left t m + size t = m)
  | .mk k s n l, m, h0, h1 => by
    rw [left, size, wrap_pred h0 h1]
    have := leftL_size l (m - 1) (by omega) (by omega)
    refine ⟨this.1, by omega, fun h => ?_⟩
    have := this.2.2 h
    omega
theorem leftL_size : ∀ (l : List Tm) (m : Int), -1 ≤ m → m ≤ 1000000 → -1 ≤ leftL l m ∧ leftL l m ≤ m ∧ (0 ≤ leftL l m → leftL l m + sizeL l = m)
  | [], m, h0, h1 => by simp only [leftL, sizeL]; omega
  | t :: l, m, h0, h1 => by
    simp only [leftL, sizeL]
    by_cases hm : m < 0
    · rw [if_pos hm]; omega
    · rw [if_neg hm]
      have a := left_size t m (by omega) h1
      have b := leftL_size l (left t m) (by omega) (by omega)
      refine ⟨b.1, by omega, fun h => ?_⟩
      have := b.2.2 h
      have := a.2.2 (by omega)
      omega
end
theorem big_size {bs : List (Int × Tm)} {ts : List Tm} (h : big bs ts = false) : bs.length ≤ 100 ∧ (∀ p ∈ bs, size p.2 ≤ 300) ∧ (∀ t ∈ ts, size t ≤ 3000) := by
  simp only [big, Bool.or_eq_false_iff, decide_eq_false_iff_not, Bool.not_eq_false', List.all_eq_true, decide_eq_true_eq] at h
  refine ⟨by omega, fun p hp => ?_, fun t ht => ?_⟩
  · have h1 := h.1.2 p hp
    have := (left_size p.2 300 (by omega) (by omega)).2.2 h1
    omega
  · have h1 := h.2 t ht
    have := (left_size t 3000 (by omega) (by omega)).2.2 h1
    omega

theorem same_call {a b : AV} {t : Tm} (ha : IsT a t) (hb : IsT b t) : callW F 15 [a, b] [] = some (.v (.bool true), []) := by
  have := same_ok _ t t a b (Nat.lt_succ_self _) ha hb
  rw [same_refl] at this; exact this
end Go.AE.Ytpgoibncgekflaa
end

/-! Unify walked. -/
section
set_option linter.unusedVariables false
set_option linter.unusedSimpArgs false
namespace Go.AE.Ytpgoibncgekflaa
open Go Go.AE Go.Proofs.Ytpgoibncgekflaa

def E22 (x : AV) : List AV := [.junk, .junk, .junk, .junk, .junk, .junk, .junk, .junk, .ptr 3 0, .junk, .junk, .junk, .junk, .junk, x, .junk, .junk, .junk, .junk, .junk]
/-- what the loop leaves -/
def Out (r : CRun) (X Y : List AV) : List (Int × Tm) × Bool × Int → Prop
  | (bs', true, _) => ∃ ver' L' B' m' n' tl' x, r = some (.exit 0, E22 x, wh X Y ver' L' B' m' n' tl') ∧ Bs tl' B' bs' ∧ tl'.all (AO.below 0) = true ∧ bs'.length ≤ 100000
  | (_, false, e) => ∃ vs h', r = some (.ret, vs, h') ∧ getO vs [] (.var 5) = .v (.slice none 0 0) ∧ getO vs [] (.var 6) = .v (.bool false) ∧ getO vs [] (.var 7) = .v (.int .i64 e)
section
variable {X Y : List AV} {K : Nat}
theorem uni_loop (hX : (AO.box X).below 0 = true) (hY : (AO.box Y).below 0 = true) : ∀ (f : Nat) (bs : List (Int × Tm)) (m : Nat) (todo : List (Tm × Tm)) (ver : Nat) (L : List AV) (n : Nat) (B : AV) (tl : List AO) (vars : List AV), m < f → m ≤ 5000 → Bs tl B bs → tl.all (AO.below 0) = true → bs.length + m ≤ 100000 → n ≤ L.length → AllP (L.take n).reverse todo → (∀ p ∈ todo, size p.1 ≤ 3000 ∧ size p.2 ≤ 3000) → (∀ p ∈ bs, size p.2 ≤ 3000) → n + 3000 * m ≤ 1000000000 → clr K22 vars = L22 →
    Out (loopN (exec (callW F) K c23_15) K22 f vars (wh X Y ver L B m n tl)) X Y (uRun f bs m todo) := by
  intro f
  induction f with
  | zero => intro bs m todo ver L n B tl vars hm; omega
  | succ f ih =>
    intro bs m todo ver L n B tl vars hm hm5 hB ht hbl hn hall hsz hbz hnm hv
    cases todo with
    | nil =>
      have hn0 : n = 0 := by
        have := hall.len
        simp only [List.length_reverse, List.length_take, List.length_nil] at this
        omega
      subst hn0
      simp only [uRun, Out]
      refine ⟨ver, L, B, m, 0, tl, .v (.bool false), loop_exit ?_, hB, ht, by omega⟩
      rw [hv, body22]
      exact front_end rest22
    | cons p r =>
      obtain ⟨x, y⟩ := p
      obtain ⟨n0, a, rfl, hL, hp, hr⟩ := todo_top hn hall
      obtain ⟨tl', mk, hB', ht', B', hsn, hIB, hNN⟩ := hB.fix
      have ht' := ht' ht
      obtain ⟨es, hes, k1, k2⟩ := looks hIB (by omega)
      obtain ⟨hsx, hsy⟩ := hsz (x, y) (by simp)
      have hbz' : ∀ p ∈ bs.reverse, size p.2 ≤ 3000 := fun p hp => hbz p (by simpa using hp)
      obtain ⟨rx, ry, hrx, hry, hc⟩ := next_ok (X := X) (Y := Y) (ver := ver) (L := L) (B := B) (n := n0) (tl := tl') hX hY hB'.bel ht' hes.reverse (B' := B') (fun m n l => hsn X Y ver L B m n l) k1 hp hL (m := m) hm5 (by omega)
      have hnz := nextT_size (M := 3000) (by omega) hbz' (m := m) hsx hsy
      have hlt := nextT_lt (rs := bs.reverse) (m := m) (x := x) (y := y)
      simp only [uRun]
      generalize nextT bs.reverse m x y = w at hrx hry hc hnz hlt ⊢
      obtain ⟨⟨k, s, n1, l⟩, ⟨k', s', n1', l'⟩, e, m'⟩ := w
      dsimp only at hrx hry hc hnz hlt ⊢
      have fs := front_step (K := K) (rest := rest22) (mk := mk) hn hrx hry hc
      rw [← body22] at fs
      by_cases he : e = 0
      · have hlt := hlt he
        rw [if_pos he] at fs ⊢
        have hsr : ∀ p ∈ r, size p.1 ≤ 3000 ∧ size p.2 ≤ 3000 := fun p hp => hsz p (by simp [hp])
        -- what comes next
        have go : ∀ (bs' : List (Int × Tm)) (n' : Nat) (S : List AV) (todo' : List (Tm × Tm)), After (blk 1 (exec (callW F) K rest22 (M22 tl' (k == 1) (k' == 1)) (wh X Y ver L B m' n0 tl' ++ [.box rx.cells, .box ry.cells]))) X Y m' bs' n' S → AllP S todo' → bs'.length + m' ≤ 100000 → (∀ p ∈ todo', size p.1 ≤ 3000 ∧ size p.2 ≤ 3000) → (∀ p ∈ bs', size p.2 ≤ 3000) → n' + 3000 * m' ≤ 1000000000 →
            Out (loopN (exec (callW F) K c23_15) K22 (f + 1) vars (wh X Y ver L B m (n0 + 1) tl)) X Y (uRun f bs' m' todo') := by
          intro bs' n' S todo' ha hS h1 h2 h3 h4
          obtain ⟨vs, ver', L', B'', tl'', g1, g2, g3, g4, g5, g6⟩ := ha
          rw [loop_normal (by rw [hv, fs]; exact g1)]
          exact ih bs' m' todo' ver' L' n' B'' tl'' vs (by omega) (by omega) g3 g4 h1 g5 (by rw [g6]; exact hS) h2 h3 h4 g2
        have hn0 : n0 ≤ L.length := by omega
        simp only [uStep]
        by_cases c1 : k = 1 ∧ k' = 1 ∧ n1 = n1'
        · rw [if_pos c1]
          exact go bs n0 _ r (rest_skip hn0 hrx hry hB' ht' c1.1 c1.2.1 c1.2.2) hr (by omega) hsr hbz (by omega)
        · rw [if_neg c1]
          by_cases c2 : k = 1 ∧ (k' ≠ 1 ∨ n1 > n1')
          · rw [if_pos c2]
            refine go _ n0 _ r (rest_x hn0 hrx hry hB' (by omega) (by omega) ht' c2.1 (fun h => c1 ⟨c2.1, h⟩) c2.2) hr (by simp; omega) hsr ?_ (by omega)
            intro p hp
            rcases List.mem_append.1 hp with hp | hp
            · exact hbz p hp
            · simp only [List.mem_singleton] at hp; subst hp; exact hnz.2
          · rw [if_neg c2]
            by_cases c999003 : k' = 1
            · rw [if_pos c999003]
              refine go _ n0 _ r (rest_y hn0 hrx hry hB' (by omega) (by omega) ht' c999003 (fun h => c1 ⟨h.1, c999003, h.2⟩) ?_) hr (by simp; omega) hsr ?_ (by omega)
              · by_cases hk : k = 1
                · exact .inr (fun h => c2 ⟨hk, .inr h⟩)
                · exact .inl hk
              · intro p hp
                rcases List.mem_append.1 hp with hp | hp
                · exact hbz p hp
                · simp only [List.mem_singleton] at hp; subst hp; exact hnz.1
            · rw [if_neg c999003]
              have hk1 : k ≠ 1 := fun h => c2 ⟨h, .inl c999003⟩
              by_cases c999004 : k = k' ∧ s.toList = s'.toList ∧ n1 = n1' ∧ l.length = l'.length
              · rw [if_pos c999004]
                have hz1 := hnz.1
                have hz2 := hnz.2
                simp only [size] at hz1 hz2
                have hll := sizeL_len l
                obtain ⟨ps, h1, h2⟩ := rest_into (K := K) (X := X) (Y := Y) (ver := ver) (m := m') hX hY hn0 hrx hry hB' (by omega) (by omega) ht' hk1 c999003 c999004
                refine go bs (n0 + l.length) _ _ h2 (h1.app hr) (by omega) ?_ hbz (by omega)
                intro p hp
                rcases List.mem_append.1 hp with hp | hp
                · have := List.of_mem_zip (a := p.1) (b := p.2) hp
                  have a1 := size_mem this.1
                  have a2 := size_mem this.2
                  omega
                · exact hsr p hp
              · rw [if_neg c999004]
                obtain ⟨vs, h', g1, g2, g3, g4⟩ := rest_fail (K := K) (X := X) (Y := Y) (ver := ver) (L := L) (B := B) (m := (m' : Int)) (n := n0) (tl := tl') hrx hry hk1 c999003 c999004
                exact ⟨vs, h', loop_ret (by rw [hv, fs]; exact g1), g2, g3, g4⟩
      · rw [if_neg he] at fs ⊢
        exact ⟨_, _, loop_ret (by rw [hv]; exact fs), rfl, rfl, rfl⟩

/-- what Unify computes: the bindings, whether, the error -/
def uniT (bs : List (Int × Tm)) (x y : Tm) : List (Int × Tm) × Bool × Int := uRun 2001 bs 2000 [(x, y)]
/-- what a slice of bindings of the program's is -/
def IsN (c : AV) (bs : List (Int × Tm)) : Prop := IsB c bs ∧ NN c
theorem resThree {h : List AO} {vars : List AV} {i j k : Nat} : lvs h ([CRes.var i, CRes.var j, CRes.var k].mapM (resOf vars h)) = lvf h (.tup [getO vars [] (.var i), getO vars [] (.var j), getO vars [] (.var k)]) := rfl
theorem IsB.lvf3 {c : AV} {bs : List (Int × Tm)} (h : IsB c bs) (H : List AO) (x y : Value) : lvf H (.tup [c, .v x, .v y]) = some (.tup [c, .v x, .v y], []) := by
  cases h <;> rfl
theorem IsB.len {c : AV} {bs : List (Int × Tm)} (h : IsB c bs) (H : List AO) : evLen H .slice c = some bs.length := by
  cases h with
  | nil => rfl
  | slc ex nn es _ h hb => rw [← h.length]; rfl
theorem uRun_false : ∀ (f : Nat) (bs : List (Int × Tm)) (m : Nat) (todo : List (Tm × Tm)), (uRun f bs m todo).2.1 = false → (uRun f bs m todo).1 = [] := by
  intro f
  induction f with
  | zero =>
    intro bs m todo
    cases todo with
    | nil => simp [uRun]
    | cons p r => simp [uRun]
  | succ f ih =>
    intro bs m todo
    cases todo with
    | nil => simp [uRun]
    | cons p r =>
      obtain ⟨x, y⟩ := p
      simp only [uRun]
      split
      · split
        · exact ih _ _ _
        · exact ih _ _ _
        · intro _; rfl
        · exact ih _ _ _
      · intro _; rfl
theorem uRun_true : ∀ (f : Nat) (bs : List (Int × Tm)) (m : Nat) (todo : List (Tm × Tm)), (uRun f bs m todo).2.1 = true → (uRun f bs m todo).2.2 = 0 := by
  intro f
  induction f with
  | zero =>
    intro bs m todo
    cases todo with
    | nil => simp [uRun]
    | cons p r => simp [uRun]
  | succ f ih =>
    intro bs m todo
    cases todo with
    | nil => simp [uRun]
    | cons p r =>
      obtain ⟨x, y⟩ := p
      simp only [uRun]
      split
      · split
        · exact ih _ _ _
        · exact ih _ _ _
        · intro h; cases h
        · exact ih _ _ _
      · intro h; cases h
theorem start22 (a b c : AV) : start c23 [a, b, c] = [a, b, c, .v undef, .v undef, .v undef, .v undef, .v undef, .v undef, .v undef, .v undef, .v undef, .v undef, .v undef, .v undef, .v undef, .v undef, .v undef, .v undef, .v undef] := rfl
def capH (N : Nat) (c' : AV) : Option Nat → Option Nat → Option AV
  | some a, some b => if a = N ∧ b = N then some c' else none
  | _, _ => none
theorem unify_ok {b a a' : AV} {bs : List (Int × Tm)} {x y : Tm} (hb : IsN b bs) (hl : bs.length ≤ 90000) (hbz : ∀ p ∈ bs, size p.2 ≤ 3000) (ha : IsT a x) (ha' : IsT a' y) (hx : size x ≤ 3000) (hy : size y ≤ 3000) :
    ∃ c, IsN c (uniT bs x y).1 ∧ callW F 23 [b, a, a'] [] = some (.tup [c, .v (.bool (uniT bs x y).2.1), .v (.int .i64 (uniT bs x y).2.2)], []) := by
  obtain ⟨c', hc', hcap⟩ := hb.1.cap hb.2
  have hX := ha.bel
  have hY := ha'.bel
  have hlen := hb.1.len
  have cl' : c'.cl = some [c'] := by cases hc' <;> rfl
  cases ha with
  | mk k s n c l hc =>
  cases ha' with
  | mk k2 s2 n2 c2 l2 hc2 =>
  have sn : ∀ h : List AO, (AV.agg [.v (.int .i64 k), .v (.string s), .v (.int .i64 n), c, .v (.int .i64 k2), .v (.string s2), .v (.int .i64 n2), c2]).snap1 h = some (.agg [.v (.int .i64 k), .v (.string s), .v (.int .i64 n), c, .v (.int .i64 k2), .v (.string s2), .v (.int .i64 n2), c2]) := by
    intro h
    cases hc <;> cases hc2 <;> rfl
  have brs : ∀ h : List AO, br1 h 8 (some (AV.agg [.v (.int .i64 k), .v (.string s), .v (.int .i64 n), c, .v (.int .i64 k2), .v (.string s2), .v (.int .i64 n2), c2])) = some (.own 8 h.length 0 0 1, h ++ [.row 8 0 [.agg [.v (.int .i64 k), .v (.string s), .v (.int .i64 n), c, .v (.int .i64 k2), .v (.string s2), .v (.int .i64 n2), c2]] 0]) := fun h => br_some rfl rfl
  simp only [AV.cells] at hX hY
  have key := uni_loop (K := 2001) hX hY 2001 bs 2000 [(.mk k s n l, .mk k2 s2 n2 l2)] 0 [.agg [.v (.int .i64 k), .v (.string s), .v (.int .i64 n), c, .v (.int .i64 k2), .v (.string s2), .v (.int .i64 n2), c2]] 1 c' [] L22 (by omega) (by omega) hc' rfl (by omega) (by simp) (.cons _ _ _ _ (.mk _ _ _ _ _ _ _ _ _ _ (.mk _ _ _ _ _ hc) (.mk _ _ _ _ _ hc2)) .nil) (by intro p hp; simp only [List.mem_singleton] at hp; subst hp; exact ⟨hx, hy⟩) hbz (by omega) rfl
  change Out (loopN (exec (callW F) 2001 c23_15) K22 2001 L22 [.box [.v (.int .i64 k), .v (.string s), .v (.int .i64 n), c], .box [.v (.int .i64 k2), .v (.string s2), .v (.int .i64 n2), c2], .row 8 0 [.agg [.v (.int .i64 k), .v (.string s), .v (.int .i64 n), c, .v (.int .i64 k2), .v (.string s2), .v (.int .i64 n2), c2]] 0, .box [c', .v (.int .i64 2000), .own 8 2 0 0 1]]) _ _ (uniT bs (.mk k s n l) (.mk k2 s2 n2 l2)) at key
  have hf : (uniT bs (.mk k s n l) (.mk k2 s2 n2 l2)).2.1 = false → (uniT bs (.mk k s n l) (.mk k2 s2 n2 l2)).1 = [] := uRun_false _ _ _ _
  have hg : (uniT bs (.mk k s n l) (.mk k2 s2 n2 l2)).2.1 = true → (uniT bs (.mk k s n l) (.mk k2 s2 n2 l2)).2.2 = 0 := uRun_true _ _ _ _
  have pre : ∀ rest : CC, exec (callW F) 2001 (.seq (.region [] [] c23_0) (.seq (.region [] [] c23_1) (.seq (.block 0 (.loop K22 [] c23_15)) rest))) (start c23 [b, .agg [.v (.int .i64 k), .v (.string s), .v (.int .i64 n), c], .agg [.v (.int .i64 k2), .v (.string s2), .v (.int .i64 n2), c2]]) [] = thn (callW F) 2001 rest (blk 0 (loopN (exec (callW F) 2001 c23_15) K22 2001 L22 [.box [.v (.int .i64 k), .v (.string s), .v (.int .i64 n), c], .box [.v (.int .i64 k2), .v (.string s2), .v (.int .i64 n2), c2], .row 8 0 [.agg [.v (.int .i64 k), .v (.string s), .v (.int .i64 n), c, .v (.int .i64 k2), .v (.string s2), .v (.int .i64 n2), c2]] 0, .box [c', .v (.int .i64 2000), .own 8 2 0 0 1]])) := by
    intro rest
    simp only [start22, c23_0, c23_1, hlen, hcap, sn, brs, cl', e_brow1, e_slice, e_bslice1, e_bslice2, bs1, bs2, e_build, bdH_some, bd_nil, bd_cons, bd1, cl_agg, cl_int, toL, List.map_cons, List.map_nil, putAt, List.set_cons_zero, List.set_cons_succ, and_self, Nat.le_refl, evStore, app_get, app_set, g_agg, run_nil, run_cons, stp_plain, stp_guard, put_some, pass_eq, pick_tt, pick_ff, pick_tf, pick_ft, pick_u, reg_some, thn_normal, thn_exit, thn_ret, cnd_t, cnd_f, blk_normal, blk_ret, blk_exit, x_seq, x_region, x_cond, x_block, x_loop, x_ret, x_exit, x_skip, e_mov, e_pick, pk_t, pk_f, withH_some, e_box, bx_some, e_load, e_store, stH_some, e_nil, e_bin, e_eqv, eqH_f, eqH_t, e_un, e_fa, e_ia, ia_eq, nat_eq, natV_nat, e_len, lnH_some, e_extract, ex_0, ex_1, e_call0, e_call1, e_call2, e_call3, pc0_eq, pc1_some, pc2_some, pc3_some, fin_some, g_var0, g_vars, g_loc0, g_locs, g_int, g_bool, g_str, g_sl, s_none, s_zero, s_succ, cl_nil, cl_str, cl_bool, cl_slc, cl_own, evFa, evNil, evLoad, asEl, evBin, intBin, strBin, evUn, len_nil, len_slc, len_str, clr, List.length_nil, List.length_cons, List.getElem?_cons_zero, List.getElem?_cons_succ, Nat.reduceAdd, Nat.zero_add, Nat.add_zero, Nat.reduceLeDiff, Nat.reduceSub, ↓reduceIte, List.drop_succ_cons, List.drop_zero, List.take_succ_cons, List.take_zero, Bool.false_eq_true, List.nil_append, List.cons_append, Bool.not_true, Bool.not_false, cond_true, cond_false, bne, lv_ret, lv_normal, res1, res2, lv2_some, res_var, res_cell, lvf_v, lvf_slc, res1c, lvo1_some, e_mm, mm_max, mm_min]
    rw [loop_cong (v2 := L22) (by rfl)]
  generalize loopN (exec (callW F) 2001 c23_15) K22 2001 L22 [.box [.v (.int .i64 k), .v (.string s), .v (.int .i64 n), c], .box [.v (.int .i64 k2), .v (.string s2), .v (.int .i64 n2), c2], .row 8 0 [.agg [.v (.int .i64 k), .v (.string s), .v (.int .i64 n), c, .v (.int .i64 k2), .v (.string s2), .v (.int .i64 n2), c2]] 0, .box [c', .v (.int .i64 2000), .own 8 2 0 0 1]] = r at key pre
  generalize uniT bs (.mk k s n l) (.mk k2 s2 n2 l2) = u at key hf hg ⊢
  obtain ⟨bs', t, e⟩ := u
  have hpure : ∀ q, lv c23.res (thn (callW F) 2001 (.seq (.region [.p 8 0 1] [] c23_16) .ret) (blk 0 r)) = some (q, []) → callW F 23 [b, .agg [.v (.int .i64 k), .v (.string s), .v (.int .i64 n), c], .agg [.v (.int .i64 k2), .v (.string s2), .v (.int .i64 n2), c2]] [] = some (q, []) := by
    intro q hq
    refine callW_pure (c := c23) rfl rfl 2001 ?_
    rw [← hq, ← pre]
    rfl
  have hres : c23.res = [.var 5, .var 6, .var 7] := rfl
  cases t with
  | false =>
    obtain ⟨vs, h', g1, g2, g3, g4⟩ := key
    have hf := hf rfl
    dsimp only at hf
    subst hf
    refine ⟨.v (.slice none 0 0), ⟨.nil, trivial⟩, hpure _ ?_⟩
    rw [g1, blk_ret, thn_ret, lv_ret, hres, resThree, g2, g3, g4]
    rfl
  | true =>
    obtain ⟨ver', L', B', m', n', tl', x8, g1, g2, g3, g4⟩ := key
    have hg := hg rfl
    dsimp only at hg
    subst hg
    obtain ⟨tl2, mk, f1, f2, B2, f3, f4, f5⟩ := g2.fix
    obtain ⟨q, h1, h2, h3⟩ := clone_ok f4 f5 (by omega)
    refine ⟨q, ⟨h1, h2⟩, hpure _ ?_⟩
    have dm : doMark (E22 x8, wh [.v (.int .i64 k), .v (.string s), .v (.int .i64 n), c] [.v (.int .i64 k2), .v (.string s2), .v (.int .i64 n2), c2] ver' L' B' m' n' tl') (.p 8 0 1) = (E22 x8, wh [.v (.int .i64 k), .v (.string s), .v (.int .i64 n), c] [.v (.int .i64 k2), .v (.string s2), .v (.int .i64 n2), c2] ver' L' B' m' n' tl2 ++ []) := by
      have := mk [.v (.int .i64 k), .v (.string s), .v (.int .i64 n), c] [.v (.int .i64 k2), .v (.string s2), .v (.int .i64 n2), c2] ver' L' B' m' n'
      rw [List.append_nil, ← this]
      rfl
    have sb := f3 [.v (.int .i64 k), .v (.string s), .v (.int .i64 n), c] [.v (.int .i64 k2), .v (.string s2), .v (.int .i64 n2), c2] ver' L' B' m' n'
    have lq := h1.lvf3
    rw [g1, blk_exit, thn_normal]
    simp only [E22] at dm
    simp only [E22, hres, c23_16, dm, sb, h3, lq, x_region_m, List.foldl_cons, List.foldl_nil, marked, resThree, w_b, evNil, e_bslice1, e_bslice2, bs1, bs2, e_build, bdH_some, bd_nil, bd_cons, bd1, cl_agg, cl_int, toL, List.map_cons, List.map_nil, putAt, List.set_cons_zero, List.set_cons_succ, and_self, Nat.le_refl, app_get, app_set, g_agg, run_nil, run_cons, stp_plain, stp_guard, put_some, pass_eq, pick_tt, pick_ff, pick_tf, pick_ft, pick_u, reg_some, thn_normal, thn_exit, thn_ret, cnd_t, cnd_f, blk_normal, blk_ret, blk_exit, x_seq, x_region, x_cond, x_block, x_loop, x_ret, x_exit, x_skip, e_mov, e_pick, pk_t, pk_f, withH_some, e_box, e_load, e_store, stH_some, e_nil, e_bin, e_eqv, eqH_f, eqH_t, e_un, e_fa, e_ia, ia_eq, nat_eq, natV_nat, e_len, lnH_some, e_extract, ex_0, ex_1, e_call0, e_call1, e_call2, e_call3, pc0_eq, pc1_some, pc2_some, pc3_some, fin_some, g_var0, g_vars, g_loc0, g_locs, g_int, g_bool, g_str, g_sl, s_none, s_zero, s_succ, cl_nil, cl_str, cl_bool, cl_slc, cl_own, evFa, evNil, asEl, evBin, intBin, strBin, evUn, len_nil, len_slc, len_str, clr, List.length_nil, List.length_cons, List.getElem?_cons_zero, List.getElem?_cons_succ, Nat.reduceAdd, Nat.zero_add, Nat.add_zero, Nat.reduceLeDiff, Nat.reduceSub, ↓reduceIte, List.drop_succ_cons, List.drop_zero, List.take_succ_cons, List.take_zero, Bool.false_eq_true, List.nil_append, List.cons_append, Bool.not_true, Bool.not_false, cond_true, cond_false, bne, lv_ret, lv_normal, res1, res2, lv2_some, res_var, res_cell, lvf_v, lvf_slc, res1c, lvo1_some, e_mm, mm_max, mm_min]
end
end Go.AE.Ytpgoibncgekflaa
end

/-! Whether two lists of bindings are the same; whether bindings and terms may be. -/
section
set_option linter.unusedVariables false
set_option linter.unusedSimpArgs false
namespace Go.AE.Ytpgoibncgekflaa
open Go Go.AE Go.Proofs.Ytpgoibncgekflaa

theorem IsB.sl' {c : AV} {l : List (Int × Tm)} (h : IsB c l) : ∃ es, Sl 5 c es ∧ AllB es l ∧ es.length ≤ maxLen := by
  cases h with
  | nil => exact ⟨[], .nil, .nil, by simp⟩
  | slc ex nn es l h hb => exact ⟨es, .slc ex nn es, h, hb⟩
def sameBL : List (Int × Tm) → List (Int × Tm) → Bool
  | (v, t) :: l, (v', t') :: l' => (v == v') && same t t' && sameBL l l'
  | _, _ => true
def sameB (l l' : List (Int × Tm)) : Bool := decide (l.length = l'.length) && sameBL l l'
def K24 : List Bool := [true, true, false, false, false, true, true, false, false]
def L24 (a b : AV) (len i : Int) : List AV := [a, b, .junk, .junk, .junk, .v (.int .i64 len), .v (.int .i64 i), .junk, .junk]
theorem sb_loop {K : Nat} {a b : AV} {es es' : List AV} (hs : Sl 5 a es) (hs' : Sl 5 b es') (hlen : es.length = es'.length) (hm : es.length ≤ 200000) :
    ∀ (l l' : List (Int × Tm)) (i : Nat) (h : List AO) (vars : List AV), i + l.length = es.length → AllB (es.drop i) l → AllB (es'.drop i) l' → clr K24 vars = L24 a b es.length i →
      (sameBL l l' = true ∧ ∃ vs h', loopN (exec (callW F) K c26_9) K24 (l.length + 1) vars h = some (.exit 0, vs, h') ∧ vs.length = 9) ∨
      (sameBL l l' = false ∧ ∃ vs h', loopN (exec (callW F) K c26_9) K24 (l.length + 1) vars h = some (.ret, vs, h') ∧ getO vs [] (.var 2) = .v (.bool false)) := by
  intro l
  induction l with
  | nil =>
    intro l' i h vars hi _ _ hv
    have hil : i = es.length := by simpa using hi
    subst hil
    have hlt : decide ((es.length : Int) < (es.length : Int)) = false := by simp
    refine .inl ⟨rfl, [a, b, .junk, .junk, .junk, .v (.int .i64 es.length), .v (.int .i64 es.length), .v (.bool false), .junk], h, loop_exit ?_, rfl⟩
    rw [hv]
    simp only [L24, c26_9, c26_4, hlt, e_bslice1, e_bslice2, bs1, bs2, e_build, bdH_some, bd_nil, bd_cons, bd1, cl_agg, cl_int, toL, List.map_cons, List.map_nil, putAt, List.set_cons_zero, List.set_cons_succ, and_self, Nat.le_refl, app_get, app_set, g_agg, run_nil, run_cons, stp_plain, stp_guard, put_some, pass_eq, pick_tt, pick_ff, pick_tf, pick_ft, pick_u, reg_some, thn_normal, thn_exit, thn_ret, cnd_t, cnd_f, blk_normal, blk_ret, blk_exit, x_seq, x_region, x_cond, x_block, x_loop, x_ret, x_exit, x_skip, e_mov, e_pick, pk_t, pk_f, withH_some, e_box, bx_some, e_load, e_store, stH_some, e_nil, e_bin, e_eqv, eqH_f, eqH_t, e_un, e_fa, e_ia, ia_eq, nat_eq, natV_nat, e_len, lnH_some, e_extract, ex_0, ex_1, e_call0, e_call1, e_call2, e_call3, pc0_eq, pc1_some, pc2_some, pc3_some, fin_some, g_var0, g_vars, g_loc0, g_locs, g_int, g_bool, g_str, g_sl, s_none, s_zero, s_succ, cl_nil, cl_str, cl_bool, cl_slc, cl_own, evFa, evNil, asEl, evBin, intBin, strBin, evUn, len_nil, len_slc, len_str, clr, List.length_nil, List.length_cons, List.getElem?_cons_zero, List.getElem?_cons_succ, Nat.reduceAdd, Nat.zero_add, Nat.add_zero, Nat.reduceLeDiff, Nat.reduceSub, ↓reduceIte, List.drop_succ_cons, List.drop_zero, List.take_succ_cons, List.take_zero, Bool.false_eq_true, List.nil_append, List.cons_append, Bool.not_true, Bool.not_false, cond_true, cond_false, bne, lv_ret, lv_normal, res1, res2, lv2_some, res_var, res_cell, lvf_v, lvf_slc, res1c, lvo1_some, e_mm, mm_max, mm_min]
  | cons p l ih =>
    intro l' i h vars hi hes hes' hv
    obtain ⟨v, t⟩ := p
    have hil : i < es.length := by simp at hi; omega
    have hil' : i < es'.length := by omega
    have he : es[i]? = some (es[i]'hil) := List.getElem?_eq_getElem _
    have he' : es'[i]? = some (es'[i]'hil') := List.getElem?_eq_getElem _
    have hd : es.drop i = es[i] :: es.drop (i + 1) := List.drop_eq_getElem_cons hil
    have hd' : es'.drop i = es'[i] :: es'.drop (i + 1) := List.drop_eq_getElem_cons hil'
    rw [hd] at hes
    rw [hd'] at hes'
    generalize es[i]'hil = e at hes he
    generalize es'[i]'hil' = e' at hes' he'
    cases hes with
    | cons _ _ _ _ _ hT hsr =>
    cases hes' with
    | cons _ v' t' _ l' hT' hsr' =>
    cases hT with
    | mk v cs t ht =>
    cases hT' with
    | mk v' cs' t' ht' =>
    have hlt : (decide ((i : Int) < (es.length : Int))) = true := by simp; omega
    have q1 := hs.ia he
    have q2 := hs'.ia he'
    have hcs : cs.length = 4 := ht.cl.2
    have hcs' : cs'.length = 4 := ht'.cl.2
    have q3 : ∀ h : List AO, evLoad h true 4 (.ip cs) = some (.agg cs) := fun h => ht.load
    have q4 : ∀ h : List AO, evLoad h true 4 (.ip cs') = some (.agg cs') := fun h => ht'.load
    have q5 : ∀ (h : List AO) (x : AV) (cs : List AV), evLoad h false 1 (.ip (x :: cs)) = some x := by
      intro h x cs; simp [evLoad, asEl]
    have s1 : ∀ h : List AO, (AV.agg cs).snap1 h = some (.agg cs) := fun h => ht.snap
    have s2 : ∀ h : List AO, (AV.agg cs').snap1 h = some (.agg cs') := fun h => ht'.snap
    have hsm := same_ok _ t t' _ _ (Nat.lt_succ_self _) ht ht'
    have hsm : callW F 15 [.agg cs, .agg cs'] [] = some (.v (.bool (same t t')), []) := hsm
    simp only [AV.cells] at q1 q2
    cases hvv : (v == v') with
    | false =>
      refine .inr ⟨by simp [sameBL, hvv], [a, b, .v (.bool false), .v (.int .i64 i), .junk, .v (.int .i64 es.length), .v (.int .i64 i), .v (.bool true), .v (.bool true)], h, loop_ret ?_, rfl⟩
      rw [hv]
      simp only [L24, AV.cells, c26_9, c26_4, c26_5, c26_6, c26_7, hlt, q1, q2, q3, q4, q5, hvv, e_bslice1, e_bslice2, bs1, bs2, e_build, bdH_some, bd_nil, bd_cons, bd1, cl_agg, cl_int, toL, List.map_cons, List.map_nil, putAt, List.set_cons_zero, List.set_cons_succ, and_self, Nat.le_refl, app_get, app_set, g_agg, run_nil, run_cons, stp_plain, stp_guard, put_some, pass_eq, pick_tt, pick_ff, pick_tf, pick_ft, pick_u, reg_some, thn_normal, thn_exit, thn_ret, cnd_t, cnd_f, blk_normal, blk_ret, blk_exit, x_seq, x_region, x_cond, x_block, x_loop, x_ret, x_exit, x_skip, e_mov, e_pick, pk_t, pk_f, withH_some, e_box, bx_some, e_load, e_store, stH_some, e_nil, e_bin, e_eqv, eqH_f, eqH_t, e_un, e_fa, e_ia, ia_eq, nat_eq, natV_nat, e_len, lnH_some, e_extract, ex_0, ex_1, e_call0, e_call1, e_call2, e_call3, pc0_eq, pc1_some, pc2_some, pc3_some, fin_some, g_var0, g_vars, g_loc0, g_locs, g_int, g_bool, g_str, g_sl, s_none, s_zero, s_succ, cl_nil, cl_str, cl_bool, cl_slc, cl_own, evFa, evNil, asEl, evBin, intBin, strBin, evUn, len_nil, len_slc, len_str, clr, List.length_nil, List.length_cons, List.getElem?_cons_zero, List.getElem?_cons_succ, Nat.reduceAdd, Nat.zero_add, Nat.add_zero, Nat.reduceLeDiff, Nat.reduceSub, ↓reduceIte, List.drop_succ_cons, List.drop_zero, List.take_succ_cons, List.take_zero, Bool.false_eq_true, List.nil_append, List.cons_append, Bool.not_true, Bool.not_false, cond_true, cond_false, bne, lv_ret, lv_normal, res1, res2, lv2_some, res_var, res_cell, lvf_v, lvf_slc, res1c, lvo1_some, e_mm, mm_max, mm_min]
    | true =>
    cases hsv : same t t' with
    | false =>
      rw [hsv] at hsm
      refine .inr ⟨by simp [sameBL, hsv], [a, b, .v (.bool false), .v (.int .i64 i), .junk, .v (.int .i64 es.length), .v (.int .i64 i), .v (.bool true), .v (.bool true)], h, loop_ret ?_, rfl⟩
      rw [hv]
      simp only [L24, AV.cells, c26_9, c26_4, c26_5, c26_6, c26_7, hlt, q1, q2, q3, q4, q5, s1, s2, hvv, hsm, e_bslice1, e_bslice2, bs1, bs2, e_build, bdH_some, bd_nil, bd_cons, bd1, cl_agg, cl_int, toL, List.map_cons, List.map_nil, putAt, List.set_cons_zero, List.set_cons_succ, and_self, Nat.le_refl, app_get, app_set, g_agg, run_nil, run_cons, stp_plain, stp_guard, put_some, pass_eq, pick_tt, pick_ff, pick_tf, pick_ft, pick_u, reg_some, thn_normal, thn_exit, thn_ret, cnd_t, cnd_f, blk_normal, blk_ret, blk_exit, x_seq, x_region, x_cond, x_block, x_loop, x_ret, x_exit, x_skip, e_mov, e_pick, pk_t, pk_f, withH_some, e_box, bx_some, e_load, e_store, stH_some, e_nil, e_bin, e_eqv, eqH_f, eqH_t, e_un, e_fa, e_ia, ia_eq, nat_eq, natV_nat, e_len, lnH_some, e_extract, ex_0, ex_1, e_call0, e_call1, e_call2, e_call3, pc0_eq, pc1_some, pc2_some, pc3_some, fin_some, g_var0, g_vars, g_loc0, g_locs, g_int, g_bool, g_str, g_sl, s_none, s_zero, s_succ, cl_nil, cl_str, cl_bool, cl_slc, cl_own, evFa, evNil, asEl, evBin, intBin, strBin, evUn, len_nil, len_slc, len_str, clr, List.length_nil, List.length_cons, List.getElem?_cons_zero, List.getElem?_cons_succ, Nat.reduceAdd, Nat.zero_add, Nat.add_zero, Nat.reduceLeDiff, Nat.reduceSub, ↓reduceIte, List.drop_succ_cons, List.drop_zero, List.take_succ_cons, List.take_zero, Bool.false_eq_true, List.nil_append, List.cons_append, Bool.not_true, Bool.not_false, cond_true, cond_false, bne, lv_ret, lv_normal, res1, res2, lv2_some, res_var, res_cell, lvf_v, lvf_slc, res1c, lvo1_some, e_mm, mm_max, mm_min]
    | true =>
      rw [hsv] at hsm
      have hw : IntKind.i64.wrap ((i : Int) + 1) = ((i + 1 : Nat) : Int) := by rw [wrap_ok (by omega) (by omega)]; omega
      have st : exec (callW F) K c26_9 (L24 a b es.length i) h = some (.normal, [a, b, .junk, .v (.int .i64 i), .junk, .v (.int .i64 es.length), .v (.int .i64 ((i + 1 : Nat) : Int)), .v (.bool true), .v (.bool false)], h) := by
        simp only [L24, AV.cells, c26_9, c26_4, c26_5, c26_6, c26_8, hlt, hw, q1, q2, q3, q4, q5, s1, s2, hvv, hsm, e_bslice1, e_bslice2, bs1, bs2, e_build, bdH_some, bd_nil, bd_cons, bd1, cl_agg, cl_int, toL, List.map_cons, List.map_nil, putAt, List.set_cons_zero, List.set_cons_succ, and_self, Nat.le_refl, app_get, app_set, g_agg, run_nil, run_cons, stp_plain, stp_guard, put_some, pass_eq, pick_tt, pick_ff, pick_tf, pick_ft, pick_u, reg_some, thn_normal, thn_exit, thn_ret, cnd_t, cnd_f, blk_normal, blk_ret, blk_exit, x_seq, x_region, x_cond, x_block, x_loop, x_ret, x_exit, x_skip, e_mov, e_pick, pk_t, pk_f, withH_some, e_box, bx_some, e_load, e_store, stH_some, e_nil, e_bin, e_eqv, eqH_f, eqH_t, e_un, e_fa, e_ia, ia_eq, nat_eq, natV_nat, e_len, lnH_some, e_extract, ex_0, ex_1, e_call0, e_call1, e_call2, e_call3, pc0_eq, pc1_some, pc2_some, pc3_some, fin_some, g_var0, g_vars, g_loc0, g_locs, g_int, g_bool, g_str, g_sl, s_none, s_zero, s_succ, cl_nil, cl_str, cl_bool, cl_slc, cl_own, evFa, evNil, asEl, evBin, intBin, strBin, evUn, len_nil, len_slc, len_str, clr, List.length_nil, List.length_cons, List.getElem?_cons_zero, List.getElem?_cons_succ, Nat.reduceAdd, Nat.zero_add, Nat.add_zero, Nat.reduceLeDiff, Nat.reduceSub, ↓reduceIte, List.drop_succ_cons, List.drop_zero, List.take_succ_cons, List.take_zero, Bool.false_eq_true, List.nil_append, List.cons_append, Bool.not_true, Bool.not_false, cond_true, cond_false, bne, lv_ret, lv_normal, res1, res2, lv2_some, res_var, res_cell, lvf_v, lvf_slc, res1c, lvo1_some, e_mm, mm_max, mm_min]
      rw [show ((v, t) :: l).length + 1 = (l.length + 1) + 1 from rfl, loop_normal (by rw [hv]; exact st)]
      have e1 : sameBL ((v, t) :: l) ((v', t') :: l') = sameBL l l' := by simp [sameBL, hvv, hsv]
      rw [e1]
      exact ih l' (i + 1) h _ (by simp at hi; omega) hsr hsr' rfl
theorem sameB_ok {a b : AV} {bs bs' : List (Int × Tm)} (ha : IsB a bs) (hb : IsB b bs') (hl : bs.length ≤ 200000) : callW F 26 [a, b] [] = some (.v (.bool (sameB bs bs')), []) := by
  obtain ⟨es, hs, hes, hm⟩ := ha.sl'
  obtain ⟨es', hs', hes', hm'⟩ := hb.sl'
  have l1 := hs.len
  have l2 := hs'.len
  have e1 := hes.length
  have e2 := hes'.length
  by_cases hlen : es.length = es'.length
  · have h1 : ((es.length : Int) == (es'.length : Int)) = true := by rw [hlen]; simp
    have eb : sameB bs bs' = sameBL bs bs' := by
      have : bs.length = bs'.length := by omega
      simp [sameB, this]
    rw [eb]
    have key := sb_loop (K := bs.length + 1) hs hs' hlen (by omega) bs bs' 0 [] (L24 a b es.length (0 : Nat)) (by omega) (by simpa using hes) (by simpa using hes') rfl
    refine callW_pure (c := c26) rfl rfl (bs.length + 1) ?_
    show lv [.var 2] (exec (callW F) (bs.length + 1) (.seq (.region [] [] c26_0) (.seq (.seq (.region [] [] c26_1) (.cond (.var 4) (.seq (.region [] [] c26_2) .ret) .skip)) (.seq (.seq (.region [] [] c26_3) (.block 0 (.loop K24 [] c26_9))) (.seq (.region [] [] c26_10) .ret)))) _ _) = _
    generalize hrest : (CC.seq (.region [] [] c26_10) .ret) = rest
    simp only [c26, start, List.replicate, c26_0, c26_1, c26_3, l1, l2, h1, e_bslice1, e_bslice2, bs1, bs2, e_build, bdH_some, bd_nil, bd_cons, bd1, cl_agg, cl_int, toL, List.map_cons, List.map_nil, putAt, List.set_cons_zero, List.set_cons_succ, and_self, Nat.le_refl, evStore, app_get, app_set, g_agg, run_nil, run_cons, stp_plain, stp_guard, put_some, pass_eq, pick_tt, pick_ff, pick_tf, pick_ft, pick_u, reg_some, thn_normal, thn_exit, thn_ret, cnd_t, cnd_f, blk_normal, blk_ret, blk_exit, x_seq, x_region, x_cond, x_block, x_loop, x_ret, x_exit, x_skip, e_mov, e_pick, pk_t, pk_f, withH_some, e_box, bx_some, e_load, e_store, stH_some, e_nil, e_bin, e_eqv, eqH_f, eqH_t, e_un, e_fa, e_ia, ia_eq, nat_eq, natV_nat, e_len, lnH_some, e_extract, ex_0, ex_1, e_call0, e_call1, e_call2, e_call3, pc0_eq, pc1_some, pc2_some, pc3_some, fin_some, g_var0, g_vars, g_loc0, g_locs, g_int, g_bool, g_str, g_sl, s_none, s_zero, s_succ, cl_nil, cl_str, cl_bool, cl_slc, cl_own, evFa, evNil, evLoad, asEl, evBin, intBin, strBin, evUn, len_nil, len_slc, len_str, clr, List.length_nil, List.length_cons, List.getElem?_cons_zero, List.getElem?_cons_succ, Nat.reduceAdd, Nat.zero_add, Nat.add_zero, Nat.reduceLeDiff, Nat.reduceSub, ↓reduceIte, List.drop_succ_cons, List.drop_zero, List.take_succ_cons, List.take_zero, Bool.false_eq_true, List.nil_append, List.cons_append, Bool.not_true, Bool.not_false, cond_true, cond_false, bne, lv_ret, lv_normal, res1, res2, lv2_some, res_var, res_cell, lvf_v, lvf_slc, res1c, lvo1_some, e_mm, mm_max, mm_min]
    rw [loop_cong (v2 := L24 a b es.length ((0 : Nat) : Int)) (by rfl)]
    rcases key with ⟨h0, vs, h', g1, g2⟩ | ⟨h0, vs, h', g1, g2⟩
    · rw [g1, h0, ← hrest]
      match vs, g2 with
      | [a0, a1, a2, a3, a4, a5, a6, a7, a8], _ => simp only [blk_exit, thn_normal, blk_ret, thn_ret, c26_10, run_nil, run_cons, stp_plain, stp_guard, put_some, pass_eq, pick_tt, pick_ff, pick_tf, pick_ft, pick_u, reg_some, thn_normal, thn_exit, thn_ret, cnd_t, cnd_f, blk_normal, blk_ret, blk_exit, x_seq, x_region, x_cond, x_block, x_loop, x_ret, x_exit, x_skip, e_mov, e_pick, pk_t, pk_f, withH_some, e_box, bx_some, e_load, e_store, stH_some, e_nil, e_bin, e_eqv, eqH_f, eqH_t, e_un, e_fa, e_ia, ia_eq, nat_eq, natV_nat, e_len, lnH_some, e_extract, ex_0, ex_1, e_call0, e_call1, e_call2, e_call3, pc0_eq, pc1_some, pc2_some, pc3_some, fin_some, g_var0, g_vars, g_loc0, g_locs, g_int, g_bool, g_str, g_sl, s_none, s_zero, s_succ, cl_nil, cl_str, cl_bool, cl_slc, cl_own, evFa, evNil, evLoad, asEl, evBin, intBin, strBin, evUn, len_nil, len_slc, len_str, clr, List.length_nil, List.length_cons, List.getElem?_cons_zero, List.getElem?_cons_succ, Nat.reduceAdd, Nat.zero_add, Nat.add_zero, Nat.reduceLeDiff, Nat.reduceSub, ↓reduceIte, List.drop_succ_cons, List.drop_zero, List.take_succ_cons, List.take_zero, Bool.false_eq_true, List.nil_append, List.cons_append, Bool.not_true, Bool.not_false, cond_true, cond_false, bne, lv_ret, lv_normal, res1, res2, lv2_some, res_var, res_cell, lvf_v, lvf_slc, res1c, lvo1_some, e_mm, mm_max, mm_min]
    · rw [g1, h0]
      simp only [blk_ret, thn_ret, g2, run_nil, run_cons, stp_plain, stp_guard, put_some, pass_eq, pick_tt, pick_ff, pick_tf, pick_ft, pick_u, reg_some, thn_normal, thn_exit, thn_ret, cnd_t, cnd_f, blk_normal, blk_ret, blk_exit, x_seq, x_region, x_cond, x_block, x_loop, x_ret, x_exit, x_skip, e_mov, e_pick, pk_t, pk_f, withH_some, e_box, bx_some, e_load, e_store, stH_some, e_nil, e_bin, e_eqv, eqH_f, eqH_t, e_un, e_fa, e_ia, ia_eq, nat_eq, natV_nat, e_len, lnH_some, e_extract, ex_0, ex_1, e_call0, e_call1, e_call2, e_call3, pc0_eq, pc1_some, pc2_some, pc3_some, fin_some, g_var0, g_vars, g_loc0, g_locs, g_int, g_bool, g_str, g_sl, s_none, s_zero, s_succ, cl_nil, cl_str, cl_bool, cl_slc, cl_own, evFa, evNil, evLoad, asEl, evBin, intBin, strBin, evUn, len_nil, len_slc, len_str, clr, List.length_nil, List.length_cons, List.getElem?_cons_zero, List.getElem?_cons_succ, Nat.reduceAdd, Nat.zero_add, Nat.add_zero, Nat.reduceLeDiff, Nat.reduceSub, ↓reduceIte, List.drop_succ_cons, List.drop_zero, List.take_succ_cons, List.take_zero, Bool.false_eq_true, List.nil_append, List.cons_append, Bool.not_true, Bool.not_false, cond_true, cond_false, bne, lv_ret, lv_normal, res1, res2, lv2_some, res_var, res_cell, lvf_v, lvf_slc, res1c, lvo1_some, e_mm, mm_max, mm_min]
  · have h1 : ((es.length : Int) == (es'.length : Int)) = false := by
      rw [beq_eq_false_iff_ne]; omega
    have eb : sameB bs bs' = false := by
      have : ¬ bs.length = bs'.length := by omega
      simp [sameB, this]
    rw [eb]
    refine callW_pure (c := c26) rfl rfl 0 ?_
    simp only [c26, start, List.replicate, c26_0, c26_1, c26_2, l1, l2, h1, e_bslice1, e_bslice2, bs1, bs2, e_build, bdH_some, bd_nil, bd_cons, bd1, cl_agg, cl_int, toL, List.map_cons, List.map_nil, putAt, List.set_cons_zero, List.set_cons_succ, and_self, Nat.le_refl, evStore, app_get, app_set, g_agg, run_nil, run_cons, stp_plain, stp_guard, put_some, pass_eq, pick_tt, pick_ff, pick_tf, pick_ft, pick_u, reg_some, thn_normal, thn_exit, thn_ret, cnd_t, cnd_f, blk_normal, blk_ret, blk_exit, x_seq, x_region, x_cond, x_block, x_loop, x_ret, x_exit, x_skip, e_mov, e_pick, pk_t, pk_f, withH_some, e_box, bx_some, e_load, e_store, stH_some, e_nil, e_bin, e_eqv, eqH_f, eqH_t, e_un, e_fa, e_ia, ia_eq, nat_eq, natV_nat, e_len, lnH_some, e_extract, ex_0, ex_1, e_call0, e_call1, e_call2, e_call3, pc0_eq, pc1_some, pc2_some, pc3_some, fin_some, g_var0, g_vars, g_loc0, g_locs, g_int, g_bool, g_str, g_sl, s_none, s_zero, s_succ, cl_nil, cl_str, cl_bool, cl_slc, cl_own, evFa, evNil, evLoad, asEl, evBin, intBin, strBin, evUn, len_nil, len_slc, len_str, clr, List.length_nil, List.length_cons, List.getElem?_cons_zero, List.getElem?_cons_succ, Nat.reduceAdd, Nat.zero_add, Nat.add_zero, Nat.reduceLeDiff, Nat.reduceSub, ↓reduceIte, List.drop_succ_cons, List.drop_zero, List.take_succ_cons, List.take_zero, Bool.false_eq_true, List.nil_append, List.cons_append, Bool.not_true, Bool.not_false, cond_true, cond_false, bne, lv_ret, lv_normal, res1, res2, lv2_some, res_var, res_cell, lvf_v, lvf_slc, res1c, lvo1_some, e_mm, mm_max, mm_min]

end Go.AE.Ytpgoibncgekflaa
end

/-! What Unify adds to bindings: new variables alone. -/
section
set_option linter.unusedVariables false
set_option linter.unusedSimpArgs false
namespace Go.AE.Ytpgoibncgekflaa
open Go Go.AE Go.Proofs.Ytpgoibncgekflaa

theorem sameBL_refl : ∀ l : List (Int × Tm), sameBL l l = true
  | [] => rfl
  | (v, t) :: l => by simp [sameBL, same_refl, sameBL_refl l]
theorem sameB_refl (l : List (Int × Tm)) : sameB l l = true := by simp [sameB, sameBL_refl]
/-- the variables of bindings -/
def keys (l : List (Int × Tm)) : List Int := l.map (·.1)
theorem lookT_none {rs : List (Int × Tm)} {n : Int} (h : lookT rs n = none) : n ∉ keys rs := by
  induction rs with
  | nil => simp [keys]
  | cons p rs ih =>
    obtain ⟨v, t⟩ := p
    simp only [lookT] at h
    by_cases e : v = n
    · rw [if_pos e] at h; cases h
    · rw [if_neg e] at h
      have := ih h
      simp only [keys, List.map_cons, List.mem_cons, not_or] at this ⊢
      exact ⟨fun x => e x.symm, this⟩
theorem walkT_end {rs : List (Int × Tm)} : ∀ (m : Nat) (t : Tm), (walkT rs m t).2.1 = 0 → bound rs (walkT rs m t).1 = none := by
  intro m
  induction m with
  | zero =>
    intro t
    cases hb : bound rs t with
    | some u => simp [walkT, hb]
    | none => simp [walkT, hb]
  | succ m ih =>
    intro t
    cases hb : bound rs t with
    | some u => simp only [walkT, hb]; exact ih u
    | none => simp [walkT, hb]
theorem meetT_end {rs : List (Int × Tm)} {m : Nat} {t : Tm} (h : (meetT rs m t).2.1 = 0) : bound rs (meetT rs m t).1 = none := by
  cases m with
  | zero => simp [meetT] at h
  | succ m => exact walkT_end m t h
theorem nextT_end {rs : List (Int × Tm)} {m : Nat} {x y : Tm} (h : (nextT rs m x y).2.2.1 = 0) : bound rs (nextT rs m x y).1 = none ∧ bound rs (nextT rs m x y).2.1 = none := by
  by_cases h0 : (meetT rs m x).2.1 = 0
  · simp only [nextT, if_pos h0] at h ⊢
    exact ⟨meetT_end h0, meetT_end h⟩
  · simp only [nextT, if_neg h0] at h
    exact absurd h h0
theorem uStep_new {rs : List (Int × Tm)} {x y : Tm} {v : Int} {t : Tm} (hx : bound rs x = none) (hy : bound rs y = none) (h : uStep x y = .bind v t) : v ∉ keys rs := by
  obtain ⟨k, s, n, l⟩ := x
  obtain ⟨k', s', n', l'⟩ := y
  simp only [uStep] at h
  split at h
  · cases h
  · split at h
    · rename_i h1
      cases h
      simp only [bound, if_pos h1.1] at hx
      exact lookT_none hx
    · split at h
      · rename_i h1
        cases h
        simp only [bound, if_pos h1] at hy
        exact lookT_none hy
      · split at h <;> cases h
/-- these are those, and what is behind them is new, each -/
def Grown (bs l : List (Int × Tm)) : Prop := bs.length ≤ l.length ∧ l.take bs.length = bs ∧ ∀ i (p : Int × Tm), bs.length ≤ i → l[i]? = some p → p.1 ∉ keys (l.take i)
theorem Grown.refl (bs : List (Int × Tm)) : Grown bs bs := ⟨Nat.le_refl _, List.take_length, fun i p hi hp => by
  have := (List.getElem?_eq_some_iff.1 hp).1; omega⟩
theorem Grown.add {bs l : List (Int × Tm)} (h : Grown bs l) {v : Int} {t : Tm} (hv : v ∉ keys l) : Grown bs (l ++ [(v, t)]) := by
  obtain ⟨h1, h2, h3⟩ := h
  refine ⟨by simp; omega, by rw [List.take_append_of_le_length h1]; exact h2, fun i p hi hp => ?_⟩
  by_cases hl : i < l.length
  · rw [List.getElem?_append_left hl] at hp
    rw [List.take_append_of_le_length (by omega)]
    exact h3 i p hi hp
  · rw [List.getElem?_append_right (by omega)] at hp
    have h4 := (List.getElem?_eq_some_iff.1 hp).1
    simp at h4
    have : i = l.length := by omega
    subst this
    simp at hp
    subst hp
    rw [List.take_append_of_le_length (Nat.le_refl _), List.take_length]
    exact hv
theorem keys_rev (l : List (Int × Tm)) (v : Int) : v ∈ keys l.reverse ↔ v ∈ keys l := by simp [keys]
theorem uRun_grown {bs0 : List (Int × Tm)} : ∀ (f : Nat) (bs : List (Int × Tm)) (m : Nat) (todo : List (Tm × Tm)), Grown bs0 bs → (uRun f bs m todo).2.1 = true → Grown bs0 (uRun f bs m todo).1 := by
  intro f
  induction f with
  | zero =>
    intro bs m todo hg
    cases todo with
    | nil => intro _; exact hg
    | cons p r => simp [uRun]
  | succ f ih =>
    intro bs m todo hg
    cases todo with
    | nil => intro _; exact hg
    | cons p r =>
      obtain ⟨x, y⟩ := p
      simp only [uRun]
      split
      · rename_i h0
        obtain ⟨hx, hy⟩ := nextT_end h0
        split
        · exact ih _ _ _ hg
        · rename_i v t hst
          have := uStep_new hx hy hst
          exact ih _ _ _ (hg.add fun e => this ((keys_rev bs v).2 e))
        · intro h; cases h
        · exact ih _ _ _ hg
      · intro h; cases h
theorem uniT_grown {bs : List (Int × Tm)} {x y : Tm} (h : (uniT bs x y).2.1 = true) : Grown bs (uniT bs x y).1 := uRun_grown _ _ _ _ (.refl bs) h
end Go.AE.Ytpgoibncgekflaa
end

/-! The examples of Unify; what is too great. -/
section
set_option linter.unusedVariables false
set_option linter.unusedSimpArgs false
namespace Go.AE.Ytpgoibncgekflaa
open Go Go.AE Go.Proofs.Ytpgoibncgekflaa
set_option maxRecDepth 1000000 in
theorem live17_n : callN F 60 21 [] [] = some (.v (.bool true), []) := by kernel_rfl
theorem live17 : callW F 21 [] [] = some (.v (.bool true), []) := callW_iff.2 ⟨_, live17_n⟩
theorem call_same {f g : FuncId} {c : CFun} (hf : F f = some (.code c)) (hg : F g = some (.code c)) (args : List AV) (h : List AO) (r : AV × List AO) : callW F f args h = some r → callW F g args h = some r := by
  intro hr
  obtain ⟨n, hn⟩ := callW_iff.1 hr
  refine callW_iff.2 ⟨n, ?_⟩
  cases n with
  | zero => cases hn
  | succ n => simp only [callN, hf] at hn; simp only [callN, hg]; exact hn
theorem c22_10 : c22 = c10 := rfl
theorem big18 {b ts : AV} {bs : List (Int × Tm)} {l : List Tm} (hb : IsB b bs) {ex nn : Bool} {es : List AV} (hts : ts = .slc 4 ex nn es) (hes : All2 es l) (hm : es.length ≤ maxLen) : callW F 22 [b, ts] [] = some (.v (.bool (big bs l)), []) :=
  call_same (c := c10) rfl rfl _ _ _ (big_ok hb hts hes hm)
end Go.AE.Ytpgoibncgekflaa
end

/-! UnifyApart in plain Lean. -/
section
set_option linter.unusedVariables false
set_option linter.unusedSimpArgs false
namespace Go.AE.Ytpgoibncgekflaa
open Go Go.AE Go.Proofs.Ytpgoibncgekflaa

theorem AllB.takes : ∀ {es : List AV} {l : List (Int × Tm)}, AllB es l → ∀ n, AllB (es.take n) (l.take n)
  | _, _, .nil, n => by simp; exact .nil
  | _, _, .cons a v t es bs h hs, 0 => by simp; exact .nil
  | _, _, .cons a v t es bs h hs, n + 1 => by simp; exact .cons _ _ _ _ _ h (hs.takes n)
theorem AllB.at : ∀ {es : List AV} {l : List (Int × Tm)}, AllB es l → ∀ {i : Nat} {p : Int × Tm}, l[i]? = some p → ∃ e, es[i]? = some e ∧ IsBd e p.1 p.2
  | _, _, .cons a v t es bs h hs, 0, p, hp => by simp at hp; subst hp; exact ⟨a, rfl, h⟩
  | _, _, .cons a v t es bs h hs, i + 1, p, hp => by simpa using hs.at (i := i) (by simpa using hp)
theorem slice_to {c : AV} {l : List (Int × Tm)} (h : IsB c l) {n : Nat} (hn : n ≤ l.length) (H : List AO) : ∃ c', IsB c' (l.take n) ∧ ∀ H : List AO, slV H 5 none (some (some n)) c = some c' := by
  cases h with
  | nil =>
    have : n = 0 := by simpa using hn
    subst this
    exact ⟨.v (.slice none 0 0), .nil, fun _ => rfl⟩
  | slc ex nn es _ h hb =>
    have hl := h.length
    refine ⟨.slc 5 (ex && n == es.length) nn (es.take n), .slc _ _ _ _ (h.takes n) (by simp; omega), fun H => ?_⟩
    have h1 : n ≤ es.length := by omega
    simp [slV, slo, h1]

def K8 : List Bool := [true, false, false, false, false, false, true, false, false, true, false, false, false, false, false, true, true, true, false, false]
def V8 (b c : AV) (id : Nat) (len i : Int) (x10 x11 x18 x19 : AV) : List AV := [b, .junk, .junk, .junk, .junk, .junk, .v (.bool true), .junk, .junk, .mp id, x10, x11, .junk, .junk, .junk, c, .v (.int .i64 len), .v (.int .i64 i), x18, x19]
theorem apart_loop {K : Nat} {b c : AV} {bs l : List (Int × Tm)} {es : List AV} (hb : ∀ h : List AO, evLen h .slice b = some bs.length) (hs : Sl 5 c es) (hes : AllB es l) (hm : l.length ≤ maxLen) (hK : l.length < K) (hg : Grown bs l) (id : Nat) (h : List AO) (hmap : h[id]? = some (.map (.int .i64) [])) (v : List AV) (hv : clr K8 v = V8 b c id l.length 0 .junk .junk .junk .junk) :
    ∃ x10 x11 x19 h', loopN (exec (callW F) K c8_17) K8 K v h = some (.exit 0, V8 b c id l.length l.length x10 x11 (.v (.bool false)) x19, h') := by
  have z : (ofVal (.agg #[(.int .i64 0), (.int .i64 0), (.string ⟨#[]⟩), (.int .i64 0), (.slice none 0 0)])).cl = some [.v (.int .i64 0), .v (.int .i64 0), .v (.string ⟨#[]⟩), .v (.int .i64 0), .v (.slice none 0 0)] := by kernel_rfl
  obtain ⟨e, v', h', g1, g2, g3⟩ := loop_rule0 (call := callW F) (K := K) (b := c8_17) (keep := K8) (fun i v h' => ∃ ms, h'[id]? = some (.map (.int .i64) ms) ∧ Seen .i64 ms (keys (l.take i)) ∧ v = V8 b c id l.length i .junk .junk .junk .junk)
    (fun e v h' => ∃ x10 x11 x19, e = .exit 0 ∧ v = V8 b c id l.length l.length x10 x11 (.v (.bool false)) x19) l.length (m := K) (v := v) (h := h) hK ⟨[], hmap, by simpa [keys] using Seen.nil .i64, hv⟩ (by
      rintro i v h' hi ⟨ms, hms, hse, rfl⟩
      by_cases hil : i < l.length
      · have hlt := lt_t hil
        have hw := wrap_succ hil hm
        obtain ⟨p, hp⟩ : ∃ p, l[i]? = some p := ⟨_, List.getElem?_eq_getElem hil⟩
        obtain ⟨e, he, hbd⟩ := hes.at hp
        have q1 := fun h : List AO => hs.ia he h
        have q3 : ∀ h : List AO, evLoad h true 5 (.ip e.cells) = some e := fun h => hbd.load
        have q6 : evStore (h' ++ [.box [.v (.int .i64 0), .v (.int .i64 0), .v (.string ⟨#[]⟩), .v (.int .i64 0), .v (.slice none 0 0)]]) 5 (.ptr h'.length 0) e = some (h' ++ [.box e.cells]) := st_new hbd.cl.1 hbd.cl.2 rfl
        have q7 : evLoad (h' ++ [.box e.cells]) false 1 (.ptr h'.length 0) = some (.v (.int .i64 p.1)) := by
          rw [ld_new]; cases hbd; rfl
        have hms2 : (h' ++ [.box e.cells])[id]? = some (.map (.int .i64) ms) := his_get hms
        have lk := hse.look hms2 p.1
        have up := upd_map hms2 p.1 (x := .v (.bool true)) (y := .v (.bool true)) rfl
        have hlen := hb
        have hid : id < (h' ++ [AO.box e.cells]).length := (List.getElem?_eq_some_iff.1 hms2).1
        have hnext : Seen .i64 (upd (.int .i64 p.1) (.v (.bool true)) ms) (keys (l.take (i + 1))) := by
          refine (hse.add p.1).of fun n => ?_
          rw [List.take_add_one, hp]
          simp [keys]
          exact Or.comm
        refine ⟨.normal, V8 b c id l.length ((i + 1 : Nat) : Int) (.v (.int .i64 i)) (.ptr h'.length 0) (.v (.bool true)) (.v (.bool false)), (h' ++ [AO.box e.cells]).set id (.map (.int .i64) (upd (.int .i64 p.1) (.v (.bool true)) ms)), ?_, hil, _, by simp [List.getElem?_set_self hid], hnext, rfl⟩
        by_cases hbi : bs.length ≤ i
        · have hge : decide ((i : Int) ≥ (bs.length : Int)) = true := by simpa using hbi
          have hno : (keys (l.take i)).contains p.1 = false := by
            have := hg.2.2 i p hbi hp
            simpa using this
          rw [hno] at lk
          simp only [V8, c8_17, c8_11, c8_12, c8_13, c8_15, c8_16, hlt, hw, q1, q3, z, q6, q7, lk, up, hlen, hge, e_lookup, e_mapupd, run_nil, run_cons, stp_plain, stp_guard, put_some, pass_eq, pick_tt, pick_ff, pick_tf, pick_ft, pick_u, reg_some, thn_normal, thn_exit, thn_ret, cnd_t, cnd_f, blk_normal, blk_ret, blk_exit, x_seq, x_region, x_cond, x_block, x_loop, x_ret, x_exit, x_skip, e_mov, e_pick, pk_t, pk_f, withH_some, e_box, e_load, e_store, stH_some, e_nil, e_bin, e_eqv, eqH_f, eqH_t, e_un, e_fa, e_ia, ia_eq, nat_eq, natV_nat, e_len, lnH_some, e_extract, ex_0, ex_1, e_call0, e_call1, e_call2, e_call3, pc0_eq, pc1_some, pc2_some, pc3_some, fin_some, g_var0, g_vars, g_loc0, g_locs, g_int, g_bool, g_str, g_sl, s_none, s_zero, s_succ, cl_nil, cl_str, cl_bool, cl_slc, cl_own, evFa, evNil, asEl, evBin, intBin, strBin, evUn, len_nil, len_slc, len_str, clr, List.length_nil, List.length_cons, List.getElem?_cons_zero, List.getElem?_cons_succ, Nat.reduceAdd, Nat.zero_add, Nat.add_zero, Nat.reduceLeDiff, Nat.reduceSub, ↓reduceIte, List.drop_succ_cons, List.drop_zero, List.take_succ_cons, List.take_zero, Bool.false_eq_true, List.nil_append, List.cons_append, Bool.not_true, Bool.not_false, cond_true, cond_false, bne, lv_ret, lv_normal, res1, res2, lv2_some, res_var, res_cell, lvf_v, lvf_slc, res1c, lvo1_some, e_mm, mm_max, mm_min, cl_agg, cl_int, g_agg, e_callv1, cv1_fn, e_slice2, e_clrrow, e_callf2, pick_und, cells_agg, Option.map_some, Option.map_none, bx_some]
        · have hge : decide ((i : Int) ≥ (bs.length : Int)) = false := by simp; omega
          simp only [V8, c8_17, c8_11, c8_12, c8_13, c8_15, c8_16, hlt, hw, q1, q3, z, q6, q7, lk, up, hlen, hge, e_lookup, e_mapupd, run_nil, run_cons, stp_plain, stp_guard, put_some, pass_eq, pick_tt, pick_ff, pick_tf, pick_ft, pick_u, reg_some, thn_normal, thn_exit, thn_ret, cnd_t, cnd_f, blk_normal, blk_ret, blk_exit, x_seq, x_region, x_cond, x_block, x_loop, x_ret, x_exit, x_skip, e_mov, e_pick, pk_t, pk_f, withH_some, e_box, e_load, e_store, stH_some, e_nil, e_bin, e_eqv, eqH_f, eqH_t, e_un, e_fa, e_ia, ia_eq, nat_eq, natV_nat, e_len, lnH_some, e_extract, ex_0, ex_1, e_call0, e_call1, e_call2, e_call3, pc0_eq, pc1_some, pc2_some, pc3_some, fin_some, g_var0, g_vars, g_loc0, g_locs, g_int, g_bool, g_str, g_sl, s_none, s_zero, s_succ, cl_nil, cl_str, cl_bool, cl_slc, cl_own, evFa, evNil, asEl, evBin, intBin, strBin, evUn, len_nil, len_slc, len_str, clr, List.length_nil, List.length_cons, List.getElem?_cons_zero, List.getElem?_cons_succ, Nat.reduceAdd, Nat.zero_add, Nat.add_zero, Nat.reduceLeDiff, Nat.reduceSub, ↓reduceIte, List.drop_succ_cons, List.drop_zero, List.take_succ_cons, List.take_zero, Bool.false_eq_true, List.nil_append, List.cons_append, Bool.not_true, Bool.not_false, cond_true, cond_false, bne, lv_ret, lv_normal, res1, res2, lv2_some, res_var, res_cell, lvf_v, lvf_slc, res1c, lvo1_some, e_mm, mm_max, mm_min, cl_agg, cl_int, g_agg, e_callv1, cv1_fn, e_slice2, e_clrrow, e_callf2, pick_und, cells_agg, Option.map_some, Option.map_none, bx_some]
      · have hie : i = l.length := by omega
        subst hie
        have hlt := lt_f (n := l.length)
        refine ⟨.exit 0, V8 b c id l.length l.length .junk .junk (.v (.bool false)) .junk, h', ?_, .junk, .junk, .junk, rfl, rfl⟩
        simp only [V8, c8_17, c8_11, hlt, run_nil, run_cons, stp_plain, stp_guard, put_some, pass_eq, pick_tt, pick_ff, pick_tf, pick_ft, pick_u, reg_some, thn_normal, thn_exit, thn_ret, cnd_t, cnd_f, blk_normal, blk_ret, blk_exit, x_seq, x_region, x_cond, x_block, x_loop, x_ret, x_exit, x_skip, e_mov, e_pick, pk_t, pk_f, withH_some, e_box, e_load, e_store, stH_some, e_nil, e_bin, e_eqv, eqH_f, eqH_t, e_un, e_fa, e_ia, ia_eq, nat_eq, natV_nat, e_len, lnH_some, e_extract, ex_0, ex_1, e_call0, e_call1, e_call2, e_call3, pc0_eq, pc1_some, pc2_some, pc3_some, fin_some, g_var0, g_vars, g_loc0, g_locs, g_int, g_bool, g_str, g_sl, s_none, s_zero, s_succ, cl_nil, cl_str, cl_bool, cl_slc, cl_own, evFa, evNil, asEl, evBin, intBin, strBin, evUn, len_nil, len_slc, len_str, clr, List.length_nil, List.length_cons, List.getElem?_cons_zero, List.getElem?_cons_succ, Nat.reduceAdd, Nat.zero_add, Nat.add_zero, Nat.reduceLeDiff, Nat.reduceSub, ↓reduceIte, List.drop_succ_cons, List.drop_zero, List.take_succ_cons, List.take_zero, Bool.false_eq_true, List.nil_append, List.cons_append, Bool.not_true, Bool.not_false, cond_true, cond_false, bne, lv_ret, lv_normal, res1, res2, lv2_some, res_var, res_cell, lvf_v, lvf_slc, res1c, lvo1_some, e_mm, mm_max, mm_min, cl_agg, cl_int, g_agg, e_callv1, cv1_fn, e_slice2, e_clrrow, e_callf2, pick_und, cells_agg, Option.map_some, Option.map_none, bx_some])
  obtain ⟨x10, x11, x19, rfl, rfl⟩ := g3
  exact ⟨x10, x11, x19, h', g1⟩

theorem uapart_ok {b a a' : AV} {bs : List (Int × Tm)} {x y : Tm} (hb : IsN b bs) (ha : IsT a x) (ha' : IsT a' y) : callW F 8 [b, a, a'] [] = some (.v (.bool true), []) := by
  have hlive := live17
  have hbig := big18 (ts := .slc 4 true true [a, a']) hb.1 rfl (All2.cons a x [a'] [y] ha (.cons a' y [] [] ha' .nil)) (by simp [maxLen])
  have s1 : ∀ h : List AO, a.snap1 h = some a := fun h => ha.snap
  have s2 : ∀ h : List AO, a'.snap1 h = some a' := fun h => ha'.snap
  have sb : ∀ h : List AO, b.snap1 h = some b := by intro h; cases hb.1 <;> rfl
  have sl : ∀ h : List AO, (AV.slc 4 true true [a, a']).snap1 h = some (.slc 4 true true [a, a']) := fun _ => rfl
  have b1 : ∀ h : List AO, bs2 h 4 (some a) (some a') = some (.slc 4 true true [a, a'], h) := fun h => by simp [bs2, ha.cl.1, ha.cl.2, ha'.cl.1, ha'.cl.2]
  have ht0 : ∀ h : List AO, evLoad (.box a.cells :: h) true 4 (.ptr 0 0) = some a := by
    intro tl
    rw [bx_ld (cs := a.cells) rfl, if_pos (by rw [ha.cl.2]; omega), List.drop_zero]
    exact ha.asEl
  have ht1 : ∀ (o : AO) (h : List AO), evLoad (o :: .box a'.cells :: h) true 4 (.ptr 1 0) = some a' := by
    intro o tl
    rw [bx_ld (cs := a'.cells) rfl, if_pos (by rw [ha'.cl.2]; omega), List.drop_zero]
    exact ha'.asEl
  have htc := ha.cl.1
  have htc' := ha'.cl.1
  cases hB : big bs [x, y] with
  | true =>
    rw [hB] at hbig
    refine callW_pure (c := c8) rfl rfl 0 ?_
    simp only [c8, start, List.replicate, c8_0, c8_1, c8_2, c8_3, htc, htc', ht0, ht1, hlive, s1, s2, sb, sl, b1, hbig, e_bslice2, run_nil, run_cons, stp_plain, stp_guard, put_some, pass_eq, pick_tt, pick_ff, pick_tf, pick_ft, pick_u, reg_some, thn_normal, thn_exit, thn_ret, cnd_t, cnd_f, blk_normal, blk_ret, blk_exit, x_seq, x_region, x_cond, x_block, x_loop, x_ret, x_exit, x_skip, e_mov, e_pick, pk_t, pk_f, withH_some, e_box, e_load, e_store, stH_some, e_nil, e_bin, e_eqv, eqH_f, eqH_t, e_un, e_fa, e_ia, ia_eq, nat_eq, natV_nat, e_len, lnH_some, e_extract, ex_0, ex_1, e_call0, e_call1, e_call2, e_call3, pc0_eq, pc1_some, pc2_some, pc3_some, fin_some, g_var0, g_vars, g_loc0, g_locs, g_int, g_bool, g_str, g_sl, s_none, s_zero, s_succ, cl_nil, cl_str, cl_bool, cl_slc, cl_own, evFa, evNil, asEl, evBin, intBin, strBin, evUn, len_nil, len_slc, len_str, clr, List.length_nil, List.length_cons, List.getElem?_cons_zero, List.getElem?_cons_succ, Nat.reduceAdd, Nat.zero_add, Nat.add_zero, Nat.reduceLeDiff, Nat.reduceSub, ↓reduceIte, List.drop_succ_cons, List.drop_zero, List.take_succ_cons, List.take_zero, Bool.false_eq_true, List.nil_append, List.cons_append, Bool.not_true, Bool.not_false, cond_true, cond_false, bne, lv_ret, lv_normal, res1, res2, lv2_some, res_var, res_cell, lvf_v, lvf_slc, res1c, lvo1_some, e_mm, mm_max, mm_min, cl_agg, cl_int, g_agg, e_callv1, cv1_fn, e_slice2, e_clrrow, e_callf2, pick_und, cells_agg, Option.map_some, Option.map_none, bx_some]
  | false =>
    rw [hB] at hbig
    have hsz := big_size hB
    obtain ⟨c, hc, hU⟩ := unify_ok hb (by omega) (fun p hp => by have := hsz.2.1 p hp; omega) ha ha' (hsz.2.2 x (by simp)) (hsz.2.2 y (by simp))
    have hf : (uniT bs x y).2.1 = false → (uniT bs x y).1 = [] := uRun_false _ _ _ _
    have hgr : (uniT bs x y).2.1 = true → Grown bs (uniT bs x y).1 := uniT_grown
    have hlen : (uniT bs x y).1.length ≤ maxLen := by
      obtain ⟨es, _, h1, h2⟩ := hc.1.sl'
      rw [← h1.length]; exact h2
    generalize uniT bs x y = u at hc hU hf hgr hlen
    obtain ⟨l, t, err⟩ := u
    dsimp only at hc hU hf hgr hlen
    have nl := hc.1.len
    have nb := hb.1.len
    have scc : ∀ h : List AO, c.snap1 h = some c := by intro h; cases hc.1 <;> rfl
    cases t with
    | false =>
      have := hf rfl
      subst this
      have z0 : ((((0 : Nat) : Int)) == 0) = true := rfl
      refine callW_pure (c := c8) rfl rfl 0 ?_
      simp only [c8, start, List.replicate, c8_0, c8_1, c8_2, c8_4, c8_5, c8_6, htc, htc', ht0, ht1, hlive, s1, s2, sb, sl, b1, hbig, hU, nl, List.length_nil, z0, ex_2, e_bslice2, run_nil, run_cons, stp_plain, stp_guard, put_some, pass_eq, pick_tt, pick_ff, pick_tf, pick_ft, pick_u, reg_some, thn_normal, thn_exit, thn_ret, cnd_t, cnd_f, blk_normal, blk_ret, blk_exit, x_seq, x_region, x_cond, x_block, x_loop, x_ret, x_exit, x_skip, e_mov, e_pick, pk_t, pk_f, withH_some, e_box, e_load, e_store, stH_some, e_nil, e_bin, e_eqv, eqH_f, eqH_t, e_un, e_fa, e_ia, ia_eq, nat_eq, natV_nat, e_len, lnH_some, e_extract, ex_0, ex_1, e_call0, e_call1, e_call2, e_call3, pc0_eq, pc1_some, pc2_some, pc3_some, fin_some, g_var0, g_vars, g_loc0, g_locs, g_int, g_bool, g_str, g_sl, s_none, s_zero, s_succ, cl_nil, cl_str, cl_bool, cl_slc, cl_own, evFa, evNil, asEl, evBin, intBin, strBin, evUn, len_nil, len_slc, len_str, clr, List.length_nil, List.length_cons, List.getElem?_cons_zero, List.getElem?_cons_succ, Nat.reduceAdd, Nat.zero_add, Nat.add_zero, Nat.reduceLeDiff, Nat.reduceSub, ↓reduceIte, List.drop_succ_cons, List.drop_zero, List.take_succ_cons, List.take_zero, Bool.false_eq_true, List.nil_append, List.cons_append, Bool.not_true, Bool.not_false, cond_true, cond_false, bne, lv_ret, lv_normal, res1, res2, lv2_some, res_var, res_cell, lvf_v, lvf_slc, res1c, lvo1_some, e_mm, mm_max, mm_min, cl_agg, cl_int, g_agg, e_callv1, cv1_fn, e_slice2, e_clrrow, e_callf2, pick_und, cells_agg, Option.map_some, Option.map_none, bx_some]
    | true =>
      have hg := hgr rfl
      obtain ⟨es, hs, hes, _⟩ := hc.1.sl'
      obtain ⟨c2, hc2, hsl⟩ := slice_to hc.1 hg.1 []
      rw [hg.2.1] at hc2
      have hsame := sameB_ok hc2 hb.1 (by omega)
      rw [sameB_refl] at hsame
      have sc2 : ∀ h : List AO, c2.snap1 h = some c2 := by intro h; cases hc2 <;> rfl
      have hlt : decide ((l.length : Int) < (bs.length : Int)) = false := by
        have := hg.1
        simp; omega
      have nn : natV (.v (.int .i64 (bs.length : Int))) = some bs.length := natV_nat
      obtain ⟨x10, x11, x19, h', hlp⟩ := apart_loop (K := l.length + 1) (b := b) nb hs hes hlen (by omega) hg 2 [.box a.cells, .box a'.cells, .map (.int .i64) []] rfl [b, a, a', .ptr 0 0, .ptr 1 0, .v (.bool false), .v (.bool true), c, .v (.bool true), .mp 2, .v undef, .v undef, .v (.bool false), .v (.bool false), .v (.bool false), c, .v (.int .i64 l.length), .v (.int .i64 0), .v undef, .v undef] rfl
      refine callW_pure (c := c8) rfl rfl (l.length + 1) ?_
      rw [show c8.body = (.seq (.region [] [] c8_0) (.seq (.region [] [] c8_1) (.seq (.seq (.region [] [] c8_2) (.cond (.var 12) (.seq (.region [] [] c8_3) .ret) .skip)) (.seq (.region [] [] c8_4) (.seq (.seq (.region [] [] c8_5) (.cond (.var 13) (.seq (.region [] [] c8_6) .ret) .skip)) (.seq (.seq (.region [] [] c8_7) (.cond (.var 14) (.seq (.region [] [] c8_8) .ret) .skip)) (.seq (.region [] [] c8_9) (.seq (.seq (.region [] [] c8_10) (.block 0 (.loop K8 [] c8_17))) (.seq (.region [] [] c8_18) .ret))))))))) from rfl, show c8.res = [.var 5] from rfl,
        show start c8 [b, a, a'] = [b, a, a', .v undef, .v undef, .v undef, .v undef, .v undef, .v undef, .v undef, .v undef, .v undef, .v undef, .v undef, .v undef, .v undef, .v undef, .v undef, .v undef, .v undef] from rfl]
      generalize c8_17 = bb at hlp ⊢
      simp only [c8_0, c8_1, c8_2, c8_4, c8_5, c8_7, c8_9, c8_10, c8_18, V8, htc, htc', ht0, ht1, hlive, s1, s2, sb, sl, b1, hbig, hU, nl, nb, nn, hlt, hsl, sc2, hsame, hlp, ex_2, e_mkmap, e_bslice2, run_nil, run_cons, stp_plain, stp_guard, put_some, pass_eq, pick_tt, pick_ff, pick_tf, pick_ft, pick_u, reg_some, thn_normal, thn_exit, thn_ret, cnd_t, cnd_f, blk_normal, blk_ret, blk_exit, x_seq, x_region, x_cond, x_block, x_loop, x_ret, x_exit, x_skip, e_mov, e_pick, pk_t, pk_f, withH_some, e_box, e_load, e_store, stH_some, e_nil, e_bin, e_eqv, eqH_f, eqH_t, e_un, e_fa, e_ia, ia_eq, nat_eq, natV_nat, e_len, lnH_some, e_extract, ex_0, ex_1, e_call0, e_call1, e_call2, e_call3, pc0_eq, pc1_some, pc2_some, pc3_some, fin_some, g_var0, g_vars, g_loc0, g_locs, g_int, g_bool, g_str, g_sl, s_none, s_zero, s_succ, cl_nil, cl_str, cl_bool, cl_slc, cl_own, evFa, evNil, asEl, evBin, intBin, strBin, evUn, len_nil, len_slc, len_str, clr, List.length_nil, List.length_cons, List.getElem?_cons_zero, List.getElem?_cons_succ, Nat.reduceAdd, Nat.zero_add, Nat.add_zero, Nat.reduceLeDiff, Nat.reduceSub, ↓reduceIte, List.drop_succ_cons, List.drop_zero, List.take_succ_cons, List.take_zero, Bool.false_eq_true, List.nil_append, List.cons_append, Bool.not_true, Bool.not_false, cond_true, cond_false, bne, lv_ret, lv_normal, res1, res2, lv2_some, res_var, res_cell, lvf_v, lvf_slc, res1c, lvo1_some, e_mm, mm_max, mm_min, cl_agg, cl_int, g_agg, e_callv1, cv1_fn, e_slice2, e_clrrow, e_callf2, pick_und, cells_agg, Option.map_some, Option.map_none, bx_some]
end Go.AE.Ytpgoibncgekflaa
end

/-! What all rows of this program need. -/
section
set_option linter.unusedVariables false
namespace Go.Proofs.Ytpgoibncgekflaa
open Go Go.AE Go.Proofs Go.ChangeShapes Go.WideShapes Go.ChangeAt Go.RowKit
open Go.ChangeMaps (open_string shut_string)

theorem own : ownKnob Try.prog.godebug = none := by kernel_rfl
theorem laidOut : laidOutB Try.prog = true := by kernel_rfl
theorem mixed : Try.prog.follows .mixedOrders = true := by kernel_rfl
def G : List TypeId := [2, 3, 9, 22, 23, 25, 41]
theorem hG : goodB T G = true := by kernel_rfl

/-- What a call comes to that is handed what came in. -/
theorem law_calls {f : FuncId} {args : List AV} {vals : Array Value} {W : World} (hK : K W.heap.size W) (ha : ArgsRep (AllCells W) W [] args vals) {n : Nat} (he : callN F n f args [] = some (.v (.bool true), [])) :
    Calls Try.prog f vals W fun e W' => e = .returned (.bool true) ∧ Below W.heap.size W W' := by
  have hI : AE.Inv W.heap.size W (AllCells W) [] W [] := ⟨Below.refl _ _, Nat.le_refl _, rfl, fun id o L h => by simp at h, fun id L h => by simp at h, fun i j Li Lj h => by simp at h, fun b x h => h⟩
  refine ((callN_ok mixed hT hKs hF n W.heap.size W hK).calls f args [] _ _ he (AllCells W) [] W vals hI ha).mono fun e W' h => ?_
  obtain ⟨v, I', σ', rfl, hI', _, hr⟩ := h
  cases hr
  exact ⟨rfl, hI'.below⟩
end Go.Proofs.Ytpgoibncgekflaa
end

/-! SubstOrder holds at every input: the law returns true, and what was handed in reads as it did. -/
section
set_option linter.unusedVariables false
set_option linter.unusedSimpArgs false
namespace Go.AE.Ytpgoibncgekflaa
open Go Go.AE Go.Proofs.Ytpgoibncgekflaa

theorem t25 : T.ty 25 = some ti25 := rfl
theorem t23 : T.ty 23 = some ti23 := rfl
theorem t2 : T.ty 2 = some ti2 := rfl
theorem t3 : T.ty 3 = some ti3 := rfl
theorem t9 : T.ty 9 = some ti9 := rfl
theorem t22 : T.ty 22 = some ti22 := rfl
theorem t41 : T.ty 41 = some ti41 := rfl

theorem all2_of : ∀ {l : List AV}, (∀ el ∈ l, ∃ t, IsT el t) → ∃ ts, All2 l ts
  | [], _ => ⟨[], .nil⟩
  | a :: l, h => by
    obtain ⟨t, ht⟩ := h a (by simp)
    obtain ⟨ts, hts⟩ := all2_of (l := l) (fun el hm => h el (by simp [hm]))
    exact ⟨t :: ts, .cons a t l ts ht hts⟩
theorem allB_of : ∀ {l : List AV}, (∀ el ∈ l, ∃ v t, IsBd el v t) → ∃ ts, AllB l ts
  | [], _ => ⟨[], .nil⟩
  | a :: l, h => by
    obtain ⟨v, t, ht⟩ := h a (by simp)
    obtain ⟨ts, hts⟩ := allB_of (l := l) (fun el hm => h el (by simp [hm]))
    exact ⟨(v, t) :: ts, .cons a v t l ts ht hts⟩

def Good (t : TypeId) (cs : List AV) : Prop :=
  (t = 25 → ∃ x, IsT (.agg cs) x) ∧ (t = 23 → ∃ c l, cs = [c] ∧ IsL c l) ∧ (t = 2 → ∃ n, cs = [.v (.int .i64 n)]) ∧ (t = 3 → ∃ n, cs = [.v (.int .i64 n)]) ∧ (t = 9 → ∃ s, cs = [.v (.string s)]) ∧
  (t = 41 → ∃ v x, IsBd (.agg cs) v x) ∧ (t = 22 → ∃ c l, cs = [c] ∧ IsB c l)

theorem wt_good : ∀ {t : TypeId} {cs : List AV}, WT T t cs → Good t cs := by
  intro t cs h
  induction h with
  | bool t i b ht hd =>
    refine ⟨?_, ?_, ?_, ?_, ?_, ?_, ?_⟩ <;> (rintro rfl; first | (rw [t25] at ht; cases ht; cases hd) | (rw [t23] at ht; cases ht; cases hd) | (rw [t2] at ht; cases ht; cases hd) | (rw [t3] at ht; cases ht; cases hd) | (rw [t9] at ht; cases ht; cases hd) | (rw [t41] at ht; cases ht; cases hd) | (rw [t22] at ht; cases ht; cases hd))
  | int t i k n ht hd hw =>
    refine ⟨?_, ?_, ?_, ?_, ?_, ?_, ?_⟩ <;> (rintro rfl; first | (rw [t25] at ht; cases ht; cases hd; done) | (rw [t23] at ht; cases ht; cases hd; done) | (rw [t9] at ht; cases ht; cases hd; done) | (rw [t41] at ht; cases ht; cases hd; done) | (rw [t22] at ht; cases ht; cases hd; done) | (rw [t2] at ht; cases ht; cases hd; exact ⟨n, rfl⟩) | (rw [t3] at ht; cases ht; cases hd; exact ⟨n, rfl⟩))
  | str t i s ht hd hs =>
    refine ⟨?_, ?_, ?_, ?_, ?_, ?_, ?_⟩ <;> (rintro rfl; first | (rw [t25] at ht; cases ht; cases hd; done) | (rw [t23] at ht; cases ht; cases hd; done) | (rw [t2] at ht; cases ht; cases hd; done) | (rw [t3] at ht; cases ht; cases hd; done) | (rw [t41] at ht; cases ht; cases hd; done) | (rw [t22] at ht; cases ht; cases hd; done) | (rw [t9] at ht; cases ht; cases hd; exact ⟨s, rfl⟩))
  | nil t i e ht hd =>
    refine ⟨?_, ?_, ?_, ?_, ?_, ?_, ?_⟩ <;> (rintro rfl; first | (rw [t25] at ht; cases ht; cases hd; done) | (rw [t9] at ht; cases ht; cases hd; done) | (rw [t2] at ht; cases ht; cases hd; done) | (rw [t3] at ht; cases ht; cases hd; done) | (rw [t41] at ht; cases ht; cases hd; done) | exact ⟨_, [], rfl, .nil⟩)
  | slc t i e j l ht hd he hl hel has ih =>
    refine ⟨?_, ?_, ?_, ?_, ?_, ?_, ?_⟩
    · rintro rfl; rw [t25] at ht; cases ht; cases hd
    · rintro rfl
      rw [t23] at ht; cases ht; cases hd
      rw [t25] at he; cases he
      obtain ⟨ts, hts⟩ := all2_of (l := l) (fun el hm => by
        obtain ⟨x, hx⟩ := (ih el hm).1 rfl
        have : asEl true el.cells = some el := has el hm
        simp only [asEl, if_true, Option.some.injEq] at this
        rw [this] at hx
        exact ⟨x, hx⟩)
      exact ⟨_, ts, rfl, .slc _ _ _ _ hts hl⟩
    · rintro rfl; rw [t2] at ht; cases ht; cases hd
    · rintro rfl; rw [t3] at ht; cases ht; cases hd
    · rintro rfl; rw [t9] at ht; cases ht; cases hd
    · rintro rfl; rw [t41] at ht; cases ht; cases hd
    · rintro rfl
      rw [t22] at ht; cases ht; cases hd
      rw [t41] at he; cases he
      obtain ⟨ts, hts⟩ := allB_of (l := l) (fun el hm => by
        obtain ⟨v, x, hx⟩ := (ih el hm).2.2.2.2.2.1 rfl
        have : asEl true el.cells = some el := has el hm
        simp only [asEl, if_true, Option.some.injEq] at this
        rw [this] at hx
        exact ⟨v, x, hx⟩)
      exact ⟨_, ts, rfl, .slc _ _ _ _ hts hl⟩
  | struct t i fs pts ht hd hlen hf ih =>
    refine ⟨?_, ?_, ?_, ?_, ?_, ?_, ?_⟩
    · rintro rfl
      rw [t25] at ht; cases ht; cases hd
      match pts, hlen, ih with
      | [a, b, c, d], _, ih =>
        obtain ⟨k, rfl⟩ := (ih 0 _ a rfl rfl).2.2.2.1 rfl
        obtain ⟨s, rfl⟩ := (ih 1 _ b rfl rfl).2.2.2.2.1 rfl
        obtain ⟨n, rfl⟩ := (ih 2 _ c rfl rfl).2.2.1 rfl
        obtain ⟨x, l, rfl, hx⟩ := (ih 3 _ d rfl rfl).2.1 rfl
        exact ⟨_, .mk k s n x l hx⟩
    · rintro rfl; rw [t23] at ht; cases ht; cases hd
    · rintro rfl; rw [t2] at ht; cases ht; cases hd
    · rintro rfl; rw [t3] at ht; cases ht; cases hd
    · rintro rfl; rw [t9] at ht; cases ht; cases hd
    · rintro rfl
      rw [t41] at ht; cases ht; cases hd
      match pts, hlen, ih with
      | [a, b], _, ih =>
        obtain ⟨v, rfl⟩ := (ih 0 _ a rfl rfl).2.2.1 rfl
        obtain ⟨x, hx⟩ := (ih 1 _ b rfl rfl).1 rfl
        refine ⟨v, x, ?_⟩
        have : ([[AV.v (.int .i64 v)], b] : List (List AV)).flatten = .v (.int .i64 v) :: b := by simp
        rw [this]
        exact .mk v b x hx
    · rintro rfl; rw [t22] at ht; cases ht; cases hd

theorem one_cell {a c : AV} (h : asEl false a.cells = some a) (hc : a.cells = [c]) : a = c := by
  rw [hc] at h
  simpa [asEl] using h.symm
end Go.AE.Ytpgoibncgekflaa
end

/-! The row of UnifyApart, out of its plain law. -/
section
set_option linter.unusedVariables false
namespace Go.Proofs.Ytpgoibncgekflaa
open Go Go.AE Go.Proofs Go.ChangeShapes Go.WideShapes Go.ChangeAt Go.RowKit
open Go.ChangeMaps (open_string shut_string)
namespace unifyApart
theorem args {I : Cells} {W : World} {a0 a1 a2 : AV} {v0 v1 v2 : Value} (r0 : Rep I W [] a0 v0) (r1 : Rep I W [] a1 v1) (r2 : Rep I W [] a2 v2) : ArgsRep I W [] [a0, a1, a2] #[v0, v1, v2] := by
  refine ⟨rfl, fun i a h => ?_⟩
  match i, h with
  | 0, h => cases h; exact r0
  | 1, h => cases h; exact r1
  | 2, h => cases h; exact r2
def Plain : Prop := ∀ a0 a1 a2 : AV, WT T 22 a0.cells → asEl ti22.agg a0.cells = some a0 → WT T 25 a1.cells → asEl ti25.agg a1.cells = some a1 → WT T 25 a2.cells → asEl ti25.agg a2.cells = some a2 →
  ∃ n, callN F n 8 [a0, a1, a2] [] = some (.v (.bool true), [])

set_option maxRecDepth 100000 in
theorem lifted (plain : Plain) (os : Os) (started : os.Started) (H : Type) (enc : TypeId × Value → H) :
    ReturnsInHanded {} Try.checked os 8 .any (Rows.unifyApartSpec.pre6 enc Try.prog Try.f8 Rows.unifyApartRow.domain false) (Rows.unifyApartSpec.post enc Try.prog Try.f8 false true false false) := by
  refine returnsInHanded_of_change_sized (C := Try.checked) own started (by kernel_rfl) Try.func8
    (ChangeSpec.witness6 (enc := enc) (C := Try.checked) false ⟨#[], #[ti22.zero, ti25.zero, ti25.zero], []⟩ 8 (by kernel_rfl) (by kernel_rfl) (by kernel_rfl) (by kernel_rfl)) ?_
  intro W base args' ds gs before hval0 hW hcnd hsz0 _
  have hval : ∀ (j : Nat) t v, Try.f8.params[j]? = some t → args'[j]? = some v → Value.okWide Try.prog W .any base t v := hval0
  have hW' := hW
  obtain ⟨p, q, hA0, hV, rfl, hfz, hnd⟩ := hW
  have hA : DataW.TrodAll enc Try.prog W 0 (fun _ => true) true Try.f8.params.toList args'.toList ds p := hA0
  rw [Try.params8] at hA hval
  obtain ⟨v0, vs0, d0, ds0, p0, q0, hargs, rfl, rfl, h0, r0⟩ := trodAll_cons hA
  obtain ⟨v1, vs1, d1, ds1, p1, q1, rfl, rfl, rfl, h1, r1⟩ := trodAll_cons r0
  obtain ⟨v2, vs2, d2, ds2, p2, q2, rfl, rfl, rfl, h2, r2⟩ := trodAll_cons r1
  obtain ⟨rfl, rfl, rfl⟩ := trodAll_nil r2
  obtain rfl : args' = #[v0, v1, v2] := by cases args'; simp_all
  obtain ⟨rfl, rfl⟩ := trodVars_none hV
  obtain ⟨a0, w0, e0, x0⟩ := trod_arg hT hG (t := 22) (i := ti22) (by decide) rfl (hval 0 22 v0 rfl rfl) h0
  obtain ⟨a1, w1, e1, x1⟩ := trod_arg hT hG (t := 25) (i := ti25) (by decide) rfl (hval 1 25 v1 rfl rfl) h1
  obtain ⟨a2, w2, e2, x2⟩ := trod_arg hT hG (t := 25) (i := ti25) (by decide) rfl (hval 2 25 v2 rfl rfl) h2
  have l0 : ∀ x ∈ p0, x.block < W.heap.size := by obtain ⟨m, hm⟩ := h0; exact DataW.trod_lt m _ _ _ hm
  have l1 : ∀ x ∈ p1, x.block < W.heap.size := by obtain ⟨m, hm⟩ := h1; exact DataW.trod_lt m _ _ _ hm
  have l2 : ∀ x ∈ p2, x.block < W.heap.size := by obtain ⟨m, hm⟩ := h2; exact DataW.trod_lt m _ _ _ hm
  obtain ⟨n, hn⟩ := plain a0 a1 a2 w0 e0 w1 e1 w2 e2
  refine (law_calls trivial (args x0 x1 x2) hn).mono fun e W' ⟨he, bel⟩ => ?_
  subst he
  exact ⟨_, rfl, _, _, _, [], _, [], hW', trodAll_mk1 (shut_bool Try.underlying4 _),
    (trodAll_cons_mk (Below.trod laidOut (by kernel_rfl) (of_decide_eq_true (by kernel_rfl)) h0 bel l0) (trodAll_cons_mk (Below.trod laidOut (by kernel_rfl) (of_decide_eq_true (by kernel_rfl)) h1 bel l1) (trodAll_cons_mk (Below.trod laidOut (by kernel_rfl) (of_decide_eq_true (by kernel_rfl)) h2 bel l2) trodAll_mk0))), rfl, bel.frame _, fun h => by cases h⟩
theorem over (plain : Plain) : Rows.unifyApartRow.holds Try.pinned (OpenSpec.ofChange Rows.unifyApartSpec) :=
  OpenClaim.holds_of_wide 8 Try.f8 rfl rfl rfl rfl rfl rfl rfl ⟨rfl, rfl, rfl, rfl, rfl⟩ rfl rfl rfl rfl rfl (by kernel_rfl) Try.func8 (by kernel_rfl)
    (of_decide_eq_true (by kernel_rfl)) (by unfold Func.isWrapper; first | (rw [if_pos (by decide +kernel)]; kernel_rfl) | (rw [if_neg (by decide +kernel)]; exact ⟨rfl, rfl⟩))
    (fun os started H enc _ => lifted plain os started H enc)
theorem proved (plain : Plain) : Rows.UnifyApartSaid := over plain
end unifyApart
end Go.Proofs.Ytpgoibncgekflaa
end

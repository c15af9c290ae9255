/- Texts of this claim, put together. -/
import Derived.Test.YtpgoibncgekflaaDoorPart2
/-! Resolve: what it computes. -/
section
set_option linter.unusedVariables false
set_option linter.unusedSimpArgs false
namespace Go.AE.YtpgoibncgekflaaDoor
open Go Go.AE Go.Proofs.YtpgoibncgekflaaDoor

def resL (f : Nat → Tm → Except Int (Tm × Nat)) : Nat → List Tm → Except Int (List Tm × Nat)
  | m, [] => .ok ([], m)
  | m, t :: l => match f m t with
    | .error e => .error e
    | .ok (x, m1) => match resL f m1 l with
      | .error e => .error e
      | .ok (xs, m2) => .ok (x :: xs, m2)
/-- a term's bindings put in: d levels below it, m steps are left -/
def resT (rs : List (Int × Tm)) : Nat → Nat → Tm → Except Int (Tm × Nat)
  | 0, m, t => match meetT rs m t with
    | (_, e, _) => if e = 0 then .error 3 else .error e
  | d + 1, m, t => match meetT rs m t with
    | (.mk k s n l, e, m') => if e = 0 then (match resL (resT rs d) m' l with
      | .error e => .error e
      | .ok (xs, m2) => .ok (.mk k s n xs, m2)) else .error e

theorem walkT_le (rs : List (Int × Tm)) : ∀ (m : Nat) (t : Tm), (walkT rs m t).2.2 ≤ m := by
  intro m
  induction m with
  | zero => intro t; simp only [walkT]; split <;> exact Nat.le_refl _
  | succ m ih =>
    intro t
    simp only [walkT]
    split
    · exact Nat.le_succ_of_le (ih _)
    · exact Nat.le_refl _
theorem meetT_le (rs : List (Int × Tm)) (m : Nat) (t : Tm) : (meetT rs m t).2.2 ≤ m := by
  cases m with
  | zero => exact Nat.le_refl _
  | succ m => exact Nat.le_succ_of_le (walkT_le rs m t)
theorem walkT_err (rs : List (Int × Tm)) : ∀ (m : Nat) (t : Tm), (walkT rs m t).2.1 = 0 ∨ (walkT rs m t).2.1 = 140 ∧ (walkT rs m t).1 = zeroT := by
  intro m
  induction m with
  | zero => intro t; simp only [walkT]; split <;> simp
  | succ m ih =>
    intro t
    simp only [walkT]
    split
    · exact ih _
    · simp
theorem meetT_err (rs : List (Int × Tm)) (m : Nat) (t : Tm) : (meetT rs m t).2.1 = 0 ∨ (meetT rs m t).2.1 = 140 ∧ (meetT rs m t).1 = zeroT := by
  cases m with
  | zero => exact .inr ⟨rfl, rfl⟩
  | succ m => exact walkT_err rs m t
theorem lookT_mem {rs : List (Int × Tm)} {n : Int} {t : Tm} : lookT rs n = some t → ∃ p ∈ rs, p.2 = t := by
  induction rs with
  | nil => intro h; cases h
  | cons p rs ih =>
    obtain ⟨v, u⟩ := p
    intro h
    simp only [lookT] at h
    split at h
    · cases h; exact ⟨(v, _), by simp, rfl⟩
    · obtain ⟨p, hp, e⟩ := ih h; exact ⟨p, by simp [hp], e⟩
theorem bound_mem {rs : List (Int × Tm)} {t u : Tm} (h : bound rs t = some u) : ∃ p ∈ rs, p.2 = u := by
  cases t with
  | mk k s n l =>
    simp only [bound] at h
    split at h
    · exact lookT_mem h
    · cases h
theorem walkT_size {rs : List (Int × Tm)} {M : Nat} (hM : 1 ≤ M) (hrs : ∀ p ∈ rs, size p.2 ≤ M) : ∀ (m : Nat) (t : Tm), size t ≤ M → size (walkT rs m t).1 ≤ M := by
  have hz : size zeroT = 1 := by simp [zeroT, size, sizeL]
  intro m
  induction m with
  | zero => intro t ht; simp only [walkT]; split
            · simp only [hz]; exact hM
            · exact ht
  | succ m ih =>
    intro t ht
    simp only [walkT]
    split
    · rename_i t' hb
      obtain ⟨p, hp, rfl⟩ := bound_mem hb
      exact ih _ (hrs p hp)
    · exact ht
theorem meetT_size {rs : List (Int × Tm)} {M : Nat} (hM : 1 ≤ M) (hrs : ∀ p ∈ rs, size p.2 ≤ M) (m : Nat) (t : Tm) (ht : size t ≤ M) : size (meetT rs m t).1 ≤ M := by
  have hz : size zeroT = 1 := by simp [zeroT, size, sizeL]
  cases m with
  | zero => simp only [meetT, hz]; exact hM
  | succ m => exact walkT_size hM hrs m t ht

def ms (b : AV) (d : Int) : List AV := [b, .v (.int .i64 0), .v (.int .i64 d)]
section
variable {h : List AO} {id : Nat} {b : AV} {d d' m : Int} {l : List AO}
theorem Ctr.ms (c : Ctr h id 1 (ms b d)) (d' : Int) : Ctr h id 1 (YtpgoibncgekflaaDoor.ms b d') := by
  refine ⟨c.lt, by simp [YtpgoibncgekflaaDoor.ms], c.bel, ?_⟩
  have := c.mb
  simp only [YtpgoibncgekflaaDoor.ms, List.all_cons, List.all_nil, Bool.and_true, Bool.and_eq_true] at this ⊢
  exact ⟨this.1, rfl, rfl⟩
theorem ms_eq : ctr h id 1 (ms b d) m = h.set id (.box [b, .v (.int .i64 m), .v (.int .i64 d)]) := rfl
theorem r_ld0 (c : Ctr h id 1 (ms b d)) : evLoad (ctr h id 1 (ms b d) m ++ l) false 1 (.ptr id 0) = some b := by
  have h1 : (ctr h id 1 (ms b d) m ++ l)[id]? = some (.box [b, .v (.int .i64 m), .v (.int .i64 d)]) := his_get (set_get c.lt)
  rw [bx_ld h1]; rfl
theorem r_ld2 (c : Ctr h id 1 (ms b d)) : evLoad (ctr h id 1 (ms b d) m ++ l) false 1 (.ptr id 2) = some (.v (.int .i64 d)) := by
  have h1 : (ctr h id 1 (ms b d) m ++ l)[id]? = some (.box [b, .v (.int .i64 m), .v (.int .i64 d)]) := his_get (set_get c.lt)
  rw [bx_ld h1]; rfl
theorem r_st2 (c : Ctr h id 1 (ms b d)) : evStore (ctr h id 1 (ms b d) m ++ l) 1 (.ptr id 2) (.v (.int .i64 d')) = some (ctr h id 1 (ms b d') m ++ l) := by
  have h1 : (ctr h id 1 (ms b d) m ++ l)[id]? = some (.box [b, .v (.int .i64 m), .v (.int .i64 d)]) := his_get (set_get c.lt)
  rw [bx_st (n := 1) (o := 2) (xs := [.v (.int .i64 d')]) h1 cl_int rfl (by simp), his_set (by rw [ctr_len]; exact c.lt)]
  simp [ms_eq, putAt]

/-- what f36 is to be shown to do, d levels below the first -/
def Res36 (rs : List (Int × Tm)) (b : AV) (d : Nat) : Prop := ∀ (h : List AO) (id : Nat) (m : Nat) (t : Tm) (a : AV), Ctr h id 1 (ms b (60 - (d : Int))) → m ≤ 5000 → size t ≤ 100000 → IsT a t →
  match resT rs d m t with
  | .ok (x, m2) => m2 ≤ m ∧ ∃ r, IsT r x ∧ callW F 35 [.ptr id 0, a] (ctr h id 1 (ms b (60 - (d : Int))) m) = some (.tup [r, .v (.int .i64 0)], ctr h id 1 (ms b (60 - (d : Int))) m2)
  | .error e => e ≠ 0 ∧ ∃ (r : AV) (l' d' : Int), IsT r zeroT ∧ callW F 35 [.ptr id 0, a] (ctr h id 1 (ms b (60 - (d : Int))) m) = some (.tup [r, .v (.int .i64 e)], ctr h id 1 (ms b d') l')

def K36 : List Bool := [true, false, true, true, false, false, true, false, false, false, false, false, false, true, true, true, false, false]
def L36 (id B n : Nat) (c : AV) (i : Int) : List AV := [.ptr id 0, .junk, .ptr B 0, .ptr (B + 1) 0, .junk, .junk, .own 4 (B + 2) 0 0 n, .junk, .junk, .junk, .junk, .junk, .junk, c, .v (.int .i64 n), .v (.int .i64 i), .junk, .junk]

theorem res_loop {K : Nat} {c : AV} {es : List AV} {cs0 : List AV} {rs : List (Int × Tm)} (hs : Sl 4 c es) (hm : es.length ≤ 100000) (d : Nat) (hb0 : (AO.box cs0).below 0 = true) (hR : Res36 rs b d) (hC : Ctr h id 1 (ms b (60 - (d : Int)))) :
    ∀ (l : List Tm) (i m : Nat) (ds : List AV) (dl : List Tm) (tail : List AO) (vars : List AV), i + l.length = es.length → ds.length = i → m ≤ 5000 → All2 (es.drop i) l → All2 ds dl → (∀ t ∈ l, size t ≤ 100000) → tail.all (AO.below 0) = true →
      clr K36 vars = L36 id h.length es.length c i →
      match resL (resT rs d) m l with
      | .ok (xs, m2) => m2 ≤ m ∧ ∃ ds' tail' x1 x4 x5 x7 x8 x9 x10 x11 x12 x16 x17, loopN (exec (callW F) K c35_16) K36 (l.length + 1) vars (ctr h id 1 (ms b (60 - (d : Int))) m ++ (.box cs0 :: .box zeroC :: .row 4 0 (ds ++ List.replicate l.length (.agg zeroC)) 0 :: tail)) = some (.exit 1, [.ptr id 0, x1, .ptr h.length 0, .ptr (h.length + 1) 0, x4, x5, .own 4 (h.length + 2) 0 0 es.length, x7, x8, x9, x10, x11, x12, c, .v (.int .i64 es.length), .v (.int .i64 es.length), x16, x17], ctr h id 1 (ms b (60 - (d : Int))) m2 ++ (.box cs0 :: .box zeroC :: .row 4 0 ds' 0 :: tail')) ∧ All2 ds' (dl ++ xs) ∧ ds'.length = es.length
      | .error e => e ≠ 0 ∧ ∃ (l' d' : Int) (o : AO) (tail' : List AO) (vs : List AV), loopN (exec (callW F) K c35_16) K36 (l.length + 1) vars (ctr h id 1 (ms b (60 - (d : Int))) m ++ (.box cs0 :: .box zeroC :: .row 4 0 (ds ++ List.replicate l.length (.agg zeroC)) 0 :: tail)) = some (.ret, vs, ctr h id 1 (ms b d') l' ++ (o :: .box zeroC :: tail')) ∧ getO vs [] (.var 3) = .ptr (h.length + 1) 0 ∧ getO vs [] (.var 4) = .v (.int .i64 e) := by
  intro l
  induction l with
  | nil =>
    intro i m ds dl tail vars hi hds hm5 _ hall hszs htl hv
    have hil : i = es.length := by simpa using hi
    subst hil
    have hlt : decide ((es.length : Int) < (es.length : Int)) = false := by simp
    simp only [resL]
    refine ⟨Nat.le_refl _, ds, tail, .junk, .junk, .junk, .junk, .junk, .junk, .junk, .junk, .junk, .v (.bool false), .junk, loop_exit ?_, by simpa using hall, hds⟩
    rw [hv]
    simp only [L36, c35_16, c35_9, hlt, List.replicate, List.append_nil, e_bslice1, e_bslice2, bs1, bs2, e_build, bdH_some, bd_nil, bd_cons, bd1, cl_agg, cl_int, toL, List.map_cons, List.map_nil, putAt, List.set_cons_zero, List.set_cons_succ, and_self, Nat.le_refl, app_get, app_set, g_agg, run_nil, run_cons, stp_plain, stp_guard, put_some, pass_eq, pick_tt, pick_ff, pick_tf, pick_ft, pick_u, reg_some, thn_normal, thn_exit, thn_ret, cnd_t, cnd_f, blk_normal, blk_ret, blk_exit, x_seq, x_region, x_cond, x_block, x_loop, x_ret, x_exit, x_skip, e_mov, e_pick, pk_t, pk_f, withH_some, e_box, e_load, e_store, stH_some, e_nil, e_bin, e_eqv, eqH_f, eqH_t, e_un, e_fa, e_ia, ia_eq, nat_eq, natV_nat, e_len, lnH_some, e_extract, ex_0, ex_1, e_call0, e_call1, e_call2, e_call3, pc0_eq, pc1_some, pc2_some, pc3_some, fin_some, g_var0, g_vars, g_loc0, g_locs, g_int, g_bool, g_str, g_sl, s_none, s_zero, s_succ, cl_nil, cl_str, cl_bool, cl_slc, cl_own, evFa, evNil, asEl, evBin, intBin, strBin, evUn, len_nil, len_slc, len_str, clr, List.length_nil, List.length_cons, List.getElem?_cons_zero, List.getElem?_cons_succ, Nat.reduceAdd, Nat.zero_add, Nat.add_zero, Nat.reduceLeDiff, Nat.reduceSub, ↓reduceIte, List.drop_succ_cons, List.drop_zero, List.take_succ_cons, List.take_zero, Bool.false_eq_true, List.nil_append, List.cons_append, Bool.not_true, Bool.not_false, cond_true, cond_false, bne, lv_ret, lv_normal, res1, res2, lv2_some, res_var, res_cell, lvf_v, lvf_slc, res1c, lvo1_some, e_mm, mm_max, mm_min]
  | cons t l ih =>
    intro i m ds dl tail vars hi hds hm5 hes hall hszs htl hv
    have hil : i < es.length := by simp at hi; omega
    have he : es[i]? = some (es[i]'hil) := List.getElem?_eq_getElem _
    have hd : es.drop i = es[i] :: es.drop (i + 1) := List.drop_eq_getElem_cons hil
    rw [hd] at hes
    generalize es[i]'hil = e at hes he
    cases hes with
    | cons _ _ _ _ hT hs' =>
    have hlt : (decide ((i : Int) < (es.length : Int))) = true := by simp; omega
    have hlen : (ds ++ List.replicate (t :: l).length (AV.agg zeroC)).length = es.length := by simp at hi ⊢; omega
    have tl2 : (tail ++ [AO.box e.cells]).all (AO.below 0) = true := by
      have := hT.bel
      simp only [List.all_append, List.all_cons, List.all_nil, htl, this, Bool.and_true]
    have hz : (AO.box zeroC).below 0 = true := rfl
    have hrw : ∀ L : List AV, (AO.row 4 0 L 0).below 0 = true := fun _ => rfl
    have hl2 : (.box cs0 :: .box zeroC :: .row 4 0 (ds ++ List.replicate (t :: l).length (.agg zeroC)) 0 :: (tail ++ [AO.box e.cells]) : List AO).all (AO.below 0) = true := by
      simp only [List.all_cons, hb0, hz, hrw, tl2, Bool.and_true]
    have hrec := hR (h ++ (.box cs0 :: .box zeroC :: .row 4 0 (ds ++ List.replicate (t :: l).length (.agg zeroC)) 0 :: (tail ++ [AO.box e.cells]))) id m t e (hC.app0 hl2) hm5 (hszs t (by simp)) hT
    have q1 := hs.ia he
    have q3 : ∀ h : List AO, evLoad h true 4 (.ip e.cells) = some e := fun h => hT.load
    have q4 : e.cl = some e.cells := hT.cl.1
    have q4b : e.cells.length = 4 := hT.cl.2
    have q5 := hT.asEl
    -- up to the call
    have hst : ∀ (q : List AO) (R : List AV), evStore (ctr h id 1 (ms b (60 - (d : Int))) m ++ (.box cs0 :: .box zeroC :: .row 4 0 R 0 :: (tail ++ [AO.box zeroC]))) 4 (.ptr (h.length + (tail.length + 1 + 1 + 1)) 0) e = some (ctr h id 1 (ms b (60 - (d : Int))) m ++ (.box cs0 :: .box zeroC :: .row 4 0 R 0 :: (tail ++ [AO.box e.cells]))) := by
      intro q R
      have hg := hT
      cases hg with
      | mk k s n c2 l2 hc2 =>
      simp only [c_st, stAt, zeroC, AV.cells, e_bslice1, e_bslice2, bs1, bs2, e_build, bdH_some, bd_nil, bd_cons, bd1, cl_agg, cl_int, toL, List.map_cons, List.map_nil, putAt, List.set_cons_zero, List.set_cons_succ, and_self, Nat.le_refl, app_get, app_set, g_agg, run_nil, run_cons, stp_plain, stp_guard, put_some, pass_eq, pick_tt, pick_ff, pick_tf, pick_ft, pick_u, reg_some, thn_normal, thn_exit, thn_ret, cnd_t, cnd_f, blk_normal, blk_ret, blk_exit, x_seq, x_region, x_cond, x_block, x_loop, x_ret, x_exit, x_skip, e_mov, e_pick, pk_t, pk_f, withH_some, e_box, e_load, e_store, stH_some, e_nil, e_bin, e_eqv, eqH_f, eqH_t, e_un, e_fa, e_ia, ia_eq, nat_eq, natV_nat, e_len, lnH_some, e_extract, ex_0, ex_1, e_call0, e_call1, e_call2, e_call3, pc0_eq, pc1_some, pc2_some, pc3_some, fin_some, g_var0, g_vars, g_loc0, g_locs, g_int, g_bool, g_str, g_sl, s_none, s_zero, s_succ, cl_nil, cl_str, cl_bool, cl_slc, cl_own, evFa, evNil, asEl, evBin, intBin, strBin, evUn, len_nil, len_slc, len_str, clr, List.length_nil, List.length_cons, List.getElem?_cons_zero, List.getElem?_cons_succ, Nat.reduceAdd, Nat.zero_add, Nat.add_zero, Nat.reduceLeDiff, Nat.reduceSub, ↓reduceIte, List.drop_succ_cons, List.drop_zero, List.take_succ_cons, List.take_zero, Bool.false_eq_true, List.nil_append, List.cons_append, Bool.not_true, Bool.not_false, cond_true, cond_false, bne, lv_ret, lv_normal, res1, res2, lv2_some, res_var, res_cell, lvf_v, lvf_slc, res1c, lvo1_some, e_mm, mm_max, mm_min]
      rfl
    have hld : ∀ (m : Int) (R : List AV), evLoad (ctr h id 1 (ms b (60 - (d : Int))) m ++ (.box cs0 :: .box zeroC :: .row 4 0 R 0 :: (tail ++ [AO.box e.cells]))) true 4 (.ptr (h.length + (tail.length + 1 + 1 + 1)) 0) = some e := by
      intro m R
      rw [c_ld]
      simp only [ldAt, List.getElem?_cons_succ, app_get, q4b, List.drop_zero, q5]
      rfl
    have hst' := hst []
    simp only [zeroC] at hst' hld
    simp only [resL]
    cases hres : resT rs d m t with
    | error er =>
      rw [hres] at hrec
      obtain ⟨hne, r, l', d', hr, hc⟩ := hrec
      simp only [ctr_app hC.lt] at hc
      refine ⟨hne, l', d', .box cs0, .row 4 0 (ds ++ List.replicate (t :: l).length (.agg zeroC)) 0 :: (tail ++ [AO.box e.cells, .box r.cells]), [.ptr id 0, .junk, .ptr h.length 0, .ptr (h.length + 1) 0, .v (.int .i64 er), .junk, .own 4 (h.length + 2) 0 0 es.length, .v (.int .i64 i), .ptr (h.length + (tail.length + 1 + 1 + 1)) 0, .ptr (h.length + (tail.length + 1 + 1 + 1 + 1)) 0, .v (.int .i64 er), .junk, .junk, c, .v (.int .i64 es.length), .v (.int .i64 i), .v (.bool true), .v (.bool true)], loop_ret ?_, rfl, rfl⟩
      rw [hv]
      have hnb : (er == 0) = false := by simpa using hne
      generalize (ds ++ List.replicate (t :: l).length (AV.agg zeroC)) = R at hc ⊢
      have hst2 : ∀ (m d : Int), evStore (ctr h id 1 (ms b d) m ++ (.box cs0 :: .box zeroC :: .row 4 0 R 0 :: (tail ++ [AO.box e.cells] ++ [AO.box zeroC]))) 4 (.ptr (h.length + (tail.length + 1 + 1 + 1 + 1)) 0) r = some (ctr h id 1 (ms b d) m ++ (.box cs0 :: .box zeroC :: .row 4 0 R 0 :: (tail ++ [AO.box e.cells] ++ [AO.box r.cells]))) := by
        intro m d
        have e1 : tail.length + 1 = (tail ++ [AO.box e.cells]).length := by simp
        have hg := hr
        generalize zeroT = zt at hg
        rw [show tail.length + 1 + 1 + 1 + 1 = (tail ++ [AO.box e.cells]).length + 1 + 1 + 1 by simp]
        generalize tail ++ [AO.box e.cells] = tl
        cases hg with
        | mk k s n c2 l2 hc2 =>
        simp only [c_st, stAt, zeroC, AV.cells, e_bslice1, e_bslice2, bs1, bs2, e_build, bdH_some, bd_nil, bd_cons, bd1, cl_agg, cl_int, toL, List.map_cons, List.map_nil, putAt, List.set_cons_zero, List.set_cons_succ, and_self, Nat.le_refl, app_get, app_set, g_agg, run_nil, run_cons, stp_plain, stp_guard, put_some, pass_eq, pick_tt, pick_ff, pick_tf, pick_ft, pick_u, reg_some, thn_normal, thn_exit, thn_ret, cnd_t, cnd_f, blk_normal, blk_ret, blk_exit, x_seq, x_region, x_cond, x_block, x_loop, x_ret, x_exit, x_skip, e_mov, e_pick, pk_t, pk_f, withH_some, e_box, e_load, e_store, stH_some, e_nil, e_bin, e_eqv, eqH_f, eqH_t, e_un, e_fa, e_ia, ia_eq, nat_eq, natV_nat, e_len, lnH_some, e_extract, ex_0, ex_1, e_call0, e_call1, e_call2, e_call3, pc0_eq, pc1_some, pc2_some, pc3_some, fin_some, g_var0, g_vars, g_loc0, g_locs, g_int, g_bool, g_str, g_sl, s_none, s_zero, s_succ, cl_nil, cl_str, cl_bool, cl_slc, cl_own, evFa, evNil, asEl, evBin, intBin, strBin, evUn, len_nil, len_slc, len_str, clr, List.length_nil, List.length_cons, List.getElem?_cons_zero, List.getElem?_cons_succ, Nat.reduceAdd, Nat.zero_add, Nat.add_zero, Nat.reduceLeDiff, Nat.reduceSub, ↓reduceIte, List.drop_succ_cons, List.drop_zero, List.take_succ_cons, List.take_zero, Bool.false_eq_true, List.nil_append, List.cons_append, Bool.not_true, Bool.not_false, cond_true, cond_false, bne, lv_ret, lv_normal, res1, res2, lv2_some, res_var, res_cell, lvf_v, lvf_slc, res1c, lvo1_some, e_mm, mm_max, mm_min]
        rfl
      simp only [List.append_assoc, zeroC, List.cons_append, List.nil_append] at hst2 hc
      simp only [L36, zeroC, c35_16, c35_9, c35_10, c35_11, c35_12, c35_13, hlt, hnb, q1, q3, hc, hst', hst2, hld, e_callh, q9z, c_ld, c_ld0, c_st, c_st0, c_bx, ldAt, stAt, preH_some, List.append_assoc, List.length_append, e_bslice1, e_bslice2, bs1, bs2, e_build, bdH_some, bd_nil, bd_cons, bd1, cl_agg, cl_int, toL, List.map_cons, List.map_nil, putAt, List.set_cons_zero, List.set_cons_succ, and_self, Nat.le_refl, app_get, app_set, g_agg, run_nil, run_cons, stp_plain, stp_guard, put_some, pass_eq, pick_tt, pick_ff, pick_tf, pick_ft, pick_u, reg_some, thn_normal, thn_exit, thn_ret, cnd_t, cnd_f, blk_normal, blk_ret, blk_exit, x_seq, x_region, x_cond, x_block, x_loop, x_ret, x_exit, x_skip, e_mov, e_pick, pk_t, pk_f, withH_some, e_box, e_load, e_store, stH_some, e_nil, e_bin, e_eqv, eqH_f, eqH_t, e_un, e_fa, e_ia, ia_eq, nat_eq, natV_nat, e_len, lnH_some, e_extract, ex_0, ex_1, e_call0, e_call1, e_call2, e_call3, pc0_eq, pc1_some, pc2_some, pc3_some, fin_some, g_var0, g_vars, g_loc0, g_locs, g_int, g_bool, g_str, g_sl, s_none, s_zero, s_succ, cl_nil, cl_str, cl_bool, cl_slc, cl_own, evFa, evNil, asEl, evBin, intBin, strBin, evUn, len_nil, len_slc, len_str, clr, List.length_nil, List.length_cons, List.getElem?_cons_zero, List.getElem?_cons_succ, Nat.reduceAdd, Nat.zero_add, Nat.add_zero, Nat.reduceLeDiff, Nat.reduceSub, ↓reduceIte, List.drop_succ_cons, List.drop_zero, List.take_succ_cons, List.take_zero, Bool.false_eq_true, List.nil_append, List.cons_append, Bool.not_true, Bool.not_false, cond_true, cond_false, bne, lv_ret, lv_normal, res1, res2, lv2_some, res_var, res_cell, lvf_v, lvf_slc, res1c, lvo1_some, e_mm, mm_max, mm_min]
    | ok q =>
      obtain ⟨x, m1⟩ := q
      rw [hres] at hrec
      obtain ⟨hle, r, hr, hc⟩ := hrec
      simp only [ctr_app hC.lt] at hc
      have tl3 : (tail ++ [AO.box e.cells, AO.box r.cells]).all (AO.below 0) = true := by
        have h1 := hT.bel
        have h2 := hr.bel
        simp only [List.all_append, List.all_cons, List.all_nil, htl, h1, h2, Bool.and_true]
      have row : ∀ tl : List AO, (AO.box cs0 :: .box zeroC :: .row 4 0 (ds ++ List.replicate (t :: l).length (.agg zeroC)) 0 :: tl : List AO)[2]? = some (.row 4 0 (ds ++ List.replicate (t :: l).length (.agg zeroC)) 0) := fun _ => rfl
      have q7 := own_ia (sz := 4) (H := ctr h id 1 (ms b (60 - (d : Int))) m1) ctr_len (row (tail ++ [AO.box e.cells, AO.box r.cells])) (n := es.length) (by omega) hil
      have hel : (ds ++ List.replicate (t :: l).length (AV.agg zeroC))[i]? = some (.agg zeroC) := by
        rw [List.getElem?_append_right (by omega)]
        simp [hds, List.replicate]
      have q8 := own_est (sz := 4) (H := ctr h id 1 (ms b (60 - (d : Int))) m1) ctr_len (row (tail ++ [AO.box e.cells, AO.box r.cells])) hel rfl (x := r) (hr.snap) hr.cl.1 hr.cl.2 hr.cellB
      have hset : (ds ++ List.replicate (t :: l).length (AV.agg zeroC)).set i (AV.agg r.cells) = (ds ++ [r]) ++ List.replicate l.length (AV.agg zeroC) := by
        rw [List.set_append_right _ _ (by omega)]
        have : AV.agg r.cells = r := hr.eta
        rw [this]
        simp [hds, List.replicate]
      rw [hset] at q8
      simp only [List.set_cons_succ, List.set_cons_zero] at q8
      have st : ∀ R R2, R = ds ++ List.replicate (t :: l).length (AV.agg zeroC) → R2 = (ds ++ [r]) ++ List.replicate l.length (AV.agg zeroC) → exec (callW F) K c35_16 (L36 id h.length es.length c i) (ctr h id 1 (ms b (60 - (d : Int))) m ++ (.box cs0 :: .box zeroC :: .row 4 0 R 0 :: tail)) = some (.normal, [.ptr id 0, .junk, .ptr h.length 0, .ptr (h.length + 1) 0, .junk, .junk, .own 4 (h.length + 2) 0 0 es.length, .v (.int .i64 i), .ptr (h.length + (tail.length + 1 + 1 + 1)) 0, .ptr (h.length + (tail.length + 1 + 1 + 1 + 1)) 0, .v (.int .i64 0), .junk, .junk, c, .v (.int .i64 es.length), .v (.int .i64 ((i + 1 : Nat) : Int)), .v (.bool true), .v (.bool false)], ctr h id 1 (ms b (60 - (d : Int))) m1 ++ (.box cs0 :: .box zeroC :: .row 4 0 R2 0 :: (tail ++ [AO.box e.cells, AO.box r.cells]))) := by
        intro R R2 hR hR2
        rw [← hR] at hc q7 q8
        rw [← hR2] at q8
        have hst2 : ∀ (m d : Int), evStore (ctr h id 1 (ms b d) m ++ (.box cs0 :: .box zeroC :: .row 4 0 R 0 :: (tail ++ [AO.box e.cells] ++ [AO.box zeroC]))) 4 (.ptr (h.length + (tail.length + 1 + 1 + 1 + 1)) 0) r = some (ctr h id 1 (ms b d) m ++ (.box cs0 :: .box zeroC :: .row 4 0 R 0 :: (tail ++ [AO.box e.cells] ++ [AO.box r.cells]))) := by
          intro m d
          have hg := hr
          rw [show tail.length + 1 + 1 + 1 + 1 = (tail ++ [AO.box e.cells]).length + 1 + 1 + 1 by simp]
          generalize tail ++ [AO.box e.cells] = tl
          cases hg with
          | mk k s n c2 l2 hc2 =>
          simp only [c_st, stAt, zeroC, AV.cells, e_bslice1, e_bslice2, bs1, bs2, e_build, bdH_some, bd_nil, bd_cons, bd1, cl_agg, cl_int, toL, List.map_cons, List.map_nil, putAt, List.set_cons_zero, List.set_cons_succ, and_self, Nat.le_refl, app_get, app_set, g_agg, run_nil, run_cons, stp_plain, stp_guard, put_some, pass_eq, pick_tt, pick_ff, pick_tf, pick_ft, pick_u, reg_some, thn_normal, thn_exit, thn_ret, cnd_t, cnd_f, blk_normal, blk_ret, blk_exit, x_seq, x_region, x_cond, x_block, x_loop, x_ret, x_exit, x_skip, e_mov, e_pick, pk_t, pk_f, withH_some, e_box, e_load, e_store, stH_some, e_nil, e_bin, e_eqv, eqH_f, eqH_t, e_un, e_fa, e_ia, ia_eq, nat_eq, natV_nat, e_len, lnH_some, e_extract, ex_0, ex_1, e_call0, e_call1, e_call2, e_call3, pc0_eq, pc1_some, pc2_some, pc3_some, fin_some, g_var0, g_vars, g_loc0, g_locs, g_int, g_bool, g_str, g_sl, s_none, s_zero, s_succ, cl_nil, cl_str, cl_bool, cl_slc, cl_own, evFa, evNil, asEl, evBin, intBin, strBin, evUn, len_nil, len_slc, len_str, clr, List.length_nil, List.length_cons, List.getElem?_cons_zero, List.getElem?_cons_succ, Nat.reduceAdd, Nat.zero_add, Nat.add_zero, Nat.reduceLeDiff, Nat.reduceSub, ↓reduceIte, List.drop_succ_cons, List.drop_zero, List.take_succ_cons, List.take_zero, Bool.false_eq_true, List.nil_append, List.cons_append, Bool.not_true, Bool.not_false, cond_true, cond_false, bne, lv_ret, lv_normal, res1, res2, lv2_some, res_var, res_cell, lvf_v, lvf_slc, res1c, lvo1_some, e_mm, mm_max, mm_min]
          rfl
        have hld2 : ∀ (m d : Int), evLoad (ctr h id 1 (ms b d) m ++ (.box cs0 :: .box zeroC :: .row 4 0 R 0 :: (tail ++ [AO.box e.cells] ++ [AO.box r.cells]))) true 4 (.ptr (h.length + (tail.length + 1 + 1 + 1 + 1)) 0) = some r := by
          intro m d
          rw [show tail.length + 1 + 1 + 1 + 1 = (tail ++ [AO.box e.cells]).length + 1 + 1 + 1 by simp]
          generalize tail ++ [AO.box e.cells] = tl
          rw [c_ld]
          simp only [ldAt, List.getElem?_cons_succ, app_get, hr.cl.2, List.drop_zero, hr.asEl]
          rfl
        have hnb : ((0 : Int) == 0) = true := rfl
        simp only [List.append_assoc, zeroC, List.cons_append, List.nil_append] at hst2 hld2 hc q7 q8
        simp only [L36, zeroC, c35_16, c35_9, c35_10, c35_11, c35_12, c35_14, c35_15, hlt, hnb, wrap_succ hil (small_max hm), q1, q3, q7, q8, hc, hst', hst2, hld2, hld, e_callh, q9z, c_ld, c_ld0, c_st, c_st0, c_bx, ldAt, stAt, preH_some, List.append_assoc, List.length_append, e_bslice1, e_bslice2, bs1, bs2, e_build, bdH_some, bd_nil, bd_cons, bd1, cl_agg, cl_int, toL, List.map_cons, List.map_nil, putAt, List.set_cons_zero, List.set_cons_succ, and_self, Nat.le_refl, app_get, app_set, g_agg, run_nil, run_cons, stp_plain, stp_guard, put_some, pass_eq, pick_tt, pick_ff, pick_tf, pick_ft, pick_u, reg_some, thn_normal, thn_exit, thn_ret, cnd_t, cnd_f, blk_normal, blk_ret, blk_exit, x_seq, x_region, x_cond, x_block, x_loop, x_ret, x_exit, x_skip, e_mov, e_pick, pk_t, pk_f, withH_some, e_box, e_load, e_store, stH_some, e_nil, e_bin, e_eqv, eqH_f, eqH_t, e_un, e_fa, e_ia, ia_eq, nat_eq, natV_nat, e_len, lnH_some, e_extract, ex_0, ex_1, e_call0, e_call1, e_call2, e_call3, pc0_eq, pc1_some, pc2_some, pc3_some, fin_some, g_var0, g_vars, g_loc0, g_locs, g_int, g_bool, g_str, g_sl, s_none, s_zero, s_succ, cl_nil, cl_str, cl_bool, cl_slc, cl_own, evFa, evNil, asEl, evBin, intBin, strBin, evUn, len_nil, len_slc, len_str, clr, List.length_nil, List.length_cons, List.getElem?_cons_zero, List.getElem?_cons_succ, Nat.reduceAdd, Nat.zero_add, Nat.add_zero, Nat.reduceLeDiff, Nat.reduceSub, ↓reduceIte, List.drop_succ_cons, List.drop_zero, List.take_succ_cons, List.take_zero, Bool.false_eq_true, List.nil_append, List.cons_append, Bool.not_true, Bool.not_false, cond_true, cond_false, bne, lv_ret, lv_normal, res1, res2, lv2_some, res_var, res_cell, lvf_v, lvf_slc, res1c, lvo1_some, e_mm, mm_max, mm_min]
      have hnext := ih (i + 1) m1 (ds ++ [r]) (dl ++ [x]) (tail ++ [AO.box e.cells, AO.box r.cells]) [.ptr id 0, .junk, .ptr h.length 0, .ptr (h.length + 1) 0, .junk, .junk, .own 4 (h.length + 2) 0 0 es.length, .v (.int .i64 i), .ptr (h.length + (tail.length + 1 + 1 + 1)) 0, .ptr (h.length + (tail.length + 1 + 1 + 1 + 1)) 0, .v (.int .i64 0), .junk, .junk, c, .v (.int .i64 es.length), .v (.int .i64 ((i + 1 : Nat) : Int)), .v (.bool true), .v (.bool false)] (by simp at hi; omega) (by simp [hds]) (by omega) hs' (hall.app (.one hr)) (fun t ht => hszs t (by simp [ht])) tl3 rfl
      have hln : ∀ X, loopN (exec (callW F) K c35_16) K36 ((t :: l).length + 1) vars (ctr h id 1 (ms b (60 - (d : Int))) m ++ (.box cs0 :: .box zeroC :: .row 4 0 (ds ++ List.replicate (t :: l).length (.agg zeroC)) 0 :: tail)) = X ↔ _ = X := fun X => by
        rw [show (t :: l).length + 1 = (l.length + 1) + 1 from rfl, loop_normal (by rw [hv]; exact st _ _ rfl rfl)]
      dsimp only
      cases hrl : resL (resT rs d) m1 l with
      | error er =>
        rw [hrl] at hnext
        obtain ⟨hne, l', d', o, tail', vs, g1, g2, g3⟩ := hnext
        exact ⟨hne, l', d', o, tail', vs, (hln _).2 g1, g2, g3⟩
      | ok q =>
        obtain ⟨xs, m2⟩ := q
        rw [hrl] at hnext
        obtain ⟨hle2, ds', tail', x1, x4, x5, x7, x8, x9, x10, x11, x12, x16, x17, g1, g2, g3⟩ := hnext
        exact ⟨by omega, ds', tail', x1, x4, x5, x7, x8, x9, x10, x11, x12, x16, x17, (hln _).2 g1, by simpa using g2, g3⟩
end
end Go.AE.YtpgoibncgekflaaDoor
end

/-! Meet of the document. -/
section
set_option linter.unusedVariables false
set_option linter.unusedSimpArgs false
namespace Go.AE.YtpgoibncgekflaaDoor
open Go Go.AE Go.Proofs.YtpgoibncgekflaaDoor

section
variable {h : List AO} {id off : Nat} {ms : List AV} {m : Int} {l : List AO}
theorem meet58 (c : Ctr h id off ms) {b a : AV} {es : List AV} {rs : List (Int × Tm)} (hes : AllB es rs) {b' : AV} (hbs : ∀ (m : Int) (l : List AO), b.snap1 (ctr h id off ms m ++ l) = some b') (hlook : ∀ n, callW F 72 [b', .v (.int .i64 n)] [] = some (lookA n es, []))
    (m : Nat) (hm : m ≤ 2000) {t : Tm} (ht : IsT a t) : ∃ rc, IsT (.agg rc) (meetT rs m t).1 ∧ callW F 58 [.ptr id off, b, a] (ctr h id off ms (2000 - (m : Int))) = some (.tup [.agg rc, .v (.int .i64 (meetT rs m t).2.1)], ctr h id off ms (spent (meetT rs m t).2.1 (meetT rs m t).2.2)) := by
  have hres : c58.res = [.cell 4 true 4, .var 5] := rfl
  have hbel := ht.bel
  have hl : ([.box a.cells, .box zeroC] : List AO).all (AO.below 0) = true := by
    have hz : (AO.box zeroC).below 0 = true := rfl
    simp only [List.all_cons, List.all_nil, hbel, hz, Bool.and_true]
  have hsp := spend_ok c (l := [.box a.cells, .box zeroC]) (all_below_mono (Nat.zero_le _) hl) (2000 - (m : Int)) (by omega)
  cases m with
  | zero =>
    refine ⟨zeroC, isT_zero, callW_own (c := c58) rfl rfl 0 ?_⟩
    have h0 : decide ((2000 : Int) - ((0 : Nat) : Int) + 1 ≤ 2000) = false := rfl
    rw [h0] at hsp
    have e1 : spent 140 0 = 2000 - ((0 : Nat) : Int) + 1 := rfl
    simp only [meetT, e1]
    have body : exec (callW F) 0 c58.body (start c58 [.ptr id off, b, a]) (ctr h id off ms (2000 - ((0 : Nat) : Int)) ++ []) = some (.ret, [.ptr id off, b, a, .ptr h.length 0, .ptr (h.length + 1) 0, .v (.int .i64 140), .v (.bool true)], ctr h id off ms (2000 - ((0 : Nat) : Int) + 1) ++ [.box a.cells, .box zeroC]) := by
      cases ht
      simp only [AV.cells, zeroC] at hsp
      simp only [c58, start, zeroC, List.replicate, c58_0, c58_1, c58_2, hsp, e_callh, q9z, AV.cells, evNil, c_ld, c_ld0, c_st, c_st0, c_bx, ldAt, stAt, preH_some, List.append_assoc, e_bslice1, e_bslice2, bs1, bs2, e_build, bdH_some, bd_nil, bd_cons, bd1, cl_agg, cl_int, toL, List.map_cons, List.map_nil, putAt, List.set_cons_zero, List.set_cons_succ, and_self, Nat.le_refl, app_get, app_set, g_agg, run_nil, run_cons, stp_plain, stp_guard, put_some, pass_eq, pick_tt, pick_ff, pick_tf, pick_ft, pick_u, reg_some, thn_normal, thn_exit, thn_ret, cnd_t, cnd_f, blk_normal, blk_ret, blk_exit, x_seq, x_region, x_cond, x_block, x_loop, x_ret, x_exit, x_skip, e_mov, e_pick, pk_t, pk_f, withH_some, e_box, e_load, e_store, stH_some, e_nil, e_bin, e_eqv, eqH_f, eqH_t, e_un, e_fa, e_ia, ia_eq, nat_eq, natV_nat, e_len, lnH_some, e_extract, ex_0, ex_1, e_call0, e_call1, e_call2, e_call3, pc0_eq, pc1_some, pc2_some, pc3_some, fin_some, g_var0, g_vars, g_loc0, g_locs, g_int, g_bool, g_str, g_sl, s_none, s_zero, s_succ, cl_nil, cl_str, cl_bool, cl_slc, cl_own, evFa, evNil, asEl, evBin, intBin, strBin, evUn, len_nil, len_slc, len_str, clr, List.length_nil, List.length_cons, List.getElem?_cons_zero, List.getElem?_cons_succ, Nat.reduceAdd, Nat.zero_add, Nat.add_zero, Nat.reduceLeDiff, Nat.reduceSub, ↓reduceIte, List.drop_succ_cons, List.drop_zero, List.take_succ_cons, List.take_zero, Bool.false_eq_true, List.nil_append, List.cons_append, Bool.not_true, Bool.not_false, cond_true, cond_false, bne, lv_ret, lv_normal, res1, res2, lv2_some, res_var, res_cell, lvf_v, lvf_slc, res1c, lvo1_some, e_mm, mm_max, mm_min]
    rw [body, ctr_len, leave_own ctr_len (c.all _), hres, own_res2 (x := .agg zeroC) (y := .v (.int .i64 140)) _ _]
    · exact lvo_two (isT_zero.frz _ _) rfl
    · simp only [res_cell, c_ld, ldAt, zeroC, e_bslice1, e_bslice2, bs1, bs2, e_build, bdH_some, bd_nil, bd_cons, bd1, cl_agg, cl_int, toL, List.map_cons, List.map_nil, putAt, List.set_cons_zero, List.set_cons_succ, and_self, Nat.le_refl, app_get, app_set, g_agg, run_nil, run_cons, stp_plain, stp_guard, put_some, pass_eq, pick_tt, pick_ff, pick_tf, pick_ft, pick_u, reg_some, thn_normal, thn_exit, thn_ret, cnd_t, cnd_f, blk_normal, blk_ret, blk_exit, x_seq, x_region, x_cond, x_block, x_loop, x_ret, x_exit, x_skip, e_mov, e_pick, pk_t, pk_f, withH_some, e_box, e_load, e_store, stH_some, e_nil, e_bin, e_eqv, eqH_f, eqH_t, e_un, e_fa, e_ia, ia_eq, nat_eq, natV_nat, e_len, lnH_some, e_extract, ex_0, ex_1, e_call0, e_call1, e_call2, e_call3, pc0_eq, pc1_some, pc2_some, pc3_some, fin_some, g_var0, g_vars, g_loc0, g_locs, g_int, g_bool, g_str, g_sl, s_none, s_zero, s_succ, cl_nil, cl_str, cl_bool, cl_slc, cl_own, evFa, evNil, asEl, evBin, intBin, strBin, evUn, len_nil, len_slc, len_str, clr, List.length_nil, List.length_cons, List.getElem?_cons_zero, List.getElem?_cons_succ, Nat.reduceAdd, Nat.zero_add, Nat.add_zero, Nat.reduceLeDiff, Nat.reduceSub, ↓reduceIte, List.drop_succ_cons, List.drop_zero, List.take_succ_cons, List.take_zero, Bool.false_eq_true, List.nil_append, List.cons_append, Bool.not_true, Bool.not_false, cond_true, cond_false, bne, lv_ret, lv_normal, res1, res2, lv2_some, res_var, res_cell, lvf_v, lvf_slc, res1c, lvo1_some, e_mm, mm_max, mm_min]
    · rfl
  | succ m =>
    obtain ⟨rc, hrc, hf⟩ := meter_ok (c.app0 hl) hes (b' := b') (fun m l => by rw [ctr_app c.lt, List.append_assoc]; exact hbs m _) hlook m (by omega) ht
    rw [ctr_app c.lt, ctr_app c.lt] at hf
    refine ⟨rc, hrc, callW_own (c := c58) rfl rfl 0 ?_⟩
    have h0 : decide ((2000 : Int) - ((m + 1 : Nat) : Int) + 1 ≤ 2000) = true := decide_eq_true (by omega)
    have e1 : (2000 : Int) - ((m + 1 : Nat) : Int) + 1 = 2000 - (m : Int) := by omega
    rw [h0, e1] at hsp
    simp only [meetT]
    generalize walkT rs m t = w at hrc hf ⊢
    obtain ⟨w1, w2, w3⟩ := w
    dsimp only at hrc hf ⊢
    generalize spent w2 w3 = N at hf ⊢
    have body : exec (callW F) 0 c58.body (start c58 [.ptr id off, b, a]) (ctr h id off ms (2000 - ((m + 1 : Nat) : Int)) ++ []) = some (.ret, [.ptr id off, b, a, .ptr h.length 0, .ptr (h.length + 1) 0, .v (.int .i64 w2), .v (.bool false)], ctr h id off ms N ++ [.box a.cells, .box rc]) := by
      cases hrc
      cases ht
      simp only [AV.cells, zeroC] at hf hsp
      simp only [c58, start, zeroC, List.replicate, c58_0, c58_1, c58_3, hsp, hf, e_callh, q9z, AV.cells, evNil, c_ld, c_ld0, c_st, c_st0, c_bx, ldAt, stAt, preH_some, List.append_assoc, e_bslice1, e_bslice2, bs1, bs2, e_build, bdH_some, bd_nil, bd_cons, bd1, cl_agg, cl_int, toL, List.map_cons, List.map_nil, putAt, List.set_cons_zero, List.set_cons_succ, and_self, Nat.le_refl, app_get, app_set, g_agg, run_nil, run_cons, stp_plain, stp_guard, put_some, pass_eq, pick_tt, pick_ff, pick_tf, pick_ft, pick_u, reg_some, thn_normal, thn_exit, thn_ret, cnd_t, cnd_f, blk_normal, blk_ret, blk_exit, x_seq, x_region, x_cond, x_block, x_loop, x_ret, x_exit, x_skip, e_mov, e_pick, pk_t, pk_f, withH_some, e_box, e_load, e_store, stH_some, e_nil, e_bin, e_eqv, eqH_f, eqH_t, e_un, e_fa, e_ia, ia_eq, nat_eq, natV_nat, e_len, lnH_some, e_extract, ex_0, ex_1, e_call0, e_call1, e_call2, e_call3, pc0_eq, pc1_some, pc2_some, pc3_some, fin_some, g_var0, g_vars, g_loc0, g_locs, g_int, g_bool, g_str, g_sl, s_none, s_zero, s_succ, cl_nil, cl_str, cl_bool, cl_slc, cl_own, evFa, evNil, asEl, evBin, intBin, strBin, evUn, len_nil, len_slc, len_str, clr, List.length_nil, List.length_cons, List.getElem?_cons_zero, List.getElem?_cons_succ, Nat.reduceAdd, Nat.zero_add, Nat.add_zero, Nat.reduceLeDiff, Nat.reduceSub, ↓reduceIte, List.drop_succ_cons, List.drop_zero, List.take_succ_cons, List.take_zero, Bool.false_eq_true, List.nil_append, List.cons_append, Bool.not_true, Bool.not_false, cond_true, cond_false, bne, lv_ret, lv_normal, res1, res2, lv2_some, res_var, res_cell, lvf_v, lvf_slc, res1c, lvo1_some, e_mm, mm_max, mm_min]
    rw [body, ctr_len, leave_own ctr_len (c.all _), hres, own_res2 (x := .agg rc) (y := .v (.int .i64 w2)) _ _]
    · exact lvo_two (hrc.frz _ _) rfl
    · cases hrc; simp only [res_cell, c_ld, ldAt, e_bslice1, e_bslice2, bs1, bs2, e_build, bdH_some, bd_nil, bd_cons, bd1, cl_agg, cl_int, toL, List.map_cons, List.map_nil, putAt, List.set_cons_zero, List.set_cons_succ, and_self, Nat.le_refl, app_get, app_set, g_agg, run_nil, run_cons, stp_plain, stp_guard, put_some, pass_eq, pick_tt, pick_ff, pick_tf, pick_ft, pick_u, reg_some, thn_normal, thn_exit, thn_ret, cnd_t, cnd_f, blk_normal, blk_ret, blk_exit, x_seq, x_region, x_cond, x_block, x_loop, x_ret, x_exit, x_skip, e_mov, e_pick, pk_t, pk_f, withH_some, e_box, e_load, e_store, stH_some, e_nil, e_bin, e_eqv, eqH_f, eqH_t, e_un, e_fa, e_ia, ia_eq, nat_eq, natV_nat, e_len, lnH_some, e_extract, ex_0, ex_1, e_call0, e_call1, e_call2, e_call3, pc0_eq, pc1_some, pc2_some, pc3_some, fin_some, g_var0, g_vars, g_loc0, g_locs, g_int, g_bool, g_str, g_sl, s_none, s_zero, s_succ, cl_nil, cl_str, cl_bool, cl_slc, cl_own, evFa, evNil, asEl, evBin, intBin, strBin, evUn, len_nil, len_slc, len_str, clr, List.length_nil, List.length_cons, List.getElem?_cons_zero, List.getElem?_cons_succ, Nat.reduceAdd, Nat.zero_add, Nat.add_zero, Nat.reduceLeDiff, Nat.reduceSub, ↓reduceIte, List.drop_succ_cons, List.drop_zero, List.take_succ_cons, List.take_zero, Bool.false_eq_true, List.nil_append, List.cons_append, Bool.not_true, Bool.not_false, cond_true, cond_false, bne, lv_ret, lv_normal, res1, res2, lv2_some, res_var, res_cell, lvf_v, lvf_slc, res1c, lvo1_some, e_mm, mm_max, mm_min]
    · rfl
end
end Go.AE.YtpgoibncgekflaaDoor
end

/-! Copy of the program: the same term. -/
section
set_option linter.unusedVariables false
set_option linter.unusedSimpArgs false
namespace Go.AE.YtpgoibncgekflaaDoor
open Go Go.AE Go.Proofs.YtpgoibncgekflaaDoor

def fnC : AV := .fn (.func 57) [] []
theorem turnc_ok {H : List AO} (hb : H.all (AO.below H.length) = true) (n : Int) : callW F 57 [.v (.int .i64 n)] H = some (.v (.int .i64 n), H) := by
  refine callW_own (c := c57) rfl rfl 0 ?_
  have body : exec (callW F) 0 c57.body (start c57 [.v (.int .i64 n)]) (H ++ []) = some (.ret, [.v (.int .i64 n), .v (.int .i64 n)], H ++ []) := by
    simp only [c57, start, List.replicate, c57_0, c57_1, e_bslice1, e_bslice2, bs1, bs2, e_build, bdH_some, bd_nil, bd_cons, bd1, cl_agg, cl_int, toL, List.map_cons, List.map_nil, putAt, List.set_cons_zero, List.set_cons_succ, and_self, Nat.le_refl, app_get, app_set, g_agg, run_nil, run_cons, stp_plain, stp_guard, put_some, pass_eq, pick_tt, pick_ff, pick_tf, pick_ft, pick_u, reg_some, thn_normal, thn_exit, thn_ret, cnd_t, cnd_f, blk_normal, blk_ret, blk_exit, x_seq, x_region, x_cond, x_block, x_loop, x_ret, x_exit, x_skip, e_mov, e_pick, pk_t, pk_f, withH_some, e_box, bx_some, e_load, e_store, stH_some, e_nil, e_bin, e_eqv, eqH_f, eqH_t, e_un, e_fa, e_ia, ia_eq, nat_eq, natV_nat, e_len, lnH_some, e_extract, ex_0, ex_1, e_call0, e_call1, e_call2, e_call3, pc0_eq, pc1_some, pc2_some, pc3_some, fin_some, g_var0, g_vars, g_loc0, g_locs, g_int, g_bool, g_str, g_sl, s_none, s_zero, s_succ, cl_nil, cl_str, cl_bool, cl_slc, cl_own, evFa, evNil, asEl, evBin, intBin, strBin, evUn, len_nil, len_slc, len_str, clr, List.length_nil, List.length_cons, List.getElem?_cons_zero, List.getElem?_cons_succ, Nat.reduceAdd, Nat.zero_add, Nat.add_zero, Nat.reduceLeDiff, Nat.reduceSub, ↓reduceIte, List.drop_succ_cons, List.drop_zero, List.take_succ_cons, List.take_zero, Bool.false_eq_true, List.nil_append, List.cons_append, Bool.not_true, Bool.not_false, cond_true, cond_false, bne, lv_ret, lv_normal, res1, res2, lv2_some, res_var, res_cell, lvf_v, lvf_slc, res1c, lvo1_some, e_mm, mm_max, mm_min]
  rw [body, leave_own rfl hb]
  exact lvo_one rfl
section
variable {H : List AO} {l : List AO}
def L49c (B n : Nat) (c : AV) (i : Int) : List AV := [.junk, fnC, .ptr B 0, .ptr (B + 1) 0, .own 4 (B + 2) 0 0 n, .junk, .junk, .junk, .junk, c, .v (.int .i64 n), .v (.int .i64 i), .junk]
theorem eachc_loop {K : Nat} {c : AV} {es : List AV} {cs0 cs1 : List AV} (hs : Sl 4 c es) (hm : es.length ≤ 100000) (hb : H.all (AO.below H.length) = true) (hb0 : (AO.box cs0).below 0 = true) (hb1 : (AO.box cs1).below 0 = true) :
    ∀ (l : List Tm) (i : Nat) (ds : List AV) (dl : List Tm) (tail : List AO) (vars : List AV), i + l.length = es.length → ds.length = i → All2 (es.drop i) l → All2 ds dl → tail.all (AO.below 0) = true →
      (∀ t ∈ l, ∀ (e : AV) (H' : List AO), IsT e t → H'.all (AO.below H'.length) = true → ∃ r, IsT r (t) ∧ callW F 56 [e, fnC] H' = some (r, H')) →
      clr K49 vars = L49c H.length es.length c i →
      ∃ ds' tail' x5 x6 x7 x8 x12, loopN (exec (callW F) K c56_12) K49 (l.length + 1) vars (H ++ (.box cs0 :: .box cs1 :: .row 4 0 (ds ++ List.replicate l.length (.agg zeroC)) 0 :: tail)) = some (.exit 0, [.junk, fnC, .ptr H.length 0, .ptr (H.length + 1) 0, .own 4 (H.length + 2) 0 0 es.length, x5, x6, x7, x8, c, .v (.int .i64 es.length), .v (.int .i64 es.length), x12], H ++ (.box cs0 :: .box cs1 :: .row 4 0 ds' 0 :: tail')) ∧ All2 ds' (dl ++ l) ∧ ds'.length = es.length := by
  intro l
  induction l with
  | nil =>
    intro i ds dl tail vars hi hds _ hall htl _ hv
    have hil : i = es.length := by simpa using hi
    subst hil
    have hlt : decide ((es.length : Int) < (es.length : Int)) = false := by simp
    refine ⟨ds, tail, .junk, .junk, .junk, .junk, .v (.bool false), loop_exit ?_, by simpa using hall, hds⟩
    rw [hv]
    simp only [L49c, c56_12, c56_8, hlt, List.replicate, List.append_nil, e_bslice1, e_bslice2, bs1, bs2, e_build, bdH_some, bd_nil, bd_cons, bd1, cl_agg, cl_int, toL, List.map_cons, List.map_nil, putAt, List.set_cons_zero, List.set_cons_succ, and_self, Nat.le_refl, app_get, app_set, g_agg, run_nil, run_cons, stp_plain, stp_guard, put_some, pass_eq, pick_tt, pick_ff, pick_tf, pick_ft, pick_u, reg_some, thn_normal, thn_exit, thn_ret, cnd_t, cnd_f, blk_normal, blk_ret, blk_exit, x_seq, x_region, x_cond, x_block, x_loop, x_ret, x_exit, x_skip, e_mov, e_pick, pk_t, pk_f, withH_some, e_box, e_load, e_store, stH_some, e_nil, e_bin, e_eqv, eqH_f, eqH_t, e_un, e_fa, e_ia, ia_eq, nat_eq, natV_nat, e_len, lnH_some, e_extract, ex_0, ex_1, e_call0, e_call1, e_call2, e_call3, pc0_eq, pc1_some, pc2_some, pc3_some, fin_some, g_var0, g_vars, g_loc0, g_locs, g_int, g_bool, g_str, g_sl, s_none, s_zero, s_succ, cl_nil, cl_str, cl_bool, cl_slc, cl_own, evFa, evNil, asEl, evBin, intBin, strBin, evUn, len_nil, len_slc, len_str, clr, List.length_nil, List.length_cons, List.getElem?_cons_zero, List.getElem?_cons_succ, Nat.reduceAdd, Nat.zero_add, Nat.add_zero, Nat.reduceLeDiff, Nat.reduceSub, ↓reduceIte, List.drop_succ_cons, List.drop_zero, List.take_succ_cons, List.take_zero, Bool.false_eq_true, List.nil_append, List.cons_append, Bool.not_true, Bool.not_false, cond_true, cond_false, bne, lv_ret, lv_normal, res1, res2, lv2_some, res_var, res_cell, lvf_v, lvf_slc, res1c, lvo1_some, e_mm, mm_max, mm_min]
  | cons t l ih =>
    intro i ds dl tail vars hi hds hes hall htl hcall hv
    have hil : i < es.length := by simp at hi; omega
    have he : es[i]? = some (es[i]'hil) := List.getElem?_eq_getElem _
    have hd : es.drop i = es[i] :: es.drop (i + 1) := List.drop_eq_getElem_cons hil
    rw [hd] at hes
    generalize es[i]'hil = e at hes he
    cases hes with
    | cons _ _ _ _ hT hs' =>
    have hlt : (decide ((i : Int) < (es.length : Int))) = true := by simp; omega
    have hlen : (ds ++ List.replicate (t :: l).length (AV.agg zeroC)).length = es.length := by simp at hi ⊢; omega
    have tl2 : (tail ++ [AO.box e.cells]).all (AO.below 0) = true := by
      have := hT.bel
      simp only [List.all_append, List.all_cons, List.all_nil, htl, this, Bool.and_true]
    have hbl : (H ++ (.box cs0 :: .box cs1 :: .row 4 0 (ds ++ List.replicate (t :: l).length (.agg zeroC)) 0 :: (tail ++ [AO.box e.cells])) : List AO).all (AO.below (H ++ (.box cs0 :: .box cs1 :: .row 4 0 (ds ++ List.replicate (t :: l).length (.agg zeroC)) 0 :: (tail ++ [AO.box e.cells])) : List AO).length) = true := by
      rw [List.all_append, Bool.and_eq_true]
      refine ⟨all_below_mono (by simp) hb, all_below_mono (Nat.zero_le _) ?_⟩
      have hr : ∀ L : List AV, (AO.row 4 0 L 0).below 0 = true := fun _ => rfl
      simp only [List.all_cons, hb0, hb1, hr, tl2, Bool.and_true]
    obtain ⟨r, hr, hc⟩ := hcall t (by simp) _ _ hT hbl
    have q1 := hs.ia he
    have q3 : ∀ h : List AO, evLoad h true 4 (.ip e.cells) = some e := fun h => hT.load
    have q4 : e.cl = some e.cells := hT.cl.1
    have q4b : e.cells.length = 4 := hT.cl.2
    have q5 := hT.asEl
    -- the row
    have row : ∀ tl : List AO, (AO.box cs0 :: .box cs1 :: .row 4 0 (ds ++ List.replicate (t :: l).length (.agg zeroC)) 0 :: tl : List AO)[2]? = some (.row 4 0 (ds ++ List.replicate (t :: l).length (.agg zeroC)) 0) := fun _ => rfl
    have q7 := own_ia (sz := 4) (H := H) rfl (row (tail ++ [AO.box e.cells])) (n := es.length) (by omega) hil
    have hel : (ds ++ List.replicate (t :: l).length (AV.agg zeroC))[i]? = some (.agg zeroC) := by
      rw [List.getElem?_append_right (by omega)]
      simp [hds, List.replicate]
    have q8 := own_est (sz := 4) (H := H) rfl (row (tail ++ [AO.box e.cells])) hel rfl (x := r) (hr.snap) hr.cl.1 hr.cl.2 hr.cellB
    have hset : (ds ++ List.replicate (t :: l).length (AV.agg zeroC)).set i (AV.agg r.cells) = (ds ++ [r]) ++ List.replicate l.length (AV.agg zeroC) := by
      rw [List.set_append_right _ _ (by omega)]
      have : AV.agg r.cells = r := hr.eta
      rw [this]
      simp [hds, List.replicate]
    rw [hset] at q8
    simp only [List.set_cons_succ, List.set_cons_zero] at q8
    have st : ∀ R R2, R = ds ++ List.replicate (t :: l).length (AV.agg zeroC) → R2 = (ds ++ [r]) ++ List.replicate l.length (AV.agg zeroC) → exec (callW F) K c56_12 (L49c H.length es.length c i) (H ++ (.box cs0 :: .box cs1 :: .row 4 0 R 0 :: tail)) = some (.normal, [.junk, fnC, .ptr H.length 0, .ptr (H.length + 1) 0, .own 4 (H.length + 2) 0 0 es.length, .v (.int .i64 i), .ptr (H.length + (tail.length + 1 + 1 + 1)) 0, .junk, .junk, c, .v (.int .i64 es.length), .v (.int .i64 ((i + 1 : Nat) : Int)), .v (.bool true)], H ++ (.box cs0 :: .box cs1 :: .row 4 0 R2 0 :: (tail ++ [AO.box e.cells]))) := by
      intro R R2 hR hR2
      rw [← hR] at hc q7 q8
      rw [← hR2] at q8
      have hst : ∀ (q : AV), evStore (H ++ (.box cs0 :: .box cs1 :: .row 4 0 R 0 :: (tail ++ [AO.box zeroC]))) 4 (.ptr (H.length + (tail.length + 1 + 1 + 1)) 0) e = some (H ++ (.box cs0 :: .box cs1 :: .row 4 0 R 0 :: (tail ++ [AO.box e.cells]))) := by
        intro q
        have hg := hT
        cases hg with
        | mk k s n c2 l2 hc2 =>
        simp only [h_st, stAt, zeroC, AV.cells, e_bslice1, e_bslice2, bs1, bs2, e_build, bdH_some, bd_nil, bd_cons, bd1, cl_agg, cl_int, toL, List.map_cons, List.map_nil, putAt, List.set_cons_zero, List.set_cons_succ, and_self, Nat.le_refl, app_get, app_set, g_agg, run_nil, run_cons, stp_plain, stp_guard, put_some, pass_eq, pick_tt, pick_ff, pick_tf, pick_ft, pick_u, reg_some, thn_normal, thn_exit, thn_ret, cnd_t, cnd_f, blk_normal, blk_ret, blk_exit, x_seq, x_region, x_cond, x_block, x_loop, x_ret, x_exit, x_skip, e_mov, e_pick, pk_t, pk_f, withH_some, e_box, e_load, e_store, stH_some, e_nil, e_bin, e_eqv, eqH_f, eqH_t, e_un, e_fa, e_ia, ia_eq, nat_eq, natV_nat, e_len, lnH_some, e_extract, ex_0, ex_1, e_call0, e_call1, e_call2, e_call3, pc0_eq, pc1_some, pc2_some, pc3_some, fin_some, g_var0, g_vars, g_loc0, g_locs, g_int, g_bool, g_str, g_sl, s_none, s_zero, s_succ, cl_nil, cl_str, cl_bool, cl_slc, cl_own, evFa, evNil, asEl, evBin, intBin, strBin, evUn, len_nil, len_slc, len_str, clr, List.length_nil, List.length_cons, List.getElem?_cons_zero, List.getElem?_cons_succ, Nat.reduceAdd, Nat.zero_add, Nat.add_zero, Nat.reduceLeDiff, Nat.reduceSub, ↓reduceIte, List.drop_succ_cons, List.drop_zero, List.take_succ_cons, List.take_zero, Bool.false_eq_true, List.nil_append, List.cons_append, Bool.not_true, Bool.not_false, cond_true, cond_false, bne, lv_ret, lv_normal, res1, res2, lv2_some, res_var, res_cell, lvf_v, lvf_slc, res1c, lvo1_some, e_mm, mm_max, mm_min]
        rfl
      have hld : evLoad (H ++ (.box cs0 :: .box cs1 :: .row 4 0 R 0 :: (tail ++ [AO.box e.cells]))) true 4 (.ptr (H.length + (tail.length + 1 + 1 + 1)) 0) = some e := by
        rw [h_ld]
        simp only [ldAt, List.getElem?_cons_succ, app_get, q4b, List.drop_zero, q5]
        rfl
      have hst' := hst .junk
      simp only [zeroC] at hst'
      simp only [L49c, zeroC, c56_12, c56_8, c56_9, c56_10, c56_11, hlt, wrap_succ hil (small_max hm), q1, q3, q7, q8, hc, hst', hld, e_callh, q9z, h_bx, e_bslice1, e_bslice2, bs1, bs2, e_build, bdH_some, bd_nil, bd_cons, bd1, cl_agg, cl_int, toL, List.map_cons, List.map_nil, putAt, List.set_cons_zero, List.set_cons_succ, and_self, Nat.le_refl, app_get, app_set, g_agg, run_nil, run_cons, stp_plain, stp_guard, put_some, pass_eq, pick_tt, pick_ff, pick_tf, pick_ft, pick_u, reg_some, thn_normal, thn_exit, thn_ret, cnd_t, cnd_f, blk_normal, blk_ret, blk_exit, x_seq, x_region, x_cond, x_block, x_loop, x_ret, x_exit, x_skip, e_mov, e_pick, pk_t, pk_f, withH_some, e_box, e_load, e_store, stH_some, e_nil, e_bin, e_eqv, eqH_f, eqH_t, e_un, e_fa, e_ia, ia_eq, nat_eq, natV_nat, e_len, lnH_some, e_extract, ex_0, ex_1, e_call0, e_call1, e_call2, e_call3, pc0_eq, pc1_some, pc2_some, pc3_some, fin_some, g_var0, g_vars, g_loc0, g_locs, g_int, g_bool, g_str, g_sl, s_none, s_zero, s_succ, cl_nil, cl_str, cl_bool, cl_slc, cl_own, evFa, evNil, asEl, evBin, intBin, strBin, evUn, len_nil, len_slc, len_str, clr, List.length_nil, List.length_cons, List.getElem?_cons_zero, List.getElem?_cons_succ, Nat.reduceAdd, Nat.zero_add, Nat.add_zero, Nat.reduceLeDiff, Nat.reduceSub, ↓reduceIte, List.drop_succ_cons, List.drop_zero, List.take_succ_cons, List.take_zero, Bool.false_eq_true, List.nil_append, List.cons_append, Bool.not_true, Bool.not_false, cond_true, cond_false, bne, lv_ret, lv_normal, res1, res2, lv2_some, res_var, res_cell, lvf_v, lvf_slc, res1c, lvo1_some, e_mm, mm_max, mm_min]
    rw [show (t :: l).length + 1 = (l.length + 1) + 1 from rfl, loop_normal (by rw [hv]; exact st _ _ rfl rfl)]
    obtain ⟨ds', tail', x5, x6, x7, x8, x12, g1, g2, g3⟩ := ih (i + 1) (ds ++ [r]) (dl ++ [t]) (tail ++ [AO.box e.cells]) [.junk, fnC, .ptr H.length 0, .ptr (H.length + 1) 0, .own 4 (H.length + 2) 0 0 es.length, .v (.int .i64 i), .ptr (H.length + (tail.length + 1 + 1 + 1)) 0, .junk, .junk, c, .v (.int .i64 es.length), .v (.int .i64 ((i + 1 : Nat) : Int)), .v (.bool true)] (by simp at hi; omega) (by simp [hds]) hs' (hall.app (.one hr)) tl2 (fun t ht => hcall t (by simp [ht])) rfl
    refine ⟨ds', tail', x5, x6, x7, x8, x12, g1, ?_, g3⟩
    simpa using g2

theorem eachc : ∀ (N : Nat) (t : Tm) (a : AV) (H : List AO), SizeOf.sizeOf t < N → size t ≤ 100000 → IsT a t → H.all (AO.below H.length) = true → ∃ r, IsT r (t) ∧ callW F 56 [a, fnC] H = some (r, H) := by
  intro N
  induction N with
  | zero => intro t a H h; omega
  | succ N ih =>
    intro t a H hN hsz ha hb
    have hbela := ha.bel
    cases ha with
    | mk k s n c l hc =>
    have h5 := Tm.mk.sizeOf_spec k s n l
    simp only [size] at hsz
    have hll := sizeL_len l
    have hcall : ∀ t ∈ l, ∀ (e : AV) (H' : List AO), IsT e t → H'.all (AO.below H'.length) = true → ∃ r, IsT r (t) ∧ callW F 56 [e, fnC] H' = some (r, H') := by
      intro t ht e H' hT
      have h6 := List.sizeOf_lt_of_mem ht
      have h7 := size_mem ht
      exact ih t e H' (by omega) (by omega) hT
    obtain ⟨es, hs, hes, hm⟩ := hc.sl
    have e1 := hes.length
    -- behind the number
    have rest : ∀ (n' : Int) (y : AV) (m : Bool), ∃ r, IsT r (.mk k s n' (l)) ∧ leave H.length c56 (exec (callW F) (l.length + 1) (.seq (.seq (.region [] [] c56_3) (.cond (.var 8) (.seq (.region [] [] c56_4) (.seq (.region [] [] c56_5) .ret)) .skip)) (.seq (.region [] [] c56_6) (.seq (.seq (.region [] [] c56_7) (.block 0 (.loop K49 [] c56_12))) (.seq (.region [] [] c56_13) (.seq (.region [] [] c56_14) .ret)))))
        [y, fnC, .ptr H.length 0, .ptr (H.length + 1) 0, .v undef, .v undef, .v undef, .v (.bool m), .v undef, .v undef, .v undef, .v undef, .v undef] (H ++ [.box [.v (.int .i64 k), .v (.string s), .v (.int .i64 n'), c], .box zeroC])) = some (r, H) := by
      intro n' y m
      have hres : c56.res = [.cell 3 true 4] := rfl
      rcases Nat.eq_zero_or_pos l.length with h0 | h0
      · have hl0 : l = [] := List.length_eq_zero_iff.1 h0
        subst hl0
        have he0 : es = [] := List.length_eq_zero_iff.1 (by simpa using e1)
        subst he0
        have h1 : (((0 : Nat) : Int) == 0) = true := rfl
        refine ⟨.agg [.v (.int .i64 k), .v (.string s), .v (.int .i64 n'), .v (.slice none 0 0)], .mk _ _ _ _ _ .nil, ?_⟩
        simp only [zeroC, c56_3, c56_4, c56_5, h1, hs.len, h_ld, h_ld0, h_st, h_st0, h_bx, ldAt, stAt, preH_some, List.append_assoc, e_bslice1, e_bslice2, bs1, bs2, e_build, bdH_some, bd_nil, bd_cons, bd1, cl_agg, cl_int, toL, List.map_cons, List.map_nil, putAt, List.set_cons_zero, List.set_cons_succ, and_self, Nat.le_refl, app_get, app_set, g_agg, run_nil, run_cons, stp_plain, stp_guard, put_some, pass_eq, pick_tt, pick_ff, pick_tf, pick_ft, pick_u, reg_some, thn_normal, thn_exit, thn_ret, cnd_t, cnd_f, blk_normal, blk_ret, blk_exit, x_seq, x_region, x_cond, x_block, x_loop, x_ret, x_exit, x_skip, e_mov, e_pick, pk_t, pk_f, withH_some, e_box, e_load, e_store, stH_some, e_nil, e_bin, e_eqv, eqH_f, eqH_t, e_un, e_fa, e_ia, ia_eq, nat_eq, natV_nat, e_len, lnH_some, e_extract, ex_0, ex_1, e_call0, e_call1, e_call2, e_call3, pc0_eq, pc1_some, pc2_some, pc3_some, fin_some, g_var0, g_vars, g_loc0, g_locs, g_int, g_bool, g_str, g_sl, s_none, s_zero, s_succ, cl_nil, cl_str, cl_bool, cl_slc, cl_own, evFa, evNil, asEl, evBin, intBin, strBin, evUn, len_nil, len_slc, len_str, clr, List.length_nil, List.length_cons, List.getElem?_cons_zero, List.getElem?_cons_succ, Nat.reduceAdd, Nat.zero_add, Nat.add_zero, Nat.reduceLeDiff, Nat.reduceSub, ↓reduceIte, List.drop_succ_cons, List.drop_zero, List.take_succ_cons, List.take_zero, Bool.false_eq_true, List.nil_append, List.cons_append, Bool.not_true, Bool.not_false, cond_true, cond_false, bne, lv_ret, lv_normal, res1, res2, lv2_some, res_var, res_cell, lvf_v, lvf_slc, res1c, lvo1_some, e_mm, mm_max, mm_min]
        rw [leave_own rfl hb, hres, own_res1 (x := .agg [.v (.int .i64 k), .v (.string s), .v (.int .i64 n'), .v (.slice none 0 0)]) _]
        · exact lvo_one rfl
        · simp only [res_cell, h_ld, ldAt, e_bslice1, e_bslice2, bs1, bs2, e_build, bdH_some, bd_nil, bd_cons, bd1, cl_agg, cl_int, toL, List.map_cons, List.map_nil, putAt, List.set_cons_zero, List.set_cons_succ, and_self, Nat.le_refl, app_get, app_set, g_agg, run_nil, run_cons, stp_plain, stp_guard, put_some, pass_eq, pick_tt, pick_ff, pick_tf, pick_ft, pick_u, reg_some, thn_normal, thn_exit, thn_ret, cnd_t, cnd_f, blk_normal, blk_ret, blk_exit, x_seq, x_region, x_cond, x_block, x_loop, x_ret, x_exit, x_skip, e_mov, e_pick, pk_t, pk_f, withH_some, e_box, e_load, e_store, stH_some, e_nil, e_bin, e_eqv, eqH_f, eqH_t, e_un, e_fa, e_ia, ia_eq, nat_eq, natV_nat, e_len, lnH_some, e_extract, ex_0, ex_1, e_call0, e_call1, e_call2, e_call3, pc0_eq, pc1_some, pc2_some, pc3_some, fin_some, g_var0, g_vars, g_loc0, g_locs, g_int, g_bool, g_str, g_sl, s_none, s_zero, s_succ, cl_nil, cl_str, cl_bool, cl_slc, cl_own, evFa, evNil, asEl, evBin, intBin, strBin, evUn, len_nil, len_slc, len_str, clr, List.length_nil, List.length_cons, List.getElem?_cons_zero, List.getElem?_cons_succ, Nat.reduceAdd, Nat.zero_add, Nat.add_zero, Nat.reduceLeDiff, Nat.reduceSub, ↓reduceIte, List.drop_succ_cons, List.drop_zero, List.take_succ_cons, List.take_zero, Bool.false_eq_true, List.nil_append, List.cons_append, Bool.not_true, Bool.not_false, cond_true, cond_false, bne, lv_ret, lv_normal, res1, res2, lv2_some, res_var, res_cell, lvf_v, lvf_slc, res1c, lvo1_some, e_mm, mm_max, mm_min]
      · have h1 : ((es.length : Int) == 0) = false := by rw [beq_eq_false_iff_ne]; omega
        obtain ⟨ds', tail', x5, x6, x7, x8, x12, g1, g2, g3⟩ := eachc_loop (H := H) (K := l.length + 1) (cs0 := [.v (.int .i64 k), .v (.string s), .v (.int .i64 n'), c]) (cs1 := zeroC) hs (by omega) hb (by
            have : ∀ n', IsT (.agg [.v (.int .i64 k), .v (.string s), .v (.int .i64 n'), c]) (.mk k s n' l) := fun n' => .mk k s n' c l hc
            exact (this n').bel) rfl l 0 [] [] [] (L49c H.length es.length c (0 : Nat)) (by omega) rfl (by simpa using hes) .nil rfl hcall rfl
        have hrow : (List.replicate es.length (AV.agg zeroC)) = [] ++ List.replicate l.length (AV.agg zeroC) := by rw [e1]; rfl
        have mk := mkS_own (sz := 4) (H := H) (l := [.box [.v (.int .i64 k), .v (.string s), .v (.int .i64 n'), c], .box zeroC]) (B := H.length) rfl (bytes := 56) (zero := [(.int .i64 0), (.string ⟨#[]⟩), (.int .i64 0), (.slice none 0 0)]) (n := es.length) (by have : maxLen = 9223372036854775807 := rfl; omega) (by omega)
        rw [zeroEl4, hrow] at mk
        generalize hR : ([] ++ List.replicate l.length (AV.agg zeroC)) = R at mk g1
        have hz2 : ∀ c' : AV, (AV.own 4 (H.length + 2) 0 0 es.length).cl = some [.own 4 (H.length + 2) 0 0 es.length] := fun _ => rfl
        have hds : ∀ h0 : List AO, (H ++ (.box [.v (.int .i64 k), .v (.string s), .v (.int .i64 n'), .own 4 (H.length + 2) 0 0 es.length] :: .box [.v (.int .i64 k), .v (.string s), .v (.int .i64 n'), .own 4 (H.length + 2) 0 0 es.length] :: .row 4 0 ds' 0 :: tail'))[H.length + 2]? = some (.row 4 0 ds' 0) := fun _ => obj_get rfl
        refine ⟨.agg [.v (.int .i64 k), .v (.string s), .v (.int .i64 n'), .slc 4 false false ds'], .mk _ _ _ _ _ (.slc _ _ _ _ (by simpa using g2) (by omega)), ?_⟩
        generalize hrest : (CC.seq (.region [] [] c56_13) (.seq (.region [] [] c56_14) .ret)) = rest
        simp only [zeroC] at mk g1
        simp only [zeroC, c56_3, c56_6, c56_7, h1, hs.len, mk, e_mkslice, h_ld, h_ld0, h_st, h_st0, h_bx, ldAt, stAt, preH_some, List.append_assoc, e_bslice1, e_bslice2, bs1, bs2, e_build, bdH_some, bd_nil, bd_cons, bd1, cl_agg, cl_int, toL, List.map_cons, List.map_nil, putAt, List.set_cons_zero, List.set_cons_succ, and_self, Nat.le_refl, app_get, app_set, g_agg, run_nil, run_cons, stp_plain, stp_guard, put_some, pass_eq, pick_tt, pick_ff, pick_tf, pick_ft, pick_u, reg_some, thn_normal, thn_exit, thn_ret, cnd_t, cnd_f, blk_normal, blk_ret, blk_exit, x_seq, x_region, x_cond, x_block, x_loop, x_ret, x_exit, x_skip, e_mov, e_pick, pk_t, pk_f, withH_some, e_box, e_load, e_store, stH_some, e_nil, e_bin, e_eqv, eqH_f, eqH_t, e_un, e_fa, e_ia, ia_eq, nat_eq, natV_nat, e_len, lnH_some, e_extract, ex_0, ex_1, e_call0, e_call1, e_call2, e_call3, pc0_eq, pc1_some, pc2_some, pc3_some, fin_some, g_var0, g_vars, g_loc0, g_locs, g_int, g_bool, g_str, g_sl, s_none, s_zero, s_succ, cl_nil, cl_str, cl_bool, cl_slc, cl_own, evFa, evNil, asEl, evBin, intBin, strBin, evUn, len_nil, len_slc, len_str, clr, List.length_nil, List.length_cons, List.getElem?_cons_zero, List.getElem?_cons_succ, Nat.reduceAdd, Nat.zero_add, Nat.add_zero, Nat.reduceLeDiff, Nat.reduceSub, ↓reduceIte, List.drop_succ_cons, List.drop_zero, List.take_succ_cons, List.take_zero, Bool.false_eq_true, List.nil_append, List.cons_append, Bool.not_true, Bool.not_false, cond_true, cond_false, bne, lv_ret, lv_normal, res1, res2, lv2_some, res_var, res_cell, lvf_v, lvf_slc, res1c, lvo1_some, e_mm, mm_max, mm_min]
        rw [loop_cong (v2 := L49c H.length es.length c ((0 : Nat) : Int)) (by rfl), g1, ← hrest]
        simp only [c56_13, c56_14, hz2 .junk, h_ld, h_ld0, h_st, h_st0, h_bx, ldAt, stAt, preH_some, List.append_assoc, e_bslice1, e_bslice2, bs1, bs2, e_build, bdH_some, bd_nil, bd_cons, bd1, cl_agg, cl_int, toL, List.map_cons, List.map_nil, putAt, List.set_cons_zero, List.set_cons_succ, and_self, Nat.le_refl, app_get, app_set, g_agg, run_nil, run_cons, stp_plain, stp_guard, put_some, pass_eq, pick_tt, pick_ff, pick_tf, pick_ft, pick_u, reg_some, thn_normal, thn_exit, thn_ret, cnd_t, cnd_f, blk_normal, blk_ret, blk_exit, x_seq, x_region, x_cond, x_block, x_loop, x_ret, x_exit, x_skip, e_mov, e_pick, pk_t, pk_f, withH_some, e_box, e_load, e_store, stH_some, e_nil, e_bin, e_eqv, eqH_f, eqH_t, e_un, e_fa, e_ia, ia_eq, nat_eq, natV_nat, e_len, lnH_some, e_extract, ex_0, ex_1, e_call0, e_call1, e_call2, e_call3, pc0_eq, pc1_some, pc2_some, pc3_some, fin_some, g_var0, g_vars, g_loc0, g_locs, g_int, g_bool, g_str, g_sl, s_none, s_zero, s_succ, cl_nil, cl_str, cl_bool, cl_slc, cl_own, evFa, evNil, asEl, evBin, intBin, strBin, evUn, len_nil, len_slc, len_str, clr, List.length_nil, List.length_cons, List.getElem?_cons_zero, List.getElem?_cons_succ, Nat.reduceAdd, Nat.zero_add, Nat.add_zero, Nat.reduceLeDiff, Nat.reduceSub, ↓reduceIte, List.drop_succ_cons, List.drop_zero, List.take_succ_cons, List.take_zero, Bool.false_eq_true, List.nil_append, List.cons_append, Bool.not_true, Bool.not_false, cond_true, cond_false, bne, lv_ret, lv_normal, res1, res2, lv2_some, res_var, res_cell, lvf_v, lvf_slc, res1c, lvo1_some, e_mm, mm_max, mm_min]
        rw [leave_own rfl hb, hres, own_res1 (x := .agg [.v (.int .i64 k), .v (.string s), .v (.int .i64 n'), .own 4 (H.length + 2) 0 0 es.length]) _]
        · refine lvo_one ?_
          have hn : ¬ (H.length + 2 < H.length) := by omega
          simp [AV.frz2, AV.frz1, AV.frz0, hn, rowAt, hds [], g3]
          rw [← g3]; simp
        · simp only [res_cell, h_ld, ldAt, e_bslice1, e_bslice2, bs1, bs2, e_build, bdH_some, bd_nil, bd_cons, bd1, cl_agg, cl_int, toL, List.map_cons, List.map_nil, putAt, List.set_cons_zero, List.set_cons_succ, and_self, Nat.le_refl, app_get, app_set, g_agg, run_nil, run_cons, stp_plain, stp_guard, put_some, pass_eq, pick_tt, pick_ff, pick_tf, pick_ft, pick_u, reg_some, thn_normal, thn_exit, thn_ret, cnd_t, cnd_f, blk_normal, blk_ret, blk_exit, x_seq, x_region, x_cond, x_block, x_loop, x_ret, x_exit, x_skip, e_mov, e_pick, pk_t, pk_f, withH_some, e_box, e_load, e_store, stH_some, e_nil, e_bin, e_eqv, eqH_f, eqH_t, e_un, e_fa, e_ia, ia_eq, nat_eq, natV_nat, e_len, lnH_some, e_extract, ex_0, ex_1, e_call0, e_call1, e_call2, e_call3, pc0_eq, pc1_some, pc2_some, pc3_some, fin_some, g_var0, g_vars, g_loc0, g_locs, g_int, g_bool, g_str, g_sl, s_none, s_zero, s_succ, cl_nil, cl_str, cl_bool, cl_slc, cl_own, evFa, evNil, asEl, evBin, intBin, strBin, evUn, len_nil, len_slc, len_str, clr, List.length_nil, List.length_cons, List.getElem?_cons_zero, List.getElem?_cons_succ, Nat.reduceAdd, Nat.zero_add, Nat.add_zero, Nat.reduceLeDiff, Nat.reduceSub, ↓reduceIte, List.drop_succ_cons, List.drop_zero, List.take_succ_cons, List.take_zero, Bool.false_eq_true, List.nil_append, List.cons_append, Bool.not_true, Bool.not_false, cond_true, cond_false, bne, lv_ret, lv_normal, res1, res2, lv2_some, res_var, res_cell, lvf_v, lvf_slc, res1c, lvo1_some, e_mm, mm_max, mm_min]
    have hstart : ∀ (r : AV) , leave H.length c56 (exec (callW F) (l.length + 1) (.seq (.region [] [] c56_0) (.seq (.seq (.region [] [] c56_1) (.cond (.var 7) (.region [] [] c56_2) .skip)) (.seq (.seq (.region [] [] c56_3) (.cond (.var 8) (.seq (.region [] [] c56_4) (.seq (.region [] [] c56_5) .ret)) .skip)) (.seq (.region [] [] c56_6) (.seq (.seq (.region [] [] c56_7) (.block 0 (.loop K49 [] c56_12))) (.seq (.region [] [] c56_13) (.seq (.region [] [] c56_14) .ret))))))) (start c56 [.agg [.v (.int .i64 k), .v (.string s), .v (.int .i64 n), c], fnC]) (H ++ [])) = some (r, H) → callW F 56 [.agg [.v (.int .i64 k), .v (.string s), .v (.int .i64 n), c], fnC] H = some (r, H) :=
      fun r hr => callW_own (c := c56) rfl rfl (l.length + 1) hr
    by_cases hk : k = 1
    · have h1 : (k == 1) = true := by simpa using hk
      obtain ⟨r, hr, hlv⟩ := rest (n) (.agg [.v (.int .i64 k), .v (.string s), .v (.int .i64 n), c]) true
      refine ⟨r, hr, hstart r ?_⟩
      rw [← hlv]
      generalize (CC.seq (.seq (.region [] [] c56_3) (.cond (.var 8) (.seq (.region [] [] c56_4) (.seq (.region [] [] c56_5) .ret)) .skip)) (.seq (.region [] [] c56_6) (.seq (.seq (.region [] [] c56_7) (.block 0 (.loop K49 [] c56_12))) (.seq (.region [] [] c56_13) (.seq (.region [] [] c56_14) .ret))))) = rest'
      have hb2 : (H ++ [.box [.v (.int .i64 k), .v (.string s), .v (.int .i64 n), c], .box zeroC] : List AO).all (AO.below (H ++ [.box [.v (.int .i64 k), .v (.string s), .v (.int .i64 n), c], .box zeroC] : List AO).length) = true := by
        rw [List.all_append, Bool.and_eq_true]
        refine ⟨all_below_mono (by simp) hb, all_below_mono (Nat.zero_le _) ?_⟩
        have hz : (AO.box zeroC).below 0 = true := rfl
        simp only [AV.cells] at hbela
        simp only [List.all_cons, List.all_nil, hbela, hz, Bool.and_true]
      have ht := turnc_ok hb2 n
      simp only [zeroC] at ht
      simp only [start49, fnC, zeroC, c56_0, c56_1, c56_2, h1, ht, q9z, e_callv, cv_fn, h_ld, h_ld0, h_st, h_st0, h_bx, ldAt, stAt, preH_some, List.append_assoc, e_bslice1, e_bslice2, bs1, bs2, e_build, bdH_some, bd_nil, bd_cons, bd1, cl_agg, cl_int, toL, List.map_cons, List.map_nil, putAt, List.set_cons_zero, List.set_cons_succ, and_self, Nat.le_refl, app_get, app_set, g_agg, run_nil, run_cons, stp_plain, stp_guard, put_some, pass_eq, pick_tt, pick_ff, pick_tf, pick_ft, pick_u, reg_some, thn_normal, thn_exit, thn_ret, cnd_t, cnd_f, blk_normal, blk_ret, blk_exit, x_seq, x_region, x_cond, x_block, x_loop, x_ret, x_exit, x_skip, e_mov, e_pick, pk_t, pk_f, withH_some, e_box, e_load, e_store, stH_some, e_nil, e_bin, e_eqv, eqH_f, eqH_t, e_un, e_fa, e_ia, ia_eq, nat_eq, natV_nat, e_len, lnH_some, e_extract, ex_0, ex_1, e_call0, e_call1, e_call2, e_call3, pc0_eq, pc1_some, pc2_some, pc3_some, fin_some, g_var0, g_vars, g_loc0, g_locs, g_int, g_bool, g_str, g_sl, s_none, s_zero, s_succ, cl_nil, cl_str, cl_bool, cl_slc, cl_own, evFa, evNil, asEl, evBin, intBin, strBin, evUn, len_nil, len_slc, len_str, clr, List.length_nil, List.length_cons, List.getElem?_cons_zero, List.getElem?_cons_succ, Nat.reduceAdd, Nat.zero_add, Nat.add_zero, Nat.reduceLeDiff, Nat.reduceSub, ↓reduceIte, List.drop_succ_cons, List.drop_zero, List.take_succ_cons, List.take_zero, Bool.false_eq_true, List.nil_append, List.cons_append, Bool.not_true, Bool.not_false, cond_true, cond_false, bne, lv_ret, lv_normal, res1, res2, lv2_some, res_var, res_cell, lvf_v, lvf_slc, res1c, lvo1_some, e_mm, mm_max, mm_min]
    · have h1 : (k == 1) = false := by simpa using hk
      obtain ⟨r, hr, hlv⟩ := rest n (.agg [.v (.int .i64 k), .v (.string s), .v (.int .i64 n), c]) false
      refine ⟨r, hr, hstart r ?_⟩
      rw [← hlv]
      generalize (CC.seq (.seq (.region [] [] c56_3) (.cond (.var 8) (.seq (.region [] [] c56_4) (.seq (.region [] [] c56_5) .ret)) .skip)) (.seq (.region [] [] c56_6) (.seq (.seq (.region [] [] c56_7) (.block 0 (.loop K49 [] c56_12))) (.seq (.region [] [] c56_13) (.seq (.region [] [] c56_14) .ret))))) = rest'
      simp only [start49, fnC, zeroC, c56_0, c56_1, h1, q9z, h_ld, h_ld0, h_st, h_st0, h_bx, ldAt, stAt, preH_some, List.append_assoc, e_bslice1, e_bslice2, bs1, bs2, e_build, bdH_some, bd_nil, bd_cons, bd1, cl_agg, cl_int, toL, List.map_cons, List.map_nil, putAt, List.set_cons_zero, List.set_cons_succ, and_self, Nat.le_refl, app_get, app_set, g_agg, run_nil, run_cons, stp_plain, stp_guard, put_some, pass_eq, pick_tt, pick_ff, pick_tf, pick_ft, pick_u, reg_some, thn_normal, thn_exit, thn_ret, cnd_t, cnd_f, blk_normal, blk_ret, blk_exit, x_seq, x_region, x_cond, x_block, x_loop, x_ret, x_exit, x_skip, e_mov, e_pick, pk_t, pk_f, withH_some, e_box, e_load, e_store, stH_some, e_nil, e_bin, e_eqv, eqH_f, eqH_t, e_un, e_fa, e_ia, ia_eq, nat_eq, natV_nat, e_len, lnH_some, e_extract, ex_0, ex_1, e_call0, e_call1, e_call2, e_call3, pc0_eq, pc1_some, pc2_some, pc3_some, fin_some, g_var0, g_vars, g_loc0, g_locs, g_int, g_bool, g_str, g_sl, s_none, s_zero, s_succ, cl_nil, cl_str, cl_bool, cl_slc, cl_own, evFa, evNil, asEl, evBin, intBin, strBin, evUn, len_nil, len_slc, len_str, clr, List.length_nil, List.length_cons, List.getElem?_cons_zero, List.getElem?_cons_succ, Nat.reduceAdd, Nat.zero_add, Nat.add_zero, Nat.reduceLeDiff, Nat.reduceSub, ↓reduceIte, List.drop_succ_cons, List.drop_zero, List.take_succ_cons, List.take_zero, Bool.false_eq_true, List.nil_append, List.cons_append, Bool.not_true, Bool.not_false, cond_true, cond_false, bne, lv_ret, lv_normal, res1, res2, lv2_some, res_var, res_cell, lvf_v, lvf_slc, res1c, lvo1_some, e_mm, mm_max, mm_min]


theorem copy_ok {t : Tm} {a : AV} (hsz : size t ≤ 100000) (ha : IsT a t) : ∃ r, IsT r t ∧ callW F 42 [a] [] = some (r, []) := by
  have hb : ([.box a.cells, .box zeroC] : List AO).all (AO.below 2) = true := by
    have := below_mono (Nat.zero_le 2) _ ha.bel
    simp only [List.all_cons, List.all_nil, this, Bool.and_true]; rfl
  obtain ⟨r, hr, hc⟩ := eachc _ t a [.box a.cells, .box zeroC] (Nat.lt_succ_self _) hsz ha hb
  refine ⟨r, hr, callW_pure (c := c42) rfl rfl 0 ?_⟩
  have g := lv1 hr
  have ha2 := ha
  cases ha
  cases hr
  simp only [AV.cells, zeroC, fnC] at hc
  have gf : ∀ vars env : List AV, getO vars env (.fn 57) = .fn (.func 57) [] [] := fun _ _ => rfl
  simp only [c42, start, List.replicate, c42_0, c42_1, gf, hc, g, e_mkfn, e_callh, q9z, e_bslice1, e_bslice2, bs1, bs2, e_build, bdH_some, bd_nil, bd_cons, bd1, cl_agg, cl_int, toL, List.map_cons, List.map_nil, putAt, List.set_cons_zero, List.set_cons_succ, and_self, Nat.le_refl, evStore, app_get, app_set, g_agg, run_nil, run_cons, stp_plain, stp_guard, put_some, pass_eq, pick_tt, pick_ff, pick_tf, pick_ft, pick_u, reg_some, thn_normal, thn_exit, thn_ret, cnd_t, cnd_f, blk_normal, blk_ret, blk_exit, x_seq, x_region, x_cond, x_block, x_loop, x_ret, x_exit, x_skip, e_mov, e_pick, pk_t, pk_f, withH_some, e_box, bx_some, e_load, e_store, stH_some, e_nil, e_bin, e_eqv, eqH_f, eqH_t, e_un, e_fa, e_ia, ia_eq, nat_eq, natV_nat, e_len, lnH_some, e_extract, ex_0, ex_1, e_call0, e_call1, e_call2, e_call3, pc0_eq, pc1_some, pc2_some, pc3_some, fin_some, g_var0, g_vars, g_loc0, g_locs, g_int, g_bool, g_str, g_sl, s_none, s_zero, s_succ, cl_nil, cl_str, cl_bool, cl_slc, cl_own, evFa, evNil, evLoad, asEl, evBin, intBin, strBin, evUn, len_nil, len_slc, len_str, clr, List.length_nil, List.length_cons, List.getElem?_cons_zero, List.getElem?_cons_succ, Nat.reduceAdd, Nat.zero_add, Nat.add_zero, Nat.reduceLeDiff, Nat.reduceSub, ↓reduceIte, List.drop_succ_cons, List.drop_zero, List.take_succ_cons, List.take_zero, Bool.false_eq_true, List.nil_append, List.cons_append, Bool.not_true, Bool.not_false, cond_true, cond_false, bne, lv_ret, lv_normal, res1, res2, lv2_some, res_var, res_cell, lvf_v, lvf_slc, res1c, lvo1_some, e_mm, mm_max, mm_min]
end
end Go.AE.YtpgoibncgekflaaDoor
end

/-! The walker of Unify and Compare: its objects. -/
section
set_option linter.unusedVariables false
set_option linter.unusedSimpArgs false
namespace Go.AE.YtpgoibncgekflaaDoor
open Go Go.AE Go.Proofs.YtpgoibncgekflaaDoor

/-- two terms, the row of what is to be done, the walker, whatever else -/
def wh (X Y : List AV) (ver : Nat) (L : List AV) (B : AV) (m : Int) (n : Nat) (tl : List AO) : List AO := .box X :: .box Y :: .row 8 ver L 0 :: .box [B, .v (.int .i64 m), .own 8 2 ver 0 n] :: tl
def wb (tl : List AO) : Nat := tl.length + 4
section
variable {X Y : List AV} {ver : Nat} {L : List AV} {B : AV} {m m' : Int} {n : Nat} {tl l : List AO}
theorem wh_len : (wh X Y ver L B m n tl).length = wb tl := rfl
theorem wh_app : wh X Y ver L B m n tl ++ l = wh X Y ver L B m n (tl ++ l) := rfl
theorem w_bx {cs : List AV} : bx (wh X Y ver L B m n tl ++ l) (some cs) = some (.ptr (wb tl + l.length) 0, wh X Y ver L B m n tl ++ (l ++ [.box cs])) := own_bx wh_len
theorem w_ld {a : Bool} {sz k o : Nat} : evLoad (wh X Y ver L B m n tl ++ l) a sz (.ptr (wb tl + k) o) = ldAt l k a sz o := own_ld wh_len
theorem w_ld0 {a : Bool} {sz o : Nat} : evLoad (wh X Y ver L B m n tl ++ l) a sz (.ptr (wb tl) o) = ldAt l 0 a sz o := own_ld0 wh_len
theorem w_st {sz k o : Nat} {x : AV} : evStore (wh X Y ver L B m n tl ++ l) sz (.ptr (wb tl + k) o) x = preH (wh X Y ver L B m n tl) (stAt l sz k o x) := own_st wh_len
theorem w_st0 {sz o : Nat} {x : AV} : evStore (wh X Y ver L B m n tl ++ l) sz (.ptr (wb tl) o) x = preH (wh X Y ver L B m n tl) (stAt l sz 0 o x) := own_st0 wh_len
theorem w_b : evLoad (wh X Y ver L B m n tl ++ l) false 1 (.ptr 3 0) = some B := rfl
theorem w_todo : evLoad (wh X Y ver L B m n tl ++ l) false 1 (.ptr 3 2) = some (.own 8 2 ver 0 n) := rfl
theorem w_fa0 {o : Nat} : evFa (wh X Y ver L B m n tl ++ l) o (.ptr 3 0) = some (.ptr 3 (0 + o)) := rfl
theorem w_cut {n' : Nat} : evStore (wh X Y ver L B m n tl ++ l) 1 (.ptr 3 2) (.own 8 2 ver 0 n') = some (wh X Y ver L B m n' tl ++ l) := rfl
theorem w_row (hn : n ≤ L.length) : rowAt (wh X Y ver L B m n tl ++ l) 8 2 ver n = some (L, 0) := by
  have : (wh X Y ver L B m n tl ++ l)[2]? = some (.row 8 ver L 0) := rfl
  simp [rowAt, this, hn]
theorem w_len (hn : n ≤ L.length) : evLen (wh X Y ver L B m n tl ++ l) .slice (.own 8 2 ver 0 n) = some n := by
  simp [evLen, w_row hn]
theorem w_ia {i : Nat} (hn : n ≤ L.length) (hi : i < n) : iaV (wh X Y ver L B m n tl ++ l) 8 (.own 8 2 ver 0 n) (some i) = some (.ep 8 2 ver i 0) := by
  simp [iaV, w_row hn, hi]
theorem w_el {i : Nat} {cs : List AV} (hn : L[i]? = some (.agg cs)) (hc : cs.length = 8) : evLoad (wh X Y ver L B m n tl ++ l) true 8 (.ep 8 2 ver i 0) = some (.agg cs) := by
  have h1 : (wh X Y ver L B m n tl ++ l)[2]? = some (.row 8 ver L 0) := rfl
  have h2 : i + 1 ≤ L.length := (List.getElem?_eq_some_iff.1 hn).1
  have h3 : cs.take 8 = cs := List.take_of_length_le (by omega)
  simp [evLoad, rowAt, h1, h2, hn, AV.cells, asEl, hc, h3]
theorem e_slice {vars env : List AV} {h : List AO} {call : CallF} {sz : Nat} {x : Opd} {lo hi mx : Option Opd} : evOp call vars env h (.slice sz x lo hi mx) = withH h (evSlice vars env h sz (getO vars env x) lo hi mx) := map_withH
def cutO (ver N : Nat) : Option Nat → Option AV
  | some k => if k ≤ N then some (.own 8 2 ver 0 k) else none
  | none => none
theorem cut_pred {ver N : Nat} : cutO ver (N + 1) (some N) = some (.own 8 2 ver 0 N) := by simp [cutO]
theorem w_sl {vars env : List AV} {y : Opd} {N : Nat} (hn : N ≤ L.length) : evSlice vars env (wh X Y ver L B m N tl ++ l) 8 (.own 8 2 ver 0 N) none (some y) none = cutO ver N (natO vars env y) := by
  simp only [evSlice, Nat.zero_add, w_row hn, bounds, optN, if_true]
  cases natO vars env y with
  | none => rfl
  | some k =>
    simp only [cutO, Option.bind_eq_bind, Option.bind_some, Nat.zero_le, true_and]
    by_cases hk : k ≤ N
    · simp [hk]
    · simp [hk]
theorem w_all {K : Nat} (hX : (AO.box X).below 0 = true) (hY : (AO.box Y).below 0 = true) (hB : B.below0 K = true) (h2 : 2 < K) (ht : tl.all (AO.below 0) = true) : (wh X Y ver L B m n tl).all (AO.below K) = true := by
  have h1 := below_mono (Nat.zero_le K) _ hX
  have h3 := below_mono (Nat.zero_le K) _ hY
  have h4 := all_below_mono (Nat.zero_le K) ht
  have hr : (AO.row 8 ver L 0).below K = true := rfl
  have hb : (AO.box [B, .v (.int .i64 m), .own 8 2 ver 0 n]).below K = true := by
    have : B.below1 K = true := by cases B <;> first | exact hB | (simp [AV.below0] at hB) | skip
                                   rename_i f a b
                                   cases a <;> cases b <;> simp [AV.below0] at hB
                                   rfl
    have h5 : (AV.v (.int .i64 m)).below1 K = true := rfl
    have h6 : (AV.own 8 2 ver 0 n).below1 K = true := by simp [AV.below1, AV.below0, h2]
    simp only [AO.below, List.all_cons, List.all_nil, this, h5, h6, Bool.and_self]
  simp only [wh, List.all_cons, h1, h3, hr, hb, h4, Bool.and_self]
theorem w_ctr (hX : (AO.box X).below 0 = true) (hY : (AO.box Y).below 0 = true) (hB : B.below0 (wb tl) = true) (ht : tl.all (AO.below 0) = true) (hl : l.all (AO.below 0) = true) : Ctr (wh X Y ver L B 0 n tl ++ l) 3 1 [B, .v (.int .i64 0), .own 8 2 ver 0 n] := by
  have hlen : (wh X Y ver L B 0 n tl ++ l).length = wb tl + l.length := by rw [List.length_append, wh_len]
  have h2 : 2 < wb tl + l.length := by unfold wb; omega
  have hB' : B.below0 (wb tl + l.length) = true := below0_mono (Nat.le_add_right _ _) _ hB
  have hB1 : B.below1 (wb tl + l.length) = true := by
    cases B <;> first | exact hB' | (simp [AV.below0] at hB') | skip
    rename_i f a b
    cases a <;> cases b <;> simp [AV.below0] at hB'
    rfl
  refine ⟨by rw [hlen]; unfold wb; omega, by simp, ?_, ?_⟩
  · rw [hlen, List.all_append, Bool.and_eq_true]
    exact ⟨w_all hX hY hB' h2 ht, all_below_mono (Nat.zero_le _) hl⟩
  · rw [hlen]
    have h5 : (AV.v (.int .i64 0)).below1 (wb tl + l.length) = true := rfl
    have h6 : (AV.own 8 2 ver 0 n).below1 (wb tl + l.length) = true := by simp [AV.below1, AV.below0, h2]
    simp only [List.all_cons, List.all_nil, hB1, h5, h6, Bool.and_self]
theorem w_ctr_eq {m : Int} : ctr (wh X Y ver L B 0 n tl ++ l) 3 1 [B, .v (.int .i64 0), .own 8 2 ver 0 n] m = wh X Y ver L B m n tl ++ l := rfl
end
end Go.AE.YtpgoibncgekflaaDoor
end

/-! The walker's next pair. -/
section
set_option linter.unusedVariables false
set_option linter.unusedSimpArgs false
namespace Go.AE.YtpgoibncgekflaaDoor
open Go Go.AE Go.Proofs.YtpgoibncgekflaaDoor

/-- two terms met, the second where the first one could be -/
def nextT (rs : List (Int × Tm)) (m : Nat) (x y : Tm) : Tm × Tm × Int × Nat :=
  if (meetT rs m x).2.1 = 0 then ((meetT rs m x).1, (meetT rs (meetT rs m x).2.2 y).1, (meetT rs (meetT rs m x).2.2 y).2.1, (meetT rs (meetT rs m x).2.2 y).2.2)
  else ((meetT rs m x).1, zeroT, (meetT rs m x).2.1, (meetT rs m x).2.2)
/-- two terms as one element -/
inductive PairOk : AV → Tm × Tm → Prop
  | mk (a b c d a' b' c' d' : AV) (x y : Tm) (hx : IsT (.agg [a, b, c, d]) x) (hy : IsT (.agg [a', b', c', d']) y) : PairOk (.agg [a, b, c, d, a', b', c', d']) (x, y)
def apR (b : Bool) (r : CRun) : CRun := if b = true then r else none
theorem apR_t {r : CRun} : apR true r = r := rfl
theorem x_region_ap {call : CallF} {fuel : Nat} {p : Option Nat × Nat} {ops : List CO} {vars : List AV} {h : List AO} : exec call fuel (.region [] [p] ops) vars h = apR (apB vars p) (reg (run call ops (some ⟨vars, [], h⟩))) := by
  simp only [exec, List.all_cons, List.all_nil, Bool.and_true, apR, List.foldl_nil, ops_run]
  cases run call ops (some ⟨vars, [], h⟩) <;> rfl
theorem ex_2 {h : List AO} {u v w : AV} {vs : List AV} : exH h 2 (.tup (u :: v :: w :: vs)) = some (w, h) := rfl
theorem lvo_three {H l : List AO} {B : Nat} {x y z r s t : AV} (h : x.frz1 B (H ++ l) = some r) (h' : y.frz1 B (H ++ l) = some s) (h'' : z.frz1 B (H ++ l) = some t) : lvo B H l (some [x, y, z]) = some (.tup [r, s, t], H) := by
  simp [lvo, pack, AV.frz2, h, h', h'']
theorem own_res3 {H l : List AO} {vars : List AV} {a b c : CRes} {x y z : AV} (h : resOf vars (H ++ l) a = some x) (h' : resOf vars (H ++ l) b = some y) (h'' : resOf vars (H ++ l) c = some z) : [a, b, c].mapM (resOf vars (H ++ l)) = some [x, y, z] := by
  simp [h, h', h'']
theorem q9p : (ofVal (.agg #[(.int .i64 0), (.string ⟨#[]⟩), (.int .i64 0), (.slice none 0 0), (.int .i64 0), (.string ⟨#[]⟩), (.int .i64 0), (.slice none 0 0)])).cl = some [.v (.int .i64 0), .v (.string ⟨#[]⟩), .v (.int .i64 0), .v (.slice none 0 0), .v (.int .i64 0), .v (.string ⟨#[]⟩), .v (.int .i64 0), .v (.slice none 0 0)] := by simp [ofVal, AV.cl, Value.oneCell']

section
variable {X Y : List AV} {ver : Nat} {L : List AV} {B : AV} {n : Nat} {tl : List AO}
theorem next_ok (hX : (AO.box X).below 0 = true) (hY : (AO.box Y).below 0 = true) (hB : B.below0 (wb tl) = true) (ht : tl.all (AO.below 0) = true)
    {es : List AV} {rs : List (Int × Tm)} (hes : AllB es rs) {B' : AV} (hbs : ∀ (m : Int) (n : Nat) (l : List AO), B.snap1 (wh X Y ver L B m n tl ++ l) = some B') (hlook : ∀ n, callW F 59 [B', .v (.int .i64 n)] [] = some (lookA n es, []))
    {p : AV} {x y : Tm} (hp : PairOk p (x, y)) (hL : L[n]? = some p) {m : Nat} (hm : m ≤ 5000) (hn : n ≤ 1000000000) :
    ∃ rx ry, IsT rx (nextT rs m x y).1 ∧ IsT ry (nextT rs m x y).2.1 ∧ callW F 37 [.ptr 3 0] (wh X Y ver L B m (n + 1) tl) = some (.tup [rx, ry, .v (.int .i64 (nextT rs m x y).2.2.1)], wh X Y ver L B (nextT rs m x y).2.2.2 n tl) := by
  cases hp with
  | mk a b c d a' b' c' d' x y hx hy =>
  have hnl : n + 1 ≤ L.length := (List.getElem?_eq_some_iff.1 hL).1
  have hl3 : ([.box zeroC, .box zeroC, .box [a, b, c, d, a', b', c', d']] : List AO).all (AO.below 0) = true := by
    have h1 := hx.bel
    have h2 := hy.bel
    have hz : (AO.box zeroC).below 0 = true := rfl
    have h3 : (AO.box [a, b, c, d, a', b', c', d']).below 0 = true := by
      simp only [AO.below, AV.cells, List.all_cons, List.all_nil, Bool.and_true, Bool.and_eq_true] at h1 h2 ⊢
      exact ⟨h1.1, h1.2.1, h1.2.2.1, h1.2.2.2, h2⟩
    simp only [List.all_cons, List.all_nil, hz, h3, Bool.and_true]
  have C1 := w_ctr (X := X) (Y := Y) (ver := ver) (L := L) (n := n) hX hY hB ht hl3
  obtain ⟨rc, hrc, hc⟩ := meet_ok C1 hes (b := B) (b' := B') (fun m l => by rw [w_ctr_eq, List.append_assoc]; exact hbs m n _) hlook m hm hx
  rw [w_ctr_eq, w_ctr_eq] at hc
  have hw1 : IntKind.i64.wrap (((n + 1 : Nat) : Int) - 1) = (n : Int) := by rw [wrap_ok (by omega) (by omega)]; omega
  have hall : ∀ m : Int, (wh X Y ver L B m n tl).all (AO.below (wb tl)) = true := fun m => w_all hX hY hB (by unfold wb; omega) ht
  have hres : c37.res = [.cell 1 true 4, .cell 2 true 4, .var 3] := rfl
  have hap : ∀ a0 a3 a4 a5 : AV, apB [a0, .ptr (wb tl) 0, .ptr (wb tl + 1) 0, a3, a4, a5] (some 1, 2) = true := by
    intro a0 a3 a4 a5
    simp [apB]
  have q8 : ∀ l, evLoad (wh X Y ver L B m (n + 1) tl ++ l) true 8 (.ep 8 2 ver n 0) = some (.agg [a, b, c, d, a', b', c', d']) := fun l => w_el hL rfl
  have q7 : ∀ l, iaV (wh X Y ver L B m (n + 1) tl ++ l) 8 (.own 8 2 ver 0 (n + 1)) (some n) = some (.ep 8 2 ver n 0) := fun l => w_ia hnl (by omega)
  have q6 : ∀ l, evLen (wh X Y ver L B m (n + 1) tl ++ l) .slice (.own 8 2 ver 0 (n + 1)) = some (n + 1) := fun l => w_len hnl
  simp only [zeroC] at hc
  have hm2 := meetT_le rs m x
  by_cases h0 : (meetT rs m x).2.1 = 0
  · simp only [nextT, if_pos h0]
    have hl3' : ([.box rc, .box zeroC, .box [a, b, c, d, a', b', c', d']] : List AO).all (AO.below 0) = true := by
      have h1 := hrc.bel
      simp only [List.all_cons, Bool.and_eq_true, AV.cells] at hl3 h1 ⊢
      exact ⟨h1, hl3.2⟩
    have C2 := w_ctr (X := X) (Y := Y) (ver := ver) (L := L) (n := n) hX hY hB ht hl3'
    obtain ⟨rd, hrd, hd⟩ := meet_ok C2 hes (b := B) (b' := B') (fun m l => by rw [w_ctr_eq, List.append_assoc]; exact hbs m n _) hlook (meetT rs m x).2.2 (by omega) hy
    rw [w_ctr_eq, w_ctr_eq] at hd
    simp only [zeroC] at hd
    have z0 : ((0 : Int) == 0) = true := rfl
    refine ⟨.agg rc, .agg rd, hrc, hrd, callW_own (c := c37) rfl rfl 0 ?_⟩
    rw [wh_len]
    generalize meetT rs (meetT rs m x).2.2 y = w' at hd hrd ⊢
    generalize meetT rs m x = w at hrc hc hd h0 ⊢
    obtain ⟨w1, w2, w3⟩ := w
    obtain ⟨v1, v2, v3⟩ := w'
    dsimp only at hrc hc hrd hd h0 ⊢
    subst h0
    have body : exec (callW F) 0 c37.body (start c37 [.ptr 3 0]) (wh X Y ver L B m (n + 1) tl ++ []) = some (.ret, [.ptr 3 0, .ptr (wb tl) 0, .ptr (wb tl + 1) 0, .v (.int .i64 v2), .ptr (wb tl + 2) 0, .v (.bool true)], wh X Y ver L B v3 n tl ++ [.box rc, .box rd, .box [a, b, c, d, a', b', c', d']]) := by
      cases hrc
      cases hrd
      simp only [c37, start, zeroC, List.replicate, c37_0, c37_1, c37_2, c37_3, c37_4, c37_5, c37_6, x_region_ap, hap, apR_t, hw1, hc, hd, z0, q6, q7, q8, w_bx, w_ld, w_ld0, w_st, w_st0, w_b, w_todo, w_cut, w_sl hnl, cut_pred, e_slice, ex_2, e_callh, q9z, q9p, AV.cells, evNil, ldAt, stAt, preH_some, List.append_assoc, e_bslice1, e_bslice2, bs1, bs2, e_build, bdH_some, bd_nil, bd_cons, bd1, cl_agg, cl_int, toL, List.map_cons, List.map_nil, putAt, List.set_cons_zero, List.set_cons_succ, and_self, Nat.le_refl, app_get, app_set, g_agg, run_nil, run_cons, stp_plain, stp_guard, put_some, pass_eq, pick_tt, pick_ff, pick_tf, pick_ft, pick_u, reg_some, thn_normal, thn_exit, thn_ret, cnd_t, cnd_f, blk_normal, blk_ret, blk_exit, x_seq, x_region, x_cond, x_block, x_loop, x_ret, x_exit, x_skip, e_mov, e_pick, pk_t, pk_f, withH_some, e_box, e_load, e_store, stH_some, e_nil, e_bin, e_eqv, eqH_f, eqH_t, e_un, e_fa, e_ia, ia_eq, nat_eq, natV_nat, e_len, lnH_some, e_extract, ex_0, ex_1, e_call0, e_call1, e_call2, e_call3, pc0_eq, pc1_some, pc2_some, pc3_some, fin_some, g_var0, g_vars, g_loc0, g_locs, g_int, g_bool, g_str, g_sl, s_none, s_zero, s_succ, cl_nil, cl_str, cl_bool, cl_slc, cl_own, evFa, evNil, asEl, evBin, intBin, strBin, evUn, len_nil, len_slc, len_str, clr, List.length_nil, List.length_cons, List.getElem?_cons_zero, List.getElem?_cons_succ, Nat.reduceAdd, Nat.zero_add, Nat.add_zero, Nat.reduceLeDiff, Nat.reduceSub, ↓reduceIte, List.drop_succ_cons, List.drop_zero, List.take_succ_cons, List.take_zero, Bool.false_eq_true, List.nil_append, List.cons_append, Bool.not_true, Bool.not_false, cond_true, cond_false, bne, lv_ret, lv_normal, res1, res2, lv2_some, res_var, res_cell, lvf_v, lvf_slc, res1c, lvo1_some, e_mm, mm_max, mm_min]
    rw [body, leave_own wh_len (hall _), hres, own_res3 (x := .agg rc) (y := .agg rd) (z := .v (.int .i64 v2)) _ _ _]
    · exact lvo_three (hrc.frz _ _) (hrd.frz _ _) rfl
    · cases hrc; simp only [res_cell, w_ld, w_ld0, ldAt, e_bslice1, e_bslice2, bs1, bs2, e_build, bdH_some, bd_nil, bd_cons, bd1, cl_agg, cl_int, toL, List.map_cons, List.map_nil, putAt, List.set_cons_zero, List.set_cons_succ, and_self, Nat.le_refl, app_get, app_set, g_agg, run_nil, run_cons, stp_plain, stp_guard, put_some, pass_eq, pick_tt, pick_ff, pick_tf, pick_ft, pick_u, reg_some, thn_normal, thn_exit, thn_ret, cnd_t, cnd_f, blk_normal, blk_ret, blk_exit, x_seq, x_region, x_cond, x_block, x_loop, x_ret, x_exit, x_skip, e_mov, e_pick, pk_t, pk_f, withH_some, e_box, e_load, e_store, stH_some, e_nil, e_bin, e_eqv, eqH_f, eqH_t, e_un, e_fa, e_ia, ia_eq, nat_eq, natV_nat, e_len, lnH_some, e_extract, ex_0, ex_1, e_call0, e_call1, e_call2, e_call3, pc0_eq, pc1_some, pc2_some, pc3_some, fin_some, g_var0, g_vars, g_loc0, g_locs, g_int, g_bool, g_str, g_sl, s_none, s_zero, s_succ, cl_nil, cl_str, cl_bool, cl_slc, cl_own, evFa, evNil, asEl, evBin, intBin, strBin, evUn, len_nil, len_slc, len_str, clr, List.length_nil, List.length_cons, List.getElem?_cons_zero, List.getElem?_cons_succ, Nat.reduceAdd, Nat.zero_add, Nat.add_zero, Nat.reduceLeDiff, Nat.reduceSub, ↓reduceIte, List.drop_succ_cons, List.drop_zero, List.take_succ_cons, List.take_zero, Bool.false_eq_true, List.nil_append, List.cons_append, Bool.not_true, Bool.not_false, cond_true, cond_false, bne, lv_ret, lv_normal, res1, res2, lv2_some, res_var, res_cell, lvf_v, lvf_slc, res1c, lvo1_some, e_mm, mm_max, mm_min]
    · cases hrd; simp only [res_cell, w_ld, w_ld0, ldAt, e_bslice1, e_bslice2, bs1, bs2, e_build, bdH_some, bd_nil, bd_cons, bd1, cl_agg, cl_int, toL, List.map_cons, List.map_nil, putAt, List.set_cons_zero, List.set_cons_succ, and_self, Nat.le_refl, app_get, app_set, g_agg, run_nil, run_cons, stp_plain, stp_guard, put_some, pass_eq, pick_tt, pick_ff, pick_tf, pick_ft, pick_u, reg_some, thn_normal, thn_exit, thn_ret, cnd_t, cnd_f, blk_normal, blk_ret, blk_exit, x_seq, x_region, x_cond, x_block, x_loop, x_ret, x_exit, x_skip, e_mov, e_pick, pk_t, pk_f, withH_some, e_box, e_load, e_store, stH_some, e_nil, e_bin, e_eqv, eqH_f, eqH_t, e_un, e_fa, e_ia, ia_eq, nat_eq, natV_nat, e_len, lnH_some, e_extract, ex_0, ex_1, e_call0, e_call1, e_call2, e_call3, pc0_eq, pc1_some, pc2_some, pc3_some, fin_some, g_var0, g_vars, g_loc0, g_locs, g_int, g_bool, g_str, g_sl, s_none, s_zero, s_succ, cl_nil, cl_str, cl_bool, cl_slc, cl_own, evFa, evNil, asEl, evBin, intBin, strBin, evUn, len_nil, len_slc, len_str, clr, List.length_nil, List.length_cons, List.getElem?_cons_zero, List.getElem?_cons_succ, Nat.reduceAdd, Nat.zero_add, Nat.add_zero, Nat.reduceLeDiff, Nat.reduceSub, ↓reduceIte, List.drop_succ_cons, List.drop_zero, List.take_succ_cons, List.take_zero, Bool.false_eq_true, List.nil_append, List.cons_append, Bool.not_true, Bool.not_false, cond_true, cond_false, bne, lv_ret, lv_normal, res1, res2, lv2_some, res_var, res_cell, lvf_v, lvf_slc, res1c, lvo1_some, e_mm, mm_max, mm_min]
    · rfl
  · simp only [nextT, if_neg h0]
    refine ⟨.agg rc, .agg zeroC, hrc, isT_zero, callW_own (c := c37) rfl rfl 0 ?_⟩
    rw [wh_len]
    generalize meetT rs m x = w at hrc hc h0 ⊢
    obtain ⟨w1, w2, w3⟩ := w
    dsimp only at hrc hc h0 ⊢
    have z0 : (w2 == 0) = false := by simpa using h0
    have body : exec (callW F) 0 c37.body (start c37 [.ptr 3 0]) (wh X Y ver L B m (n + 1) tl ++ []) = some (.ret, [.ptr 3 0, .ptr (wb tl) 0, .ptr (wb tl + 1) 0, .v (.int .i64 w2), .ptr (wb tl + 2) 0, .v (.bool false)], wh X Y ver L B w3 n tl ++ [.box rc, .box zeroC, .box [a, b, c, d, a', b', c', d']]) := by
      cases hrc
      simp only [c37, start, zeroC, List.replicate, c37_0, c37_1, c37_2, c37_3, c37_4, c37_6, x_region_ap, hap, apR_t, hw1, hc, z0, q6, q7, q8, w_bx, w_ld, w_ld0, w_st, w_st0, w_b, w_todo, w_cut, w_sl hnl, cut_pred, e_slice, ex_2, e_callh, q9z, q9p, AV.cells, evNil, ldAt, stAt, preH_some, List.append_assoc, e_bslice1, e_bslice2, bs1, bs2, e_build, bdH_some, bd_nil, bd_cons, bd1, cl_agg, cl_int, toL, List.map_cons, List.map_nil, putAt, List.set_cons_zero, List.set_cons_succ, and_self, Nat.le_refl, app_get, app_set, g_agg, run_nil, run_cons, stp_plain, stp_guard, put_some, pass_eq, pick_tt, pick_ff, pick_tf, pick_ft, pick_u, reg_some, thn_normal, thn_exit, thn_ret, cnd_t, cnd_f, blk_normal, blk_ret, blk_exit, x_seq, x_region, x_cond, x_block, x_loop, x_ret, x_exit, x_skip, e_mov, e_pick, pk_t, pk_f, withH_some, e_box, e_load, e_store, stH_some, e_nil, e_bin, e_eqv, eqH_f, eqH_t, e_un, e_fa, e_ia, ia_eq, nat_eq, natV_nat, e_len, lnH_some, e_extract, ex_0, ex_1, e_call0, e_call1, e_call2, e_call3, pc0_eq, pc1_some, pc2_some, pc3_some, fin_some, g_var0, g_vars, g_loc0, g_locs, g_int, g_bool, g_str, g_sl, s_none, s_zero, s_succ, cl_nil, cl_str, cl_bool, cl_slc, cl_own, evFa, evNil, asEl, evBin, intBin, strBin, evUn, len_nil, len_slc, len_str, clr, List.length_nil, List.length_cons, List.getElem?_cons_zero, List.getElem?_cons_succ, Nat.reduceAdd, Nat.zero_add, Nat.add_zero, Nat.reduceLeDiff, Nat.reduceSub, ↓reduceIte, List.drop_succ_cons, List.drop_zero, List.take_succ_cons, List.take_zero, Bool.false_eq_true, List.nil_append, List.cons_append, Bool.not_true, Bool.not_false, cond_true, cond_false, bne, lv_ret, lv_normal, res1, res2, lv2_some, res_var, res_cell, lvf_v, lvf_slc, res1c, lvo1_some, e_mm, mm_max, mm_min]
    rw [body, leave_own wh_len (hall _), hres, own_res3 (x := .agg rc) (y := .agg zeroC) (z := .v (.int .i64 w2)) _ _ _]
    · exact lvo_three (hrc.frz _ _) (isT_zero.frz _ _) rfl
    · cases hrc; simp only [res_cell, w_ld, w_ld0, ldAt, e_bslice1, e_bslice2, bs1, bs2, e_build, bdH_some, bd_nil, bd_cons, bd1, cl_agg, cl_int, toL, List.map_cons, List.map_nil, putAt, List.set_cons_zero, List.set_cons_succ, and_self, Nat.le_refl, app_get, app_set, g_agg, run_nil, run_cons, stp_plain, stp_guard, put_some, pass_eq, pick_tt, pick_ff, pick_tf, pick_ft, pick_u, reg_some, thn_normal, thn_exit, thn_ret, cnd_t, cnd_f, blk_normal, blk_ret, blk_exit, x_seq, x_region, x_cond, x_block, x_loop, x_ret, x_exit, x_skip, e_mov, e_pick, pk_t, pk_f, withH_some, e_box, e_load, e_store, stH_some, e_nil, e_bin, e_eqv, eqH_f, eqH_t, e_un, e_fa, e_ia, ia_eq, nat_eq, natV_nat, e_len, lnH_some, e_extract, ex_0, ex_1, e_call0, e_call1, e_call2, e_call3, pc0_eq, pc1_some, pc2_some, pc3_some, fin_some, g_var0, g_vars, g_loc0, g_locs, g_int, g_bool, g_str, g_sl, s_none, s_zero, s_succ, cl_nil, cl_str, cl_bool, cl_slc, cl_own, evFa, evNil, asEl, evBin, intBin, strBin, evUn, len_nil, len_slc, len_str, clr, List.length_nil, List.length_cons, List.getElem?_cons_zero, List.getElem?_cons_succ, Nat.reduceAdd, Nat.zero_add, Nat.add_zero, Nat.reduceLeDiff, Nat.reduceSub, ↓reduceIte, List.drop_succ_cons, List.drop_zero, List.take_succ_cons, List.take_zero, Bool.false_eq_true, List.nil_append, List.cons_append, Bool.not_true, Bool.not_false, cond_true, cond_false, bne, lv_ret, lv_normal, res1, res2, lv2_some, res_var, res_cell, lvf_v, lvf_slc, res1c, lvo1_some, e_mm, mm_max, mm_min]
    · simp only [zeroC, res_cell, w_ld, w_ld0, ldAt, e_bslice1, e_bslice2, bs1, bs2, e_build, bdH_some, bd_nil, bd_cons, bd1, cl_agg, cl_int, toL, List.map_cons, List.map_nil, putAt, List.set_cons_zero, List.set_cons_succ, and_self, Nat.le_refl, app_get, app_set, g_agg, run_nil, run_cons, stp_plain, stp_guard, put_some, pass_eq, pick_tt, pick_ff, pick_tf, pick_ft, pick_u, reg_some, thn_normal, thn_exit, thn_ret, cnd_t, cnd_f, blk_normal, blk_ret, blk_exit, x_seq, x_region, x_cond, x_block, x_loop, x_ret, x_exit, x_skip, e_mov, e_pick, pk_t, pk_f, withH_some, e_box, e_load, e_store, stH_some, e_nil, e_bin, e_eqv, eqH_f, eqH_t, e_un, e_fa, e_ia, ia_eq, nat_eq, natV_nat, e_len, lnH_some, e_extract, ex_0, ex_1, e_call0, e_call1, e_call2, e_call3, pc0_eq, pc1_some, pc2_some, pc3_some, fin_some, g_var0, g_vars, g_loc0, g_locs, g_int, g_bool, g_str, g_sl, s_none, s_zero, s_succ, cl_nil, cl_str, cl_bool, cl_slc, cl_own, evFa, evNil, asEl, evBin, intBin, strBin, evUn, len_nil, len_slc, len_str, clr, List.length_nil, List.length_cons, List.getElem?_cons_zero, List.getElem?_cons_succ, Nat.reduceAdd, Nat.zero_add, Nat.add_zero, Nat.reduceLeDiff, Nat.reduceSub, ↓reduceIte, List.drop_succ_cons, List.drop_zero, List.take_succ_cons, List.take_zero, Bool.false_eq_true, List.nil_append, List.cons_append, Bool.not_true, Bool.not_false, cond_true, cond_false, bne, lv_ret, lv_normal, res1, res2, lv2_some, res_var, res_cell, lvf_v, lvf_slc, res1c, lvo1_some, e_mm, mm_max, mm_min]
    · rfl
end
end Go.AE.YtpgoibncgekflaaDoor
end

/-! The walker: the arguments of two terms wait. -/
section
set_option linter.unusedVariables false
set_option linter.unusedSimpArgs false
namespace Go.AE.YtpgoibncgekflaaDoor
open Go Go.AE Go.Proofs.YtpgoibncgekflaaDoor

inductive AllP : List AV → List (Tm × Tm) → Prop
  | nil : AllP [] []
  | cons (a : AV) (p : Tm × Tm) (es : List AV) (ps : List (Tm × Tm)) (h : PairOk a p) (hs : AllP es ps) : AllP (a :: es) (p :: ps)
theorem AllP.app {es es' : List AV} {l l' : List (Tm × Tm)} (h : AllP es l) (h' : AllP es' l') : AllP (es ++ es') (l ++ l') := by
  induction h with
  | nil => exact h'
  | cons a p es ps h hs ih => exact .cons a p _ _ h ih
theorem AllP.len {es : List AV} {l : List (Tm × Tm)} (h : AllP es l) : es.length = l.length := by
  induction h with
  | nil => rfl
  | cons a p es ps h hs ih => simp [ih]

theorem leave_own_n {H l : List AO} {B : Nat} {c : CFun} {vars : List AV} (hB : H.length = B) (hb : H.all (AO.below B) = true) : leave B c (some (.normal, vars, H ++ l)) = lvo B H l (c.res.mapM (resOf vars (H ++ l))) := leave_own hB hb
/-- a row of one element -/
def br1 (h : List AO) (sz : Nat) : Option AV → Option (AV × List AO)
  | some y => match y.cl with
    | some ys => if ys.length = sz then some (.own sz h.length 0 0 1, h ++ [.row sz 0 [y] 0]) else none
    | none => none
  | none => none
theorem e_brow1 {call : CallF} {vars env : List AV} {h : List AO} {sz : Nat} {zero : List Value} {x : Opd} : evOp call vars env h (.brow sz zero 1 [(0, x)]) = br1 h sz ((getO vars env x).snap1 h) := by
  simp only [evOp, evElems]
  cases (getO vars env x).snap1 h with
  | none => rfl
  | some y =>
    simp only [Option.bind_some, br1]
    cases y.cl with
    | none => rfl
    | some ys =>
      simp only [Option.map_some, List.length_replicate, Nat.lt_one_iff, and_true]
      by_cases hl : ys.length = sz
      · simp [hl]
      · simp [hl]
def wi (X Y : List AV) (ver : Nat) (L : List AV) (B : AV) (m : Int) (ver' n : Nat) (tl : List AO) : List AO := .box X :: .box Y :: .row 8 ver L 0 :: .box [B, .v (.int .i64 m), .own 8 2 ver' 0 n] :: tl
section
variable {X Y : List AV} {ver : Nat} {L : List AV} {B : AV} {m m' : Int} {n : Nat} {tl l : List AO}
theorem wi_cut {ver' n' : Nat} : evStore (wi X Y ver L B m ver' n tl ++ l) 1 (.ptr 3 2) (.own 8 2 ver 0 n') = some (wh X Y ver L B m n' tl ++ l) := rfl
theorem w_br {p : AV} {ps : List AV} (hp : p.cl = some ps) (hl : ps.length = 8) : br1 (wh X Y ver L B m n tl ++ l) 8 (some p) = some (.own 8 (wb tl + l.length) 0 0 1, wh X Y ver L B m n tl ++ (l ++ [.row 8 0 [p] 0])) := by
  simp only [br1, hp, hl, if_true, List.length_append, wh_len, List.append_assoc]
theorem w_push {p : AV} (hn : n ≤ L.length) (hf : n ≤ 1000000000) : evAppend (wh X Y ver L B m n tl ++ (l ++ [.row 8 0 [p] 0])) 8 112 (.own 8 2 ver 0 n) (.own 8 (wb tl + l.length) 0 0 1) = some (.own 8 2 (ver + 1) 0 (n + 1), wi X Y (ver + 1) (L.take n ++ [p]) B m ver n tl ++ (l ++ [.row 8 0 [p] 0])) := by
  have h1 : (wh X Y ver L B m n tl ++ (l ++ [.row 8 0 [p] 0]))[wb tl + l.length]? = some (.row 8 0 [p] 0) := by
    rw [obj_get wh_len]; simp
  have h2 := w_row (X := X) (Y := Y) (ver := ver) (B := B) (m := m) (tl := tl) (l := l ++ [.row 8 0 [p] 0]) hn
  have h3 : fits (n + 1) 112 = true := by
    have : room = 140737488355328 := rfl
    simp only [fits, decide_eq_true_eq]; omega
  have h4 : elemsOf (wh X Y ver L B m n tl ++ (l ++ [.row 8 0 [p] 0])) 8 (.own 8 (wb tl + l.length) 0 0 1) = some [p] := by
    simp [elemsOf, rowAt, h1]
  simp only [evAppend, h4, Nat.zero_add, h2, Nat.zero_le, if_true, List.length_cons, List.length_nil, h3, List.drop_zero, Nat.zero_sub]
  rfl

def K39 : List Bool := [true, false, false, true, true, true, false]
def L39 (tl : List AO) (i : Int) : List AV := [.ptr 3 0, .junk, .junk, .ptr (wb tl) 0, .ptr (wb tl + 1) 0, .v (.int .i64 i), .junk]
theorem within_loop {K : Nat} {c c' : AV} {es es' : List AV} {T T' : List Tm} {k1 k2 k3 k1' k2' k3' : AV} (hs : Sl 4 c es) (hs' : Sl 4 c' es') (ht : All2 es T) (ht' : All2 es' T') (hlen : es.length = es'.length) (hm : es.length ≤ 100000) :
    ∀ (j : Nat) (ver : Nat) (L : List AV) (n : Nat) (tail : List AO) (vars : List AV), j ≤ es.length → n ≤ L.length → n + j ≤ 1000000000 → clr K39 vars = L39 tl ((j : Int) - 1) →
      ∃ ver' L' tail' vs ps, loopN (exec (callW F) K c39_5) K39 (j + 1) vars (wh X Y ver L B m n tl ++ (.box [k1, k2, k3, c] :: .box [k1', k2', k3', c'] :: tail)) = some (.exit 0, vs, wh X Y ver' L' B m (n + j) tl ++ (.box [k1, k2, k3, c] :: .box [k1', k2', k3', c'] :: tail')) ∧ n + j ≤ L'.length ∧ (L'.take (n + j)).reverse = ps ++ (L.take n).reverse ∧ AllP ps ((T.zip T').take j) := by
  intro j
  induction j with
  | zero =>
    intro ver L n tail vars hj hn hnj hv
    have hge : decide ((((0 : Nat) : Int) - 1) ≥ 0) = false := rfl
    refine ⟨ver, L, tail, [.ptr 3 0, .junk, .junk, .ptr (wb tl) 0, .ptr (wb tl + 1) 0, .v (.int .i64 (((0 : Nat) : Int) - 1)), .v (.bool false)], [], loop_exit ?_, hn, rfl, .nil⟩
    rw [hv]
    simp only [L39, c39_5, c39_2, hge, e_bslice1, e_bslice2, bs1, bs2, e_build, bdH_some, bd_nil, bd_cons, bd1, cl_agg, cl_int, toL, List.map_cons, List.map_nil, putAt, List.set_cons_zero, List.set_cons_succ, and_self, Nat.le_refl, app_get, app_set, g_agg, run_nil, run_cons, stp_plain, stp_guard, put_some, pass_eq, pick_tt, pick_ff, pick_tf, pick_ft, pick_u, reg_some, thn_normal, thn_exit, thn_ret, cnd_t, cnd_f, blk_normal, blk_ret, blk_exit, x_seq, x_region, x_cond, x_block, x_loop, x_ret, x_exit, x_skip, e_mov, e_pick, pk_t, pk_f, withH_some, e_box, e_load, e_store, stH_some, e_nil, e_bin, e_eqv, eqH_f, eqH_t, e_un, e_fa, e_ia, ia_eq, nat_eq, natV_nat, e_len, lnH_some, e_extract, ex_0, ex_1, e_call0, e_call1, e_call2, e_call3, pc0_eq, pc1_some, pc2_some, pc3_some, fin_some, g_var0, g_vars, g_loc0, g_locs, g_int, g_bool, g_str, g_sl, s_none, s_zero, s_succ, cl_nil, cl_str, cl_bool, cl_slc, cl_own, evFa, evNil, asEl, evBin, intBin, strBin, evUn, len_nil, len_slc, len_str, clr, List.length_nil, List.length_cons, List.getElem?_cons_zero, List.getElem?_cons_succ, Nat.reduceAdd, Nat.zero_add, Nat.add_zero, Nat.reduceLeDiff, Nat.reduceSub, ↓reduceIte, List.drop_succ_cons, List.drop_zero, List.take_succ_cons, List.take_zero, Bool.false_eq_true, List.nil_append, List.cons_append, Bool.not_true, Bool.not_false, cond_true, cond_false, bne, lv_ret, lv_normal, res1, res2, lv2_some, res_var, res_cell, lvf_v, lvf_slc, res1c, lvo1_some, e_mm, mm_max, mm_min]
  | succ j ih =>
    intro ver L n tail vars hj hn hnj hv
    have e1 : (((j + 1 : Nat) : Int) - 1) = (j : Int) := by omega
    rw [e1] at hv
    have hge : decide ((j : Int) ≥ 0) = true := by simp
    have hw : IntKind.i64.wrap ((j : Int) - 1) = (j : Int) - 1 := by rw [IntWalk.i64_in]; omega
    obtain ⟨e, he⟩ : ∃ e, es[j]? = some e := ⟨_, List.getElem?_eq_getElem (by omega)⟩
    obtain ⟨e', he'⟩ : ∃ e, es'[j]? = some e := ⟨_, List.getElem?_eq_getElem (by omega)⟩
    obtain ⟨t, hT, hIs⟩ := ht.get he
    obtain ⟨t', hT', hIs'⟩ := ht'.get he'
    have q1 := hs.ia he
    have q2 := hs'.ia he'
    have q3 : ∀ h : List AO, evLoad h true 4 (.ip e.cells) = some e := fun h => hIs.load
    have q4 : ∀ h : List AO, evLoad h true 4 (.ip e'.cells) = some e' := fun h => hIs'.load
    have hpair : ∃ p ps, PairOk p (t, t') ∧ p.cl = some ps ∧ ps.length = 8 ∧ exec (callW F) K c39_5 (L39 tl (j : Int)) (wh X Y ver L B m n tl ++ (.box [k1, k2, k3, c] :: .box [k1', k2', k3', c'] :: tail)) = some (.normal, [.ptr 3 0, .junk, .junk, .ptr (wb tl) 0, .ptr (wb tl + 1) 0, .v (.int .i64 ((j : Int) - 1)), .v (.bool true)], wh X Y (ver + 1) (L.take n ++ [p]) B m (n + 1) tl ++ (.box [k1, k2, k3, c] :: .box [k1', k2', k3', c'] :: (tail ++ [.row 8 0 [p] 0]))) := by
      cases hIs with
      | mk a1 a2 a3 a4 la hla =>
      cases hIs' with
      | mk b1 b2 b3 b4 lb hlb =>
      refine ⟨.agg [.v (.int .i64 a1), .v (.string a2), .v (.int .i64 a3), a4, .v (.int .i64 b1), .v (.string b2), .v (.int .i64 b3), b4], _, .mk _ _ _ _ _ _ _ _ _ _ (.mk _ _ _ _ _ hla) (.mk _ _ _ _ _ hlb), rfl, rfl, ?_⟩
      have sn : ∀ h : List AO, (AV.agg [.v (.int .i64 a1), .v (.string a2), .v (.int .i64 a3), a4, .v (.int .i64 b1), .v (.string b2), .v (.int .i64 b3), b4]).snap1 h = some (.agg [.v (.int .i64 a1), .v (.string a2), .v (.int .i64 a3), a4, .v (.int .i64 b1), .v (.string b2), .v (.int .i64 b3), b4]) := by
        intro h
        cases hla <;> cases hlb <;> rfl
      have hbr := w_br (X := X) (Y := Y) (ver := ver) (L := L) (B := B) (m := m) (n := n) (tl := tl) (l := (.box [k1, k2, k3, c] :: .box [k1', k2', k3', c'] :: tail)) (p := .agg [.v (.int .i64 a1), .v (.string a2), .v (.int .i64 a3), a4, .v (.int .i64 b1), .v (.string b2), .v (.int .i64 b3), b4]) rfl rfl
      have hpu := w_push (X := X) (Y := Y) (ver := ver) (L := L) (B := B) (m := m) (n := n) (tl := tl) (l := (.box [k1, k2, k3, c] :: .box [k1', k2', k3', c'] :: tail)) (p := .agg [.v (.int .i64 a1), .v (.string a2), .v (.int .i64 a3), a4, .v (.int .i64 b1), .v (.string b2), .v (.int .i64 b3), b4]) hn (by omega)
      simp only [List.length_cons] at hbr hpu
      simp only [List.cons_append] at hbr hpu
      simp only [AV.cells] at q1 q2 q3 q4
      simp only [L39, c39_5, c39_2, c39_3, c39_4, hge, hw, q1, q2, q3, q4, sn, hbr, hpu, e_brow1, e_append, w_ld, w_ld0, w_todo, wi_cut, e_callh, AV.cells, evNil, ldAt, e_bslice1, e_bslice2, bs1, bs2, e_build, bdH_some, bd_nil, bd_cons, bd1, cl_agg, cl_int, toL, List.map_cons, List.map_nil, putAt, List.set_cons_zero, List.set_cons_succ, and_self, Nat.le_refl, app_get, app_set, g_agg, run_nil, run_cons, stp_plain, stp_guard, put_some, pass_eq, pick_tt, pick_ff, pick_tf, pick_ft, pick_u, reg_some, thn_normal, thn_exit, thn_ret, cnd_t, cnd_f, blk_normal, blk_ret, blk_exit, x_seq, x_region, x_cond, x_block, x_loop, x_ret, x_exit, x_skip, e_mov, e_pick, pk_t, pk_f, withH_some, e_box, e_load, e_store, stH_some, e_nil, e_bin, e_eqv, eqH_f, eqH_t, e_un, e_fa, e_ia, ia_eq, nat_eq, natV_nat, e_len, lnH_some, e_extract, ex_0, ex_1, e_call0, e_call1, e_call2, e_call3, pc0_eq, pc1_some, pc2_some, pc3_some, fin_some, g_var0, g_vars, g_loc0, g_locs, g_int, g_bool, g_str, g_sl, s_none, s_zero, s_succ, cl_nil, cl_str, cl_bool, cl_slc, cl_own, evFa, evNil, asEl, evBin, intBin, strBin, evUn, len_nil, len_slc, len_str, clr, List.length_nil, List.length_cons, List.getElem?_cons_zero, List.getElem?_cons_succ, Nat.reduceAdd, Nat.zero_add, Nat.add_zero, Nat.reduceLeDiff, Nat.reduceSub, ↓reduceIte, List.drop_succ_cons, List.drop_zero, List.take_succ_cons, List.take_zero, Bool.false_eq_true, List.nil_append, List.cons_append, Bool.not_true, Bool.not_false, cond_true, cond_false, bne, lv_ret, lv_normal, res1, res2, lv2_some, res_var, res_cell, lvf_v, lvf_slc, res1c, lvo1_some, e_mm, mm_max, mm_min]
    obtain ⟨p, ps, hp, hpc, hpl, st⟩ := hpair
    rw [loop_normal (by rw [hv]; exact st)]
    obtain ⟨ver', L', tail', vs, qs, g1, g2, g3, g4⟩ := ih (ver + 1) (L.take n ++ [p]) (n + 1) (tail ++ [.row 8 0 [p] 0]) [.ptr 3 0, .junk, .junk, .ptr (wb tl) 0, .ptr (wb tl + 1) 0, .v (.int .i64 ((j : Int) - 1)), .v (.bool true)] (by omega) (by simp; omega) (by omega) rfl
    refine ⟨ver', L', tail', vs, qs ++ [p], ?_, by omega, ?_, ?_⟩
    · rw [g1, show n + (j + 1) = n + 1 + j by omega]
    · rw [show n + (j + 1) = n + 1 + j by omega, g3, List.take_of_length_le (by simp; omega)]
      simp
    · rw [List.take_add_one]
      have : (T.zip T')[j]? = some (t, t') := by simp [List.getElem?_zip_eq_some, hT, hT']
      rw [this]
      exact g4.app (.cons _ _ _ _ hp .nil)

theorem within_ok (hX : (AO.box X).below 0 = true) (hY : (AO.box Y).below 0 = true) (hB : B.below0 (wb tl) = true) (ht : tl.all (AO.below 0) = true)
    {a b : AV} {k k' n1 n1' : Int} {s s' : ByteArray} {T T' : List Tm} (ha : IsT a (.mk k s n1 T)) (hb : IsT b (.mk k' s' n1' T')) (hlen : T.length = T'.length) (hm : T.length ≤ 100000) (hn : n ≤ L.length) (hnj : n + T.length ≤ 1000000000) :
    ∃ ver' L' ps, callW F 39 [.ptr 3 0, a, b] (wh X Y ver L B m n tl) = some (.tup [], wh X Y ver' L' B m (n + T.length) tl) ∧ n + T.length ≤ L'.length ∧ (L'.take (n + T.length)).reverse = ps ++ (L.take n).reverse ∧ AllP ps (T.zip T') := by
  cases ha with
  | mk k s n1 c T hc =>
  cases hb with
  | mk k' s' n1' c' T' hc' =>
  obtain ⟨es, hs, hes, hmx⟩ := hc.sl
  obtain ⟨es', hs', hes', hmx'⟩ := hc'.sl
  have e1 := hes.length
  have e2 := hes'.length
  obtain ⟨ver', L', tail', vs, ps, g1, g2, g3, g4⟩ := within_loop (K := es.length + 1) (X := X) (Y := Y) (B := B) (m := m) (tl := tl) (k1 := .v (.int .i64 k)) (k2 := .v (.string s)) (k3 := .v (.int .i64 n1)) (k1' := .v (.int .i64 k')) (k2' := .v (.string s')) (k3' := .v (.int .i64 n1')) hs hs' hes hes' (by omega) (by omega) es.length ver L n [] (L39 tl ((es.length : Int) - 1)) (Nat.le_refl _) hn (by omega) rfl
  rw [List.take_of_length_le (by simp; omega)] at g4
  refine ⟨ver', L', ps, callW_own (c := c39) rfl rfl (es.length + 1) ?_, by omega, by rw [← e1]; exact g3, g4⟩
  have hw : IntKind.i64.wrap ((es.length : Int) - 1) = (es.length : Int) - 1 := by rw [IntWalk.i64_in]; omega
  have hl := hs.len
  have body : exec (callW F) (es.length + 1) c39.body (start c39 [.ptr 3 0, .agg [.v (.int .i64 k), .v (.string s), .v (.int .i64 n1), c], .agg [.v (.int .i64 k'), .v (.string s'), .v (.int .i64 n1'), c']]) (wh X Y ver L B m n tl ++ []) = blk 0 (loopN (exec (callW F) (es.length + 1) c39_5) K39 (es.length + 1) (L39 tl ((es.length : Int) - 1)) (wh X Y ver L B m n tl ++ (.box [.v (.int .i64 k), .v (.string s), .v (.int .i64 n1), c] :: .box [.v (.int .i64 k'), .v (.string s'), .v (.int .i64 n1'), c'] :: []))) := by
    show exec (callW F) (es.length + 1) (.seq (.region [] [] c39_0) (.seq (.region [] [] c39_1) (.block 0 (.loop K39 [] c39_5)))) _ _ = _
    simp only [c39, start, List.replicate, c39_0, c39_1, hw, hl, w_bx, w_ld, w_ld0, AV.cells, evNil, ldAt, e_bslice1, e_bslice2, bs1, bs2, e_build, bdH_some, bd_nil, bd_cons, bd1, cl_agg, cl_int, toL, List.map_cons, List.map_nil, putAt, List.set_cons_zero, List.set_cons_succ, and_self, Nat.le_refl, app_get, app_set, g_agg, run_nil, run_cons, stp_plain, stp_guard, put_some, pass_eq, pick_tt, pick_ff, pick_tf, pick_ft, pick_u, reg_some, thn_normal, thn_exit, thn_ret, cnd_t, cnd_f, blk_normal, blk_ret, blk_exit, x_seq, x_region, x_cond, x_block, x_loop, x_ret, x_exit, x_skip, e_mov, e_pick, pk_t, pk_f, withH_some, e_box, e_load, e_store, stH_some, e_nil, e_bin, e_eqv, eqH_f, eqH_t, e_un, e_fa, e_ia, ia_eq, nat_eq, natV_nat, e_len, lnH_some, e_extract, ex_0, ex_1, e_call0, e_call1, e_call2, e_call3, pc0_eq, pc1_some, pc2_some, pc3_some, fin_some, g_var0, g_vars, g_loc0, g_locs, g_int, g_bool, g_str, g_sl, s_none, s_zero, s_succ, cl_nil, cl_str, cl_bool, cl_slc, cl_own, evFa, evNil, asEl, evBin, intBin, strBin, evUn, len_nil, len_slc, len_str, clr, List.length_nil, List.length_cons, List.getElem?_cons_zero, List.getElem?_cons_succ, Nat.reduceAdd, Nat.zero_add, Nat.add_zero, Nat.reduceLeDiff, Nat.reduceSub, ↓reduceIte, List.drop_succ_cons, List.drop_zero, List.take_succ_cons, List.take_zero, Bool.false_eq_true, List.nil_append, List.cons_append, Bool.not_true, Bool.not_false, cond_true, cond_false, bne, lv_ret, lv_normal, res1, res2, lv2_some, res_var, res_cell, lvf_v, lvf_slc, res1c, lvo1_some, e_mm, mm_max, mm_min]
    rw [loop_cong (v2 := L39 tl ((es.length : Int) - 1)) (by rfl)]
  rw [wh_len, body, g1, blk_exit]
  have hres : c39.res = [] := rfl
  rw [leave_own_n wh_len (w_all hX hY hB (by unfold wb; omega) ht), hres, e1]
  rfl
end
end Go.AE.YtpgoibncgekflaaDoor
end

/-! The walker's bindings: fixed, one more, cloned. -/
section
set_option linter.unusedVariables false
set_option linter.unusedSimpArgs false
namespace Go.AE.YtpgoibncgekflaaDoor
open Go Go.AE Go.Proofs.YtpgoibncgekflaaDoor

/-- a slice that isn't nil, if it is without elements -/
def NN : AV → Prop
  | .slc _ _ nn es => nn = true ∨ es ≠ []
  | _ => True
/-- the walker's bindings -/
inductive Bs (tl : List AO) : AV → List (Int × Tm) → Prop
  | nil : Bs tl (.v (.slice none 0 0)) []
  | slc (nn : Bool) (es : List AV) (bs : List (Int × Tm)) (h : AllB es bs) (hb : es.length ≤ maxLen) (hn : nn = true ∨ es ≠ []) : Bs tl (.slc 5 true nn es) bs
  | own (id ver k : Nat) (es : List AV) (bs : List (Int × Tm)) (hr : tl[id]? = some (.row 5 ver es k)) (hk : k ≤ es.length) (hne : es ≠ []) (hb : es.length ≤ maxLen) (h : AllB es bs) : Bs tl (.own 5 (id + 4) ver 0 es.length) bs
theorem AllB.append' {es es' : List AV} {l l' : List (Int × Tm)} (h : AllB es l) (h' : AllB es' l') : AllB (es ++ es') (l ++ l') := by
  induction h with
  | nil => exact h'
  | cons a v t es bs h hs ih => exact .cons a v t _ _ h ih
section
variable {tl : List AO} {B : AV} {bs : List (Int × Tm)}
theorem Bs.bel (h : Bs tl B bs) : B.below0 (wb tl) = true := by
  cases h with
  | nil => rfl
  | slc nn es bs h hb hn => rfl
  | own id ver k es bs hr hk hne hb h =>
    have : id < tl.length := (List.getElem?_eq_some_iff.1 hr).1
    show decide (id + 4 < tl.length + 4) = true
    rw [decide_eq_true_eq]; omega
theorem Bs.app (h : Bs tl B bs) (l : List AO) : Bs (tl ++ l) B bs := by
  cases h with
  | nil => exact .nil
  | slc nn es bs h hb hn => exact .slc nn es bs h hb hn
  | own id ver k es bs hr hk hne hb h => exact .own id ver k es bs (his_get hr) hk hne hb h
theorem wh_get {X Y : List AV} {ver : Nat} {L : List AV} {B : AV} {m : Int} {n : Nat} {l : List AO} {id : Nat} {o : AO} (h : tl[id]? = some o) : (wh X Y ver L B m n tl ++ l)[id + 4]? = some o := his_get (h := wh X Y ver L B m n tl) h
theorem wh_set {X Y : List AV} {ver : Nat} {L : List AV} {B : AV} {m : Int} {n : Nat} {id : Nat} {o : AO} : (wh X Y ver L B m n tl).set (id + 4) o = wh X Y ver L B m n (tl.set id o) := rfl
theorem Bs.fix (h : Bs tl B bs) : ∃ tl', (∀ (X Y : List AV) (ver : Nat) (L : List AV) (B0 : AV) (m : Int) (n : Nat), raise0 (wh X Y ver L B0 m n tl) B = wh X Y ver L B0 m n tl') ∧ Bs tl' B bs ∧ (tl.all (AO.below 0) = true → tl'.all (AO.below 0) = true) ∧
    ∃ B', (∀ (X Y : List AV) (ver : Nat) (L : List AV) (B0 : AV) (m : Int) (n : Nat) (l : List AO), B.snap1 (wh X Y ver L B0 m n tl' ++ l) = some B') ∧ IsB B' bs ∧ NN B' := by
  cases h with
  | nil => exact ⟨tl, fun _ _ _ _ _ _ _ => rfl, .nil, id, _, fun _ _ _ _ _ _ _ _ => rfl, .nil, trivial⟩
  | slc nn es bs h hb hn => exact ⟨tl, fun _ _ _ _ _ _ _ => rfl, .slc nn es bs h hb hn, id, _, fun _ _ _ _ _ _ _ _ => rfl, .slc true nn es bs h hb, hn⟩
  | own id ver k es bs hr hk hne hb h =>
    have hlt : id < tl.length := (List.getElem?_eq_some_iff.1 hr).1
    have hg : (tl.set id (.row 5 ver es es.length))[id]? = some (.row 5 ver es es.length) := by simp [hlt]
    refine ⟨tl.set id (.row 5 ver es es.length), fun X Y ver' L B0 m n => ?_, .own id ver es.length es bs hg (Nat.le_refl _) hne hb h, fun ht => ?_, .slc 5 false false es, fun X Y ver' L B0 m n l => ?_, .slc _ _ _ _ h hb, .inr hne⟩
    · have := wh_get (X := X) (Y := Y) (ver := ver') (L := L) (B := B0) (m := m) (n := n) (l := []) hr
      rw [List.append_nil] at this
      simp only [raise0, raise, rowAt, this, Nat.zero_add, and_self, true_and, Nat.le_refl, if_true, Nat.max_eq_right hk, wh_set]
    · simp only [List.all_eq_true] at ht ⊢
      intro o ho
      rcases List.mem_or_eq_of_mem_set ho with h1 | h1
      · exact ht o h1
      · subst h1; rfl
    · have := wh_get (X := X) (Y := Y) (ver := ver') (L := L) (B := B0) (m := m) (n := n) (l := l) hg
      simp only [AV.snap1, AV.snap0, rowAt, this, Nat.zero_add, and_self, true_and, Nat.le_refl, if_true, List.drop_zero, List.take_length]
theorem Bs.add (h : Bs tl B bs) (hn : bs.length ≤ 1000000) {e : AV} {v : Int} {t : Tm} (he : IsBd e v t) : ∃ i ver N tl2, (∀ (X Y : List AV) (ver' : Nat) (L : List AV) (B0 : AV) (m : Int) (n : Nat), evAppend (wh X Y ver' L B0 m n tl) 5 64 B (.slc 5 true true [e]) = some (.own 5 i ver 0 N, wh X Y ver' L B0 m n tl2)) ∧ Bs tl2 (.own 5 i ver 0 N) (bs ++ [(v, t)]) ∧ (tl.all (AO.below 0) = true → tl2.all (AO.below 0) = true) := by
  have ft : ∀ n, n ≤ 1000000 → fits (n + 1) 64 = true := by
    intro n hn
    have : room = 140737488355328 := rfl
    simp only [fits, decide_eq_true_eq]; omega
  have hmx : maxLen = 9223372036854775807 := rfl
  cases h with
  | nil =>
    refine ⟨tl.length + 4, 0, 1, tl ++ [.row 5 0 [e] 0], fun X Y ver' L B0 m n => ?_, .own tl.length 0 0 [e] _ (by simp) (Nat.zero_le _) (by simp) (by simp [hmx]) (.cons _ _ _ _ _ he .nil), fun ht => ?_⟩
    · simp only [evAppend, elemsOf, if_true, List.length_cons, List.length_nil, ft 0 (by omega), Nat.zero_add]
      rfl
    · simp only [List.all_append, ht, List.all_cons, List.all_nil, Bool.and_true, Bool.true_and]; rfl
  | slc nn es bs h hb hnn =>
    have hl := h.length
    refine ⟨tl.length + 4, 0, es.length + 1, tl ++ [.row 5 0 (es ++ [e]) 0], fun X Y ver' L B0 m n => ?_, ?_, fun ht => ?_⟩
    · simp only [evAppend, elemsOf, if_true, List.length_cons, List.length_nil, ft es.length (by omega), Nat.zero_add]
      rfl
    · have := Bs.own (tl := tl ++ [.row 5 0 (es ++ [e]) 0]) tl.length 0 0 (es ++ [e]) (bs ++ [(v, t)]) (by simp) (Nat.zero_le _) (by simp) (by simp; omega) (h.append' (.cons _ _ _ _ _ he .nil))
      simpa using this
    · simp only [List.all_append, ht, List.all_cons, List.all_nil, Bool.and_true, Bool.true_and]; rfl
  | own id ver k es bs hr hk hne hb h =>
    have hl := h.length
    have hlt : id < tl.length := (List.getElem?_eq_some_iff.1 hr).1
    refine ⟨id + 4, ver + 1, es.length + 1, tl.set id (.row 5 (ver + 1) (es ++ [e]) k), fun X Y ver' L B0 m n => ?_, ?_, fun ht => ?_⟩
    · have := wh_get (X := X) (Y := Y) (ver := ver') (L := L) (B := B0) (m := m) (n := n) (l := []) hr
      rw [List.append_nil] at this
      simp only [evAppend, elemsOf, if_true, rowAt, this, Nat.zero_add, and_self, true_and, Nat.le_refl, hk, List.length_cons, List.length_nil, ft es.length (by omega), List.drop_zero, List.take_length, Nat.sub_zero, wh_set]
      rfl
    · have := Bs.own (tl := tl.set id (.row 5 (ver + 1) (es ++ [e]) k)) id (ver + 1) k (es ++ [e]) (bs ++ [(v, t)]) (by simp [hlt]) (by simp; omega) (by simp) (by simp; omega) (h.append' (.cons _ _ _ _ _ he .nil))
      simpa using this
    · simp only [List.all_eq_true] at ht ⊢
      intro o ho
      rcases List.mem_or_eq_of_mem_set ho with h1 | h1
      · exact ht o h1
      · subst h1; rfl
theorem clone_ok {c : AV} (h : IsB c bs) (hn : NN c) (hm : bs.length ≤ 1000000) : ∃ r, IsB r bs ∧ NN r ∧ callW F 43 [c] [] = some (r, []) := by
  have e0 : ∀ h : List AO, eqNil h .slice (.v (.slice none 0 0)) (.v (.slice none 0 0)) = some true := fun _ => rfl
  cases h with
  | nil =>
    refine ⟨.v (.slice none 0 0), .nil, trivial, callW_pure (c := c43) rfl rfl 0 ?_⟩
    simp only [c43, start, List.replicate, c43_0, c43_1, c43_2, e0, e_bslice1, e_bslice2, bs1, bs2, e_build, bdH_some, bd_nil, bd_cons, bd1, cl_agg, cl_int, toL, List.map_cons, List.map_nil, putAt, List.set_cons_zero, List.set_cons_succ, and_self, Nat.le_refl, evStore, app_get, app_set, g_agg, run_nil, run_cons, stp_plain, stp_guard, put_some, pass_eq, pick_tt, pick_ff, pick_tf, pick_ft, pick_u, reg_some, thn_normal, thn_exit, thn_ret, cnd_t, cnd_f, blk_normal, blk_ret, blk_exit, x_seq, x_region, x_cond, x_block, x_loop, x_ret, x_exit, x_skip, e_mov, e_pick, pk_t, pk_f, withH_some, e_box, bx_some, e_load, e_store, stH_some, e_nil, e_bin, e_eqv, eqH_f, eqH_t, e_un, e_fa, e_ia, ia_eq, nat_eq, natV_nat, e_len, lnH_some, e_extract, ex_0, ex_1, e_call0, e_call1, e_call2, e_call3, pc0_eq, pc1_some, pc2_some, pc3_some, fin_some, g_var0, g_vars, g_loc0, g_locs, g_int, g_bool, g_str, g_sl, s_none, s_zero, s_succ, cl_nil, cl_str, cl_bool, cl_slc, cl_own, evFa, evNil, evLoad, asEl, evBin, intBin, strBin, evUn, len_nil, len_slc, len_str, clr, List.length_nil, List.length_cons, List.getElem?_cons_zero, List.getElem?_cons_succ, Nat.reduceAdd, Nat.zero_add, Nat.add_zero, Nat.reduceLeDiff, Nat.reduceSub, ↓reduceIte, List.drop_succ_cons, List.drop_zero, List.take_succ_cons, List.take_zero, Bool.false_eq_true, List.nil_append, List.cons_append, Bool.not_true, Bool.not_false, cond_true, cond_false, bne, lv_ret, lv_normal, res1, res2, lv2_some, res_var, res_cell, lvf_v, lvf_slc, res1c, lvo1_some, e_mm, mm_max, mm_min]
  | slc ex nn es bs h hb =>
    have hl := h.length
    have e1 : ∀ h : List AO, eqNil h .slice (.slc 5 ex nn es) (.v (.slice none 0 0)) = some false := by
      intro h
      rcases hn with h1 | h1
      · simp [eqNil, h1]
      · cases es with
        | nil => exact absurd rfl h1
        | cons a es => simp [eqNil]
    have b0 : ∀ {call : CallF} {vars env : List AV} {h : List AO} {zero : List Value}, evOp call vars env h (.bslice 5 zero 0 []) = some (.slc 5 true true [], h) := by
      intros; simp [evOp, evElems]
    by_cases he : es = []
    · subst he
      have ap : ∀ h : List AO, evAppend h 5 64 (.slc 5 true true []) (.slc 5 ex nn []) = some (.slc 5 true true [], h) := by intro h; simp [evAppend, elemsOf]
      refine ⟨.slc 5 true true [], .slc _ _ _ _ h hb, .inl rfl, callW_pure (c := c43) rfl rfl 0 ?_⟩
      simp only [c43, start, List.replicate, c43_0, c43_1, c43_3, e1, b0, ap, e_append, e_bslice1, e_bslice2, bs1, bs2, e_build, bdH_some, bd_nil, bd_cons, bd1, cl_agg, cl_int, toL, List.map_cons, List.map_nil, putAt, List.set_cons_zero, List.set_cons_succ, and_self, Nat.le_refl, evStore, app_get, app_set, g_agg, run_nil, run_cons, stp_plain, stp_guard, put_some, pass_eq, pick_tt, pick_ff, pick_tf, pick_ft, pick_u, reg_some, thn_normal, thn_exit, thn_ret, cnd_t, cnd_f, blk_normal, blk_ret, blk_exit, x_seq, x_region, x_cond, x_block, x_loop, x_ret, x_exit, x_skip, e_mov, e_pick, pk_t, pk_f, withH_some, e_box, bx_some, e_load, e_store, stH_some, e_nil, e_bin, e_eqv, eqH_f, eqH_t, e_un, e_fa, e_ia, ia_eq, nat_eq, natV_nat, e_len, lnH_some, e_extract, ex_0, ex_1, e_call0, e_call1, e_call2, e_call3, pc0_eq, pc1_some, pc2_some, pc3_some, fin_some, g_var0, g_vars, g_loc0, g_locs, g_int, g_bool, g_str, g_sl, s_none, s_zero, s_succ, cl_nil, cl_str, cl_bool, cl_slc, cl_own, evFa, evNil, evLoad, asEl, evBin, intBin, strBin, evUn, len_nil, len_slc, len_str, clr, List.length_nil, List.length_cons, List.getElem?_cons_zero, List.getElem?_cons_succ, Nat.reduceAdd, Nat.zero_add, Nat.add_zero, Nat.reduceLeDiff, Nat.reduceSub, ↓reduceIte, List.drop_succ_cons, List.drop_zero, List.take_succ_cons, List.take_zero, Bool.false_eq_true, List.nil_append, List.cons_append, Bool.not_true, Bool.not_false, cond_true, cond_false, bne, lv_ret, lv_normal, res1, res2, lv2_some, res_var, res_cell, lvf_v, lvf_slc, res1c, lvo1_some, e_mm, mm_max, mm_min]
    · have ft : fits es.length 64 = true := by
        have : room = 140737488355328 := rfl
        simp only [fits, decide_eq_true_eq]; omega
      have ap : evAppend [] 5 64 (.slc 5 true true []) (.slc 5 ex nn es) = some (.own 5 0 0 0 es.length, [.row 5 0 es 0]) := by simp [evAppend, elemsOf, he, ft]
      refine ⟨.slc 5 false false es, .slc _ _ _ _ h hb, .inr he, callW_pure (c := c43) rfl rfl 0 ?_⟩
      have lf : lvf [.row 5 0 es 0] (.own 5 0 0 0 es.length) = some (.slc 5 false false es, []) := by
        simp [lvf, AV.frz2, AV.frz1, AV.frz0, rowAt]
      simp only [c43, start, List.replicate, c43_0, c43_1, c43_3, e1, b0, ap, lf, e_append, e_bslice1, e_bslice2, bs1, bs2, e_build, bdH_some, bd_nil, bd_cons, bd1, cl_agg, cl_int, toL, List.map_cons, List.map_nil, putAt, List.set_cons_zero, List.set_cons_succ, and_self, Nat.le_refl, evStore, app_get, app_set, g_agg, run_nil, run_cons, stp_plain, stp_guard, put_some, pass_eq, pick_tt, pick_ff, pick_tf, pick_ft, pick_u, reg_some, thn_normal, thn_exit, thn_ret, cnd_t, cnd_f, blk_normal, blk_ret, blk_exit, x_seq, x_region, x_cond, x_block, x_loop, x_ret, x_exit, x_skip, e_mov, e_pick, pk_t, pk_f, withH_some, e_box, bx_some, e_load, e_store, stH_some, e_nil, e_bin, e_eqv, eqH_f, eqH_t, e_un, e_fa, e_ia, ia_eq, nat_eq, natV_nat, e_len, lnH_some, e_extract, ex_0, ex_1, e_call0, e_call1, e_call2, e_call3, pc0_eq, pc1_some, pc2_some, pc3_some, fin_some, g_var0, g_vars, g_loc0, g_locs, g_int, g_bool, g_str, g_sl, s_none, s_zero, s_succ, cl_nil, cl_str, cl_bool, cl_slc, cl_own, evFa, evNil, evLoad, asEl, evBin, intBin, strBin, evUn, len_nil, len_slc, len_str, clr, List.length_nil, List.length_cons, List.getElem?_cons_zero, List.getElem?_cons_succ, Nat.reduceAdd, Nat.zero_add, Nat.add_zero, Nat.reduceLeDiff, Nat.reduceSub, ↓reduceIte, List.drop_succ_cons, List.drop_zero, List.take_succ_cons, List.take_zero, Bool.false_eq_true, List.nil_append, List.cons_append, Bool.not_true, Bool.not_false, cond_true, cond_false, bne, lv_ret, lv_normal, res1, res2, lv2_some, res_var, res_cell, lvf_v, lvf_slc, res1c, lvo1_some, e_mm, mm_max, mm_min]
theorem IsB.cap {c : AV} (h : IsB c bs) (hn : NN c) : ∃ c', Bs [] c' bs ∧ ∀ (vars env : List AV) (h : List AO) (y z : Opd), natO vars env y = some bs.length → natO vars env z = some bs.length → evSlice vars env h 5 c none (some y) (some z) = some c' := by
  cases h with
  | nil =>
    refine ⟨_, .nil, fun vars env h y z hy hz => ?_⟩
    simp only [List.length_nil] at hy hz
    simp [evSlice, bounds, optN, hy, hz]
  | slc ex nn es bs h hb =>
    have hl := h.length
    refine ⟨_, .slc nn es bs h hb hn, fun vars env h y z hy hz => ?_⟩
    simp [evSlice, bounds, optN, hy, hz, hl]
    rw [← hl, List.take_length]
end
end Go.AE.YtpgoibncgekflaaDoor
end

/-! Unify: what it computes. -/
section
set_option linter.unusedVariables false
set_option linter.unusedSimpArgs false
namespace Go.AE.YtpgoibncgekflaaDoor
open Go Go.AE Go.Proofs.YtpgoibncgekflaaDoor

inductive US where
  | skip
  | bind (v : Int) (t : Tm)
  | fail
  | into (l : List (Tm × Tm))
/-- two terms that were met -/
def uStep : Tm → Tm → US
  | .mk k s n l, .mk k' s' n' l' =>
    if k = 1 ∧ k' = 1 ∧ n = n' then .skip
    else if k = 1 ∧ (k' ≠ 1 ∨ n > n') then .bind n (.mk k' s' n' l')
    else if k' = 1 then .bind n' (.mk k s n l)
    else if k = k' ∧ s.toList = s'.toList ∧ n = n' ∧ l.length = l'.length then .into (l.zip l')
    else .fail
def uRun : Nat → List (Int × Tm) → Nat → List (Tm × Tm) → List (Int × Tm) × Bool × Int
  | _, bs, _, [] => (bs, true, 0)
  | 0, _, _, _ :: _ => ([], false, 140)
  | f + 1, bs, m, (x, y) :: r =>
    if (nextT bs.reverse m x y).2.2.1 = 0 then
      match uStep (nextT bs.reverse m x y).1 (nextT bs.reverse m x y).2.1 with
      | .skip => uRun f bs (nextT bs.reverse m x y).2.2.2 r
      | .bind v t => uRun f (bs ++ [(v, t)]) (nextT bs.reverse m x y).2.2.2 r
      | .fail => ([], false, 0)
      | .into l => uRun f bs (nextT bs.reverse m x y).2.2.2 (l ++ r)
    else ([], false, (nextT bs.reverse m x y).2.2.1)

theorem meetT_lt {rs : List (Int × Tm)} {m : Nat} {x : Tm} (h : (meetT rs m x).2.1 = 0) : (meetT rs m x).2.2 < m := by
  cases m with
  | zero => simp [meetT] at h
  | succ m => have := walkT_le rs m x; simp only [meetT]; omega
theorem nextT_lt {rs : List (Int × Tm)} {m : Nat} {x y : Tm} (h : (nextT rs m x y).2.2.1 = 0) : (nextT rs m x y).2.2.2 < m := by
  by_cases h0 : (meetT rs m x).2.1 = 0
  · simp only [nextT, if_pos h0] at h ⊢
    have := meetT_lt h0
    have := meetT_lt h
    omega
  · simp only [nextT, if_neg h0] at h
    exact absurd h h0
theorem nextT_size {rs : List (Int × Tm)} {M : Nat} (hM : 1 ≤ M) (hrs : ∀ p ∈ rs, size p.2 ≤ M) {m : Nat} {x y : Tm} (hx : size x ≤ M) (hy : size y ≤ M) : size (nextT rs m x y).1 ≤ M ∧ size (nextT rs m x y).2.1 ≤ M := by
  have h1 := meetT_size hM hrs m x hx
  have h2 := meetT_size hM hrs (meetT rs m x).2.2 y hy
  have hz : size zeroT = 1 := by simp [zeroT, size, sizeL]
  by_cases h0 : (meetT rs m x).2.1 = 0
  · simp only [nextT, if_pos h0]; exact ⟨h1, h2⟩
  · simp only [nextT, if_neg h0, hz]; exact ⟨h1, hM⟩

/-! ### the code, in parts -/
def K22 : List Bool := [false, false, false, false, false, false, false, false, true, false, false, false, false, false, false, false, false, false, false, false]
def L22 : List AV := [.junk, .junk, .junk, .junk, .junk, .junk, .junk, .junk, .ptr 3 0, .junk, .junk, .junk, .junk, .junk, .junk, .junk, .junk, .junk, .junk, .junk]
def rest22 : CC := (.block 2 (.seq (.region [] [] c22_7) (.cond (.var 16) .skip (.seq (.region [] [] c22_8) (.cond (.var 17) (.region [] [] c22_9) (.seq (.region [] [] c22_10) (.cond (.var 18) (.region [] [] c22_11) (.seq (.region [] [] c22_12) (.cond (.var 19) (.seq (.region [] [] c22_13) .ret) (.region [] [] c22_14))))))))))
def front22 (rest : CC) : CC := (.seq (.seq (.region [] [] c22_2) (.cond (.var 14) .skip (.exit 0))) (.block 1 (.seq (.region [.p 8 0 1] [] c22_3) (.seq (.seq (.region [] [] c22_4) (.cond (.var 15) (.seq (.region [] [] c22_5) .ret) .skip)) (.seq (.region [] [] c22_6) rest)))))
theorem body22 : c22_15 = front22 rest22 := rfl
/-- what the rest of a round meets -/
def M22 (tl : List AO) (f o : Bool) : List AV := [.junk, .junk, .junk, .junk, .junk, .junk, .junk, .junk, .ptr 3 0, .ptr (wb tl) 0, .ptr (wb tl + 1) 0, .v (.int .i64 0), .v (.bool f), .v (.bool o), .v (.bool true), .v (.bool false), .junk, .junk, .junk, .junk]

section
variable {X Y : List AV} {ver : Nat} {L : List AV} {B : AV} {m : Int} {n : Nat} {tl : List AO} {K : Nat}
theorem front_end (rest : CC) : exec (callW F) K (front22 rest) L22 (wh X Y ver L B m 0 tl) = some (.exit 0, [.junk, .junk, .junk, .junk, .junk, .junk, .junk, .junk, .ptr 3 0, .junk, .junk, .junk, .junk, .junk, .v (.bool false), .junk, .junk, .junk, .junk, .junk], wh X Y ver L B m 0 tl) := by
  have h0 : decide (((0 : Nat) : Int) > 0) = false := rfl
  have q : ∀ l, evLen (wh X Y ver L B m 0 tl ++ l) .slice (.own 8 2 ver 0 0) = some 0 := fun l => w_len (Nat.zero_le _)
  have w : wh X Y ver L B m 0 tl = wh X Y ver L B m 0 tl ++ [] := (List.append_nil _).symm
  rw [w]
  simp only [L22, front22, c22_2, h0, q, w_todo, evNil, e_bslice1, e_bslice2, bs1, bs2, e_build, bdH_some, bd_nil, bd_cons, bd1, cl_agg, cl_int, toL, List.map_cons, List.map_nil, putAt, List.set_cons_zero, List.set_cons_succ, and_self, Nat.le_refl, app_get, app_set, g_agg, run_nil, run_cons, stp_plain, stp_guard, put_some, pass_eq, pick_tt, pick_ff, pick_tf, pick_ft, pick_u, reg_some, thn_normal, thn_exit, thn_ret, cnd_t, cnd_f, blk_normal, blk_ret, blk_exit, x_seq, x_region, x_cond, x_block, x_loop, x_ret, x_exit, x_skip, e_mov, e_pick, pk_t, pk_f, withH_some, e_box, e_load, e_store, stH_some, e_nil, e_bin, e_eqv, eqH_f, eqH_t, e_un, e_fa, e_ia, ia_eq, nat_eq, natV_nat, e_len, lnH_some, e_extract, ex_0, ex_1, e_call0, e_call1, e_call2, e_call3, pc0_eq, pc1_some, pc2_some, pc3_some, fin_some, g_var0, g_vars, g_loc0, g_locs, g_int, g_bool, g_str, g_sl, s_none, s_zero, s_succ, cl_nil, cl_str, cl_bool, cl_slc, cl_own, evFa, evNil, asEl, evBin, intBin, strBin, evUn, len_nil, len_slc, len_str, clr, List.length_nil, List.length_cons, List.getElem?_cons_zero, List.getElem?_cons_succ, Nat.reduceAdd, Nat.zero_add, Nat.add_zero, Nat.reduceLeDiff, Nat.reduceSub, ↓reduceIte, List.drop_succ_cons, List.drop_zero, List.take_succ_cons, List.take_zero, Bool.false_eq_true, List.nil_append, List.cons_append, Bool.not_true, Bool.not_false, cond_true, cond_false, bne, lv_ret, lv_normal, res1, res2, lv2_some, res_var, res_cell, lvf_v, lvf_slc, res1c, lvo1_some, e_mm, mm_max, mm_min]

theorem front_step {rest : CC} {tl' : List AO} {mk : ∀ (X Y : List AV) (ver : Nat) (L : List AV) (B0 : AV) (m : Int) (n : Nat), raise0 (wh X Y ver L B0 m n tl) B = wh X Y ver L B0 m n tl'} {rx ry : AV} {k k' n1 n1' : Int} {s s' : ByteArray} {l l' : List Tm} {m' e : Int}
    (hn : n + 1 ≤ L.length) (hx : IsT rx (.mk k s n1 l)) (hy : IsT ry (.mk k' s' n1' l')) (hc : callW F 37 [.ptr 3 0] (wh X Y ver L B m (n + 1) tl') = some (.tup [rx, ry, .v (.int .i64 e)], wh X Y ver L B m' n tl')) :
    exec (callW F) K (front22 rest) L22 (wh X Y ver L B m (n + 1) tl) = if e = 0 then blk 1 (exec (callW F) K rest (M22 tl' (k == 1) (k' == 1)) (wh X Y ver L B m' n tl' ++ [.box rx.cells, .box ry.cells]))
      else some (.ret, [.junk, .junk, .junk, .junk, .junk, .v (.slice none 0 0), .v (.bool false), .v (.int .i64 e), .ptr 3 0, .ptr (wb tl') 0, .ptr (wb tl' + 1) 0, .v (.int .i64 e), .junk, .junk, .v (.bool true), .v (.bool true), .junk, .junk, .junk, .junk], wh X Y ver L B m' n tl' ++ [.box rx.cells, .box ry.cells]) := by
  have h0 : decide (((n + 1 : Nat) : Int) > 0) = true := decide_eq_true (by omega)
  have q : ∀ l, evLen (wh X Y ver L B m (n + 1) tl ++ l) .slice (.own 8 2 ver 0 (n + 1)) = some (n + 1) := fun l => w_len hn
  have w : ∀ tl n m, wh X Y ver L B m n tl = wh X Y ver L B m n tl ++ [] := fun _ _ _ => (List.append_nil _).symm
  have hc' : callW F 37 [.ptr 3 0] (wh X Y ver L B m (n + 1) tl' ++ []) = some (.tup [rx, ry, .v (.int .i64 e)], wh X Y ver L B m' n tl' ++ []) := by rw [← w, ← w]; exact hc
  have dm : doMark ([.junk, .junk, .junk, .junk, .junk, .junk, .junk, .junk, .ptr 3 0, .junk, .junk, .junk, .junk, .junk, .v (.bool true), .junk, .junk, .junk, .junk, .junk], wh X Y ver L B m (n + 1) tl ++ []) (.p 8 0 1) = ([.junk, .junk, .junk, .junk, .junk, .junk, .junk, .junk, .ptr 3 0, .junk, .junk, .junk, .junk, .junk, .v (.bool true), .junk, .junk, .junk, .junk, .junk], wh X Y ver L B m (n + 1) tl' ++ []) := by
    have := mk X Y ver L B m (n + 1)
    rw [← w, ← w, ← this]
    rfl
  rw [w tl]
  generalize hR : rest = rest'
  by_cases he : e = 0
  · have e1 : (e != 0) = false := by simp [he]
    rw [if_pos he]
    subst he
    cases hx
    cases hy
    have e2 : ((0 : Int) == 0) = true := rfl
    simp only [L22, M22, front22, c22_2, c22_3, c22_4, c22_6, h0, q, hc', dm, e2, x_region_m, List.foldl_cons, List.foldl_nil, marked, w_bx, w_ld, w_ld0, w_st, w_st0, w_todo, ex_2, e_callh, q9z, AV.cells, evNil, ldAt, stAt, preH_some, List.append_assoc, e_bslice1, e_bslice2, bs1, bs2, e_build, bdH_some, bd_nil, bd_cons, bd1, cl_agg, cl_int, toL, List.map_cons, List.map_nil, putAt, List.set_cons_zero, List.set_cons_succ, and_self, Nat.le_refl, app_get, app_set, g_agg, run_nil, run_cons, stp_plain, stp_guard, put_some, pass_eq, pick_tt, pick_ff, pick_tf, pick_ft, pick_u, reg_some, thn_normal, thn_exit, thn_ret, cnd_t, cnd_f, blk_normal, blk_ret, blk_exit, x_seq, x_region, x_cond, x_block, x_loop, x_ret, x_exit, x_skip, e_mov, e_pick, pk_t, pk_f, withH_some, e_box, e_load, e_store, stH_some, e_nil, e_bin, e_eqv, eqH_f, eqH_t, e_un, e_fa, e_ia, ia_eq, nat_eq, natV_nat, e_len, lnH_some, e_extract, ex_0, ex_1, e_call0, e_call1, e_call2, e_call3, pc0_eq, pc1_some, pc2_some, pc3_some, fin_some, g_var0, g_vars, g_loc0, g_locs, g_int, g_bool, g_str, g_sl, s_none, s_zero, s_succ, cl_nil, cl_str, cl_bool, cl_slc, cl_own, evFa, evNil, asEl, evBin, intBin, strBin, evUn, len_nil, len_slc, len_str, clr, List.length_nil, List.length_cons, List.getElem?_cons_zero, List.getElem?_cons_succ, Nat.reduceAdd, Nat.zero_add, Nat.add_zero, Nat.reduceLeDiff, Nat.reduceSub, ↓reduceIte, List.drop_succ_cons, List.drop_zero, List.take_succ_cons, List.take_zero, Bool.false_eq_true, List.nil_append, List.cons_append, Bool.not_true, Bool.not_false, cond_true, cond_false, bne, lv_ret, lv_normal, res1, res2, lv2_some, res_var, res_cell, lvf_v, lvf_slc, res1c, lvo1_some, e_mm, mm_max, mm_min]
  · have e2 : (e == 0) = false := by simpa using he
    rw [if_neg he]
    cases hx
    cases hy
    simp only [L22, M22, front22, c22_2, c22_3, c22_4, c22_5, h0, q, hc', dm, e2, x_region_m, List.foldl_cons, List.foldl_nil, marked, w_bx, w_ld, w_ld0, w_st, w_st0, w_todo, ex_2, e_callh, q9z, AV.cells, evNil, ldAt, stAt, preH_some, List.append_assoc, e_bslice1, e_bslice2, bs1, bs2, e_build, bdH_some, bd_nil, bd_cons, bd1, cl_agg, cl_int, toL, List.map_cons, List.map_nil, putAt, List.set_cons_zero, List.set_cons_succ, and_self, Nat.le_refl, app_get, app_set, g_agg, run_nil, run_cons, stp_plain, stp_guard, put_some, pass_eq, pick_tt, pick_ff, pick_tf, pick_ft, pick_u, reg_some, thn_normal, thn_exit, thn_ret, cnd_t, cnd_f, blk_normal, blk_ret, blk_exit, x_seq, x_region, x_cond, x_block, x_loop, x_ret, x_exit, x_skip, e_mov, e_pick, pk_t, pk_f, withH_some, e_box, e_load, e_store, stH_some, e_nil, e_bin, e_eqv, eqH_f, eqH_t, e_un, e_fa, e_ia, ia_eq, nat_eq, natV_nat, e_len, lnH_some, e_extract, ex_0, ex_1, e_call0, e_call1, e_call2, e_call3, pc0_eq, pc1_some, pc2_some, pc3_some, fin_some, g_var0, g_vars, g_loc0, g_locs, g_int, g_bool, g_str, g_sl, s_none, s_zero, s_succ, cl_nil, cl_str, cl_bool, cl_slc, cl_own, evFa, evNil, asEl, evBin, intBin, strBin, evUn, len_nil, len_slc, len_str, clr, List.length_nil, List.length_cons, List.getElem?_cons_zero, List.getElem?_cons_succ, Nat.reduceAdd, Nat.zero_add, Nat.add_zero, Nat.reduceLeDiff, Nat.reduceSub, ↓reduceIte, List.drop_succ_cons, List.drop_zero, List.take_succ_cons, List.take_zero, Bool.false_eq_true, List.nil_append, List.cons_append, Bool.not_true, Bool.not_false, cond_true, cond_false, bne, lv_ret, lv_normal, res1, res2, lv2_some, res_var, res_cell, lvf_v, lvf_slc, res1c, lvo1_some, e_mm, mm_max, mm_min]
end
theorem pick_und {w : Bool} {y n : Option St} : pick1 (.v undef) w y n = n := rfl
section
variable {tl : List AO}
theorem tl_two {a b : AV} {x y : Tm} (ht : tl.all (AO.below 0) = true) (ha : IsT a x) (hb : IsT b y) : (tl ++ [AO.box a.cells, AO.box b.cells]).all (AO.below 0) = true := by
  have h1 := ha.bel
  have h2 := hb.bel
  simp only [List.all_append, List.all_cons, List.all_nil, ht, h1, h2, Bool.and_true]
theorem todo_top {L : List AV} {n : Nat} {p : Tm × Tm} {r : List (Tm × Tm)} (hn : n ≤ L.length) (h : AllP (L.take n).reverse (p :: r)) : ∃ n0 a, n = n0 + 1 ∧ L[n0]? = some a ∧ PairOk a p ∧ AllP (L.take n0).reverse r := by
  cases n with
  | zero => simp at h; cases h
  | succ n0 =>
    have hg : L[n0]? = some (L[n0]'(by omega)) := List.getElem?_eq_getElem _
    rw [List.take_add_one, hg] at h
    simp only [Option.toList_some, List.reverse_append, List.reverse_cons, List.reverse_nil, List.nil_append, List.cons_append] at h
    cases h with
    | cons a p es ps h1 h2 => exact ⟨n0, _, rfl, hg, h1, h2⟩

theorem br_some {h : List AO} {sz : Nat} {y : AV} {ys : List AV} (h1 : y.cl = some ys) (h2 : ys.length = sz) : br1 h sz (some y) = some (.own sz h.length 0 0 1, h ++ [.row sz 0 [y] 0]) := by
  simp only [br1, h1, h2, if_true]

end
end Go.AE.YtpgoibncgekflaaDoor
end

/-! How many parts there may be; two terms that are the same. -/
section
set_option linter.unusedVariables false
set_option linter.unusedSimpArgs false
namespace Go.AE.YtpgoibncgekflaaDoor
open Go Go.AE Go.Proofs.YtpgoibncgekflaaDoor

theorem wrap_pred {m : Int} (h0 : 0 ≤ m) (h1 : m ≤ 1000000) : IntKind.i64.wrap (m - 1) = m - 1 := by
  rw [IntWalk.i64_in]; omega
mutual
theorem left_size : ∀ (t : Tm) (m : Int), 0 ≤ m → m ≤ 1000000 → -1 ≤ left t m ∧ left t m ≤ m ∧ (0 ≤ left t m → left t m + size t = m)
  | .mk k s n l, m, h0, h1 => by
    rw [left, size, wrap_pred h0 h1]
    have := leftL_size l (m - 1) (by omega) (by omega)
    refine ⟨this.1, by omega, fun h => ?_⟩
    have := this.2.2 h
    omega
theorem leftL_size : ∀ (l : List Tm) (m : Int), -1 ≤ m → m ≤ 1000000 → -1 ≤ leftL l m ∧ leftL l m ≤ m ∧ (0 ≤ leftL l m → leftL l m + sizeL l = m)
  | [], m, h0, h1 => by simp only [leftL, sizeL]; omega
  | t :: l, m, h0, h1 => by
    simp only [leftL, sizeL]
    by_cases hm : m < 0
    · rw [if_pos hm]; omega
    · rw [if_neg hm]
      have a := left_size t m (by omega) h1
      have b := leftL_size l (left t m) (by omega) (by omega)
      refine ⟨b.1, by omega, fun h => ?_⟩
      have := b.2.2 h
      have := a.2.2 (by omega)
      omega
end
theorem big_size {bs : List (Int × Tm)} {ts : List Tm} (h : big bs ts = false) : bs.length ≤ 100 ∧ (∀ p ∈ bs, size p.2 ≤ 300) ∧ (∀ t ∈ ts, size t ≤ 3000) := by
  simp only [big, Bool.or_eq_false_iff, decide_eq_false_iff_not, Bool.not_eq_false', List.all_eq_true, decide_eq_true_eq] at h
  refine ⟨by omega, fun p hp => ?_, fun t ht => ?_⟩
  · have h1 := h.1.2 p hp
    have := (left_size p.2 300 (by omega) (by omega)).2.2 h1
    omega
  · have h1 := h.2 t ht
    have := (left_size t 3000 (by omega) (by omega)).2.2 h1
    omega

theorem same_call {a b : AV} {t : Tm} (ha : IsT a t) (hb : IsT b t) : callW F 16 [a, b] [] = some (.v (.bool true), []) := by
  have := same_ok _ t t a b (Nat.lt_succ_self _) ha hb
  rw [same_refl] at this; exact this
end Go.AE.YtpgoibncgekflaaDoor
end

/-! Resolve walked. -/
section
set_option linter.unusedVariables false
set_option linter.unusedSimpArgs false
namespace Go.AE.YtpgoibncgekflaaDoor
open Go Go.AE Go.Proofs.YtpgoibncgekflaaDoor

theorem frz_mk {h' : List AO} {B idx n : Nat} {k n' : Int} {s : ByteArray} {ds : List AV} (hr : h'[idx]? = some (.row 4 0 ds 0)) (hn : ¬ idx < B) (hl : n = ds.length) : (AV.agg [.v (.int .i64 k), .v (.string s), .v (.int .i64 n'), .own 4 idx 0 0 n]).frz1 B h' = some (.agg [.v (.int .i64 k), .v (.string s), .v (.int .i64 n'), .slc 4 false false ds]) := by
  subst hl
  simp [AV.frz1, AV.frz0, hn, rowAt, hr]
def tail36 : CC := (.seq (.region [] [] c35_17) (.seq (.region [] [] c35_18) (.seq (.region [] [] c35_19) .ret)))
def mid36 : CC := (.seq (.region [] [] c35_6) (.seq (.region [] [] c35_7) (.seq (.seq (.region [] [] c35_8) (.block 1 (.loop K36 [] c35_16))) tail36)))
def head36 (rest : CC) : CC := (.seq (.region [] [] c35_0) (.seq (.region [] [] c35_1) (.seq (.block 0 (.seq (.region [] [] c35_2) (.cond (.var 11) (.seq (.region [] [] c35_3) .ret) (.seq (.region [] [] c35_4) (.cond (.var 12) (.seq (.region [] [] c35_5) .ret) .skip))))) rest)))
theorem body36 : c35.body = head36 mid36 := rfl
theorem start36 (a b : AV) : start c35 [a, b] = [a, b, .v undef, .v undef, .v undef, .v undef, .v undef, .v undef, .v undef, .v undef, .v undef, .v undef, .v undef, .v undef, .v undef, .v undef, .v undef, .v undef] := rfl

section
variable {h : List AO} {id : Nat} {b : AV} {d d' m : Int} {l : List AO}
theorem res36 {es : List AV} {rs : List (Int × Tm)} (hes : AllB es rs) (hbs : ∀ h : List AO, b.snap1 h = some b) (hlook : ∀ n, callW F 59 [b, .v (.int .i64 n)] [] = some (lookA n es, [])) (hrs : ∀ p ∈ rs, size p.2 ≤ 100000) : ∀ d : Nat, d ≤ 60 → Res36 rs b d := by
  intro d
  induction d with
  | zero =>
    intro _ h id m t a c hm hsz ht
    have hl2 : ([.box a.cells, .box zeroC] : List AO).all (AO.below 0) = true := by
      have h1 := ht.bel
      have hz : (AO.box zeroC).below 0 = true := rfl
      simp only [List.all_cons, List.all_nil, h1, hz, Bool.and_true]
    obtain ⟨rc, hrc, hc⟩ := meet_ok (c.app0 hl2) hes (fun _ _ => hbs _) hlook m hm ht
    rw [ctr_app c.lt, ctr_app c.lt] at hc
    have hD : (60 : Int) - ((0 : Nat) : Int) = 60 := rfl
    rw [hD] at c hc ⊢
    have hresv : c35.res = [.cell 3 true 4, .var 4] := rfl
    rcases meetT_err rs m t with h0 | ⟨h1, h2⟩
    · -- too deep
      simp only [resT]
      generalize meetT rs m t = w at hrc hc h0 ⊢
      obtain ⟨w1, w2, w3⟩ := w
      dsimp only at h0 hrc hc ⊢
      subst h0
      rw [if_pos rfl]
      refine ⟨by decide, .agg zeroC, w3, 60, isT_zero, callW_own (c := c35) rfl rfl 0 ?_⟩
      have e1 : ((60 : Int) == 60) = true := rfl
      have e2 : ((0 : Int) == 0) = true := rfl
      have body : exec (callW F) 0 c35.body (start c35 [.ptr id 0, a]) (ctr h id 1 (ms b 60) m ++ []) = some (.ret, [.ptr id 0, a, .ptr h.length 0, .ptr (h.length + 1) 0, .v (.int .i64 3), .v (.int .i64 0), .v undef, .v undef, .v undef, .v undef, .v undef, .v (.bool false), .v (.bool true), .v undef, .v undef, .v undef, .v undef, .v undef], ctr h id 1 (ms b 60) w3 ++ [.box rc, .box zeroC]) := by
        rw [body36, start36]
        generalize mid36 = rest
        cases hrc
        cases ht
        simp only [AV.cells, zeroC] at hc
        simp only [head36, zeroC, c35_0, c35_1, c35_2, c35_4, c35_5, e1, e2, hc, e_callh, q9z, AV.cells, r_ld0 c, r_ld2 c, evNil, c_ld, c_ld0, c_st, c_st0, c_bx, ldAt, stAt, preH_some, List.append_assoc, e_bslice1, e_bslice2, bs1, bs2, e_build, bdH_some, bd_nil, bd_cons, bd1, cl_agg, cl_int, toL, List.map_cons, List.map_nil, putAt, List.set_cons_zero, List.set_cons_succ, and_self, Nat.le_refl, app_get, app_set, g_agg, run_nil, run_cons, stp_plain, stp_guard, put_some, pass_eq, pick_tt, pick_ff, pick_tf, pick_ft, pick_u, reg_some, thn_normal, thn_exit, thn_ret, cnd_t, cnd_f, blk_normal, blk_ret, blk_exit, x_seq, x_region, x_cond, x_block, x_loop, x_ret, x_exit, x_skip, e_mov, e_pick, pk_t, pk_f, withH_some, e_box, e_load, e_store, stH_some, e_nil, e_bin, e_eqv, eqH_f, eqH_t, e_un, e_fa, e_ia, ia_eq, nat_eq, natV_nat, e_len, lnH_some, e_extract, ex_0, ex_1, e_call0, e_call1, e_call2, e_call3, pc0_eq, pc1_some, pc2_some, pc3_some, fin_some, g_var0, g_vars, g_loc0, g_locs, g_int, g_bool, g_str, g_sl, s_none, s_zero, s_succ, cl_nil, cl_str, cl_bool, cl_slc, cl_own, evFa, evNil, asEl, evBin, intBin, strBin, evUn, len_nil, len_slc, len_str, clr, List.length_nil, List.length_cons, List.getElem?_cons_zero, List.getElem?_cons_succ, Nat.reduceAdd, Nat.zero_add, Nat.add_zero, Nat.reduceLeDiff, Nat.reduceSub, ↓reduceIte, List.drop_succ_cons, List.drop_zero, List.take_succ_cons, List.take_zero, Bool.false_eq_true, List.nil_append, List.cons_append, Bool.not_true, Bool.not_false, cond_true, cond_false, bne, lv_ret, lv_normal, res1, res2, lv2_some, res_var, res_cell, lvf_v, lvf_slc, res1c, lvo1_some, e_mm, mm_max, mm_min]
      rw [body, ctr_len, leave_own ctr_len (c.all _), hresv, own_res2 (x := .agg zeroC) (y := .v (.int .i64 3)) _ _]
      · exact lvo_two (isT_zero.frz _ _) rfl
      · simp only [res_cell, c_ld, ldAt, zeroC, e_bslice1, e_bslice2, bs1, bs2, e_build, bdH_some, bd_nil, bd_cons, bd1, cl_agg, cl_int, toL, List.map_cons, List.map_nil, putAt, List.set_cons_zero, List.set_cons_succ, and_self, Nat.le_refl, app_get, app_set, g_agg, run_nil, run_cons, stp_plain, stp_guard, put_some, pass_eq, pick_tt, pick_ff, pick_tf, pick_ft, pick_u, reg_some, thn_normal, thn_exit, thn_ret, cnd_t, cnd_f, blk_normal, blk_ret, blk_exit, x_seq, x_region, x_cond, x_block, x_loop, x_ret, x_exit, x_skip, e_mov, e_pick, pk_t, pk_f, withH_some, e_box, e_load, e_store, stH_some, e_nil, e_bin, e_eqv, eqH_f, eqH_t, e_un, e_fa, e_ia, ia_eq, nat_eq, natV_nat, e_len, lnH_some, e_extract, ex_0, ex_1, e_call0, e_call1, e_call2, e_call3, pc0_eq, pc1_some, pc2_some, pc3_some, fin_some, g_var0, g_vars, g_loc0, g_locs, g_int, g_bool, g_str, g_sl, s_none, s_zero, s_succ, cl_nil, cl_str, cl_bool, cl_slc, cl_own, evFa, evNil, asEl, evBin, intBin, strBin, evUn, len_nil, len_slc, len_str, clr, List.length_nil, List.length_cons, List.getElem?_cons_zero, List.getElem?_cons_succ, Nat.reduceAdd, Nat.zero_add, Nat.add_zero, Nat.reduceLeDiff, Nat.reduceSub, ↓reduceIte, List.drop_succ_cons, List.drop_zero, List.take_succ_cons, List.take_zero, Bool.false_eq_true, List.nil_append, List.cons_append, Bool.not_true, Bool.not_false, cond_true, cond_false, bne, lv_ret, lv_normal, res1, res2, lv2_some, res_var, res_cell, lvf_v, lvf_slc, res1c, lvo1_some, e_mm, mm_max, mm_min]
      · rfl
    · simp only [resT]
      generalize meetT rs m t = w at hrc hc h1 h2 ⊢
      obtain ⟨w1, w2, w3⟩ := w
      dsimp only at h1 h2 hrc hc ⊢
      subst h1
      subst h2
      rw [if_neg (by decide)]
      refine ⟨by decide, .agg rc, w3, 60, hrc, callW_own (c := c35) rfl rfl 0 ?_⟩
      have e2 : ((140 : Int) == 0) = false := rfl
      have body : exec (callW F) 0 c35.body (start c35 [.ptr id 0, a]) (ctr h id 1 (ms b 60) m ++ []) = some (.ret, [.ptr id 0, a, .ptr h.length 0, .ptr (h.length + 1) 0, .v (.int .i64 140), .v (.int .i64 140), .v undef, .v undef, .v undef, .v undef, .v undef, .v (.bool true), .v undef, .v undef, .v undef, .v undef, .v undef, .v undef], ctr h id 1 (ms b 60) w3 ++ [.box rc, .box rc]) := by
        rw [body36, start36]
        generalize mid36 = rest
        generalize zeroT = zt at hrc
        cases hrc
        cases ht
        simp only [AV.cells, zeroC] at hc
        simp only [head36, zeroC, c35_0, c35_1, c35_2, c35_3, e2, hc, e_callh, q9z, AV.cells, r_ld0 c, r_ld2 c, evNil, c_ld, c_ld0, c_st, c_st0, c_bx, ldAt, stAt, preH_some, List.append_assoc, e_bslice1, e_bslice2, bs1, bs2, e_build, bdH_some, bd_nil, bd_cons, bd1, cl_agg, cl_int, toL, List.map_cons, List.map_nil, putAt, List.set_cons_zero, List.set_cons_succ, and_self, Nat.le_refl, app_get, app_set, g_agg, run_nil, run_cons, stp_plain, stp_guard, put_some, pass_eq, pick_tt, pick_ff, pick_tf, pick_ft, pick_u, reg_some, thn_normal, thn_exit, thn_ret, cnd_t, cnd_f, blk_normal, blk_ret, blk_exit, x_seq, x_region, x_cond, x_block, x_loop, x_ret, x_exit, x_skip, e_mov, e_pick, pk_t, pk_f, withH_some, e_box, e_load, e_store, stH_some, e_nil, e_bin, e_eqv, eqH_f, eqH_t, e_un, e_fa, e_ia, ia_eq, nat_eq, natV_nat, e_len, lnH_some, e_extract, ex_0, ex_1, e_call0, e_call1, e_call2, e_call3, pc0_eq, pc1_some, pc2_some, pc3_some, fin_some, g_var0, g_vars, g_loc0, g_locs, g_int, g_bool, g_str, g_sl, s_none, s_zero, s_succ, cl_nil, cl_str, cl_bool, cl_slc, cl_own, evFa, evNil, asEl, evBin, intBin, strBin, evUn, len_nil, len_slc, len_str, clr, List.length_nil, List.length_cons, List.getElem?_cons_zero, List.getElem?_cons_succ, Nat.reduceAdd, Nat.zero_add, Nat.add_zero, Nat.reduceLeDiff, Nat.reduceSub, ↓reduceIte, List.drop_succ_cons, List.drop_zero, List.take_succ_cons, List.take_zero, Bool.false_eq_true, List.nil_append, List.cons_append, Bool.not_true, Bool.not_false, cond_true, cond_false, bne, lv_ret, lv_normal, res1, res2, lv2_some, res_var, res_cell, lvf_v, lvf_slc, res1c, lvo1_some, e_mm, mm_max, mm_min]
      rw [body, ctr_len, leave_own ctr_len (c.all _), hresv, own_res2 (x := .agg rc) (y := .v (.int .i64 140)) _ _]
      · exact lvo_two (hrc.frz _ _) rfl
      · generalize zeroT = zt at hrc
        cases hrc; simp only [res_cell, c_ld, ldAt, e_bslice1, e_bslice2, bs1, bs2, e_build, bdH_some, bd_nil, bd_cons, bd1, cl_agg, cl_int, toL, List.map_cons, List.map_nil, putAt, List.set_cons_zero, List.set_cons_succ, and_self, Nat.le_refl, app_get, app_set, g_agg, run_nil, run_cons, stp_plain, stp_guard, put_some, pass_eq, pick_tt, pick_ff, pick_tf, pick_ft, pick_u, reg_some, thn_normal, thn_exit, thn_ret, cnd_t, cnd_f, blk_normal, blk_ret, blk_exit, x_seq, x_region, x_cond, x_block, x_loop, x_ret, x_exit, x_skip, e_mov, e_pick, pk_t, pk_f, withH_some, e_box, e_load, e_store, stH_some, e_nil, e_bin, e_eqv, eqH_f, eqH_t, e_un, e_fa, e_ia, ia_eq, nat_eq, natV_nat, e_len, lnH_some, e_extract, ex_0, ex_1, e_call0, e_call1, e_call2, e_call3, pc0_eq, pc1_some, pc2_some, pc3_some, fin_some, g_var0, g_vars, g_loc0, g_locs, g_int, g_bool, g_str, g_sl, s_none, s_zero, s_succ, cl_nil, cl_str, cl_bool, cl_slc, cl_own, evFa, evNil, asEl, evBin, intBin, strBin, evUn, len_nil, len_slc, len_str, clr, List.length_nil, List.length_cons, List.getElem?_cons_zero, List.getElem?_cons_succ, Nat.reduceAdd, Nat.zero_add, Nat.add_zero, Nat.reduceLeDiff, Nat.reduceSub, ↓reduceIte, List.drop_succ_cons, List.drop_zero, List.take_succ_cons, List.take_zero, Bool.false_eq_true, List.nil_append, List.cons_append, Bool.not_true, Bool.not_false, cond_true, cond_false, bne, lv_ret, lv_normal, res1, res2, lv2_some, res_var, res_cell, lvf_v, lvf_slc, res1c, lvo1_some, e_mm, mm_max, mm_min]
      · rfl
  | succ d ih =>
    intro hd60 h id m t a c hm hsz ht
    have hR := ih (by omega)
    have hl2 : ([.box a.cells, .box zeroC] : List AO).all (AO.below 0) = true := by
      have h1 := ht.bel
      have hz : (AO.box zeroC).below 0 = true := rfl
      simp only [List.all_cons, List.all_nil, h1, hz, Bool.and_true]
    obtain ⟨rc, hrc, hc⟩ := meet_ok (c.app0 hl2) hes (fun _ _ => hbs _) hlook m hm ht
    rw [ctr_app c.lt, ctr_app c.lt] at hc
    have hresv : c35.res = [.cell 3 true 4, .var 4] := rfl
    have hmle := meetT_le rs m t
    have hmsz := meetT_size (M := 100000) (by omega) hrs m t hsz
    rcases meetT_err rs m t with h0 | ⟨h1, h2⟩
    · simp only [resT]
      generalize meetT rs m t = w at hrc hc h0 hmle hmsz ⊢
      obtain ⟨w1, w2, w3⟩ := w
      dsimp only at h0 hrc hc hmle hmsz
      subst h0
      have hbelr := hrc.bel
      cases hrc with
      | mk k s n cl l hcl =>
      dsimp only
      rw [if_pos rfl]
      simp only [size] at hmsz
      have hll := sizeL_len l
      obtain ⟨es', hs, hes', hmx⟩ := hcl.sl
      have e1 := hes'.length
      have c1 := c.ms (60 - (d : Int))
      have hloop := res_loop (K := l.length + 1) (cs0 := [.v (.int .i64 k), .v (.string s), .v (.int .i64 n), cl]) hs (by omega) d hbelr hR c1 l 0 w3 [] [] [] (L36 id h.length es'.length cl (0 : Nat)) (by omega) rfl (by omega) (by simpa using hes') .nil (fun t ht => by have := size_mem ht; omega) rfl rfl
      have d1 : ((60 : Int) - ((d + 1 : Nat) : Int) == 60) = false := by rw [beq_eq_false_iff_ne]; omega
      have d2 : IntKind.i64.wrap ((60 : Int) - ((d + 1 : Nat) : Int) + 1) = 60 - (d : Int) := by
        rw [IntWalk.i64_in] <;> omega
      have d3 : IntKind.i64.wrap ((60 : Int) - (d : Int) - 1) = 60 - ((d + 1 : Nat) : Int) := by
        rw [IntWalk.i64_in] <;> omega
      have z0 : ((0 : Int) == 0) = true := rfl
      have hrow : (List.replicate es'.length (AV.agg zeroC)) = [] ++ List.replicate l.length (AV.agg zeroC) := by rw [e1]; rfl
      have mk := mkS_own (sz := 4) (H := ctr h id 1 (ms b (60 - (d : Int))) w3) (l := [.box [.v (.int .i64 k), .v (.string s), .v (.int .i64 n), cl], .box zeroC]) (B := h.length) ctr_len (bytes := 56) (zero := [(.int .i64 0), (.string ⟨#[]⟩), (.int .i64 0), (.slice none 0 0)]) (n := es'.length) (by have : maxLen = 9223372036854775807 := rfl; omega) (by omega)
      rw [zeroEl4, hrow] at mk
      have pre : exec (callW F) (l.length + 1) c35.body (start c35 [.ptr id 0, a]) (ctr h id 1 (ms b (60 - ((d + 1 : Nat) : Int))) m ++ []) = thn (callW F) (l.length + 1) tail36 (blk 1 (loopN (exec (callW F) (l.length + 1) c35_16) K36 (l.length + 1) (L36 id h.length es'.length cl ((0 : Nat) : Int)) (ctr h id 1 (ms b (60 - (d : Int))) w3 ++ (.box [.v (.int .i64 k), .v (.string s), .v (.int .i64 n), cl] :: .box zeroC :: .row 4 0 ([] ++ List.replicate l.length (AV.agg zeroC)) 0 :: [])))) := by
        rw [body36, start36]
        generalize ([] ++ List.replicate l.length (AV.agg zeroC)) = R at mk ⊢
        have hrd := r_ld2 (m := (w3 : Int)) (l := [.box [.v (.int .i64 k), .v (.string s), .v (.int .i64 n), cl], .box zeroC]) c
        have hrs := r_st2 (m := (w3 : Int)) (d' := 60 - (d : Int)) (l := [.box [.v (.int .i64 k), .v (.string s), .v (.int .i64 n), cl], .box zeroC]) c
        simp only [zeroC] at hrd hrs
        cases ht
        simp only [AV.cells, zeroC] at hc mk
        simp only [head36, mid36, zeroC, c35_0, c35_1, c35_2, c35_4, c35_6, c35_7, c35_8, d1, d2, z0, hc, mk, hs.len, hrd, hrs, e_mkslice, e_callh, q9z, AV.cells, r_ld0 c, r_ld2 c, evNil, c_ld, c_ld0, c_st, c_st0, c_bx, ldAt, stAt, preH_some, List.append_assoc, e_bslice1, e_bslice2, bs1, bs2, e_build, bdH_some, bd_nil, bd_cons, bd1, cl_agg, cl_int, toL, List.map_cons, List.map_nil, putAt, List.set_cons_zero, List.set_cons_succ, and_self, Nat.le_refl, app_get, app_set, g_agg, run_nil, run_cons, stp_plain, stp_guard, put_some, pass_eq, pick_tt, pick_ff, pick_tf, pick_ft, pick_u, reg_some, thn_normal, thn_exit, thn_ret, cnd_t, cnd_f, blk_normal, blk_ret, blk_exit, x_seq, x_region, x_cond, x_block, x_loop, x_ret, x_exit, x_skip, e_mov, e_pick, pk_t, pk_f, withH_some, e_box, e_load, e_store, stH_some, e_nil, e_bin, e_eqv, eqH_f, eqH_t, e_un, e_fa, e_ia, ia_eq, nat_eq, natV_nat, e_len, lnH_some, e_extract, ex_0, ex_1, e_call0, e_call1, e_call2, e_call3, pc0_eq, pc1_some, pc2_some, pc3_some, fin_some, g_var0, g_vars, g_loc0, g_locs, g_int, g_bool, g_str, g_sl, s_none, s_zero, s_succ, cl_nil, cl_str, cl_bool, cl_slc, cl_own, evFa, evNil, asEl, evBin, intBin, strBin, evUn, len_nil, len_slc, len_str, clr, List.length_nil, List.length_cons, List.getElem?_cons_zero, List.getElem?_cons_succ, Nat.reduceAdd, Nat.zero_add, Nat.add_zero, Nat.reduceLeDiff, Nat.reduceSub, ↓reduceIte, List.drop_succ_cons, List.drop_zero, List.take_succ_cons, List.take_zero, Bool.false_eq_true, List.nil_append, List.cons_append, Bool.not_true, Bool.not_false, cond_true, cond_false, bne, lv_ret, lv_normal, res1, res2, lv2_some, res_var, res_cell, lvf_v, lvf_slc, res1c, lvo1_some, e_mm, mm_max, mm_min]
        rw [loop_cong (v2 := L36 id h.length es'.length cl ((0 : Nat) : Int)) (by rfl)]
      cases hrl : resL (resT rs d) w3 l with
      | error er =>
        rw [hrl] at hloop
        obtain ⟨hne, l', d', o, tail', vs, g1, g2, g3⟩ := hloop
        refine ⟨hne, .agg zeroC, l', d', isT_zero, callW_own (c := c35) rfl rfl (l.length + 1) ?_⟩
        rw [pre, g1]
        simp only [blk_ret, thn_ret]
        rw [ctr_len, leave_own ctr_len (c1.ms d' |>.all _), hresv, own_res2 (x := .agg zeroC) (y := .v (.int .i64 er)) _ _]
        · exact lvo_two (isT_zero.frz _ _) rfl
        · rw [res_cell, g2]; simp only [c_ld, ldAt, zeroC, e_bslice1, e_bslice2, bs1, bs2, e_build, bdH_some, bd_nil, bd_cons, bd1, cl_agg, cl_int, toL, List.map_cons, List.map_nil, putAt, List.set_cons_zero, List.set_cons_succ, and_self, Nat.le_refl, app_get, app_set, g_agg, run_nil, run_cons, stp_plain, stp_guard, put_some, pass_eq, pick_tt, pick_ff, pick_tf, pick_ft, pick_u, reg_some, thn_normal, thn_exit, thn_ret, cnd_t, cnd_f, blk_normal, blk_ret, blk_exit, x_seq, x_region, x_cond, x_block, x_loop, x_ret, x_exit, x_skip, e_mov, e_pick, pk_t, pk_f, withH_some, e_box, e_load, e_store, stH_some, e_nil, e_bin, e_eqv, eqH_f, eqH_t, e_un, e_fa, e_ia, ia_eq, nat_eq, natV_nat, e_len, lnH_some, e_extract, ex_0, ex_1, e_call0, e_call1, e_call2, e_call3, pc0_eq, pc1_some, pc2_some, pc3_some, fin_some, g_var0, g_vars, g_loc0, g_locs, g_int, g_bool, g_str, g_sl, s_none, s_zero, s_succ, cl_nil, cl_str, cl_bool, cl_slc, cl_own, evFa, evNil, asEl, evBin, intBin, strBin, evUn, len_nil, len_slc, len_str, clr, List.length_nil, List.length_cons, List.getElem?_cons_zero, List.getElem?_cons_succ, Nat.reduceAdd, Nat.zero_add, Nat.add_zero, Nat.reduceLeDiff, Nat.reduceSub, ↓reduceIte, List.drop_succ_cons, List.drop_zero, List.take_succ_cons, List.take_zero, Bool.false_eq_true, List.nil_append, List.cons_append, Bool.not_true, Bool.not_false, cond_true, cond_false, bne, lv_ret, lv_normal, res1, res2, lv2_some, res_var, res_cell, lvf_v, lvf_slc, res1c, lvo1_some, e_mm, mm_max, mm_min]
        · rw [res_var, g3]
      | ok q =>
        obtain ⟨xs, m2⟩ := q
        rw [hrl] at hloop
        obtain ⟨hle2, ds', tail', x1, x4, x5, x7, x8, x9, x10, x11, x12, x16, x17, g1, g2, g3⟩ := hloop
        refine ⟨by omega, .agg [.v (.int .i64 k), .v (.string s), .v (.int .i64 n), .slc 4 false false ds'], .mk _ _ _ _ _ (.slc _ _ _ _ (by simpa using g2) (by omega)), callW_own (c := c35) rfl rfl (l.length + 1) ?_⟩
        have hds : (ctr h id 1 (ms b (60 - ((d + 1 : Nat) : Int))) m2 ++ (.box [.v (.int .i64 k), .v (.string s), .v (.int .i64 n), .own 4 (h.length + 2) 0 0 es'.length] :: .box [.v (.int .i64 k), .v (.string s), .v (.int .i64 n), .own 4 (h.length + 2) 0 0 es'.length] :: .row 4 0 ds' 0 :: tail'))[h.length + 2]? = some (.row 4 0 ds' 0) := obj_get ctr_len
        rw [pre, g1]
        have hfin : exec (callW F) (l.length + 1) tail36 [.ptr id 0, x1, .ptr h.length 0, .ptr (h.length + 1) 0, x4, x5, .own 4 (h.length + 2) 0 0 es'.length, x7, x8, x9, x10, x11, x12, cl, .v (.int .i64 es'.length), .v (.int .i64 es'.length), x16, x17] (ctr h id 1 (ms b (60 - (d : Int))) m2 ++ (.box [.v (.int .i64 k), .v (.string s), .v (.int .i64 n), cl] :: .box zeroC :: .row 4 0 ds' 0 :: tail')) = some (.ret, [.ptr id 0, x1, .ptr h.length 0, .ptr (h.length + 1) 0, .v (.int .i64 0), x5, .own 4 (h.length + 2) 0 0 es'.length, x7, x8, x9, x10, x11, x12, cl, .v (.int .i64 es'.length), .v (.int .i64 es'.length), x16, x17], ctr h id 1 (ms b (60 - ((d + 1 : Nat) : Int))) m2 ++ (.box [.v (.int .i64 k), .v (.string s), .v (.int .i64 n), .own 4 (h.length + 2) 0 0 es'.length] :: .box [.v (.int .i64 k), .v (.string s), .v (.int .i64 n), .own 4 (h.length + 2) 0 0 es'.length] :: .row 4 0 ds' 0 :: tail')) := by
          have hrd := r_ld2 (m := (m2 : Int)) (l := (.box [.v (.int .i64 k), .v (.string s), .v (.int .i64 n), cl] :: .box zeroC :: .row 4 0 ds' 0 :: tail')) c1
          have hrs := r_st2 (m := (m2 : Int)) (d' := 60 - ((d + 1 : Nat) : Int)) (l := (.box [.v (.int .i64 k), .v (.string s), .v (.int .i64 n), cl] :: .box zeroC :: .row 4 0 ds' 0 :: tail')) c1
          simp only [zeroC] at hrd hrs
          simp only [tail36, zeroC, c35_17, c35_18, c35_19, d3, hrd, hrs, evNil, c_ld, c_ld0, c_st, c_st0, c_bx, ldAt, stAt, preH_some, List.append_assoc, e_bslice1, e_bslice2, bs1, bs2, e_build, bdH_some, bd_nil, bd_cons, bd1, cl_agg, cl_int, toL, List.map_cons, List.map_nil, putAt, List.set_cons_zero, List.set_cons_succ, and_self, Nat.le_refl, app_get, app_set, g_agg, run_nil, run_cons, stp_plain, stp_guard, put_some, pass_eq, pick_tt, pick_ff, pick_tf, pick_ft, pick_u, reg_some, thn_normal, thn_exit, thn_ret, cnd_t, cnd_f, blk_normal, blk_ret, blk_exit, x_seq, x_region, x_cond, x_block, x_loop, x_ret, x_exit, x_skip, e_mov, e_pick, pk_t, pk_f, withH_some, e_box, e_load, e_store, stH_some, e_nil, e_bin, e_eqv, eqH_f, eqH_t, e_un, e_fa, e_ia, ia_eq, nat_eq, natV_nat, e_len, lnH_some, e_extract, ex_0, ex_1, e_call0, e_call1, e_call2, e_call3, pc0_eq, pc1_some, pc2_some, pc3_some, fin_some, g_var0, g_vars, g_loc0, g_locs, g_int, g_bool, g_str, g_sl, s_none, s_zero, s_succ, cl_nil, cl_str, cl_bool, cl_slc, cl_own, evFa, evNil, asEl, evBin, intBin, strBin, evUn, len_nil, len_slc, len_str, clr, List.length_nil, List.length_cons, List.getElem?_cons_zero, List.getElem?_cons_succ, Nat.reduceAdd, Nat.zero_add, Nat.add_zero, Nat.reduceLeDiff, Nat.reduceSub, ↓reduceIte, List.drop_succ_cons, List.drop_zero, List.take_succ_cons, List.take_zero, Bool.false_eq_true, List.nil_append, List.cons_append, Bool.not_true, Bool.not_false, cond_true, cond_false, bne, lv_ret, lv_normal, res1, res2, lv2_some, res_var, res_cell, lvf_v, lvf_slc, res1c, lvo1_some, e_mm, mm_max, mm_min]
        simp only [blk_exit, thn_normal]
        rw [hfin, ctr_len, leave_own ctr_len (c.all _), hresv, own_res2 (x := .agg [.v (.int .i64 k), .v (.string s), .v (.int .i64 n), .own 4 (h.length + 2) 0 0 es'.length]) (y := .v (.int .i64 0)) _ _]
        · refine lvo_two ?_ rfl
          exact frz_mk hds (by omega) g3.symm
        · simp only [res_cell, c_ld, ldAt, e_bslice1, e_bslice2, bs1, bs2, e_build, bdH_some, bd_nil, bd_cons, bd1, cl_agg, cl_int, toL, List.map_cons, List.map_nil, putAt, List.set_cons_zero, List.set_cons_succ, and_self, Nat.le_refl, app_get, app_set, g_agg, run_nil, run_cons, stp_plain, stp_guard, put_some, pass_eq, pick_tt, pick_ff, pick_tf, pick_ft, pick_u, reg_some, thn_normal, thn_exit, thn_ret, cnd_t, cnd_f, blk_normal, blk_ret, blk_exit, x_seq, x_region, x_cond, x_block, x_loop, x_ret, x_exit, x_skip, e_mov, e_pick, pk_t, pk_f, withH_some, e_box, e_load, e_store, stH_some, e_nil, e_bin, e_eqv, eqH_f, eqH_t, e_un, e_fa, e_ia, ia_eq, nat_eq, natV_nat, e_len, lnH_some, e_extract, ex_0, ex_1, e_call0, e_call1, e_call2, e_call3, pc0_eq, pc1_some, pc2_some, pc3_some, fin_some, g_var0, g_vars, g_loc0, g_locs, g_int, g_bool, g_str, g_sl, s_none, s_zero, s_succ, cl_nil, cl_str, cl_bool, cl_slc, cl_own, evFa, evNil, asEl, evBin, intBin, strBin, evUn, len_nil, len_slc, len_str, clr, List.length_nil, List.length_cons, List.getElem?_cons_zero, List.getElem?_cons_succ, Nat.reduceAdd, Nat.zero_add, Nat.add_zero, Nat.reduceLeDiff, Nat.reduceSub, ↓reduceIte, List.drop_succ_cons, List.drop_zero, List.take_succ_cons, List.take_zero, Bool.false_eq_true, List.nil_append, List.cons_append, Bool.not_true, Bool.not_false, cond_true, cond_false, bne, lv_ret, lv_normal, res1, res2, lv2_some, res_var, res_cell, lvf_v, lvf_slc, res1c, lvo1_some, e_mm, mm_max, mm_min]
        · rfl
    · simp only [resT]
      generalize meetT rs m t = w at hrc hc h1 h2 ⊢
      obtain ⟨w1, w2, w3⟩ := w
      dsimp only at h1 h2 hrc hc ⊢
      subst h1
      subst h2
      simp only [zeroT]
      rw [if_neg (by decide)]
      refine ⟨by decide, .agg rc, w3, 60 - ((d + 1 : Nat) : Int), hrc, callW_own (c := c35) rfl rfl 0 ?_⟩
      have e2 : ((140 : Int) == 0) = false := rfl
      have body : exec (callW F) 0 c35.body (start c35 [.ptr id 0, a]) (ctr h id 1 (ms b (60 - ((d + 1 : Nat) : Int))) m ++ []) = some (.ret, [.ptr id 0, a, .ptr h.length 0, .ptr (h.length + 1) 0, .v (.int .i64 140), .v (.int .i64 140), .v undef, .v undef, .v undef, .v undef, .v undef, .v (.bool true), .v undef, .v undef, .v undef, .v undef, .v undef, .v undef], ctr h id 1 (ms b (60 - ((d + 1 : Nat) : Int))) w3 ++ [.box rc, .box rc]) := by
        rw [body36, start36]
        generalize mid36 = rest
        generalize zeroT = zt at hrc
        cases hrc
        cases ht
        simp only [AV.cells, zeroC] at hc
        simp only [head36, zeroC, c35_0, c35_1, c35_2, c35_3, e2, hc, e_callh, q9z, AV.cells, r_ld0 c, r_ld2 c, evNil, c_ld, c_ld0, c_st, c_st0, c_bx, ldAt, stAt, preH_some, List.append_assoc, e_bslice1, e_bslice2, bs1, bs2, e_build, bdH_some, bd_nil, bd_cons, bd1, cl_agg, cl_int, toL, List.map_cons, List.map_nil, putAt, List.set_cons_zero, List.set_cons_succ, and_self, Nat.le_refl, app_get, app_set, g_agg, run_nil, run_cons, stp_plain, stp_guard, put_some, pass_eq, pick_tt, pick_ff, pick_tf, pick_ft, pick_u, reg_some, thn_normal, thn_exit, thn_ret, cnd_t, cnd_f, blk_normal, blk_ret, blk_exit, x_seq, x_region, x_cond, x_block, x_loop, x_ret, x_exit, x_skip, e_mov, e_pick, pk_t, pk_f, withH_some, e_box, e_load, e_store, stH_some, e_nil, e_bin, e_eqv, eqH_f, eqH_t, e_un, e_fa, e_ia, ia_eq, nat_eq, natV_nat, e_len, lnH_some, e_extract, ex_0, ex_1, e_call0, e_call1, e_call2, e_call3, pc0_eq, pc1_some, pc2_some, pc3_some, fin_some, g_var0, g_vars, g_loc0, g_locs, g_int, g_bool, g_str, g_sl, s_none, s_zero, s_succ, cl_nil, cl_str, cl_bool, cl_slc, cl_own, evFa, evNil, asEl, evBin, intBin, strBin, evUn, len_nil, len_slc, len_str, clr, List.length_nil, List.length_cons, List.getElem?_cons_zero, List.getElem?_cons_succ, Nat.reduceAdd, Nat.zero_add, Nat.add_zero, Nat.reduceLeDiff, Nat.reduceSub, ↓reduceIte, List.drop_succ_cons, List.drop_zero, List.take_succ_cons, List.take_zero, Bool.false_eq_true, List.nil_append, List.cons_append, Bool.not_true, Bool.not_false, cond_true, cond_false, bne, lv_ret, lv_normal, res1, res2, lv2_some, res_var, res_cell, lvf_v, lvf_slc, res1c, lvo1_some, e_mm, mm_max, mm_min]
      rw [body, ctr_len, leave_own ctr_len (c.all _), hresv, own_res2 (x := .agg rc) (y := .v (.int .i64 140)) _ _]
      · exact lvo_two (hrc.frz _ _) rfl
      · generalize zeroT = zt at hrc
        cases hrc; simp only [res_cell, c_ld, ldAt, e_bslice1, e_bslice2, bs1, bs2, e_build, bdH_some, bd_nil, bd_cons, bd1, cl_agg, cl_int, toL, List.map_cons, List.map_nil, putAt, List.set_cons_zero, List.set_cons_succ, and_self, Nat.le_refl, app_get, app_set, g_agg, run_nil, run_cons, stp_plain, stp_guard, put_some, pass_eq, pick_tt, pick_ff, pick_tf, pick_ft, pick_u, reg_some, thn_normal, thn_exit, thn_ret, cnd_t, cnd_f, blk_normal, blk_ret, blk_exit, x_seq, x_region, x_cond, x_block, x_loop, x_ret, x_exit, x_skip, e_mov, e_pick, pk_t, pk_f, withH_some, e_box, e_load, e_store, stH_some, e_nil, e_bin, e_eqv, eqH_f, eqH_t, e_un, e_fa, e_ia, ia_eq, nat_eq, natV_nat, e_len, lnH_some, e_extract, ex_0, ex_1, e_call0, e_call1, e_call2, e_call3, pc0_eq, pc1_some, pc2_some, pc3_some, fin_some, g_var0, g_vars, g_loc0, g_locs, g_int, g_bool, g_str, g_sl, s_none, s_zero, s_succ, cl_nil, cl_str, cl_bool, cl_slc, cl_own, evFa, evNil, asEl, evBin, intBin, strBin, evUn, len_nil, len_slc, len_str, clr, List.length_nil, List.length_cons, List.getElem?_cons_zero, List.getElem?_cons_succ, Nat.reduceAdd, Nat.zero_add, Nat.add_zero, Nat.reduceLeDiff, Nat.reduceSub, ↓reduceIte, List.drop_succ_cons, List.drop_zero, List.take_succ_cons, List.take_zero, Bool.false_eq_true, List.nil_append, List.cons_append, Bool.not_true, Bool.not_false, cond_true, cond_false, bne, lv_ret, lv_normal, res1, res2, lv2_some, res_var, res_cell, lvf_v, lvf_slc, res1c, lvo1_some, e_mm, mm_max, mm_min]
      · rfl
end

/-- what Resolve hands back -/
def resA (rs : List (Int × Tm)) (t : Tm) : Tm × Int := match resT rs 60 2000 t with
  | .ok (x, _) => (x, 0)
  | .error e => (zeroT, e)
theorem resolve_ok {b : AV} {bs : List (Int × Tm)} (hb : IsB b bs) (hl : bs.length ≤ 100000) (hrs : ∀ p ∈ bs, size p.2 ≤ 100000) {a : AV} {t : Tm} (hsz : size t ≤ 100000) (ht : IsT a t) : ∃ r, IsT r (resA bs.reverse t).1 ∧ callW F 15 [b, a] [] = some (.tup [r, .v (.int .i64 (resA bs.reverse t).2)], []) := by
  obtain ⟨es, hes, hk1, hk2⟩ := looks hb hl
  have hbs : ∀ h : List AO, b.snap1 h = some b := by
    intro h; cases hb <;> rfl
  have hbc : b.cl = some [b] ∧ b.below1 0 = true ∧ b.below1 3 = true := by cases hb <;> exact ⟨rfl, rfl, rfl⟩
  have h0 : ([.box a.cells, .box zeroC] : List AO).all (AO.below 2) = true := by
    have := below_mono (Nat.zero_le 2) _ ht.bel
    simp only [List.all_cons, List.all_nil, this, Bool.and_true]; rfl
  have hctr : Ctr [.box a.cells, .box zeroC, .box [b, .v (.int .i64 2000), .v (.int .i64 0)]] 2 1 (ms b (60 - ((60 : Nat) : Int))) := by
    refine ⟨by simp, by simp [ms], ?_, ?_⟩
    · have := below_mono (Nat.zero_le 3) _ ht.bel
      have h3 := hbc.2.2
      have hz : (AO.box zeroC).below 3 = true := rfl
      simp only [List.length_cons, List.length_nil, Nat.zero_add, Nat.reduceAdd, List.all_cons, List.all_nil, this, hz, Bool.and_true, Bool.true_and]
      simp only [AO.below, List.all_cons, List.all_nil, h3, Bool.true_and]
      rfl
    · have h3 := hbc.2.2
      simp only [ms, List.length_cons, List.length_nil, Nat.zero_add, Nat.reduceAdd, List.all_cons, List.all_nil, h3, Bool.true_and]
      rfl
  have hr := res36 hes.reverse hbs hk1 (fun p hp => hrs p (by simpa using hp)) 60 (by omega) _ 2 2000 t a hctr (by omega) hsz ht
  have e60 : (60 : Int) - ((60 : Nat) : Int) = 0 := rfl
  have e20 : ((2000 : Nat) : Int) = 2000 := rfl
  simp only [e60, e20, ms_eq, List.set_cons_succ, List.set_cons_zero] at hr
  have fin : ∀ (r : AV) (u : Tm) (e : Int) (o : AO), IsT r u → callW F 35 [.ptr 2 0, a] [.box a.cells, .box zeroC, .box [b, .v (.int .i64 2000), .v (.int .i64 0)]] = some (.tup [r, .v (.int .i64 e)], [.box a.cells, .box zeroC, o]) → callW F 15 [b, a] [] = some (.tup [r, .v (.int .i64 e)], []) := by
    intro r u e o hru hcall
    refine callW_pure (c := c15) rfl rfl 0 ?_
    have g1 := lvt hru
    have b1 := hbc.1
    cases hru
    cases ht
    simp only [AV.cells, zeroC] at hcall
    simp only [c15, start, List.replicate, c15_0, c15_1, c15_2, q9z, hcall, b1, e_callh, g1, e_bslice1, e_bslice2, bs1, bs2, e_build, bdH_some, bd_nil, bd_cons, bd1, cl_agg, cl_int, toL, List.map_cons, List.map_nil, putAt, List.set_cons_zero, List.set_cons_succ, and_self, Nat.le_refl, evStore, app_get, app_set, g_agg, run_nil, run_cons, stp_plain, stp_guard, put_some, pass_eq, pick_tt, pick_ff, pick_tf, pick_ft, pick_u, reg_some, thn_normal, thn_exit, thn_ret, cnd_t, cnd_f, blk_normal, blk_ret, blk_exit, x_seq, x_region, x_cond, x_block, x_loop, x_ret, x_exit, x_skip, e_mov, e_pick, pk_t, pk_f, withH_some, e_box, bx_some, e_load, e_store, stH_some, e_nil, e_bin, e_eqv, eqH_f, eqH_t, e_un, e_fa, e_ia, ia_eq, nat_eq, natV_nat, e_len, lnH_some, e_extract, ex_0, ex_1, e_call0, e_call1, e_call2, e_call3, pc0_eq, pc1_some, pc2_some, pc3_some, fin_some, g_var0, g_vars, g_loc0, g_locs, g_int, g_bool, g_str, g_sl, s_none, s_zero, s_succ, cl_nil, cl_str, cl_bool, cl_slc, cl_own, evFa, evNil, evLoad, asEl, evBin, intBin, strBin, evUn, len_nil, len_slc, len_str, clr, List.length_nil, List.length_cons, List.getElem?_cons_zero, List.getElem?_cons_succ, Nat.reduceAdd, Nat.zero_add, Nat.add_zero, Nat.reduceLeDiff, Nat.reduceSub, ↓reduceIte, List.drop_succ_cons, List.drop_zero, List.take_succ_cons, List.take_zero, Bool.false_eq_true, List.nil_append, List.cons_append, Bool.not_true, Bool.not_false, cond_true, cond_false, bne, lv_ret, lv_normal, res1, res2, lv2_some, res_var, res_cell, lvf_v, lvf_slc, res1c, lvo1_some, e_mm, mm_max, mm_min]
  simp only [resA]
  cases hres : resT bs.reverse 60 2000 t with
  | error e =>
    rw [hres] at hr
    obtain ⟨hne, r, l', d', hrr, hcall⟩ := hr
    exact ⟨r, hrr, fin r _ e _ hrr hcall⟩
  | ok q =>
    obtain ⟨x, m2⟩ := q
    rw [hres] at hr
    obtain ⟨_, r, hrr, hcall⟩ := hr
    exact ⟨r, hrr, fin r _ 0 _ hrr hcall⟩
end Go.AE.YtpgoibncgekflaaDoor
end

/-! Vars, and whether a number is among some. -/
section
set_option linter.unusedVariables false
set_option linter.unusedSimpArgs false
namespace Go.AE.YtpgoibncgekflaaDoor
open Go Go.AE Go.Proofs.YtpgoibncgekflaaDoor

def iv (n : Int) : AV := .v (.int .i64 n)
mutual
def placesT : Tm → List Int
  | .mk k _ n l => (if k = 1 then [n] else []) ++ placesL l
def placesL : List Tm → List Int
  | [] => []
  | t :: l => placesT t ++ placesL l
end
mutual
theorem places_len : ∀ t : Tm, (placesT t).length ≤ size t
  | .mk k s n l => by
    have := placesL_len l
    simp only [placesT, size, List.length_append]
    split <;> simp <;> omega
theorem placesL_len : ∀ l : List Tm, (placesL l).length ≤ sizeL l
  | [] => by simp [placesL, sizeL]
  | t :: l => by
    have := places_len t
    have := placesL_len l
    simp only [placesL, sizeL, List.length_append]; omega
end

/-! ### Has -/
def K38 : List Bool := [false, true, false, false, true, true, true, false, false]
def L38 (n : Int) (c : AV) (len i : Int) : List AV := [.junk, .v (.int .i64 n), .junk, .junk, c, .v (.int .i64 len), .v (.int .i64 i), .junk, .junk]
theorem has_loop {K : Nat} {c : AV} {es : List AV} (hs : Sl 1 c es) (hm : es.length ≤ 1000000) (n : Int) :
    ∀ (l : List Int) (i : Nat) (h : List AO) (vars : List AV), i + l.length = es.length → es.drop i = l.map iv → clr K38 vars = L38 n c es.length i →
      (l.contains n = true ∧ ∃ vs, loopN (exec (callW F) K c13_7) K38 (l.length + 1) vars h = some (.ret, vs, h) ∧ getO vs [] (.var 2) = .v (.bool true)) ∨ (l.contains n = false ∧ ∃ vs, loopN (exec (callW F) K c13_7) K38 (l.length + 1) vars h = some (.exit 0, vs, h) ∧ vs.length = 9) := by
  intro l
  induction l with
  | nil =>
    intro i h vars hi _ hv
    have hil : i = es.length := by simpa using hi
    subst hil
    have hlt : decide ((es.length : Int) < (es.length : Int)) = false := by simp
    refine .inr ⟨rfl, [.junk, .v (.int .i64 n), .junk, .junk, c, .v (.int .i64 es.length), .v (.int .i64 es.length), .v (.bool false), .junk], loop_exit ?_, rfl⟩
    rw [hv]
    simp only [L38, c13_7, c13_2, hlt, e_bslice1, e_bslice2, bs1, bs2, e_build, bdH_some, bd_nil, bd_cons, bd1, cl_agg, cl_int, toL, List.map_cons, List.map_nil, putAt, List.set_cons_zero, List.set_cons_succ, and_self, Nat.le_refl, app_get, app_set, g_agg, run_nil, run_cons, stp_plain, stp_guard, put_some, pass_eq, pick_tt, pick_ff, pick_tf, pick_ft, pick_u, reg_some, thn_normal, thn_exit, thn_ret, cnd_t, cnd_f, blk_normal, blk_ret, blk_exit, x_seq, x_region, x_cond, x_block, x_loop, x_ret, x_exit, x_skip, e_mov, e_pick, pk_t, pk_f, withH_some, e_box, bx_some, e_load, e_store, stH_some, e_nil, e_bin, e_eqv, eqH_f, eqH_t, e_un, e_fa, e_ia, ia_eq, nat_eq, natV_nat, e_len, lnH_some, e_extract, ex_0, ex_1, e_call0, e_call1, e_call2, e_call3, pc0_eq, pc1_some, pc2_some, pc3_some, fin_some, g_var0, g_vars, g_loc0, g_locs, g_int, g_bool, g_str, g_sl, s_none, s_zero, s_succ, AV.cl, evFa, evNil, evLoad, asEl, evBin, intBin, strBin, evUn, len_nil, len_slc, len_str, clr, List.length_nil, List.length_cons, List.getElem?_cons_zero, List.getElem?_cons_succ, Nat.reduceAdd, Nat.zero_add, Nat.add_zero, Nat.reduceLeDiff, Nat.reduceSub, ↓reduceIte, List.drop_succ_cons, List.drop_zero, List.take_succ_cons, List.take_zero, Bool.false_eq_true, List.nil_append, List.cons_append, Bool.not_true, Bool.not_false, cond_true, cond_false, bne, lv_ret, lv_normal, res1, res2, lv2_some, res_var, res_cell, lvf_v, lvf_slc, res1c, lvo1_some, e_mm, mm_max, mm_min]
  | cons k l ih =>
    intro i h vars hi hes hv
    have hil : i < es.length := by simp at hi; omega
    have he : es[i]? = some (iv k) := by
      have : (es.drop i)[0]? = some (iv k) := by rw [hes]; rfl
      simpa using this
    have hd : es.drop (i + 1) = l.map iv := by
      have h2 := congrArg List.tail hes
      simpa using h2
    have hlt : (decide ((i : Int) < (es.length : Int))) = true := by simp; omega
    have q1 := hs.ia he
    by_cases hk : n = k
    · left
      subst hk
      have he : ((n == n) : Bool) = true := by simp
      refine ⟨by simp, [.junk, .v (.int .i64 n), .v (.bool true), .v (.int .i64 n), c, .v (.int .i64 es.length), .v (.int .i64 i), .v (.bool true), .v (.bool true)], loop_ret ?_, rfl⟩
      rw [hv]
      simp only [L38, iv, AV.cells, c13_7, c13_2, c13_3, c13_4, c13_5, hlt, he, q1, e_bslice1, e_bslice2, bs1, bs2, e_build, bdH_some, bd_nil, bd_cons, bd1, cl_agg, cl_int, toL, List.map_cons, List.map_nil, putAt, List.set_cons_zero, List.set_cons_succ, and_self, Nat.le_refl, app_get, app_set, g_agg, run_nil, run_cons, stp_plain, stp_guard, put_some, pass_eq, pick_tt, pick_ff, pick_tf, pick_ft, pick_u, reg_some, thn_normal, thn_exit, thn_ret, cnd_t, cnd_f, blk_normal, blk_ret, blk_exit, x_seq, x_region, x_cond, x_block, x_loop, x_ret, x_exit, x_skip, e_mov, e_pick, pk_t, pk_f, withH_some, e_box, bx_some, e_load, e_store, stH_some, e_nil, e_bin, e_eqv, eqH_f, eqH_t, e_un, e_fa, e_ia, ia_eq, nat_eq, natV_nat, e_len, lnH_some, e_extract, ex_0, ex_1, e_call0, e_call1, e_call2, e_call3, pc0_eq, pc1_some, pc2_some, pc3_some, fin_some, g_var0, g_vars, g_loc0, g_locs, g_int, g_bool, g_str, g_sl, s_none, s_zero, s_succ, AV.cl, evFa, evNil, evLoad, asEl, evBin, intBin, strBin, evUn, len_nil, len_slc, len_str, clr, List.length_nil, List.length_cons, List.getElem?_cons_zero, List.getElem?_cons_succ, Nat.reduceAdd, Nat.zero_add, Nat.add_zero, Nat.reduceLeDiff, Nat.reduceSub, ↓reduceIte, List.drop_succ_cons, List.drop_zero, List.take_succ_cons, List.take_zero, Bool.false_eq_true, List.nil_append, List.cons_append, Bool.not_true, Bool.not_false, cond_true, cond_false, bne, lv_ret, lv_normal, res1, res2, lv2_some, res_var, res_cell, lvf_v, lvf_slc, res1c, lvo1_some, e_mm, mm_max, mm_min]
    · have he : ((k == n) : Bool) = false := by simpa using fun e => hk e.symm
      have st : exec (callW F) K c13_7 (L38 n c es.length i) h = some (.normal, [.junk, .v (.int .i64 n), .junk, .v (.int .i64 k), c, .v (.int .i64 es.length), .v (.int .i64 ((i + 1 : Nat) : Int)), .v (.bool true), .v (.bool false)], h) := by
        have : maxLen = 9223372036854775807 := rfl
        simp only [L38, iv, AV.cells, c13_7, c13_2, c13_3, c13_4, c13_6, hlt, he, wrap_succ hil (by omega), q1, e_bslice1, e_bslice2, bs1, bs2, e_build, bdH_some, bd_nil, bd_cons, bd1, cl_agg, cl_int, toL, List.map_cons, List.map_nil, putAt, List.set_cons_zero, List.set_cons_succ, and_self, Nat.le_refl, app_get, app_set, g_agg, run_nil, run_cons, stp_plain, stp_guard, put_some, pass_eq, pick_tt, pick_ff, pick_tf, pick_ft, pick_u, reg_some, thn_normal, thn_exit, thn_ret, cnd_t, cnd_f, blk_normal, blk_ret, blk_exit, x_seq, x_region, x_cond, x_block, x_loop, x_ret, x_exit, x_skip, e_mov, e_pick, pk_t, pk_f, withH_some, e_box, bx_some, e_load, e_store, stH_some, e_nil, e_bin, e_eqv, eqH_f, eqH_t, e_un, e_fa, e_ia, ia_eq, nat_eq, natV_nat, e_len, lnH_some, e_extract, ex_0, ex_1, e_call0, e_call1, e_call2, e_call3, pc0_eq, pc1_some, pc2_some, pc3_some, fin_some, g_var0, g_vars, g_loc0, g_locs, g_int, g_bool, g_str, g_sl, s_none, s_zero, s_succ, AV.cl, evFa, evNil, evLoad, asEl, evBin, intBin, strBin, evUn, len_nil, len_slc, len_str, clr, List.length_nil, List.length_cons, List.getElem?_cons_zero, List.getElem?_cons_succ, Nat.reduceAdd, Nat.zero_add, Nat.add_zero, Nat.reduceLeDiff, Nat.reduceSub, ↓reduceIte, List.drop_succ_cons, List.drop_zero, List.take_succ_cons, List.take_zero, Bool.false_eq_true, List.nil_append, List.cons_append, Bool.not_true, Bool.not_false, cond_true, cond_false, bne, lv_ret, lv_normal, res1, res2, lv2_some, res_var, res_cell, lvf_v, lvf_slc, res1c, lvo1_some, e_mm, mm_max, mm_min]
      rw [show (k :: l).length + 1 = (l.length + 1) + 1 from rfl, loop_normal (by rw [hv]; exact st)]
      have hc : (k :: l).contains n = l.contains n := by
        have : (n == k) = false := by simpa using hk
        rw [List.contains_cons, this, Bool.false_or]
      rw [hc]
      exact ih (i + 1) h _ (by simp at hi; omega) hd rfl
theorem has_ok {c : AV} {ns : List Int} (hs : Sl 1 c (ns.map iv)) (hm : ns.length ≤ 1000000) (n : Int) : callW F 13 [c, .v (.int .i64 n)] [] = some (.v (.bool (ns.contains n)), []) := by
  refine callW_pure (c := c13) rfl rfl (ns.length + 1) ?_
  have key := has_loop (K := ns.length + 1) hs (by simpa using hm) n ns 0 [] (L38 n c (ns.map iv).length (0 : Nat)) (by simp) rfl rfl
  show lv [.var 2] (exec (callW F) (ns.length + 1) (.seq (.region [] [] c13_0) (.seq (.seq (.region [] [] c13_1) (.block 0 (.loop K38 [] c13_7))) (.seq (.region [] [] c13_8) .ret))) _ _) = _
  generalize hrest : (CC.seq (.region [] [] c13_8) .ret) = rest
  simp only [c13, start, List.replicate, c13_0, c13_1, hs.len, e_bslice1, e_bslice2, bs1, bs2, e_build, bdH_some, bd_nil, bd_cons, bd1, cl_agg, cl_int, toL, List.map_cons, List.map_nil, putAt, List.set_cons_zero, List.set_cons_succ, and_self, Nat.le_refl, app_get, app_set, g_agg, run_nil, run_cons, stp_plain, stp_guard, put_some, pass_eq, pick_tt, pick_ff, pick_tf, pick_ft, pick_u, reg_some, thn_normal, thn_exit, thn_ret, cnd_t, cnd_f, blk_normal, blk_ret, blk_exit, x_seq, x_region, x_cond, x_block, x_loop, x_ret, x_exit, x_skip, e_mov, e_pick, pk_t, pk_f, withH_some, e_box, bx_some, e_load, e_store, stH_some, e_nil, e_bin, e_eqv, eqH_f, eqH_t, e_un, e_fa, e_ia, ia_eq, nat_eq, natV_nat, e_len, lnH_some, e_extract, ex_0, ex_1, e_call0, e_call1, e_call2, e_call3, pc0_eq, pc1_some, pc2_some, pc3_some, fin_some, g_var0, g_vars, g_loc0, g_locs, g_int, g_bool, g_str, g_sl, s_none, s_zero, s_succ, AV.cl, evFa, evNil, evLoad, asEl, evBin, intBin, strBin, evUn, len_nil, len_slc, len_str, clr, List.length_nil, List.length_cons, List.getElem?_cons_zero, List.getElem?_cons_succ, Nat.reduceAdd, Nat.zero_add, Nat.add_zero, Nat.reduceLeDiff, Nat.reduceSub, ↓reduceIte, List.drop_succ_cons, List.drop_zero, List.take_succ_cons, List.take_zero, Bool.false_eq_true, List.nil_append, List.cons_append, Bool.not_true, Bool.not_false, cond_true, cond_false, bne, lv_ret, lv_normal, res1, res2, lv2_some, res_var, res_cell, lvf_v, lvf_slc, res1c, lvo1_some, e_mm, mm_max, mm_min]
  rw [loop_cong (v2 := L38 n c (ns.map iv).length ((0 : Nat) : Int)) (by rfl)]
  rcases key with ⟨h0, vs, h1, h2⟩ | ⟨h0, vs, h1, h2⟩
  · rw [h1, h0]
    simp only [blk_ret, thn_ret, h2, run_nil, run_cons, stp_plain, stp_guard, put_some, pass_eq, pick_tt, pick_ff, pick_tf, pick_ft, pick_u, reg_some, thn_normal, thn_exit, thn_ret, cnd_t, cnd_f, blk_normal, blk_ret, blk_exit, x_seq, x_region, x_cond, x_block, x_loop, x_ret, x_exit, x_skip, e_mov, e_pick, pk_t, pk_f, withH_some, e_box, bx_some, e_load, e_store, stH_some, e_nil, e_bin, e_eqv, eqH_f, eqH_t, e_un, e_fa, e_ia, ia_eq, nat_eq, natV_nat, e_len, lnH_some, e_extract, ex_0, ex_1, e_call0, e_call1, e_call2, e_call3, pc0_eq, pc1_some, pc2_some, pc3_some, fin_some, g_var0, g_vars, g_loc0, g_locs, g_int, g_bool, g_str, g_sl, s_none, s_zero, s_succ, AV.cl, evFa, evNil, evLoad, asEl, evBin, intBin, strBin, evUn, len_nil, len_slc, len_str, clr, List.length_nil, List.length_cons, List.getElem?_cons_zero, List.getElem?_cons_succ, Nat.reduceAdd, Nat.zero_add, Nat.add_zero, Nat.reduceLeDiff, Nat.reduceSub, ↓reduceIte, List.drop_succ_cons, List.drop_zero, List.take_succ_cons, List.take_zero, Bool.false_eq_true, List.nil_append, List.cons_append, Bool.not_true, Bool.not_false, cond_true, cond_false, bne, lv_ret, lv_normal, res1, res2, lv2_some, res_var, res_cell, lvf_v, lvf_slc, res1c, lvo1_some, e_mm, mm_max, mm_min]
  · rw [h1, h0, ← hrest]
    match vs, h2 with
    | [a0, a1, a2, a3, a4, a5, a6, a7, a8], _ => simp only [c13_8, run_nil, run_cons, stp_plain, stp_guard, put_some, pass_eq, pick_tt, pick_ff, pick_tf, pick_ft, pick_u, reg_some, thn_normal, thn_exit, thn_ret, cnd_t, cnd_f, blk_normal, blk_ret, blk_exit, x_seq, x_region, x_cond, x_block, x_loop, x_ret, x_exit, x_skip, e_mov, e_pick, pk_t, pk_f, withH_some, e_box, bx_some, e_load, e_store, stH_some, e_nil, e_bin, e_eqv, eqH_f, eqH_t, e_un, e_fa, e_ia, ia_eq, nat_eq, natV_nat, e_len, lnH_some, e_extract, ex_0, ex_1, e_call0, e_call1, e_call2, e_call3, pc0_eq, pc1_some, pc2_some, pc3_some, fin_some, g_var0, g_vars, g_loc0, g_locs, g_int, g_bool, g_str, g_sl, s_none, s_zero, s_succ, AV.cl, evFa, evNil, evLoad, asEl, evBin, intBin, strBin, evUn, len_nil, len_slc, len_str, clr, List.length_nil, List.length_cons, List.getElem?_cons_zero, List.getElem?_cons_succ, Nat.reduceAdd, Nat.zero_add, Nat.add_zero, Nat.reduceLeDiff, Nat.reduceSub, ↓reduceIte, List.drop_succ_cons, List.drop_zero, List.take_succ_cons, List.take_zero, Bool.false_eq_true, List.nil_append, List.cons_append, Bool.not_true, Bool.not_false, cond_true, cond_false, bne, lv_ret, lv_normal, res1, res2, lv2_some, res_var, res_cell, lvf_v, lvf_slc, res1c, lvo1_some, e_mm, mm_max, mm_min]

/-! ### The places -/
def K37 : List Bool := [false, false, false, true, false, false, true, true, true, false]
def L37 (acc c : AV) (len i : Int) : List AV := [.junk, .junk, .junk, acc, .junk, .junk, c, .v (.int .i64 len), .v (.int .i64 i), .junk]
theorem places_loop {K : Nat} {c : AV} {es : List AV} (hs : Sl 4 c es) (hm : es.length ≤ 100000) :
    ∀ (l : List Tm) (i : Nat) (acc : AV) (p : List Int) (h : List AO) (vars : List AV), i + l.length = es.length → p.length + sizeL l ≤ 1000000 → All2 (es.drop i) l → (∀ t ∈ l, ∀ (e : AV), IsT e t → ∃ r, Sl 1 r ((placesT t).map iv) ∧ callW F 34 [e] [] = some (r, [])) →
      Acc 1 h acc (p.map iv) → clr K37 vars = L37 acc c es.length i →
      ∃ acc' h' x4 x5 x9, loopN (exec (callW F) K c34_9) K37 (l.length + 1) vars h = some (.exit 0, [.junk, .junk, .junk, acc', x4, x5, c, .v (.int .i64 es.length), .v (.int .i64 es.length), x9], h') ∧ Acc 1 h' acc' ((p ++ placesL l).map iv) := by
  intro l
  induction l with
  | nil =>
    intro i acc p h vars hi hp _ _ ha hv
    have hil : i = es.length := by simpa using hi
    subst hil
    have hlt : decide ((es.length : Int) < (es.length : Int)) = false := by simp
    refine ⟨acc, h, .junk, .junk, .v (.bool false), loop_exit ?_, by simpa [placesL] using ha⟩
    rw [hv]
    simp only [L37, c34_9, c34_5, hlt, e_bslice1, e_bslice2, bs1, bs2, e_build, bdH_some, bd_nil, bd_cons, bd1, cl_agg, cl_int, toL, List.map_cons, List.map_nil, putAt, List.set_cons_zero, List.set_cons_succ, and_self, Nat.le_refl, app_get, app_set, g_agg, run_nil, run_cons, stp_plain, stp_guard, put_some, pass_eq, pick_tt, pick_ff, pick_tf, pick_ft, pick_u, reg_some, thn_normal, thn_exit, thn_ret, cnd_t, cnd_f, blk_normal, blk_ret, blk_exit, x_seq, x_region, x_cond, x_block, x_loop, x_ret, x_exit, x_skip, e_mov, e_pick, pk_t, pk_f, withH_some, e_box, bx_some, e_load, e_store, stH_some, e_nil, e_bin, e_eqv, eqH_f, eqH_t, e_un, e_fa, e_ia, ia_eq, nat_eq, natV_nat, e_len, lnH_some, e_extract, ex_0, ex_1, e_call0, e_call1, e_call2, e_call3, pc0_eq, pc1_some, pc2_some, pc3_some, fin_some, g_var0, g_vars, g_loc0, g_locs, g_int, g_bool, g_str, g_sl, s_none, s_zero, s_succ, cl_nil, cl_str, cl_bool, cl_slc, cl_own, evFa, evNil, asEl, evBin, intBin, strBin, evUn, len_nil, len_slc, len_str, clr, List.length_nil, List.length_cons, List.getElem?_cons_zero, List.getElem?_cons_succ, Nat.reduceAdd, Nat.zero_add, Nat.add_zero, Nat.reduceLeDiff, Nat.reduceSub, ↓reduceIte, List.drop_succ_cons, List.drop_zero, List.take_succ_cons, List.take_zero, Bool.false_eq_true, List.nil_append, List.cons_append, Bool.not_true, Bool.not_false, cond_true, cond_false, bne, lv_ret, lv_normal, res1, res2, lv2_some, res_var, res_cell, lvf_v, lvf_slc, res1c, lvo1_some, e_mm, mm_max, mm_min]
  | cons t l ih =>
    intro i acc p h vars hi hp hes hcall ha hv
    have hil : i < es.length := by simp at hi; omega
    have he : es[i]? = some (es[i]'hil) := List.getElem?_eq_getElem _
    have hd : es.drop i = es[i] :: es.drop (i + 1) := List.drop_eq_getElem_cons hil
    rw [hd] at hes
    generalize es[i]'hil = e at hes he
    cases hes with
    | cons _ _ _ _ hT hs' =>
    obtain ⟨r, hr, hc⟩ := hcall t (by simp) _ hT
    have hpl := places_len t
    simp only [sizeL] at hp
    obtain ⟨acc', h2, h3, h4, h5⟩ := (ha.app (.box e.cells)).add (x := r) (bytes := 8) (hr.elems _) (by
      have : room = 140737488355328 := rfl
      simp only [fits, List.length_map, decide_eq_true_eq]; omega)
    have hlt : (decide ((i : Int) < (es.length : Int))) = true := by simp; omega
    have q1 := hs.ia he
    have q3 : ∀ h : List AO, evLoad h true 4 (.ip e.cells) = some e := fun h => hT.load
    have q5 : ∀ h : List AO, e.snap1 h = some e := fun h => hT.snap
    have st : exec (callW F) K c34_9 (L37 acc c es.length i) h = some (.normal, [.junk, .junk, .junk, acc', .ptr h.length 0, .junk, c, .v (.int .i64 es.length), .v (.int .i64 ((i + 1 : Nat) : Int)), .v (.bool true)], h2) := by
      have hz : ([.v (.int .i64 0), .v (.string ⟨#[]⟩), .v (.int .i64 0), .v (.slice none 0 0)] : List AV).length = 4 := rfl
      simp only [L37, c34_9, c34_5, c34_6, c34_7, c34_8, hlt, wrap_succ hil (small_max hm), q1, q3, q5, hc, h3, hT.st _ _ hz, hT.ld, q9z, e_append, e_bslice1, e_bslice2, bs1, bs2, e_build, bdH_some, bd_nil, bd_cons, bd1, cl_agg, cl_int, toL, List.map_cons, List.map_nil, putAt, List.set_cons_zero, List.set_cons_succ, and_self, Nat.le_refl, app_get, app_set, g_agg, run_nil, run_cons, stp_plain, stp_guard, put_some, pass_eq, pick_tt, pick_ff, pick_tf, pick_ft, pick_u, reg_some, thn_normal, thn_exit, thn_ret, cnd_t, cnd_f, blk_normal, blk_ret, blk_exit, x_seq, x_region, x_cond, x_block, x_loop, x_ret, x_exit, x_skip, e_mov, e_pick, pk_t, pk_f, withH_some, e_box, bx_some, e_load, e_store, stH_some, e_nil, e_bin, e_eqv, eqH_f, eqH_t, e_un, e_fa, e_ia, ia_eq, nat_eq, natV_nat, e_len, lnH_some, e_extract, ex_0, ex_1, e_call0, e_call1, e_call2, e_call3, pc0_eq, pc1_some, pc2_some, pc3_some, fin_some, g_var0, g_vars, g_loc0, g_locs, g_int, g_bool, g_str, g_sl, s_none, s_zero, s_succ, cl_nil, cl_str, cl_bool, cl_slc, cl_own, evFa, evNil, asEl, evBin, intBin, strBin, evUn, len_nil, len_slc, len_str, clr, List.length_nil, List.length_cons, List.getElem?_cons_zero, List.getElem?_cons_succ, Nat.reduceAdd, Nat.zero_add, Nat.add_zero, Nat.reduceLeDiff, Nat.reduceSub, ↓reduceIte, List.drop_succ_cons, List.drop_zero, List.take_succ_cons, List.take_zero, Bool.false_eq_true, List.nil_append, List.cons_append, Bool.not_true, Bool.not_false, cond_true, cond_false, bne, lv_ret, lv_normal, res1, res2, lv2_some, res_var, res_cell, lvf_v, lvf_slc, res1c, lvo1_some, e_mm, mm_max, mm_min]
    rw [show (t :: l).length + 1 = (l.length + 1) + 1 from rfl, loop_normal (by rw [hv]; exact st)]
    rw [← List.map_append] at h4
    obtain ⟨acc'', h', x4, x5, x9, g1, g2⟩ := ih (i + 1) acc' (p ++ placesT t) h2 [.junk, .junk, .junk, acc', .ptr h.length 0, .junk, c, .v (.int .i64 es.length), .v (.int .i64 ((i + 1 : Nat) : Int)), .v (.bool true)] (by simp at hi; omega) (by rw [List.length_append]; omega) hs' (fun t ht => hcall t (by simp [ht])) h4 rfl
    refine ⟨acc'', h', x4, x5, x9, g1, ?_⟩
    rw [placesL, ← List.append_assoc]
    exact g2

theorem places_ok : ∀ (N : Nat) (t : Tm) (a : AV), SizeOf.sizeOf t < N → size t ≤ 100000 → IsT a t → ∃ r, Sl 1 r ((placesT t).map iv) ∧ callW F 34 [a] [] = some (r, []) := by
  intro N
  induction N with
  | zero => intro t a h; omega
  | succ N ih =>
    intro t a hN hsz ha
    cases ha with
    | mk k s n c l hc =>
    have h5 := Tm.mk.sizeOf_spec k s n l
    simp only [size] at hsz
    have hll := sizeL_len l
    have hcall : ∀ t ∈ l, ∀ (e : AV), IsT e t → ∃ r, Sl 1 r ((placesT t).map iv) ∧ callW F 34 [e] [] = some (r, []) := by
      intro t ht e hT
      have h6 := List.sizeOf_lt_of_mem ht
      have h7 := size_mem ht
      exact ih t e (by omega) (by omega) hT
    obtain ⟨es, hs, hes, hm⟩ := hc.sl
    have e1 := hes.length
    have key : ∀ (p : List Int) (acc : AV) (h : List AO), p.length ≤ 10 → Acc 1 h acc (p.map iv) → ∃ acc' h' x4 x5 x9, loopN (exec (callW F) (l.length + 1) c34_9) K37 (l.length + 1) (L37 acc c es.length (0 : Nat)) h = some (.exit 0, [.junk, .junk, .junk, acc', x4, x5, c, .v (.int .i64 es.length), .v (.int .i64 es.length), x9], h') ∧ Acc 1 h' acc' ((p ++ placesL l).map iv) :=
      fun p acc h hp ha => places_loop (K := l.length + 1) hs (by omega) l 0 acc p h (L37 acc c es.length (0 : Nat)) (by omega) (by omega) (by simpa using hes) hcall ha rfl
    by_cases hk : k = 1
    · have h1 : (k == 1) = true := by simpa using hk
      have hap : evAppend [.box [.v (.int .i64 k), .v (.string s), .v (.int .i64 n), c]] 1 8 (.v (.slice none 0 0)) (.slc 1 true true [.v (.int .i64 n)]) = some (.own 1 1 0 0 1, [.box [.v (.int .i64 k), .v (.string s), .v (.int .i64 n), c], .row 1 0 [.v (.int .i64 n)] 0]) := ap_new (h := [.box [.v (.int .i64 k), .v (.string s), .v (.int .i64 n), c]]) (by simp) (by simp only [List.length_cons, List.length_nil]; decide)
      obtain ⟨acc', h', x4, x5, x9, g1, g2⟩ := key [n] (.own 1 1 0 0 1) [.box [.v (.int .i64 k), .v (.string s), .v (.int .i64 n), c], .row 1 0 [.v (.int .i64 n)] 0] (by simp) (.own 1 0 0 [.v (.int .i64 n)] rfl (by simp) (by simp))
      obtain ⟨r, g3, g4⟩ := g2.lvf
      refine ⟨r, by rw [placesT, if_pos hk]; exact g4, callW_pure (c := c34) rfl rfl (l.length + 1) ?_⟩
      show lv [.var 2] (exec (callW F) (l.length + 1) (.seq (.region [] [] c34_0) (.seq (.region [] [] c34_1) (.seq (.seq (.region [] [] c34_2) (.cond (.var 5) (.region [] [] c34_3) .skip)) (.seq (.seq (.region [] [] c34_4) (.block 0 (.loop K37 [] c34_9))) (.seq (.region [] [] c34_10) .ret))))) _ _) = _
      generalize hrest : (CC.seq (.region [] [] c34_10) .ret) = rest
      simp only [c34, start, List.replicate, c34_0, c34_1, c34_2, c34_3, c34_4, h1, hs.len, hap, snapv, bs1_some (y := .v (.int .i64 n)) (sz := 1) cl_int rfl, e_append, q9z, evStore, e_bslice1, e_bslice2, bs1, bs2, e_build, bdH_some, bd_nil, bd_cons, bd1, cl_agg, cl_int, toL, List.map_cons, List.map_nil, putAt, List.set_cons_zero, List.set_cons_succ, and_self, Nat.le_refl, evStore, app_get, app_set, g_agg, run_nil, run_cons, stp_plain, stp_guard, put_some, pass_eq, pick_tt, pick_ff, pick_tf, pick_ft, pick_u, reg_some, thn_normal, thn_exit, thn_ret, cnd_t, cnd_f, blk_normal, blk_ret, blk_exit, x_seq, x_region, x_cond, x_block, x_loop, x_ret, x_exit, x_skip, e_mov, e_pick, pk_t, pk_f, withH_some, e_box, bx_some, e_load, e_store, stH_some, e_nil, e_bin, e_eqv, eqH_f, eqH_t, e_un, e_fa, e_ia, ia_eq, nat_eq, natV_nat, e_len, lnH_some, e_extract, ex_0, ex_1, e_call0, e_call1, e_call2, e_call3, pc0_eq, pc1_some, pc2_some, pc3_some, fin_some, g_var0, g_vars, g_loc0, g_locs, g_int, g_bool, g_str, g_sl, s_none, s_zero, s_succ, cl_nil, cl_str, cl_bool, cl_slc, cl_own, evFa, evNil, evLoad, asEl, evBin, intBin, strBin, evUn, len_nil, len_slc, len_str, clr, List.length_nil, List.length_cons, List.getElem?_cons_zero, List.getElem?_cons_succ, Nat.reduceAdd, Nat.zero_add, Nat.add_zero, Nat.reduceLeDiff, Nat.reduceSub, ↓reduceIte, List.drop_succ_cons, List.drop_zero, List.take_succ_cons, List.take_zero, Bool.false_eq_true, List.nil_append, List.cons_append, Bool.not_true, Bool.not_false, cond_true, cond_false, bne, lv_ret, lv_normal, res1, res2, lv2_some, res_var, res_cell, lvf_v, lvf_slc, res1c, lvo1_some, e_mm, mm_max, mm_min]
      rw [loop_cong (v2 := L37 (.own 1 1 0 0 1) c es.length ((0 : Nat) : Int)) (by rfl), g1, ← hrest]
      simp only [blk_exit, thn_normal, c34_10, g3, run_nil, run_cons, stp_plain, stp_guard, put_some, pass_eq, pick_tt, pick_ff, pick_tf, pick_ft, pick_u, reg_some, thn_normal, thn_exit, thn_ret, cnd_t, cnd_f, blk_normal, blk_ret, blk_exit, x_seq, x_region, x_cond, x_block, x_loop, x_ret, x_exit, x_skip, e_mov, e_pick, pk_t, pk_f, withH_some, e_box, bx_some, e_load, e_store, stH_some, e_nil, e_bin, e_eqv, eqH_f, eqH_t, e_un, e_fa, e_ia, ia_eq, nat_eq, natV_nat, e_len, lnH_some, e_extract, ex_0, ex_1, e_call0, e_call1, e_call2, e_call3, pc0_eq, pc1_some, pc2_some, pc3_some, fin_some, g_var0, g_vars, g_loc0, g_locs, g_int, g_bool, g_str, g_sl, s_none, s_zero, s_succ, cl_nil, cl_str, cl_bool, cl_slc, cl_own, evFa, evNil, asEl, evBin, intBin, strBin, evUn, len_nil, len_slc, len_str, clr, List.length_nil, List.length_cons, List.getElem?_cons_zero, List.getElem?_cons_succ, Nat.reduceAdd, Nat.zero_add, Nat.add_zero, Nat.reduceLeDiff, Nat.reduceSub, ↓reduceIte, List.drop_succ_cons, List.drop_zero, List.take_succ_cons, List.take_zero, Bool.false_eq_true, List.nil_append, List.cons_append, Bool.not_true, Bool.not_false, cond_true, cond_false, bne, lv_ret, lv_normal, res1, res2, lv2_some, res_var, res_cell, lvf_v, lvf_slc, res1c, lvo1_some, e_mm, mm_max, mm_min]
    · have h1 : (k == 1) = false := by simpa using hk
      obtain ⟨acc', h', x4, x5, x9, g1, g2⟩ := key [] (.v (.slice none 0 0)) [.box [.v (.int .i64 k), .v (.string s), .v (.int .i64 n), c]] (by simp) .nil
      obtain ⟨r, g3, g4⟩ := g2.lvf
      refine ⟨r, by rw [placesT, if_neg hk]; exact g4, callW_pure (c := c34) rfl rfl (l.length + 1) ?_⟩
      show lv [.var 2] (exec (callW F) (l.length + 1) (.seq (.region [] [] c34_0) (.seq (.region [] [] c34_1) (.seq (.seq (.region [] [] c34_2) (.cond (.var 5) (.region [] [] c34_3) .skip)) (.seq (.seq (.region [] [] c34_4) (.block 0 (.loop K37 [] c34_9))) (.seq (.region [] [] c34_10) .ret))))) _ _) = _
      generalize hrest : (CC.seq (.region [] [] c34_10) .ret) = rest
      simp only [c34, start, List.replicate, c34_0, c34_1, c34_2, c34_4, h1, hs.len, evStore, e_bslice1, e_bslice2, bs1, bs2, e_build, bdH_some, bd_nil, bd_cons, bd1, cl_agg, cl_int, toL, List.map_cons, List.map_nil, putAt, List.set_cons_zero, List.set_cons_succ, and_self, Nat.le_refl, evStore, app_get, app_set, g_agg, run_nil, run_cons, stp_plain, stp_guard, put_some, pass_eq, pick_tt, pick_ff, pick_tf, pick_ft, pick_u, reg_some, thn_normal, thn_exit, thn_ret, cnd_t, cnd_f, blk_normal, blk_ret, blk_exit, x_seq, x_region, x_cond, x_block, x_loop, x_ret, x_exit, x_skip, e_mov, e_pick, pk_t, pk_f, withH_some, e_box, bx_some, e_load, e_store, stH_some, e_nil, e_bin, e_eqv, eqH_f, eqH_t, e_un, e_fa, e_ia, ia_eq, nat_eq, natV_nat, e_len, lnH_some, e_extract, ex_0, ex_1, e_call0, e_call1, e_call2, e_call3, pc0_eq, pc1_some, pc2_some, pc3_some, fin_some, g_var0, g_vars, g_loc0, g_locs, g_int, g_bool, g_str, g_sl, s_none, s_zero, s_succ, cl_nil, cl_str, cl_bool, cl_slc, cl_own, evFa, evNil, evLoad, asEl, evBin, intBin, strBin, evUn, len_nil, len_slc, len_str, clr, List.length_nil, List.length_cons, List.getElem?_cons_zero, List.getElem?_cons_succ, Nat.reduceAdd, Nat.zero_add, Nat.add_zero, Nat.reduceLeDiff, Nat.reduceSub, ↓reduceIte, List.drop_succ_cons, List.drop_zero, List.take_succ_cons, List.take_zero, Bool.false_eq_true, List.nil_append, List.cons_append, Bool.not_true, Bool.not_false, cond_true, cond_false, bne, lv_ret, lv_normal, res1, res2, lv2_some, res_var, res_cell, lvf_v, lvf_slc, res1c, lvo1_some, e_mm, mm_max, mm_min]
      rw [loop_cong (v2 := L37 (.v (.slice none 0 0)) c es.length ((0 : Nat) : Int)) (by rfl), g1, ← hrest]
      simp only [blk_exit, thn_normal, c34_10, g3, run_nil, run_cons, stp_plain, stp_guard, put_some, pass_eq, pick_tt, pick_ff, pick_tf, pick_ft, pick_u, reg_some, thn_normal, thn_exit, thn_ret, cnd_t, cnd_f, blk_normal, blk_ret, blk_exit, x_seq, x_region, x_cond, x_block, x_loop, x_ret, x_exit, x_skip, e_mov, e_pick, pk_t, pk_f, withH_some, e_box, bx_some, e_load, e_store, stH_some, e_nil, e_bin, e_eqv, eqH_f, eqH_t, e_un, e_fa, e_ia, ia_eq, nat_eq, natV_nat, e_len, lnH_some, e_extract, ex_0, ex_1, e_call0, e_call1, e_call2, e_call3, pc0_eq, pc1_some, pc2_some, pc3_some, fin_some, g_var0, g_vars, g_loc0, g_locs, g_int, g_bool, g_str, g_sl, s_none, s_zero, s_succ, cl_nil, cl_str, cl_bool, cl_slc, cl_own, evFa, evNil, asEl, evBin, intBin, strBin, evUn, len_nil, len_slc, len_str, clr, List.length_nil, List.length_cons, List.getElem?_cons_zero, List.getElem?_cons_succ, Nat.reduceAdd, Nat.zero_add, Nat.add_zero, Nat.reduceLeDiff, Nat.reduceSub, ↓reduceIte, List.drop_succ_cons, List.drop_zero, List.take_succ_cons, List.take_zero, Bool.false_eq_true, List.nil_append, List.cons_append, Bool.not_true, Bool.not_false, cond_true, cond_false, bne, lv_ret, lv_normal, res1, res2, lv2_some, res_var, res_cell, lvf_v, lvf_slc, res1c, lvo1_some, e_mm, mm_max, mm_min]

/-! ### Vars -/
def addNew (p : List Int) (n : Int) : List Int := if p.contains n then p else p ++ [n]
def varsT (t : Tm) : List Int := (placesT t).foldl addNew []
def K19 : List Bool := [false, false, false, true, false, true, true, true, false, false]
def L19 (acc c : AV) (len i : Int) : List AV := [.junk, .junk, .junk, acc, .junk, c, .v (.int .i64 len), .v (.int .i64 i), .junk, .junk]
end Go.AE.YtpgoibncgekflaaDoor
end

/-! Vars walked. -/
section
set_option linter.unusedVariables false
set_option linter.unusedSimpArgs false
namespace Go.AE.YtpgoibncgekflaaDoor
open Go Go.AE Go.Proofs.YtpgoibncgekflaaDoor

theorem addNew_len (p : List Int) (n : Int) : (addNew p n).length ≤ p.length + 1 := by
  simp only [addNew]; split <;> simp
theorem foldNew_len : ∀ (l p : List Int), (l.foldl addNew p).length ≤ p.length + l.length
  | [], p => by simp
  | n :: l, p => by
    have := foldNew_len l (addNew p n)
    have := addNew_len p n
    simp only [List.foldl_cons, List.length_cons]; omega

theorem vars_loop {K : Nat} {c : AV} {es : List AV} (hs : Sl 1 c es) (hm : es.length ≤ 100000) :
    ∀ (l : List Int) (i : Nat) (acc : AV) (p : List Int) (h : List AO) (vars : List AV), i + l.length = es.length → p.length ≤ i → es.drop i = l.map iv →
      Acc 1 h acc (p.map iv) → clr K19 vars = L19 acc c es.length i →
      ∃ acc' h' x4 x8 x9, loopN (exec (callW F) K c14_8) K19 (l.length + 1) vars h = some (.exit 0, [.junk, .junk, .junk, acc', x4, c, .v (.int .i64 es.length), .v (.int .i64 es.length), x8, x9], h') ∧ Acc 1 h' acc' ((l.foldl addNew p).map iv) := by
  intro l
  induction l with
  | nil =>
    intro i acc p h vars hi hp _ ha hv
    have hil : i = es.length := by simpa using hi
    subst hil
    have hlt : decide ((es.length : Int) < (es.length : Int)) = false := by simp
    refine ⟨acc, h, .junk, .v (.bool false), .junk, loop_exit ?_, ha⟩
    rw [hv]
    simp only [L19, c14_8, c14_3, hlt, e_bslice1, e_bslice2, bs1, bs2, e_build, bdH_some, bd_nil, bd_cons, bd1, cl_agg, cl_int, toL, List.map_cons, List.map_nil, putAt, List.set_cons_zero, List.set_cons_succ, and_self, Nat.le_refl, app_get, app_set, g_agg, run_nil, run_cons, stp_plain, stp_guard, put_some, pass_eq, pick_tt, pick_ff, pick_tf, pick_ft, pick_u, reg_some, thn_normal, thn_exit, thn_ret, cnd_t, cnd_f, blk_normal, blk_ret, blk_exit, x_seq, x_region, x_cond, x_block, x_loop, x_ret, x_exit, x_skip, e_mov, e_pick, pk_t, pk_f, withH_some, e_box, bx_some, e_load, e_store, stH_some, e_nil, e_bin, e_eqv, eqH_f, eqH_t, e_un, e_fa, e_ia, ia_eq, nat_eq, natV_nat, e_len, lnH_some, e_extract, ex_0, ex_1, e_call0, e_call1, e_call2, e_call3, pc0_eq, pc1_some, pc2_some, pc3_some, fin_some, g_var0, g_vars, g_loc0, g_locs, g_int, g_bool, g_str, g_sl, s_none, s_zero, s_succ, cl_nil, cl_str, cl_bool, cl_slc, cl_own, evFa, evNil, asEl, evBin, intBin, strBin, evUn, len_nil, len_slc, len_str, clr, List.length_nil, List.length_cons, List.getElem?_cons_zero, List.getElem?_cons_succ, Nat.reduceAdd, Nat.zero_add, Nat.add_zero, Nat.reduceLeDiff, Nat.reduceSub, ↓reduceIte, List.drop_succ_cons, List.drop_zero, List.take_succ_cons, List.take_zero, Bool.false_eq_true, List.nil_append, List.cons_append, Bool.not_true, Bool.not_false, cond_true, cond_false, bne, lv_ret, lv_normal, res1, res2, lv2_some, res_var, res_cell, lvf_v, lvf_slc, res1c, lvo1_some, e_mm, mm_max, mm_min]
  | cons n l ih =>
    intro i acc p h vars hi hp hes ha hv
    have hil : i < es.length := by simp at hi; omega
    have he : es[i]? = some (iv n) := by
      have : (es.drop i)[0]? = some (iv n) := by rw [hes]; rfl
      simpa using this
    have hd : es.drop (i + 1) = l.map iv := by
      have h2 := congrArg List.tail hes
      simpa using h2
    have hlt : (decide ((i : Int) < (es.length : Int))) = true := by simp; omega
    have q1 := hs.ia he
    obtain ⟨f1, f2, c', f3, f4⟩ := ha.fix
    have hc := has_ok f4 (by omega) n
    have hmax : es.length ≤ maxLen := small_max hm
    rw [show (n :: l).length + 1 = (l.length + 1) + 1 from rfl, List.foldl_cons]
    cases hh : p.contains n with
    | true =>
      rw [hh] at hc
      have st : exec (callW F) K c14_8 (L19 acc c es.length i) h = some (.normal, [.junk, .junk, .junk, acc, .v (.int .i64 n), c, .v (.int .i64 es.length), .v (.int .i64 ((i + 1 : Nat) : Int)), .v (.bool true), .v (.bool false)], raise1 h acc) := by
        have q3 : ∀ h, evLoad h false 1 (.ip [.v (.int .i64 n)]) = some (.v (.int .i64 n)) := fun _ => rfl
        simp only [L19, iv, AV.cells, x_region_m, marked_eq, marked, List.foldl_cons, List.foldl_nil, doMark, List.getD_cons_zero, List.getD_cons_succ, c14_8, c14_3, c14_4, c14_5, c14_7, hlt, wrap_succ hil hmax, q1, q3, f3, hc, snapv, e_bslice1, e_bslice2, bs1, bs2, e_build, bdH_some, bd_nil, bd_cons, bd1, cl_agg, cl_int, toL, List.map_cons, List.map_nil, putAt, List.set_cons_zero, List.set_cons_succ, and_self, Nat.le_refl, app_get, app_set, g_agg, run_nil, run_cons, stp_plain, stp_guard, put_some, pass_eq, pick_tt, pick_ff, pick_tf, pick_ft, pick_u, reg_some, thn_normal, thn_exit, thn_ret, cnd_t, cnd_f, blk_normal, blk_ret, blk_exit, x_seq, x_region, x_cond, x_block, x_loop, x_ret, x_exit, x_skip, e_mov, e_pick, pk_t, pk_f, withH_some, e_box, bx_some, e_load, e_store, stH_some, e_nil, e_bin, e_eqv, eqH_f, eqH_t, e_un, e_fa, e_ia, ia_eq, nat_eq, natV_nat, e_len, lnH_some, e_extract, ex_0, ex_1, e_call0, e_call1, e_call2, e_call3, pc0_eq, pc1_some, pc2_some, pc3_some, fin_some, g_var0, g_vars, g_loc0, g_locs, g_int, g_bool, g_str, g_sl, s_none, s_zero, s_succ, cl_nil, cl_str, cl_bool, cl_slc, cl_own, evFa, evNil, asEl, evBin, intBin, strBin, evUn, len_nil, len_slc, len_str, clr, List.length_nil, List.length_cons, List.getElem?_cons_zero, List.getElem?_cons_succ, Nat.reduceAdd, Nat.zero_add, Nat.add_zero, Nat.reduceLeDiff, Nat.reduceSub, ↓reduceIte, List.drop_succ_cons, List.drop_zero, List.take_succ_cons, List.take_zero, Bool.false_eq_true, List.nil_append, List.cons_append, Bool.not_true, Bool.not_false, cond_true, cond_false, bne, lv_ret, lv_normal, res1, res2, lv2_some, res_var, res_cell, lvf_v, lvf_slc, res1c, lvo1_some, e_mm, mm_max, mm_min]
      rw [loop_normal (by rw [hv]; exact st)]
      have e : addNew p n = p := by simp only [addNew, hh, if_true]
      rw [e]
      exact ih (i + 1) acc p _ _ (by simp at hi; omega) (by omega) hd f1 rfl
    | false =>
      rw [hh] at hc
      have q3 : ∀ h, evLoad h false 1 (.ip [.v (.int .i64 n)]) = some (.v (.int .i64 n)) := fun _ => rfl
      obtain ⟨acc', h2, h3, h4, h5⟩ := f1.add (x := .slc 1 true true [.v (.int .i64 n)]) (ys := [.v (.int .i64 n)]) (bytes := 8) elems_one (by
        have : room = 140737488355328 := rfl
        simp only [fits, List.length_map, List.length_cons, List.length_nil, decide_eq_true_eq]; omega)
      have st : exec (callW F) K c14_8 (L19 acc c es.length i) h = some (.normal, [.junk, .junk, .junk, acc', .v (.int .i64 n), c, .v (.int .i64 es.length), .v (.int .i64 ((i + 1 : Nat) : Int)), .v (.bool true), .v (.bool true)], h2) := by
        simp only [L19, iv, AV.cells, x_region_m, marked_eq, marked, List.foldl_cons, List.foldl_nil, doMark, List.getD_cons_zero, List.getD_cons_succ, c14_8, c14_3, c14_4, c14_5, c14_6, c14_7, hlt, wrap_succ hil hmax, q1, q3, f3, hc, h3, snapv, e_append, bs1_some (y := .v (.int .i64 n)) (sz := 1) cl_int rfl, e_bslice1, e_bslice2, bs1, bs2, e_build, bdH_some, bd_nil, bd_cons, bd1, cl_agg, cl_int, toL, List.map_cons, List.map_nil, putAt, List.set_cons_zero, List.set_cons_succ, and_self, Nat.le_refl, app_get, app_set, g_agg, run_nil, run_cons, stp_plain, stp_guard, put_some, pass_eq, pick_tt, pick_ff, pick_tf, pick_ft, pick_u, reg_some, thn_normal, thn_exit, thn_ret, cnd_t, cnd_f, blk_normal, blk_ret, blk_exit, x_seq, x_region, x_cond, x_block, x_loop, x_ret, x_exit, x_skip, e_mov, e_pick, pk_t, pk_f, withH_some, e_box, bx_some, e_load, e_store, stH_some, e_nil, e_bin, e_eqv, eqH_f, eqH_t, e_un, e_fa, e_ia, ia_eq, nat_eq, natV_nat, e_len, lnH_some, e_extract, ex_0, ex_1, e_call0, e_call1, e_call2, e_call3, pc0_eq, pc1_some, pc2_some, pc3_some, fin_some, g_var0, g_vars, g_loc0, g_locs, g_int, g_bool, g_str, g_sl, s_none, s_zero, s_succ, cl_nil, cl_str, cl_bool, cl_slc, cl_own, evFa, evNil, asEl, evBin, intBin, strBin, evUn, len_nil, len_slc, len_str, clr, List.length_nil, List.length_cons, List.getElem?_cons_zero, List.getElem?_cons_succ, Nat.reduceAdd, Nat.zero_add, Nat.add_zero, Nat.reduceLeDiff, Nat.reduceSub, ↓reduceIte, List.drop_succ_cons, List.drop_zero, List.take_succ_cons, List.take_zero, Bool.false_eq_true, List.nil_append, List.cons_append, Bool.not_true, Bool.not_false, cond_true, cond_false, bne, lv_ret, lv_normal, res1, res2, lv2_some, res_var, res_cell, lvf_v, lvf_slc, res1c, lvo1_some, e_mm, mm_max, mm_min]
      rw [loop_normal (by rw [hv]; exact st)]
      have e : addNew p n = p ++ [n] := by simp only [addNew, hh]; rfl
      rw [e]
      have h4' : Acc 1 h2 acc' ((p ++ [n]).map iv) := by rw [List.map_append]; exact h4
      exact ih (i + 1) acc' (p ++ [n]) h2 _ (by simp at hi; omega) (by simp; omega) hd h4' rfl

theorem vars_ok {t : Tm} {a : AV} (hsz : size t ≤ 100000) (ha : IsT a t) : ∃ r, Sl 1 r ((varsT t).map iv) ∧ callW F 14 [a] [] = some (r, []) := by
  obtain ⟨c, hs, hc⟩ := places_ok _ t a (Nat.lt_succ_self _) hsz ha
  have hpl := places_len t
  have hlen : ((placesT t).map iv).length = (placesT t).length := by simp
  obtain ⟨acc', h', x4, x8, x9, g1, g2⟩ := vars_loop (K := (placesT t).length + 1) hs (by omega) (placesT t) 0 (.v (.slice none 0 0)) [] [.box a.cells] (L19 (.v (.slice none 0 0)) c ((placesT t).map iv).length (0 : Nat)) (by simp) (by simp) (by simp) .nil rfl
  obtain ⟨r, g3, g4⟩ := g2.lvf
  refine ⟨r, g4, callW_pure (c := c14) rfl rfl ((placesT t).length + 1) ?_⟩
  have q5 : ∀ h : List AO, a.snap1 h = some a := fun h => ha.snap
  show lv [.var 2] (exec (callW F) ((placesT t).length + 1) (.seq (.region [] [] c14_0) (.seq (.region [] [] c14_1) (.seq (.seq (.region [] [] c14_2) (.block 0 (.loop K19 [] c14_8))) (.seq (.region [] [] c14_9) .ret)))) _ _) = _
  generalize hrest : (CC.seq (.region [] [] c14_9) .ret) = rest
  generalize (placesT t).map iv = qs at hs g1
  cases ha
  simp only [AV.cells] at g1
  simp only [c14, start, List.replicate, c14_0, c14_1, c14_2, hc, q5, hs.len, e_bslice1, e_bslice2, bs1, bs2, e_build, bdH_some, bd_nil, bd_cons, bd1, cl_agg, cl_int, toL, List.map_cons, List.map_nil, putAt, List.set_cons_zero, List.set_cons_succ, and_self, Nat.le_refl, evStore, app_get, app_set, g_agg, run_nil, run_cons, stp_plain, stp_guard, put_some, pass_eq, pick_tt, pick_ff, pick_tf, pick_ft, pick_u, reg_some, thn_normal, thn_exit, thn_ret, cnd_t, cnd_f, blk_normal, blk_ret, blk_exit, x_seq, x_region, x_cond, x_block, x_loop, x_ret, x_exit, x_skip, e_mov, e_pick, pk_t, pk_f, withH_some, e_box, bx_some, e_load, e_store, stH_some, e_nil, e_bin, e_eqv, eqH_f, eqH_t, e_un, e_fa, e_ia, ia_eq, nat_eq, natV_nat, e_len, lnH_some, e_extract, ex_0, ex_1, e_call0, e_call1, e_call2, e_call3, pc0_eq, pc1_some, pc2_some, pc3_some, fin_some, g_var0, g_vars, g_loc0, g_locs, g_int, g_bool, g_str, g_sl, s_none, s_zero, s_succ, cl_nil, cl_str, cl_bool, cl_slc, cl_own, evFa, evNil, evLoad, asEl, evBin, intBin, strBin, evUn, len_nil, len_slc, len_str, clr, List.length_nil, List.length_cons, List.getElem?_cons_zero, List.getElem?_cons_succ, Nat.reduceAdd, Nat.zero_add, Nat.add_zero, Nat.reduceLeDiff, Nat.reduceSub, ↓reduceIte, List.drop_succ_cons, List.drop_zero, List.take_succ_cons, List.take_zero, Bool.false_eq_true, List.nil_append, List.cons_append, Bool.not_true, Bool.not_false, cond_true, cond_false, bne, lv_ret, lv_normal, res1, res2, lv2_some, res_var, res_cell, lvf_v, lvf_slc, res1c, lvo1_some, e_mm, mm_max, mm_min]
  rw [loop_cong (v2 := L19 (.v (.slice none 0 0)) c qs.length ((0 : Nat) : Int)) (by rfl), g1, ← hrest]
  simp only [blk_exit, thn_normal, c14_9, g3, run_nil, run_cons, stp_plain, stp_guard, put_some, pass_eq, pick_tt, pick_ff, pick_tf, pick_ft, pick_u, reg_some, thn_normal, thn_exit, thn_ret, cnd_t, cnd_f, blk_normal, blk_ret, blk_exit, x_seq, x_region, x_cond, x_block, x_loop, x_ret, x_exit, x_skip, e_mov, e_pick, pk_t, pk_f, withH_some, e_box, bx_some, e_load, e_store, stH_some, e_nil, e_bin, e_eqv, eqH_f, eqH_t, e_un, e_fa, e_ia, ia_eq, nat_eq, natV_nat, e_len, lnH_some, e_extract, ex_0, ex_1, e_call0, e_call1, e_call2, e_call3, pc0_eq, pc1_some, pc2_some, pc3_some, fin_some, g_var0, g_vars, g_loc0, g_locs, g_int, g_bool, g_str, g_sl, s_none, s_zero, s_succ, cl_nil, cl_str, cl_bool, cl_slc, cl_own, evFa, evNil, asEl, evBin, intBin, strBin, evUn, len_nil, len_slc, len_str, clr, List.length_nil, List.length_cons, List.getElem?_cons_zero, List.getElem?_cons_succ, Nat.reduceAdd, Nat.zero_add, Nat.add_zero, Nat.reduceLeDiff, Nat.reduceSub, ↓reduceIte, List.drop_succ_cons, List.drop_zero, List.take_succ_cons, List.take_zero, Bool.false_eq_true, List.nil_append, List.cons_append, Bool.not_true, Bool.not_false, cond_true, cond_false, bne, lv_ret, lv_normal, res1, res2, lv2_some, res_var, res_cell, lvf_v, lvf_slc, res1c, lvo1_some, e_mm, mm_max, mm_min]

theorem foldNew_sub : ∀ (l p : List Int) (n : Int), n ∈ l.foldl addNew p ↔ n ∈ p ∨ n ∈ l
  | [], p, n => by simp
  | k :: l, p, n => by
    rw [List.foldl_cons, foldNew_sub l]
    simp only [addNew]
    split
    · rename_i hc
      have : k ∈ p := by simpa using hc
      constructor
      · rintro (h | h)
        · exact .inl h
        · exact .inr (by simp [h])
      · rintro (h | h)
        · exact .inl h
        · rcases List.mem_cons.1 h with rfl | h
          · exact .inl this
          · exact .inr h
    · simp [or_assoc]
theorem vars_mem {t : Tm} {n : Int} : n ∈ varsT t ↔ n ∈ placesT t := by
  simp [varsT, foldNew_sub]
end Go.AE.YtpgoibncgekflaaDoor
end

/- subst.Look as an oracle. -/
import Derived.Test.YtpgoibncgekflaaLook
import Derived.Test.YtpgoibncgekflaaAexCall
set_option linter.unusedVariables false
set_option linter.unusedSimpArgs false
namespace Go.Proofs.Ytpgoibncgekflaa
open Go Go.RowKit Go.AE Go.Proofs

def isSl : AV → Bool
  | .slc .. => true
  | .v (.slice _ _ _) => true
  | _ => false
def isB : AV → Bool
  | .agg [.v (.int .i64 _), .v (.int .i64 _), .v (.string _), .v (.int .i64 _), c] => isSl c
  | _ => false
def zeroTerm : AV := .agg [.v (.int .i64 0), .v (.string ⟨#[]⟩), .v (.int .i64 0), .v (.slice none 0 0)]
/-- the first of these that binds n -/
def lookA (n : Int) : List AV → AV
  | [] => .tup [zeroTerm, .v (.bool false)]
  | .agg (.v (.int .i64 v) :: t) :: r => if v = n then .tup [.agg t, .v (.bool true)] else lookA n r
  | _ :: r => lookA n r
def lookG (args : List AV) (h : List AO) : Option (AV × List AO) :=
  match args with
  | [.v (.slice none 0 0), .v (.int .i64 n)] => some (lookA n [], h)
  | [.slc 5 _ _ l, .v (.int .i64 n)] => if l.length ≤ 1000000 ∧ l.all isB = true then some (lookA n l.reverse, h) else none
  | _ => none

section
variable {I : Cells} {w w' : World} {σ : List AE.Loc}

theorem isSl_val {c : AV} {v : Value} (hc : isSl c = true) (hr : Rep I w σ c v) : ∃ a l n, v = .slice a l n := by
  cases c with
  | slc sz ex nn l => cases hr with | slc _ _ _ _ _ a cap b o g => exact ⟨_, _, _, rfl⟩
  | v x =>
    have : v = x := by cases hr; rfl
    subst this
    cases v <;> simp [isSl] at hc
    exact ⟨_, _, _, rfl⟩
  | _ => simp [isSl] at hc

theorem isB_form {el : AV} (h : isB el = true) : ∃ v k s n c, el = .agg [.v (.int .i64 v), .v (.int .i64 k), .v (.string s), .v (.int .i64 n), c] ∧ isSl c = true := by
  unfold isB at h
  split at h
  · exact ⟨_, _, _, _, _, rfl, h⟩
  · cases h

theorem upto_rev (l : List AV) : (upto (fun j => l.length - 1 - j) l.length).map (fun j => l.getD j .junk) = l.reverse := by
  apply List.ext_getElem
  · simp [upto]
  · intro i h1 h2
    simp [upto] at h1 ⊢
    rw [List.getElem?_eq_getElem (by omega)]
    rfl
theorem upto_lt {len : Nat} {j : Nat} (h : j ∈ upto (fun j => len - 1 - j) len) : j < len := by
  simp [upto] at h
  obtain ⟨k, h1, rfl⟩ := h
  omega
end

theorem zeroTerm_rep {I : Cells} {w : World} {σ : List AE.Loc} : Rep I w σ (.tup [zeroTerm, .v (.bool false)]) (.tuple #[.agg #[.int .i64 0, .string ⟨#[]⟩, .int .i64 0, .slice none 0 0], .bool false]) := by
  refine .tup σ _ _ rfl (fun i c hi => ?_)
  match i, hi with
  | 0, hi =>
    cases hi
    refine .agg σ _ _ rfl (fun i c hi => ?_) (fun i c hi => ?_)
    · match i, hi with
      | 0, hi => rfl
      | 1, hi => rfl
      | 2, hi => rfl
      | 3, hi => rfl
    · match i, hi with
      | 0, hi => cases hi; exact .v _ _
      | 1, hi => cases hi; exact .v _ _
      | 2, hi => cases hi; exact .v _ _
      | 3, hi => cases hi; exact .v _ _
  | 1, hi => cases hi; exact .v _ _

theorem look_enter (vals : Array Value) (w : World) : (callFunc 13 vals).run Try.prog w = .ok (.enter 13 vals) w := enters_of Try.func13 (by kernel_rfl) rfl vals w

theorem look_ends {B : Nat} {w0 w : World} {I : Cells} {σ : List AE.Loc} {h : List AO} (hI : AE.Inv B w0 I σ w h) {r : AV} {e : Ending} {v : Value} {w' : World} (he : e = .returned v) (hB : Below w.heap.size w w') (hr : Rep I w σ r v) : AE.Ends B w0 I σ w r h e w' := by
  have hext : Ext I w I w' := ⟨fun _ _ h => h, fun b x hi => hB.cell (p := ⟨b, x, none⟩) (hI.imm_lt hi)⟩
  refine ⟨v, I, σ, he, hI.same (hB.mono hI.base) hext (fun b x hi => by
    obtain ⟨u, hu⟩ := hI.imm b x hi
    exact ⟨u, (hext.cell b x hi).trans hu⟩) (fun j Lj hj hh => ⟨hB.block _ (hI.mine j Lj hj hh).2, fun _ h => h⟩), ⟨hext, Later.refl _, fun _ _ h => .inl h, hB.size⟩, hr.mono hext (Later.refl _)⟩

theorem look_ok : ∀ args h r h', lookG args h = some (r, h') → (∀ (vals : Array Value) (w : World), (callFunc 13 vals).run Try.prog w = .ok (.enter 13 vals) w) ∧
    ∀ B w0 I σ w (vals : Array Value), AE.Inv B w0 I σ w h → ArgsRep I w σ args vals → Calls Try.prog 13 vals w (AE.Ends B w0 I σ w r h') := by
  intro args h r h' hg
  refine ⟨look_enter, fun B w0 I σ w vals hI ha => ?_⟩
  have two : ∀ {x y : AV}, args = [x, y] → ∃ u v, vals = #[u, v] ∧ Rep I w σ x u ∧ Rep I w σ y v := by
    rintro x y rfl
    have hs := ha.size
    obtain ⟨l⟩ := vals
    match l, hs with
    | [u, v], _ => exact ⟨u, v, rfl, ha.rep 0 x rfl, ha.rep 1 y rfl⟩
  unfold lookG at hg
  split at hg
  · rename_i n
    cases hg
    obtain ⟨u, v, rfl, h1, h2⟩ := two rfl
    cases h1; cases h2
    have := look_in Fence.wide 4 trivial trivial trivial rfl (by omega) 0 0 0 0 (fun _ => 0) (fun _ => ⟨0, ⟨#[]⟩, 0, none, 0, 0⟩) n (by omega) none (fun h => absurd h (by omega)) w (fun h => absurd h (by omega)) (fun j hj => absurd hj (by omega))
    refine (callsIn_wide.1 this).mono ?_
    rintro e w' ⟨he, hB⟩
    exact look_ends hI he hB zeroTerm_rep
  · rename_i ex nn l n
    split at hg
    · rename_i hc
      obtain ⟨hlen, hall⟩ := hc
      cases hg
      obtain ⟨u, v, rfl, h1, h2⟩ := two rfl
      cases h2
      cases h1 with
      | slc _ _ _ _ _ a cap b o g haa hn hnil hcap hex hsz hcc hi h1 hr =>
        have hform : ∀ j, j < l.length → ∃ v k s n c, l[j]? = some (.agg [.v (.int .i64 v), .v (.int .i64 k), .v (.string s), .v (.int .i64 n), c]) ∧ isSl c = true := by
          intro j hj
          obtain ⟨v, k, s, n, c, h1, h2⟩ := isB_form (List.all_eq_true.1 hall l[j] (List.getElem_mem hj))
          exact ⟨v, k, s, n, c, by rw [List.getElem?_eq_getElem hj, h1], h2⟩
        have hcell : ∀ j, j < l.length → ∃ v k s n a m c ca, l[j]? = some (.agg [.v (.int .i64 v), .v (.int .i64 k), .v (.string s), .v (.int .i64 n), ca]) ∧
            g j 0 = .int .i64 v ∧ g j 1 = .int .i64 k ∧ g j 2 = .string s ∧ g j 3 = .int .i64 n ∧ g j 4 = .slice a m c ∧ Rep I w [] ca (.slice a m c) := by
          intro j hj
          obtain ⟨v, k, s, n, c, h1, h2⟩ := hform j hj
          have r0 := hr j _ 0 _ h1 rfl
          have r1 := hr j _ 1 _ h1 rfl
          have r2 := hr j _ 2 _ h1 rfl
          have r3 := hr j _ 3 _ h1 rfl
          have r4 := hr j _ 4 c h1 rfl
          obtain ⟨a, m, c', e4⟩ := isSl_val h2 r4
          rw [e4] at r4
          generalize g j 0 = g0 at r0 ⊢
          generalize g j 1 = g1 at r1 ⊢
          generalize g j 2 = g2 at r2 ⊢
          generalize g j 3 = g3 at r3 ⊢
          cases r0; cases r1; cases r2; cases r3
          exact ⟨v, k, s, n, a, m, c', c, h1, rfl, rfl, rfl, rfl, e4, r4⟩
        let V : Nat → Int := fun j => match g j 0 with | .int _ n => n | _ => 0
        let C : Nat → T4 := fun j => match g j 1, g j 2, g j 3, g j 4 with
          | .int _ k, .string s, .int _ n, .slice a m c => ⟨k, s, n, a, m, c⟩
          | _, _, _, _ => ⟨0, ⟨#[]⟩, 0, none, 0, 0⟩
        have hba : BindsAt w b o l.length V C := by
          intro j hj
          obtain ⟨v, k, s, n, a, m, c, ca, e, e0, e1, e2, e3, e4, _⟩ := hcell j hj
          have q : ∀ i c, ([AV.v (.int .i64 v), .v (.int .i64 k), .v (.string s), .v (.int .i64 n), ca] : List AV)[i]? = some c → w.cell? ⟨b, o + (j * 5 + i), none⟩ = some (g j i) := fun i c hi => hcc j _ i c e hi
          have p0 := q 0 _ rfl
          have p1 := q 1 _ rfl
          have p2 := q 2 _ rfl
          have p3 := q 3 _ rfl
          have p4 := q 4 _ rfl
          simp only [V, C, e0, e1, e2, e3, e4]
          rw [e0] at p0; rw [e1] at p1; rw [e2] at p2; rw [e3] at p3; rw [e4] at p4
          exact ⟨p0, p1, p2, p3, p4⟩
        have hbw : 0 < l.length → b < w.heap.size := by
          intro h0
          obtain ⟨v, k, s, n, a, m, c, ca, e, _⟩ := hcell 0 h0
          exact hI.imm_lt (hi 0 _ 0 _ e rfl)
        have := look_in Fence.wide 4 trivial trivial trivial rfl (by omega) b o l.length cap V C n hlen a (fun h => haa (by intro e; rw [e] at h; simp at h)) w hbw hba
        refine (callsIn_wide.1 this).mono ?_
        rintro e w' ⟨he, hB⟩
        refine look_ends hI he hB ?_
        rw [← upto_rev]
        have key : ∀ L : List Nat, (∀ j ∈ L, j < l.length) → Rep I w σ (lookA n (L.map fun j => l.getD j .junk)) (lookOf V C n L) := by
          intro L
          induction L with
          | nil => intro _; exact zeroTerm_rep
          | cons j L ih =>
            intro hL
            obtain ⟨v, k, s, n', a, m, c, ca, e, e0, e1, e2, e3, e4, r4⟩ := hcell j (hL j (by simp))
            have hget : l.getD j .junk = .agg [.v (.int .i64 v), .v (.int .i64 k), .v (.string s), .v (.int .i64 n'), ca] := by rw [List.getD_eq_getElem?_getD, e]; rfl
            have hV : V j = v := by simp only [V, e0]
            have hC : C j = ⟨k, s, n', a, m, c⟩ := by simp only [C, e1, e2, e3, e4]
            rw [List.map_cons, hget, lookA, lookOf, hV, hC]
            split
            · refine .tup σ _ _ rfl (fun i c hi => ?_)
              match i, hi with
              | 0, hi =>
                cases hi
                refine .agg σ _ _ rfl (fun i c hi => ?_) (fun i c hi => ?_)
                · match i, hi with
                  | 0, hi => rfl
                  | 1, hi => rfl
                  | 2, hi => rfl
                  | 3, hi => rfl
                · match i, hi with
                  | 0, hi => cases hi; exact .v _ _
                  | 1, hi => cases hi; exact .v _ _
                  | 2, hi => cases hi; exact .v _ _
                  | 3, hi => cases hi; exact r4.mono (Ext.refl _ _) (Later.nil _)
              | 1, hi => cases hi; exact .v _ _
            · exact ih (fun i hi => hL i (by simp [hi]))
        exact key _ (fun j hj => upto_lt hj)
    · cases hg
  · cases hg
end Go.Proofs.Ytpgoibncgekflaa

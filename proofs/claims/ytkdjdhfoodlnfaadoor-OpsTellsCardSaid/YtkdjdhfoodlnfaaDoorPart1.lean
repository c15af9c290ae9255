/- Texts of this claim, put together. -/
import Derived.Test.YtkdjdhfoodlnfaaDoorChecked
import Derived.Shelf.Strings.Fields
import Derived.Test.YtkdjdhfoodlnfaaDoorEval2
import Derived.Lib.SmallJoins
import Derived.KernelRfl
import Derived.Test.YtkdjdhfoodlnfaaDoorRows
import Derived.WalkKit
import Derived.ProofKit
import Derived.OpenShut
import Derived.ShutString
import Derived.ChangeOld
import Derived.Below
import Derived.SizedLaws
import Derived.Test.YtkdjdhfoodlnfaaDoorEval3
import Derived.Test.YtkdjdhfoodlnfaaDoorTie
import Derived.Test.YtkdjdhfoodlnfaaDoorCards
import Derived.Lib.LaidIn
import Derived.Lib.LaidU8
import Derived.LaidLaws
import Derived.Handed
import Derived.SevenTiedAt
/-! The contract of strings.Fields over this program, laid by the kit's own tool in plain words. -/
section
namespace Go.Proofs
open Go.Shelf
def Tryd.laysFields_ren : Go.Shelf.Ren := ⟨fun | 157 => 23 | 229 => 25 | 199 => 26 | 261 => 27 | 311 => 28 | 312 => 29 | n => n, fun | 9 => 9 | 31 => 31 | 3 => 3 | 5 => 5 | 4 => 4 | 119 => 46 | 0 => 0 | 40 => 48 | 152 => 49 | 21 => 21 | 154 => 51 | 51 => 52 | 141 => 54 | 196 => 58 | 193 => 55 | 198 => 61 | 49 => 59 | 194 => 56 | 201 => 64 | 226 => 66 | 46 => 67 | 227 => 68 | n => n, fun | 0 => 0 | 6 => 1 | n => n⟩
theorem Tryd.laysFields : Go.Proofs.Lays.n157 Tryd.prog Tryd.laysFields_ren := {
  mixed := by kernel_rfl
  f157 := Tryd.func23.trans (congrArg some (by kernel_rfl))
  f199 := Tryd.func26.trans (congrArg some (by kernel_rfl))
  f229 := Tryd.func25.trans (congrArg some (by kernel_rfl))
  f261 := Tryd.func27.trans (congrArg some (by kernel_rfl))
  f311 := Tryd.func28.trans (congrArg some (by kernel_rfl))
  f312 := Tryd.func29.trans (congrArg some (by kernel_rfl))
  t0 := Tryd.underlying0
  a0 := Tryd.isAgg0
  z0 := Tryd.sizeOf0
  v0 := Tryd.zeroValue0
  t3 := Tryd.underlying3
  a3 := Tryd.isAgg3
  z3 := Tryd.sizeOf3
  v3 := Tryd.zeroValue3
  t4 := Tryd.underlying4
  a4 := Tryd.isAgg4
  z4 := Tryd.sizeOf4
  v4 := Tryd.zeroValue4
  t5 := Tryd.underlying5
  a5 := Tryd.isAgg5
  z5 := Tryd.sizeOf5
  v5 := Tryd.zeroValue5
  t9 := Tryd.underlying9
  a9 := Tryd.isAgg9
  z9 := Tryd.sizeOf9
  v9 := Tryd.zeroValue9
  t21 := Tryd.underlying21
  a21 := Tryd.isAgg21
  z21 := Tryd.sizeOf21
  v21 := Tryd.zeroValue21
  t31 := Tryd.underlying31
  a31 := Tryd.isAgg31
  z31 := Tryd.sizeOf31
  v31 := Tryd.zeroValue31
  t40 := Tryd.underlying48
  a40 := Tryd.isAgg48
  z40 := Tryd.sizeOf48
  v40 := Tryd.zeroValue48
  t46 := Tryd.underlying67
  a46 := Tryd.isAgg67
  z46 := Tryd.sizeOf67
  v46 := Tryd.zeroValue67
  t49 := Tryd.underlying59
  a49 := Tryd.isAgg59
  z49 := Tryd.sizeOf59
  v49 := Tryd.zeroValue59
  t51 := Tryd.underlying52
  a51 := Tryd.isAgg52
  z51 := Tryd.sizeOf52
  v51 := Tryd.zeroValue52
  t119 := Tryd.underlying46
  a119 := Tryd.isAgg46
  z119 := Tryd.sizeOf46
  t141 := Tryd.underlying54
  a141 := Tryd.isAgg54
  z141 := Tryd.sizeOf54
  v141 := Tryd.zeroValue54
  t152 := Tryd.underlying49
  a152 := Tryd.isAgg49
  z152 := Tryd.sizeOf49
  v152 := Tryd.zeroValue49
  t154 := Tryd.underlying51
  a154 := Tryd.isAgg51
  z154 := Tryd.sizeOf51
  v154 := Tryd.zeroValue51
  t193 := Tryd.underlying55
  a193 := Tryd.isAgg55
  z193 := Tryd.sizeOf55
  v193 := Tryd.zeroValue55
  t194 := Tryd.underlying56
  a194 := Tryd.isAgg56
  z194 := Tryd.sizeOf56
  v194 := Tryd.zeroValue56
  t196 := Tryd.underlying58
  a196 := Tryd.isAgg58
  z196 := Tryd.sizeOf58
  v196 := Tryd.zeroValue58
  t198 := Tryd.underlying61
  a198 := Tryd.isAgg61
  z198 := Tryd.sizeOf61
  v198 := Tryd.zeroValue61
  t201 := Tryd.underlying64
  a201 := Tryd.isAgg64
  z201 := Tryd.sizeOf64
  v201 := Tryd.zeroValue64
  t226 := Tryd.underlying66
  a226 := Tryd.isAgg66
  z226 := Tryd.sizeOf66
  v226 := Tryd.zeroValue66
  t227 := Tryd.underlying68
  a227 := Tryd.isAgg68
  z227 := Tryd.sizeOf68
  v227 := Tryd.zeroValue68
  g0 := by kernel_rfl
  g6 := by kernel_rfl }
end Go.Proofs
end

/-! strings.Fields of an ASCII text as an entry of the evaluator's table, where the library's table lies. -/
section
set_option linter.unusedVariables false
namespace Go.Proofs.YtkdjdhfoodlnfaaDoor
open Go Go.RowKit Go.AE Go.Proofs

/-- the table lies in the world in which the call begins -/
def K (B : Nat) (w : World) : Prop := B = w.heap.size ∧ Lib.TabIs Tryd.prog w "strings.asciiSpace" .u8 Lib.asciiSpaceTab
theorem gSpace : Tryd.prog.globalNamed "strings.asciiSpace" = some (Tryd.laysFields_ren.g 0) := by kernel_rfl
theorem hKs : Holds K := fun B w0 I σ w h hK hI => ⟨rfl, Joins.tab_stays gSpace hK.2 hI.below (by rw [hK.1]; exact Nat.le_refl _)⟩

def fieldsG (args : List AV) (h : List AO) : Option (AV × List AO) := match args with
  | [.v (.string s)] => if s.size < 4294967281 ∧ s.data.toList.all (fun b => decide (b.toNat < 128)) = true then some (.slc 1 true true ((Lib.fields s.data.toList).map fun l => .v (.string ⟨l.toArray⟩)), h) else none
  | _ => none
theorem fields_enter (vals : Array Value) (w : World) : (callFunc 23 vals).run Tryd.prog w = .ok (.enter 23 vals) w := enters_of Tryd.func23 (by kernel_rfl) rfl vals w
theorem fresh_slc {B : Nat} {w0 w : World} {I : Cells} {σ : List AE.Loc} {h : List AO} (hI : AE.Inv B w0 I σ w h) (l : List ByteArray) (e : TypeId) {en : Ending} {w' : World}
    (he : en = .returned (.slice (some ⟨w.heap.size, 0, none⟩) l.length l.length)) (hw : w' = w.alloc (.cells (l.map Value.string).toArray e)) :
    AE.Ends B w0 I σ w (.slc 1 true true (l.map fun s => .v (.string s))) h en w' := by
  subst hw
  obtain ⟨g1, g2⟩ := hI.fresh (l.map Value.string).toArray e
  refine ⟨_, _, σ, he, g1, g2, ?_⟩
  have get : ∀ (j : Nat) (el : AV) (i : Nat) (c : AV), (l.map fun s => AV.v (.string s))[j]? = some el → el.cells[i]? = some c → ∃ s, l[j]? = some s ∧ i = 0 ∧ c = .v (.string s) := by
    intro j el i c h1 h2
    obtain ⟨s, hs, rfl⟩ := (by simpa using h1 : ∃ s, l[j]? = some s ∧ AV.v (.string s) = el)
    match i, h2 with
    | 0, h2 => cases h2; exact ⟨s, hs, rfl, rfl⟩
  have hlen : (l.map fun s => AV.v (.string s)).length = l.length := by simp
  rw [← hlen]
  refine .slc σ 1 true true _ _ _ w.heap.size 0 (fun j _ => match l[j]? with | some s => .string s | none => undef) (fun _ => rfl) (fun _ => by simp) (fun h => by cases h) (Nat.le_refl _) (fun _ => rfl) ?_ ?_ ?_ ?_ ?_
  · intro j el h1
    obtain ⟨s, hs, rfl⟩ := (by simpa using h1 : ∃ s, l[j]? = some s ∧ AV.v (.string s) = el)
    rfl
  · intro j el i c h1 h2
    obtain ⟨s, hs, rfl, rfl⟩ := get j el i c h1 h2
    unfold World.cell?
    rw [heap_new]
    simp [hs]
  · intro j el i c h1 h2
    obtain ⟨s, hs, rfl, rfl⟩ := get j el i c h1 h2
    have := (List.getElem?_eq_some_iff.1 hs).1
    exact .inr ⟨rfl, by simp; omega⟩
  · intro j el i c h1 h2
    obtain ⟨s, hs, rfl, rfl⟩ := get j el i c h1 h2
    simp only [hs]
    rfl
  · intro j el i c h1 h2
    obtain ⟨s, hs, rfl, rfl⟩ := get j el i c h1 h2
    simp only [hs]
    exact .v _ _
theorem fields_ok {B : Nat} {w0 : World} (hK : K B w0) : ∀ args h r h', fieldsG args h = some (r, h') → (∀ (vals : Array Value) (w : World), (callFunc 23 vals).run Tryd.prog w = .ok (.enter 23 vals) w) ∧
    ∀ I σ w (vals : Array Value), AE.Inv B w0 I σ w h → ArgsRep I w σ args vals → Calls Tryd.prog 23 vals w (AE.Ends B w0 I σ w r h') := by
  intro args h r h' hg
  refine ⟨fields_enter, fun I σ w vals hI ha => ?_⟩
  unfold fieldsG at hg
  split at hg
  · rename_i s
    split at hg
    · rename_i hs
      cases hg
      have hsz := ha.size
      obtain ⟨l⟩ := vals
      match l, hsz with
      | [u], _ =>
        have h1 := ha.rep 0 _ rfl
        cases h1
        have hasc : ∀ (j : Nat) b, s.data.toList[j]? = some b → b.toNat < 128 := fun j b hb => of_decide_eq_true (List.all_eq_true.1 hs.2 b (List.mem_of_getElem? hb))
        have cV : Calls Tryd.prog 23 #[.string s] w _ := Any.strings_Fields Tryd.laysFields (by kernel_rfl) gSpace s w hs.1 hasc (hKs B w0 I σ w h hK hI).2
        refine cV.mono ?_
        rintro e w' ⟨he, hw⟩
        have := fresh_slc hI ((Lib.fields s.data.toList).map fun l => (⟨l.toArray⟩ : ByteArray)) (Tryd.laysFields_ren.t 9) (en := e) (w' := w') (by rw [he]; simp) (by rw [hw, List.map_map]; rfl)
        rw [List.map_map] at this
        exact this
    · cases hg
  · cases hg
end Go.Proofs.YtkdjdhfoodlnfaaDoor
end

/-! The functions of the program that the laws of this seat reach, as the evaluator carries them out, each checked against the loaded program. -/
section
set_option linter.unusedVariables false
set_option maxRecDepth 100000
namespace Go.Proofs.YtkdjdhfoodlnfaaDoor
open Go Go.AE Go.Proofs
def ti3 : TI := ⟨1, 8, (.int .i64 0), (.int .i64)⟩
theorem tiOk3 : TIok Tryd.prog 3 ti3 := tiok_of (by kernel_rfl) (by kernel_rfl)
def ti4 : TI := ⟨1, 1, (.bool false), .bool⟩
theorem tiOk4 : TIok Tryd.prog 4 ti4 := tiok_of (by kernel_rfl) (by kernel_rfl)
def ti5 : TI := ⟨1, 1, (.int .u8 0), (.int .u8)⟩
theorem tiOk5 : TIok Tryd.prog 5 ti5 := tiok_of (by kernel_rfl) (by kernel_rfl)
def ti9 : TI := ⟨1, 16, (.string ⟨#[]⟩), .string⟩
theorem tiOk9 : TIok Tryd.prog 9 ti9 := tiok_of (by kernel_rfl) (by kernel_rfl)
def ti23 : TI := ⟨2, 24, (.agg #[(.int .i64 0), (.string ⟨#[]⟩)]), (.struct #[⟨"Pri", 3, 0, false, "", "", 0⟩, ⟨"Type", 9, 1, false, "", "", 8⟩])⟩
theorem tiOk23 : TIok Tryd.prog 23 ti23 := tiok_of (by kernel_rfl) (by kernel_rfl)
def ti31 : TI := ⟨1, 24, (.slice none 0 0), (.slice 9)⟩
theorem tiOk31 : TIok Tryd.prog 31 ti31 := tiok_of (by kernel_rfl) (by kernel_rfl)
def ti38 : TI := ⟨3, 40, (.agg #[(.int .i64 0), (.string ⟨#[]⟩), (.string ⟨#[]⟩)]), (.struct #[⟨"pri", 3, 0, false, "", "spinney/ops", 0⟩, ⟨"kind", 9, 1, false, "", "spinney/ops", 8⟩, ⟨"names", 9, 2, false, "", "spinney/ops", 24⟩])⟩
theorem tiOk38 : TIok Tryd.prog 38 ti38 := tiok_of (by kernel_rfl) (by kernel_rfl)
def ti39 : TI := ⟨30, 400, (.agg #[(.int .i64 0), (.string ⟨#[]⟩), (.string ⟨#[]⟩), (.int .i64 0), (.string ⟨#[]⟩), (.string ⟨#[]⟩), (.int .i64 0), (.string ⟨#[]⟩), (.string ⟨#[]⟩), (.int .i64 0), (.string ⟨#[]⟩), (.string ⟨#[]⟩), (.int .i64 0), (.string ⟨#[]⟩), (.string ⟨#[]⟩), (.int .i64 0), (.string ⟨#[]⟩), (.string ⟨#[]⟩), (.int .i64 0), (.string ⟨#[]⟩), (.string ⟨#[]⟩), (.int .i64 0), (.string ⟨#[]⟩), (.string ⟨#[]⟩), (.int .i64 0), (.string ⟨#[]⟩), (.string ⟨#[]⟩), (.int .i64 0), (.string ⟨#[]⟩), (.string ⟨#[]⟩)]), (.array 10 38)⟩
theorem tiOk39 : TIok Tryd.prog 39 ti39 := tiok_of (by kernel_rfl) (by kernel_rfl)
def ti42 : TI := ⟨1, 24, (.slice none 0 0), (.slice 45)⟩
theorem tiOk42 : TIok Tryd.prog 42 ti42 := tiok_of (by kernel_rfl) (by kernel_rfl)
def ti45 : TI := ⟨3, 48, (.agg #[(.int .i64 0), (.string ⟨#[]⟩), (.slice none 0 0)]), (.struct #[⟨"Op", 23, 0, false, "", "", 0⟩, ⟨"Names", 31, 2, false, "", "", 24⟩])⟩
theorem tiOk45 : TIok Tryd.prog 45 ti45 := tiok_of (by kernel_rfl) (by kernel_rfl)
def tys : List (TypeId × TI) := [(3, ti3), (4, ti4), (5, ti5), (9, ti9), (23, ti23), (31, ti31), (38, ti38), (39, ti39), (42, ti42), (45, ti45)]
def pures : List FuncId := [3, 4, 5, 6, 7, 8, 9, 10, 11, 12, 13, 14, 15, 16, 17, 18, 19, 20, 21, 22, 24, 23]
def lits : List TypeId := []
def T : Tb := ⟨fun t => tys.lookup t, fun f => pures.contains f, fun t => lits.contains t, fun _ => false⟩
theorem hT : TbOk Tryd.prog T := tbok_of (fun p hp => by
  simp only [tys, List.mem_cons, List.not_mem_nil, or_false] at hp
  rcases hp with rfl | rfl | rfl | rfl | rfl | rfl | rfl | rfl | rfl | rfl
  · exact tiOk3
  · exact tiOk4
  · exact tiOk5
  · exact tiOk9
  · exact tiOk23
  · exact tiOk31
  · exact tiOk38
  · exact tiOk39
  · exact tiOk42
  · exact tiOk45)
/-! spinney/spinneylaw04.OpsSides -/
def c3_0 : List CO := [⟨(.box (.var 0)), (some 1), none⟩,
  ⟨(.mov (.k (.bool false))), (some 2), none⟩]
def c3_1 : List CO := [⟨(.call true 7 []), none, none⟩,
  ⟨(.mov (.loc 0)), none, none⟩,
  ⟨(.load true 2 (.var 1)), none, (some ((.loc 0), true))⟩,
  ⟨(.call true 8 [(.loc 0)]), none, (some ((.loc 1), true))⟩,
  ⟨(.load true 2 (.var 1)), none, (some ((.loc 2), true))⟩,
  ⟨(.call true 9 [(.loc 0)]), none, (some ((.loc 3), true))⟩,
  ⟨(.bin .eql (.loc 2) (.loc 0)), none, (some ((.loc 4), true))⟩,
  ⟨(.pick (.loc 5) (.loc 0) (.k (.bool false))), none, none⟩,
  ⟨(.mov (.loc 0)), none, none⟩,
  ⟨(.load true 2 (.var 1)), none, (some ((.loc 0), true))⟩,
  ⟨(.call true 10 [(.loc 0)]), none, (some ((.loc 1), true))⟩,
  ⟨(.load true 2 (.var 1)), none, (some ((.loc 2), true))⟩,
  ⟨(.call true 11 [(.loc 0)]), none, (some ((.loc 3), true))⟩,
  ⟨(.bin .eql (.loc 2) (.loc 0)), none, (some ((.loc 4), true))⟩,
  ⟨(.pick (.loc 5) (.loc 0) (.k (.bool false))), none, none⟩,
  ⟨(.mov (.loc 0)), (some 2), none⟩]
def c3 : CFun := ⟨1, 3, (.seq (.region [] [] c3_0) (.seq (.region [] [] c3_1) .ret)), [.var 2]⟩
theorem ok3 : CodeOk Tryd.prog T 3 c3 := ⟨⟨Tryd.f3, Hints.of [] [] [], [0, 1, 2], Tryd.func3, by kernel_rfl, by kernel_rfl⟩⟩

/-! spinney/spinneylaw04.OpsBoth -/
def c4_0 : List CO := [⟨(.mov (.k (.bool false))), (some 1), none⟩]
def c4_1 : List CO := [⟨(.call true 7 []), none, none⟩,
  ⟨(.mov (.loc 0)), (some 2), none⟩]
def c4_2 : List CO := [⟨(.mov (.var 0)), none, none⟩,
  ⟨(.call true 12 [(.loc 0)]), none, none⟩,
  ⟨(.mov (.loc 0)), none, none⟩,
  ⟨(.extract (.loc 0) 0), none, none⟩,
  ⟨(.extract (.loc 1) 1), none, none⟩,
  ⟨(.box (.k (.agg #[(.int .i64 0), (.string ⟨#[]⟩)]))), (some 3), none⟩,
  ⟨(.store 2 (.var 3) (.loc 2)), none, none⟩,
  ⟨(.mov (.loc 2)), (some 4), none⟩]
def c4_3 : List CO := [⟨(.mov (.var 0)), none, none⟩,
  ⟨(.call true 13 [(.loc 0)]), none, none⟩,
  ⟨(.mov (.loc 0)), none, none⟩,
  ⟨(.extract (.loc 0) 0), none, none⟩,
  ⟨(.extract (.loc 1) 1), none, none⟩,
  ⟨(.box (.k (.agg #[(.int .i64 0), (.string ⟨#[]⟩)]))), none, none⟩,
  ⟨(.store 2 (.loc 0) (.loc 2)), none, none⟩,
  ⟨(.mov (.loc 2)), (some 5), none⟩]
def c4_4 : List CO := [⟨(.mov (.var 4)), none, none⟩,
  ⟨(.mov (.loc 0)), none, none⟩,
  ⟨(.mov (.var 5)), none, (some ((.loc 0), true))⟩,
  ⟨(.pick (.loc 1) (.loc 0) (.k (.bool false))), none, none⟩,
  ⟨(.mov (.loc 0)), none, none⟩,
  ⟨(.mov (.var 0)), none, (some ((.loc 0), true))⟩,
  ⟨(.bin .neq (.loc 0) (.k (.string ⟨#[45]⟩))), none, (some ((.loc 1), true))⟩,
  ⟨(.pick (.loc 2) (.loc 0) (.k (.bool false))), none, none⟩,
  ⟨(.mov (.loc 0)), none, none⟩,
  ⟨(.mov (.var 0)), none, (some ((.loc 0), true))⟩,
  ⟨(.bin .neq (.loc 0) (.k (.string ⟨#[58, 45]⟩))), none, (some ((.loc 1), true))⟩,
  ⟨(.pick (.loc 2) (.loc 0) (.k (.bool false))), (some 6), none⟩]
def c4_5 : List CO := [⟨(.mov (.k (.bool false))), (some 1), none⟩]
def c4_6 : List CO := [⟨(.mov (.var 2)), none, none⟩,
  ⟨(.mov (.loc 0)), none, none⟩,
  ⟨(.mov (.var 4)), none, (some ((.loc 0), true))⟩,
  ⟨(.un .not (.loc 0)), none, (some ((.loc 1), true))⟩,
  ⟨(.mov (.loc 0)), none, (some ((.loc 2), true))⟩,
  ⟨(.load true 2 (.var 3)), none, (some ((.loc 0), false))⟩,
  ⟨(.call true 10 [(.loc 0)]), none, (some ((.loc 1), false))⟩,
  ⟨(.fa 0 (.var 3)), none, (some ((.loc 2), false))⟩,
  ⟨(.load false 1 (.loc 0)), none, (some ((.loc 3), false))⟩,
  ⟨(.bin .leq (.loc 2) (.loc 0)), none, (some ((.loc 4), false))⟩,
  ⟨(.mov (.loc 0)), none, (some ((.loc 5), false))⟩,
  ⟨(.load true 2 (.var 3)), none, (some ((.loc 0), true))⟩,
  ⟨(.call true 10 [(.loc 0)]), none, (some ((.loc 1), true))⟩,
  ⟨(.fa 0 (.var 3)), none, (some ((.loc 2), true))⟩,
  ⟨(.load false 1 (.loc 0)), none, (some ((.loc 3), true))⟩,
  ⟨(.bin .sub (.loc 0) (.k (.int .i64 1))), none, (some ((.loc 4), true))⟩,
  ⟨(.bin .geq (.loc 3) (.loc 0)), none, (some ((.loc 5), true))⟩,
  ⟨(.pick (.loc 6) (.loc 0) (.k (.bool false))), none, (some ((.loc 12), false))⟩,
  ⟨(.pick (.loc 13) (.k (.bool true)) (.loc 0)), none, (some ((.loc 16), true))⟩,
  ⟨(.pick (.loc 17) (.loc 0) (.k (.bool false))), none, none⟩,
  ⟨(.mov (.loc 0)), (some 1), none⟩]
def c4 : CFun := ⟨1, 7, (.seq (.region [] [] c4_0) (.seq (.region [] [] c4_1) (.seq (.region [] [] c4_2) (.seq (.region [] [] c4_3) (.seq (.seq (.region [] [] c4_4) (.cond (.var 6) (.seq (.region [] [] c4_5) .ret) .skip)) (.seq (.region [] [] c4_6) .ret)))))), [.var 1]⟩
theorem ok4 : CodeOk Tryd.prog T 4 c4 := ⟨⟨Tryd.f4, Hints.of [] [] [], [0, 2, 3, 4, 5, 7, 30], Tryd.func4, by kernel_rfl, by kernel_rfl⟩⟩

/-! spinney/spinneylaw04.OpsTells -/
def c5_0 : List CO := [⟨(.mov (.k (.bool false))), (some 1), none⟩]
def c5_1 : List CO := [⟨(.mov (.var 0)), none, none⟩,
  ⟨(.call true 12 [(.loc 0)]), none, none⟩,
  ⟨(.mov (.loc 0)), none, none⟩,
  ⟨(.extract (.loc 0) 0), none, none⟩,
  ⟨(.extract (.loc 1) 1), none, none⟩,
  ⟨(.box (.k (.agg #[(.int .i64 0), (.string ⟨#[]⟩)]))), (some 2), none⟩,
  ⟨(.store 2 (.var 2) (.loc 2)), none, none⟩,
  ⟨(.mov (.loc 2)), (some 3), none⟩]
def c5_2 : List CO := [⟨(.mov (.var 0)), none, none⟩,
  ⟨(.call true 14 [(.loc 0)]), none, none⟩,
  ⟨(.mov (.loc 0)), none, none⟩,
  ⟨(.extract (.loc 0) 0), none, none⟩,
  ⟨(.extract (.loc 1) 1), none, none⟩,
  ⟨(.box (.k (.agg #[(.int .i64 0), (.string ⟨#[]⟩)]))), (some 4), none⟩,
  ⟨(.store 2 (.var 4) (.loc 2)), none, none⟩,
  ⟨(.mov (.loc 2)), (some 5), none⟩]
def c5_3 : List CO := [⟨(.mov (.var 0)), none, none⟩,
  ⟨(.call true 13 [(.loc 0)]), none, none⟩,
  ⟨(.mov (.loc 0)), none, none⟩,
  ⟨(.extract (.loc 0) 0), none, none⟩,
  ⟨(.extract (.loc 1) 1), none, none⟩,
  ⟨(.box (.k (.agg #[(.int .i64 0), (.string ⟨#[]⟩)]))), (some 6), none⟩,
  ⟨(.store 2 (.var 6) (.loc 2)), none, none⟩,
  ⟨(.mov (.loc 2)), (some 7), none⟩]
def c5_4 : List CO := [⟨(.mov (.var 0)), none, none⟩,
  ⟨(.call true 15 [(.loc 0)]), none, none⟩,
  ⟨(.mov (.loc 0)), none, none⟩,
  ⟨(.extract (.loc 0) 0), none, none⟩,
  ⟨(.extract (.loc 1) 1), none, none⟩,
  ⟨(.box (.k (.agg #[(.int .i64 0), (.string ⟨#[]⟩)]))), (some 8), none⟩,
  ⟨(.store 2 (.var 8) (.loc 2)), none, none⟩,
  ⟨(.mov (.loc 2)), (some 9), none⟩]
def c5_5 : List CO := [⟨(.call true 7 []), none, none⟩,
  ⟨(.mov (.loc 0)), none, none⟩,
  ⟨(.load true 2 (.var 2)), none, (some ((.loc 0), true))⟩,
  ⟨(.load true 2 (.var 4)), none, (some ((.loc 1), true))⟩,
  ⟨(.eqv (.flat [.i, .s]) false (.loc 1) (.loc 0)), none, (some ((.loc 2), true))⟩,
  ⟨(.pick (.loc 3) (.loc 0) (.k (.bool false))), none, none⟩,
  ⟨(.mov (.loc 0)), none, none⟩,
  ⟨(.mov (.var 3)), none, (some ((.loc 0), true))⟩,
  ⟨(.mov (.var 5)), none, (some ((.loc 1), true))⟩,
  ⟨(.eqv .bool false (.loc 1) (.loc 0)), none, (some ((.loc 2), true))⟩,
  ⟨(.pick (.loc 3) (.loc 0) (.k (.bool false))), none, none⟩,
  ⟨(.mov (.loc 0)), none, none⟩,
  ⟨(.load true 2 (.var 6)), none, (some ((.loc 0), true))⟩,
  ⟨(.load true 2 (.var 8)), none, (some ((.loc 1), true))⟩,
  ⟨(.eqv (.flat [.i, .s]) false (.loc 1) (.loc 0)), none, (some ((.loc 2), true))⟩,
  ⟨(.pick (.loc 3) (.loc 0) (.k (.bool false))), none, none⟩,
  ⟨(.mov (.loc 0)), none, none⟩,
  ⟨(.mov (.var 7)), none, (some ((.loc 0), true))⟩,
  ⟨(.mov (.var 9)), none, (some ((.loc 1), true))⟩,
  ⟨(.eqv .bool false (.loc 1) (.loc 0)), none, (some ((.loc 2), true))⟩,
  ⟨(.pick (.loc 3) (.loc 0) (.k (.bool false))), none, none⟩,
  ⟨(.mov (.loc 0)), none, none⟩,
  ⟨(.call true 17 []), none, (some ((.loc 0), true))⟩,
  ⟨(.call true 18 []), none, (some ((.loc 1), true))⟩,
  ⟨(.call true 16 [(.loc 1), (.loc 0)]), none, (some ((.loc 2), true))⟩,
  ⟨(.pick (.loc 3) (.loc 0) (.k (.bool false))), none, none⟩,
  ⟨(.mov (.loc 0)), (some 1), none⟩]
def c5 : CFun := ⟨1, 10, (.seq (.region [] [] c5_0) (.seq (.region [] [] c5_1) (.seq (.region [] [] c5_2) (.seq (.region [] [] c5_3) (.seq (.region [] [] c5_4) (.seq (.region [] [] c5_5) .ret)))))), [.var 1]⟩
theorem ok5 : CodeOk Tryd.prog T 5 c5 := ⟨⟨Tryd.f5, Hints.of [] [] [], [0, 2, 3, 4, 5, 6, 7, 8, 9, 10], Tryd.func5, by kernel_rfl, by kernel_rfl⟩⟩

/-! spinney/spinneylaw04.OpsBounds -/
def c6_0 : List CO := [⟨(.mov (.k (.bool false))), (some 1), none⟩]
def c6_1 : List CO := [⟨(.call true 7 []), none, none⟩,
  ⟨(.mov (.loc 0)), (some 2), none⟩]
def c6_2 : List CO := [⟨(.call true 17 []), none, none⟩,
  ⟨(.mov (.loc 0)), (some 3), none⟩]
def c6_3 : List CO := [⟨(.mov (.var 3)), none, none⟩,
  ⟨(.len .slice (.loc 0)), none, none⟩,
  ⟨(.bin .eql (.loc 0) (.k (.int .i64 0))), (some 10), none⟩]
def c6_4 : List CO := [⟨(.mov (.k (.bool false))), (some 1), none⟩]
def c6_5 : List CO := [⟨(.mov (.var 0)), none, none⟩,
  ⟨(.mov (.var 3)), none, none⟩,
  ⟨(.len .slice (.loc 0)), none, none⟩,
  ⟨(.bin .rem (.loc 2) (.loc 0)), none, none⟩,
  ⟨(.mov (.var 3)), none, none⟩,
  ⟨(.len .slice (.loc 0)), none, none⟩,
  ⟨(.bin .add (.loc 2) (.loc 0)), none, none⟩,
  ⟨(.mov (.var 3)), none, none⟩,
  ⟨(.len .slice (.loc 0)), none, none⟩,
  ⟨(.bin .rem (.loc 2) (.loc 0)), none, none⟩,
  ⟨(.mov (.loc 0)), (some 0), none⟩]
def c6_6 : List CO := [⟨(.mov (.var 3)), (some 11), none⟩,
  ⟨(.len .slice (.var 11)), (some 12), none⟩,
  ⟨(.mov (.k (.int .i64 0))), (some 13), none⟩]
def c6_7 : List CO := [⟨(.bin .lss (.var 13) (.var 12)), (some 14), none⟩]
def c6_8 : List CO := [⟨(.mov (.var 13)), none, none⟩,
  ⟨(.ia 1 (.var 11) (.var 13)), none, none⟩,
  ⟨(.load false 1 (.loc 0)), none, none⟩,
  ⟨(.mov (.loc 2)), (some 4), none⟩,
  ⟨(.mov (.loc 1)), (some 5), none⟩]
def c6_9 : List CO := [⟨(.mov (.var 4)), none, none⟩,
  ⟨(.mov (.var 0)), none, none⟩,
  ⟨(.bin .neq (.loc 1) (.loc 0)), none, none⟩,
  ⟨(.mov (.loc 0)), none, none⟩,
  ⟨(.mov (.var 5)), none, (some ((.loc 0), true))⟩,
  ⟨(.mov (.var 3)), none, (some ((.loc 1), true))⟩,
  ⟨(.mov (.var 0)), none, (some ((.loc 2), true))⟩,
  ⟨(.ia 1 (.loc 1) (.loc 0)), none, (some ((.loc 3), true))⟩,
  ⟨(.load false 1 (.loc 0)), none, (some ((.loc 4), true))⟩,
  ⟨(.bin .eql (.loc 4) (.loc 0)), none, (some ((.loc 5), true))⟩,
  ⟨(.pick (.loc 6) (.loc 0) (.k (.bool false))), (some 15), none⟩]
def c6_10 : List CO := [⟨(.mov (.k (.bool false))), (some 1), none⟩]
def c6_11 : List CO := [⟨(.bin .add (.var 13) (.k (.int .i64 1))), none, none⟩,
  ⟨(.mov (.loc 0)), (some 13), none⟩]
def c6_12 : CC := (.seq (.region [] [] c6_7) (.seq (.cond (.var 14) .skip (.exit 0)) (.seq (.block 1 (.seq (.region [] [] c6_8) (.seq (.region [] [] c6_9) (.cond (.var 15) (.seq (.region [] [] c6_10) .ret) .skip)))) (.region [] [] c6_11))))
def c6_13 : List CO := [⟨(.mov (.var 3)), none, none⟩,
  ⟨(.mov (.var 0)), none, none⟩,
  ⟨(.ia 1 (.loc 1) (.loc 0)), none, none⟩,
  ⟨(.load false 1 (.loc 0)), none, none⟩,
  ⟨(.call true 12 [(.loc 0)]), none, none⟩,
  ⟨(.mov (.loc 0)), none, none⟩,
  ⟨(.extract (.loc 0) 0), none, none⟩,
  ⟨(.extract (.loc 1) 1), none, none⟩,
  ⟨(.box (.k (.agg #[(.int .i64 0), (.string ⟨#[]⟩)]))), (some 6), none⟩,
  ⟨(.store 2 (.var 6) (.loc 2)), none, none⟩,
  ⟨(.mov (.loc 2)), (some 7), none⟩]
def c6_14 : List CO := [⟨(.mov (.var 3)), none, none⟩,
  ⟨(.mov (.var 0)), none, none⟩,
  ⟨(.ia 1 (.loc 1) (.loc 0)), none, none⟩,
  ⟨(.load false 1 (.loc 0)), none, none⟩,
  ⟨(.call true 13 [(.loc 0)]), none, none⟩,
  ⟨(.mov (.loc 0)), none, none⟩,
  ⟨(.extract (.loc 0) 0), none, none⟩,
  ⟨(.extract (.loc 1) 1), none, none⟩,
  ⟨(.box (.k (.agg #[(.int .i64 0), (.string ⟨#[]⟩)]))), (some 8), none⟩,
  ⟨(.store 2 (.var 8) (.loc 2)), none, none⟩,
  ⟨(.mov (.loc 2)), (some 9), none⟩]
def c6_15 : List CO := [⟨(.mov (.var 7)), none, none⟩,
  ⟨(.un .not (.loc 0)), none, none⟩,
  ⟨(.mov (.loc 0)), none, none⟩,
  ⟨(.mov (.var 9)), none, (some ((.loc 0), true))⟩,
  ⟨(.un .not (.loc 0)), none, (some ((.loc 1), true))⟩,
  ⟨(.pick (.loc 2) (.loc 0) (.k (.bool false))), (some 16), none⟩]
def c6_16 : List CO := [⟨(.mov (.k (.bool false))), (some 1), none⟩]
def c6_17 : List CO := [⟨(.mov (.var 7)), none, none⟩,
  ⟨(.mov (.loc 0)), none, none⟩,
  ⟨(.load true 2 (.var 6)), none, (some ((.loc 0), true))⟩,
  ⟨(.call true 8 [(.loc 0)]), none, (some ((.loc 1), true))⟩,
  ⟨(.bin .neq (.loc 0) (.k (.int .i64 0))), none, (some ((.loc 2), true))⟩,
  ⟨(.mov (.loc 0)), none, (some ((.loc 3), true))⟩,
  ⟨(.load true 2 (.var 6)), none, (some ((.loc 0), false))⟩,
  ⟨(.call true 10 [(.loc 0)]), none, (some ((.loc 1), false))⟩,
  ⟨(.bin .lss (.loc 0) (.k (.int .i64 199))), none, (some ((.loc 2), false))⟩,
  ⟨(.pick (.loc 3) (.k (.bool true)) (.loc 0)), none, (some ((.loc 7), true))⟩,
  ⟨(.mov (.loc 0)), none, (some ((.loc 8), true))⟩,
  ⟨(.load true 2 (.var 6)), none, (some ((.loc 0), false))⟩,
  ⟨(.call true 10 [(.loc 0)]), none, (some ((.loc 1), false))⟩,
  ⟨(.bin .gtr (.loc 0) (.k (.int .i64 1200))), none, (some ((.loc 2), false))⟩,
  ⟨(.pick (.loc 3) (.k (.bool true)) (.loc 0)), none, (some ((.loc 12), true))⟩,
  ⟨(.pick (.loc 13) (.loc 0) (.k (.bool false))), (some 17), none⟩]
def c6_18 : List CO := [⟨(.mov (.k (.bool false))), (some 1), none⟩]
def c6_19 : List CO := [⟨(.mov (.var 2)), none, none⟩,
  ⟨(.mov (.loc 0)), none, none⟩,
  ⟨(.mov (.var 9)), none, (some ((.loc 0), true))⟩,
  ⟨(.un .not (.loc 0)), none, (some ((.loc 1), true))⟩,
  ⟨(.mov (.loc 0)), none, (some ((.loc 2), true))⟩,
  ⟨(.load true 2 (.var 8)), none, (some ((.loc 0), false))⟩,
  ⟨(.call true 8 [(.loc 0)]), none, (some ((.loc 1), false))⟩,
  ⟨(.bin .geq (.loc 0) (.k (.int .i64 199))), none, (some ((.loc 2), false))⟩,
  ⟨(.mov (.loc 0)), none, (some ((.loc 3), false))⟩,
  ⟨(.load true 2 (.var 8)), none, (some ((.loc 0), true))⟩,
  ⟨(.call true 8 [(.loc 0)]), none, (some ((.loc 1), true))⟩,
  ⟨(.bin .leq (.loc 0) (.k (.int .i64 1200))), none, (some ((.loc 2), true))⟩,
  ⟨(.pick (.loc 3) (.loc 0) (.k (.bool false))), none, (some ((.loc 7), false))⟩,
  ⟨(.mov (.loc 0)), none, (some ((.loc 8), false))⟩,
  ⟨(.load true 2 (.var 8)), none, (some ((.loc 0), true))⟩,
  ⟨(.call true 10 [(.loc 0)]), none, (some ((.loc 1), true))⟩,
  ⟨(.bin .geq (.loc 0) (.k (.int .i64 199))), none, (some ((.loc 2), true))⟩,
  ⟨(.pick (.loc 3) (.loc 0) (.k (.bool false))), none, (some ((.loc 12), false))⟩,
  ⟨(.mov (.loc 0)), none, (some ((.loc 13), false))⟩,
  ⟨(.load true 2 (.var 8)), none, (some ((.loc 0), true))⟩,
  ⟨(.call true 10 [(.loc 0)]), none, (some ((.loc 1), true))⟩,
  ⟨(.bin .leq (.loc 0) (.k (.int .i64 1200))), none, (some ((.loc 2), true))⟩,
  ⟨(.pick (.loc 3) (.loc 0) (.k (.bool false))), none, (some ((.loc 17), false))⟩,
  ⟨(.mov (.loc 0)), none, (some ((.loc 18), false))⟩,
  ⟨(.load true 2 (.var 8)), none, (some ((.loc 0), true))⟩,
  ⟨(.call true 8 [(.loc 0)]), none, (some ((.loc 1), true))⟩,
  ⟨(.fa 0 (.var 8)), none, (some ((.loc 2), true))⟩,
  ⟨(.load false 1 (.loc 0)), none, (some ((.loc 3), true))⟩,
  ⟨(.bin .lss (.loc 2) (.loc 0)), none, (some ((.loc 4), true))⟩,
  ⟨(.mov (.loc 0)), none, (some ((.loc 5), true))⟩,
  ⟨(.load true 2 (.var 8)), none, (some ((.loc 0), false))⟩,
  ⟨(.call true 10 [(.loc 0)]), none, (some ((.loc 1), false))⟩,
  ⟨(.fa 0 (.var 8)), none, (some ((.loc 2), false))⟩,
  ⟨(.load false 1 (.loc 0)), none, (some ((.loc 3), false))⟩,
  ⟨(.bin .lss (.loc 2) (.loc 0)), none, (some ((.loc 4), false))⟩,
  ⟨(.pick (.loc 5) (.k (.bool true)) (.loc 0)), none, (some ((.loc 11), true))⟩,
  ⟨(.pick (.loc 12) (.loc 0) (.k (.bool false))), none, (some ((.loc 31), false))⟩,
  ⟨(.pick (.loc 32) (.k (.bool true)) (.loc 0)), none, (some ((.loc 35), true))⟩,
  ⟨(.pick (.loc 36) (.loc 0) (.k (.bool false))), none, none⟩,
  ⟨(.mov (.loc 0)), (some 1), none⟩]
def c6 : CFun := ⟨1, 18, (.seq (.region [] [] c6_0) (.seq (.region [] [] c6_1) (.seq (.region [] [] c6_2) (.seq (.seq (.region [] [] c6_3) (.cond (.var 10) (.seq (.region [] [] c6_4) .ret) .skip)) (.seq (.region [] [] c6_5) (.seq (.seq (.region [] [] c6_6) (.block 0 (.loop [true, false, true, true, false, false, false, false, false, false, false, true, true, true, false, false, false, false] [] c6_12))) (.seq (.region [] [] c6_13) (.seq (.region [] [] c6_14) (.seq (.seq (.region [] [] c6_15) (.cond (.var 16) (.seq (.region [] [] c6_16) .ret) .skip)) (.seq (.seq (.region [] [] c6_17) (.cond (.var 17) (.seq (.region [] [] c6_18) .ret) .skip)) (.seq (.region [] [] c6_19) .ret))))))))))), [.var 1]⟩
theorem ok6 : CodeOk Tryd.prog T 6 c6 := ⟨⟨Tryd.f6, Hints.of [] [] [(0, [true, false, true, true, false, false, false, false, false, false, false, true, true, true, false, false, false, false], [])], [0, 2, 3, 4, 5, 6, 7, 8, 9, 10, 15, 26, 27, 28, 29, 43, 66, 82], Tryd.func6, by kernel_rfl, by kernel_rfl⟩⟩

/-! spinney/spinneylaw04.live -/
def c7_0 : List CO := [⟨(.mov (.k (.bool false))), (some 0), none⟩]
def c7_1 : List CO := [⟨(.call true 13 [(.k (.string ⟨#[105, 115]⟩))]), none, none⟩,
  ⟨(.mov (.loc 0)), none, none⟩,
  ⟨(.extract (.loc 0) 0), none, none⟩,
  ⟨(.extract (.loc 1) 1), none, none⟩,
  ⟨(.box (.k (.agg #[(.int .i64 0), (.string ⟨#[]⟩)]))), (some 1), none⟩,
  ⟨(.store 2 (.var 1) (.loc 2)), none, none⟩,
  ⟨(.mov (.loc 2)), (some 2), none⟩]
def c7_2 : List CO := [⟨(.call true 12 [(.k (.string ⟨#[45]⟩))]), none, none⟩,
  ⟨(.mov (.loc 0)), none, none⟩,
  ⟨(.extract (.loc 0) 0), none, none⟩,
  ⟨(.extract (.loc 1) 1), none, none⟩,
  ⟨(.box (.k (.agg #[(.int .i64 0), (.string ⟨#[]⟩)]))), (some 3), none⟩,
  ⟨(.store 2 (.var 3) (.loc 2)), none, none⟩,
  ⟨(.mov (.loc 2)), (some 4), none⟩]
def c7_3 : List CO := [⟨(.call true 12 [(.k (.string ⟨#[114, 101, 109]⟩))]), none, none⟩,
  ⟨(.mov (.loc 0)), none, none⟩,
  ⟨(.extract (.loc 0) 0), none, none⟩,
  ⟨(.extract (.loc 1) 1), none, none⟩,
  ⟨(.box (.k (.agg #[(.int .i64 0), (.string ⟨#[]⟩)]))), none, none⟩,
  ⟨(.store 2 (.loc 0) (.loc 2)), none, none⟩,
  ⟨(.mov (.loc 2)), (some 5), none⟩]
def c7_4 : List CO := [⟨(.mov (.var 2)), none, none⟩,
  ⟨(.mov (.loc 0)), none, none⟩,
  ⟨(.load true 2 (.var 1)), none, (some ((.loc 0), true))⟩,
  ⟨(.build [(.int .i64 0), (.string ⟨#[]⟩)] [(0, 1, (.k (.int .i64 700))), (1, 1, (.k (.string ⟨#[120, 102, 120]⟩)))]), none, (some ((.loc 1), true))⟩,
  ⟨(.eqv (.flat [.i, .s]) false (.loc 1) (.loc 0)), none, (some ((.loc 2), true))⟩,
  ⟨(.pick (.loc 3) (.loc 0) (.k (.bool false))), none, none⟩,
  ⟨(.mov (.loc 0)), none, none⟩,
  ⟨(.load true 2 (.var 1)), none, (some ((.loc 0), true))⟩,
  ⟨(.call true 8 [(.loc 0)]), none, (some ((.loc 1), true))⟩,
  ⟨(.bin .eql (.loc 0) (.k (.int .i64 699))), none, (some ((.loc 2), true))⟩,
  ⟨(.pick (.loc 3) (.loc 0) (.k (.bool false))), none, none⟩,
  ⟨(.mov (.loc 0)), none, none⟩,
  ⟨(.mov (.var 4)), none, (some ((.loc 0), true))⟩,
  ⟨(.pick (.loc 1) (.loc 0) (.k (.bool false))), none, none⟩,
  ⟨(.mov (.loc 0)), none, none⟩,
  ⟨(.load true 2 (.var 3)), none, (some ((.loc 0), true))⟩,
  ⟨(.call true 10 [(.loc 0)]), none, (some ((.loc 1), true))⟩,
  ⟨(.bin .eql (.loc 0) (.k (.int .i64 200))), none, (some ((.loc 2), true))⟩,
  ⟨(.pick (.loc 3) (.loc 0) (.k (.bool false))), none, none⟩,
  ⟨(.mov (.loc 0)), none, none⟩,
  ⟨(.load true 2 (.var 3)), none, (some ((.loc 0), true))⟩,
  ⟨(.call true 8 [(.loc 0)]), none, (some ((.loc 1), true))⟩,
  ⟨(.bin .eql (.loc 0) (.k (.int .i64 0))), none, (some ((.loc 2), true))⟩,
  ⟨(.pick (.loc 3) (.loc 0) (.k (.bool false))), none, none⟩,
  ⟨(.mov (.loc 0)), none, none⟩,
  ⟨(.mov (.var 5)), none, (some ((.loc 0), true))⟩,
  ⟨(.un .not (.loc 0)), none, (some ((.loc 1), true))⟩,
  ⟨(.pick (.loc 2) (.loc 0) (.k (.bool false))), none, none⟩,
  ⟨(.mov (.loc 0)), (some 0), none⟩]
def c7 : CFun := ⟨0, 6, (.seq (.region [] [] c7_0) (.seq (.region [] [] c7_1) (.seq (.region [] [] c7_2) (.seq (.region [] [] c7_3) (.seq (.region [] [] c7_4) .ret))))), [.var 0]⟩
theorem ok7 : CodeOk Tryd.prog T 7 c7 := ⟨⟨Tryd.f7, Hints.of [] [] [], [0, 1, 2, 3, 4, 6], Tryd.func7, by kernel_rfl, by kernel_rfl⟩⟩

/-! spinney/ops.Left -/
def c8_0 : List CO := [⟨(.box (.var 0)), (some 1), none⟩,
  ⟨(.mov (.k (.int .i64 0))), (some 2), none⟩]
def c8_1 : List CO := [⟨(.fa 1 (.var 1)), none, none⟩,
  ⟨(.load false 1 (.loc 0)), (some 3), none⟩]
def c8_2 : List CO := [⟨(.bin .eql (.var 3) (.k (.string ⟨#[121, 102, 120]⟩))), none, none⟩,
  ⟨(.mov (.loc 0)), (some 4), none⟩]
def c8_3 : List CO := [⟨(.fa 0 (.var 1)), none, none⟩,
  ⟨(.load false 1 (.loc 0)), none, none⟩,
  ⟨(.mov (.loc 0)), (some 2), none⟩]
def c8_4 : List CO := [⟨(.bin .eql (.var 3) (.k (.string ⟨#[120, 102, 120]⟩))), none, none⟩,
  ⟨(.mov (.loc 0)), (some 5), none⟩]
def c8_5 : List CO := [⟨(.bin .eql (.var 3) (.k (.string ⟨#[120, 102, 121]⟩))), none, none⟩,
  ⟨(.mov (.loc 0)), (some 5), none⟩]
def c8_6 : List CO := [⟨(.fa 0 (.var 1)), none, none⟩,
  ⟨(.load false 1 (.loc 0)), none, none⟩,
  ⟨(.bin .sub (.loc 0) (.k (.int .i64 1))), none, none⟩,
  ⟨(.mov (.loc 0)), (some 2), none⟩]
def c8_7 : List CO := [⟨(.mov (.k (.int .i64 0))), (some 2), none⟩]
def c8 : CFun := ⟨1, 6, (.seq (.region [] [] c8_0) (.seq (.seq (.region [] [] c8_1) (.block 0 (.seq (.region [] [] c8_2) (.cond (.var 4) (.seq (.region [] [] c8_3) .ret) (.seq (.seq (.region [] [] c8_4) (.cond (.var 5) .skip (.region [] [] c8_5))) (.cond (.var 5) (.seq (.region [] [] c8_6) .ret) .skip)))))) (.seq (.region [] [] c8_7) .ret))), [.var 2]⟩
theorem ok8 : CodeOk Tryd.prog T 8 c8 := ⟨⟨Tryd.f8, Hints.of [] [] [], [0, 1, 2, 4, 5, 9], Tryd.func8, by kernel_rfl, by kernel_rfl⟩⟩

/-! spinney/spinneyref04.Left -/
def c9_0 : List CO := [⟨(.box (.var 0)), (some 1), none⟩,
  ⟨(.mov (.k (.int .i64 0))), (some 2), none⟩]
def c9_1 : List CO := [⟨(.fa 1 (.var 1)), none, none⟩,
  ⟨(.load false 1 (.loc 0)), (some 3), none⟩]
def c9_2 : List CO := [⟨(.bin .eql (.var 3) (.k (.string ⟨#[120, 102, 120]⟩))), none, none⟩,
  ⟨(.mov (.loc 0)), (some 4), none⟩]
def c9_3 : List CO := [⟨(.bin .eql (.var 3) (.k (.string ⟨#[120, 102, 121]⟩))), none, none⟩,
  ⟨(.mov (.loc 0)), (some 4), none⟩]
def c9_4 : List CO := [⟨(.bin .eql (.var 3) (.k (.string ⟨#[121, 102, 120]⟩))), none, none⟩,
  ⟨(.mov (.loc 0)), (some 4), none⟩]
def c9_5 : List CO := [⟨(.fa 0 (.var 1)), none, none⟩,
  ⟨(.load false 1 (.loc 0)), none, none⟩,
  ⟨(.fa 1 (.var 1)), none, none⟩,
  ⟨(.load false 1 (.loc 0)), none, none⟩,
  ⟨(.ixs (.loc 0) (.k (.int .i64 0))), none, none⟩,
  ⟨(.call true 19 [(.loc 3), (.loc 0)]), none, none⟩,
  ⟨(.mov (.loc 0)), (some 2), none⟩]
def c9_6 : List CO := [⟨(.mov (.k (.int .i64 0))), (some 2), none⟩]
def c9 : CFun := ⟨1, 5, (.seq (.region [] [] c9_0) (.seq (.seq (.region [] [] c9_1) (.block 0 (.seq (.seq (.region [] [] c9_2) (.cond (.var 4) .skip (.seq (.region [] [] c9_3) (.cond (.var 4) .skip (.region [] [] c9_4))))) (.cond (.var 4) (.seq (.region [] [] c9_5) .ret) .skip)))) (.seq (.region [] [] c9_6) .ret))), [.var 2]⟩
theorem ok9 : CodeOk Tryd.prog T 9 c9 := ⟨⟨Tryd.f9, Hints.of [] [] [], [0, 1, 2, 4, 5], Tryd.func9, by kernel_rfl, by kernel_rfl⟩⟩

/-! spinney/ops.Right -/
def c10_0 : List CO := [⟨(.box (.var 0)), (some 1), none⟩,
  ⟨(.mov (.k (.int .i64 0))), (some 2), none⟩]
def c10_1 : List CO := [⟨(.fa 1 (.var 1)), none, none⟩,
  ⟨(.load false 1 (.loc 0)), (some 3), none⟩]
def c10_2 : List CO := [⟨(.bin .eql (.var 3) (.k (.string ⟨#[120, 102, 121]⟩))), none, none⟩,
  ⟨(.mov (.loc 0)), (some 4), none⟩]
def c10_3 : List CO := [⟨(.bin .eql (.var 3) (.k (.string ⟨#[102, 121]⟩))), none, none⟩,
  ⟨(.mov (.loc 0)), (some 4), none⟩]
def c10_4 : List CO := [⟨(.fa 0 (.var 1)), none, none⟩,
  ⟨(.load false 1 (.loc 0)), none, none⟩,
  ⟨(.mov (.loc 0)), (some 2), none⟩]
def c10_5 : List CO := [⟨(.bin .eql (.var 3) (.k (.string ⟨#[120, 102, 120]⟩))), none, none⟩,
  ⟨(.mov (.loc 0)), (some 5), none⟩]
def c10_6 : List CO := [⟨(.bin .eql (.var 3) (.k (.string ⟨#[121, 102, 120]⟩))), none, none⟩,
  ⟨(.mov (.loc 0)), (some 5), none⟩]
def c10_7 : List CO := [⟨(.bin .eql (.var 3) (.k (.string ⟨#[102, 120]⟩))), none, none⟩,
  ⟨(.mov (.loc 0)), (some 5), none⟩]
def c10_8 : List CO := [⟨(.fa 0 (.var 1)), none, none⟩,
  ⟨(.load false 1 (.loc 0)), none, none⟩,
  ⟨(.bin .sub (.loc 0) (.k (.int .i64 1))), none, none⟩,
  ⟨(.mov (.loc 0)), (some 2), none⟩]
def c10_9 : List CO := [⟨(.mov (.k (.int .i64 0))), (some 2), none⟩]
def c10 : CFun := ⟨1, 6, (.seq (.region [] [] c10_0) (.seq (.seq (.region [] [] c10_1) (.block 0 (.seq (.seq (.region [] [] c10_2) (.cond (.var 4) .skip (.region [] [] c10_3))) (.cond (.var 4) (.seq (.region [] [] c10_4) .ret) (.seq (.seq (.region [] [] c10_5) (.cond (.var 5) .skip (.seq (.region [] [] c10_6) (.cond (.var 5) .skip (.region [] [] c10_7))))) (.cond (.var 5) (.seq (.region [] [] c10_8) .ret) .skip)))))) (.seq (.region [] [] c10_9) .ret))), [.var 2]⟩
theorem ok10 : CodeOk Tryd.prog T 10 c10 := ⟨⟨Tryd.f10, Hints.of [] [] [], [0, 1, 2, 4, 5, 10], Tryd.func10, by kernel_rfl, by kernel_rfl⟩⟩

/-! spinney/spinneyref04.Right -/
def c11_0 : List CO := [⟨(.box (.var 0)), (some 1), none⟩,
  ⟨(.mov (.k (.int .i64 0))), (some 2), none⟩]
def c11_1 : List CO := [⟨(.fa 1 (.var 1)), none, none⟩,
  ⟨(.load false 1 (.loc 0)), (some 3), none⟩]
def c11_2 : List CO := [⟨(.bin .eql (.var 3) (.k (.string ⟨#[120, 102, 120]⟩))), none, none⟩,
  ⟨(.mov (.loc 0)), (some 4), none⟩]
def c11_3 : List CO := [⟨(.bin .eql (.var 3) (.k (.string ⟨#[120, 102, 121]⟩))), none, none⟩,
  ⟨(.mov (.loc 0)), (some 4), none⟩]
def c11_4 : List CO := [⟨(.bin .eql (.var 3) (.k (.string ⟨#[121, 102, 120]⟩))), none, none⟩,
  ⟨(.mov (.loc 0)), (some 4), none⟩]
def c11_5 : List CO := [⟨(.bin .eql (.var 3) (.k (.string ⟨#[102, 120]⟩))), none, none⟩,
  ⟨(.mov (.loc 0)), (some 4), none⟩]
def c11_6 : List CO := [⟨(.bin .eql (.var 3) (.k (.string ⟨#[102, 121]⟩))), none, none⟩,
  ⟨(.mov (.loc 0)), (some 4), none⟩]
def c11_7 : List CO := [⟨(.fa 0 (.var 1)), none, none⟩,
  ⟨(.load false 1 (.loc 0)), none, none⟩,
  ⟨(.fa 1 (.var 1)), none, none⟩,
  ⟨(.load false 1 (.loc 0)), none, none⟩,
  ⟨(.fa 1 (.var 1)), none, none⟩,
  ⟨(.load false 1 (.loc 0)), none, none⟩,
  ⟨(.len .string (.loc 0)), none, none⟩,
  ⟨(.bin .sub (.loc 0) (.k (.int .i64 1))), none, none⟩,
  ⟨(.ixs (.loc 4) (.loc 0)), none, none⟩,
  ⟨(.call true 19 [(.loc 7), (.loc 0)]), none, none⟩,
  ⟨(.mov (.loc 0)), (some 2), none⟩]
def c11_8 : List CO := [⟨(.mov (.k (.int .i64 0))), (some 2), none⟩]
def c11 : CFun := ⟨1, 5, (.seq (.region [] [] c11_0) (.seq (.seq (.region [] [] c11_1) (.block 0 (.seq (.seq (.region [] [] c11_2) (.cond (.var 4) .skip (.seq (.region [] [] c11_3) (.cond (.var 4) .skip (.seq (.region [] [] c11_4) (.cond (.var 4) .skip (.seq (.region [] [] c11_5) (.cond (.var 4) .skip (.region [] [] c11_6))))))))) (.cond (.var 4) (.seq (.region [] [] c11_7) .ret) .skip)))) (.seq (.region [] [] c11_8) .ret))), [.var 2]⟩
theorem ok11 : CodeOk Tryd.prog T 11 c11 := ⟨⟨Tryd.f11, Hints.of [] [] [], [0, 1, 2, 4, 5], Tryd.func11, by kernel_rfl, by kernel_rfl⟩⟩

/-! spinney/ops.Prefix -/
def c12_0 : List CO := [⟨(.box (.k (.agg #[(.int .i64 0), (.string ⟨#[]⟩)]))), (some 1), none⟩,
  ⟨(.mov (.k (.bool false))), (some 2), none⟩]
def c12_1 : List CO := [⟨(.mov (.var 0)), none, none⟩,
  ⟨(.call true 20 [(.loc 0), (.k (.bool true))]), none, none⟩,
  ⟨(.extract (.loc 0) 0), none, none⟩,
  ⟨(.extract (.loc 1) 1), none, none⟩,
  ⟨(.store 2 (.var 1) (.loc 1)), none, none⟩,
  ⟨(.mov (.loc 1)), (some 2), none⟩]
def c12 : CFun := ⟨1, 3, (.seq (.region [] [] c12_0) (.seq (.region [] [] c12_1) .ret)), [.cell 1 true 2, .var 2]⟩
theorem ok12 : CodeOk Tryd.prog T 12 c12 := ⟨⟨Tryd.f12, Hints.of [] [] [], [0, 2, 3], Tryd.func12, by kernel_rfl, by kernel_rfl⟩⟩

/-! spinney/ops.Infix -/
def c13_0 : List CO := [⟨(.box (.k (.agg #[(.int .i64 0), (.string ⟨#[]⟩)]))), (some 1), none⟩,
  ⟨(.mov (.k (.bool false))), (some 2), none⟩]
def c13_1 : List CO := [⟨(.mov (.var 0)), none, none⟩,
  ⟨(.call true 20 [(.loc 0), (.k (.bool false))]), none, none⟩,
  ⟨(.extract (.loc 0) 0), none, none⟩,
  ⟨(.extract (.loc 1) 1), none, none⟩,
  ⟨(.store 2 (.var 1) (.loc 1)), none, none⟩,
  ⟨(.mov (.loc 1)), (some 2), none⟩]
def c13 : CFun := ⟨1, 3, (.seq (.region [] [] c13_0) (.seq (.region [] [] c13_1) .ret)), [.cell 1 true 2, .var 2]⟩
theorem ok13 : CodeOk Tryd.prog T 13 c13 := ⟨⟨Tryd.f13, Hints.of [] [] [], [0, 2, 3], Tryd.func13, by kernel_rfl, by kernel_rfl⟩⟩

/-! spinney/spinneyref04.Prefix -/
def c14_0 : List CO := [⟨(.box (.k (.agg #[(.int .i64 0), (.string ⟨#[]⟩)]))), (some 1), none⟩,
  ⟨(.mov (.k (.bool false))), (some 2), none⟩]
def c14_1 : List CO := [⟨(.mov (.var 0)), none, none⟩,
  ⟨(.call true 21 [(.loc 0), (.k (.int .i64 2))]), none, none⟩,
  ⟨(.extract (.loc 0) 0), none, none⟩,
  ⟨(.extract (.loc 1) 1), none, none⟩,
  ⟨(.store 2 (.var 1) (.loc 1)), none, none⟩,
  ⟨(.mov (.loc 1)), (some 2), none⟩]
def c14 : CFun := ⟨1, 3, (.seq (.region [] [] c14_0) (.seq (.region [] [] c14_1) .ret)), [.cell 1 true 2, .var 2]⟩
theorem ok14 : CodeOk Tryd.prog T 14 c14 := ⟨⟨Tryd.f14, Hints.of [] [] [], [0, 2, 3], Tryd.func14, by kernel_rfl, by kernel_rfl⟩⟩

/-! spinney/spinneyref04.Infix -/
def c15_0 : List CO := [⟨(.box (.k (.agg #[(.int .i64 0), (.string ⟨#[]⟩)]))), (some 1), none⟩,
  ⟨(.mov (.k (.bool false))), (some 2), none⟩]
def c15_1 : List CO := [⟨(.mov (.var 0)), none, none⟩,
  ⟨(.call true 21 [(.loc 0), (.k (.int .i64 3))]), none, none⟩,
  ⟨(.extract (.loc 0) 0), none, none⟩,
  ⟨(.extract (.loc 1) 1), none, none⟩,
  ⟨(.store 2 (.var 1) (.loc 1)), none, none⟩,
  ⟨(.mov (.loc 1)), (some 2), none⟩]
def c15 : CFun := ⟨1, 3, (.seq (.region [] [] c15_0) (.seq (.region [] [] c15_1) .ret)), [.cell 1 true 2, .var 2]⟩
theorem ok15 : CodeOk Tryd.prog T 15 c15 := ⟨⟨Tryd.f15, Hints.of [] [] [], [0, 2, 3], Tryd.func15, by kernel_rfl, by kernel_rfl⟩⟩

/-! spinney/spinneyref04.SameNames -/
def c16_0 : List CO := [⟨(.mov (.k (.bool false))), (some 2), none⟩]
def c16_1 : List CO := [⟨(.mov (.var 0)), none, none⟩,
  ⟨(.len .slice (.loc 0)), none, none⟩,
  ⟨(.mov (.var 1)), none, none⟩,
  ⟨(.len .slice (.loc 0)), none, none⟩,
  ⟨(.bin .neq (.loc 2) (.loc 0)), (some 4), none⟩]
def c16_2 : List CO := [⟨(.mov (.k (.bool false))), (some 2), none⟩]
def c16_3 : List CO := [⟨(.mov (.var 0)), none, none⟩,
  ⟨(.len .slice (.loc 0)), (some 5), none⟩,
  ⟨(.mov (.k (.int .i64 0))), (some 6), none⟩]
def c16_4 : List CO := [⟨(.bin .lss (.var 6) (.var 5)), (some 7), none⟩]
def c16_5 : List CO := [⟨(.mov (.var 6)), none, none⟩,
  ⟨(.mov (.loc 0)), (some 3), none⟩]
def c16_6 : List CO := [⟨(.mov (.var 0)), none, none⟩,
  ⟨(.mov (.var 3)), none, none⟩,
  ⟨(.ia 1 (.loc 1) (.loc 0)), none, none⟩,
  ⟨(.load false 1 (.loc 0)), none, none⟩,
  ⟨(.mov (.var 1)), none, none⟩,
  ⟨(.mov (.var 3)), none, none⟩,
  ⟨(.ia 1 (.loc 1) (.loc 0)), none, none⟩,
  ⟨(.load false 1 (.loc 0)), none, none⟩,
  ⟨(.bin .neq (.loc 4) (.loc 0)), (some 8), none⟩]
def c16_7 : List CO := [⟨(.mov (.k (.bool false))), (some 2), none⟩]
def c16_8 : List CO := [⟨(.bin .add (.var 6) (.k (.int .i64 1))), none, none⟩,
  ⟨(.mov (.loc 0)), (some 6), none⟩]
def c16_9 : CC := (.seq (.region [] [] c16_4) (.seq (.cond (.var 7) .skip (.exit 0)) (.seq (.block 1 (.seq (.region [] [] c16_5) (.seq (.region [] [] c16_6) (.cond (.var 8) (.seq (.region [] [] c16_7) .ret) .skip)))) (.region [] [] c16_8))))
def c16_10 : List CO := [⟨(.mov (.k (.bool true))), (some 2), none⟩]
def c16 : CFun := ⟨2, 9, (.seq (.region [] [] c16_0) (.seq (.seq (.region [] [] c16_1) (.cond (.var 4) (.seq (.region [] [] c16_2) .ret) .skip)) (.seq (.seq (.region [] [] c16_3) (.block 0 (.loop [true, true, false, false, false, true, true, false, false] [] c16_9))) (.seq (.region [] [] c16_10) .ret)))), [.var 2]⟩
theorem ok16 : CodeOk Tryd.prog T 16 c16 := ⟨⟨Tryd.f16, Hints.of [] [] [(0, [true, true, false, false, false, true, true, false, false], [])], [0, 1, 4, 5, 10, 12, 13, 14, 24], Tryd.func16, by kernel_rfl, by kernel_rfl⟩⟩

/-! spinney/ops.Names -/
def c17_0 : List CO := [⟨(.mov (.k (.slice none 0 0))), (some 0), none⟩]
def c17_1 : List CO := [⟨(.mov (.k (.slice none 0 0))), (some 1), none⟩]
def c17_2 : List CO := [⟨(.call true 22 []), (some 5), none⟩,
  ⟨(.mov (.k (.int .i64 0))), (some 6), none⟩]
def c17_3 : List CO := [⟨(.bin .lss (.var 6) (.k (.int .i64 10))), (some 7), none⟩]
def c17_4 : List CO := [⟨(.mov (.var 6)), none, none⟩,
  ⟨(.ixa 10 true 3 (.var 5) (.var 6)), none, none⟩,
  ⟨(.box (.k (.agg #[(.int .i64 0), (.string ⟨#[]⟩), (.string ⟨#[]⟩)]))), (some 3), none⟩,
  ⟨(.mov (.loc 2)), (some 2), none⟩,
  ⟨(.store 3 (.var 3) (.loc 2)), none, none⟩]
def c17_5 : List CO := [⟨(.fa 2 (.var 3)), none, none⟩,
  ⟨(.load false 1 (.loc 0)), none, none⟩,
  ⟨(.call true 23 [(.loc 0)]), (some 8), none⟩,
  ⟨(.len .slice (.var 8)), (some 9), none⟩,
  ⟨(.mov (.k (.int .i64 0))), (some 10), none⟩]
def c17_6 : List CO := [⟨(.bin .lss (.var 10) (.var 9)), (some 11), none⟩]
def c17_7 : List CO := [⟨(.ia 1 (.var 8) (.var 10)), none, none⟩,
  ⟨(.load false 1 (.loc 0)), none, none⟩,
  ⟨(.mov (.loc 0)), (some 4), none⟩]
def c17_8 : List CO := [⟨(.mov (.var 2)), none, none⟩,
  ⟨(.bin .eql (.loc 0) (.k (.int .i64 1))), none, none⟩,
  ⟨(.mov (.loc 0)), none, none⟩,
  ⟨(.mov (.var 4)), none, (some ((.loc 0), true))⟩,
  ⟨(.bin .eql (.loc 0) (.k (.string ⟨#[58, 45]⟩))), none, (some ((.loc 1), true))⟩,
  ⟨(.pick (.loc 2) (.loc 0) (.k (.bool false))), none, none⟩,
  ⟨(.mov (.loc 0)), none, none⟩,
  ⟨(.mov (.var 2)), none, (some ((.loc 0), false))⟩,
  ⟨(.bin .eql (.loc 0) (.k (.int .i64 9))), none, (some ((.loc 1), false))⟩,
  ⟨(.pick (.loc 2) (.k (.bool true)) (.loc 0)), (some 12), none⟩]
def c17_9 : List CO := [⟨(.mov (.var 1)), none, none⟩,
  ⟨(.mov (.var 4)), none, none⟩,
  ⟨(.bslice 1 [(.string ⟨#[]⟩)] 1 [(0, (.loc 0))]), none, none⟩,
  ⟨(.append 1 16 (.loc 2) (.loc 0)), none, none⟩,
  ⟨(.mov (.loc 0)), (some 1), none⟩]
def c17_10 : List CO := [⟨(.bin .add (.var 10) (.k (.int .i64 1))), none, none⟩,
  ⟨(.mov (.loc 0)), (some 10), none⟩]
def c17_11 : CC := (.seq (.region [] [] c17_6) (.seq (.cond (.var 11) .skip (.exit 2)) (.seq (.block 3 (.seq (.region [] [] c17_7) (.seq (.seq (.region [] [] c17_8) (.cond (.var 12) (.exit 3) .skip)) (.region [] [] c17_9)))) (.region [] [] c17_10))))
def c17_12 : List CO := [⟨(.bin .add (.var 6) (.k (.int .i64 1))), none, none⟩,
  ⟨(.mov (.loc 0)), (some 6), none⟩]
def c17_13 : CC := (.seq (.region [] [] c17_3) (.seq (.cond (.var 7) .skip (.exit 0)) (.seq (.block 1 (.seq (.region [] [] c17_4) (.seq (.region [] [] c17_5) (.block 2 (.loop [false, true, true, false, false, true, true, false, true, true, true, false, false] [] c17_11))))) (.region [] [] c17_12))))
def c17_14 : List CO := [⟨(.mov (.var 1)), none, none⟩,
  ⟨(.mov (.loc 0)), (some 0), none⟩]
def c17 : CFun := ⟨0, 13, (.seq (.region [] [] c17_0) (.seq (.region [] [] c17_1) (.seq (.seq (.region [] [] c17_2) (.block 0 (.loop [false, true, false, false, false, true, true, false, false, false, false, false, false] [] c17_13))) (.seq (.region [] [] c17_14) .ret)))), [.var 0]⟩
theorem ok17 : CodeOk Tryd.prog T 17 c17 := ⟨⟨Tryd.f17, Hints.of [] [] [(0, [false, true, false, false, false, true, true, false, false, false, false, false, false], []), (2, [false, true, true, false, false, true, true, false, true, true, true, false, false], [])], [0, 1, 2, 3, 5, 6, 7, 8, 13, 14, 15, 16, 28], Tryd.func17, by kernel_rfl, by kernel_rfl⟩⟩

/-! spinney/spinneyref04.Names -/
def c18_0 : List CO := [⟨(.mov (.k (.slice none 0 0))), (some 0), none⟩]
def c18_1 : List CO := [⟨(.mov (.k (.slice none 0 0))), (some 1), none⟩]
def c18_2 : List CO := [⟨(.call true 24 []), (some 6), none⟩,
  ⟨(.len .slice (.var 6)), (some 7), none⟩,
  ⟨(.mov (.k (.int .i64 0))), (some 8), none⟩]
def c18_3 : List CO := [⟨(.bin .lss (.var 8) (.var 7)), (some 9), none⟩]
def c18_4 : List CO := [⟨(.ia 3 (.var 6) (.var 8)), none, none⟩,
  ⟨(.load true 3 (.loc 0)), none, none⟩,
  ⟨(.box (.k (.agg #[(.int .i64 0), (.string ⟨#[]⟩), (.slice none 0 0)]))), (some 2), none⟩,
  ⟨(.store 3 (.var 2) (.loc 1)), none, none⟩]
def c18_5 : List CO := [⟨(.fa 2 (.var 2)), none, none⟩,
  ⟨(.load false 1 (.loc 0)), (some 10), none⟩,
  ⟨(.len .slice (.var 10)), (some 11), none⟩,
  ⟨(.mov (.k (.int .i64 0))), (some 12), none⟩]
def c18_6 : List CO := [⟨(.bin .lss (.var 12) (.var 11)), (some 13), none⟩]
def c18_7 : List CO := [⟨(.ia 1 (.var 10) (.var 12)), none, none⟩,
  ⟨(.load false 1 (.loc 0)), none, none⟩,
  ⟨(.mov (.loc 0)), (some 3), none⟩]
def c18_8 : List CO := [⟨(.mov (.k (.bool false))), (some 4), none⟩]
def c18_9 : List CO := [⟨(.mov (.var 1)), (some 14), none⟩,
  ⟨(.len .slice (.var 14)), (some 15), none⟩,
  ⟨(.mov (.k (.int .i64 0))), (some 16), none⟩]
def c18_10 : List CO := [⟨(.bin .lss (.var 16) (.var 15)), (some 17), none⟩]
def c18_11 : List CO := [⟨(.ia 1 (.var 14) (.var 16)), none, none⟩,
  ⟨(.load false 1 (.loc 0)), none, none⟩,
  ⟨(.mov (.loc 0)), (some 5), none⟩]
def c18_12 : List CO := [⟨(.mov (.var 4)), none, none⟩,
  ⟨(.mov (.loc 0)), none, none⟩,
  ⟨(.mov (.var 5)), none, (some ((.loc 0), false))⟩,
  ⟨(.mov (.var 3)), none, (some ((.loc 1), false))⟩,
  ⟨(.bin .eql (.loc 1) (.loc 0)), none, (some ((.loc 2), false))⟩,
  ⟨(.pick (.loc 3) (.k (.bool true)) (.loc 0)), none, none⟩,
  ⟨(.mov (.loc 0)), (some 4), none⟩]
def c18_13 : List CO := [⟨(.bin .add (.var 16) (.k (.int .i64 1))), none, none⟩,
  ⟨(.mov (.loc 0)), (some 16), none⟩]
def c18_14 : CC := (.seq (.region [] [] c18_10) (.seq (.cond (.var 17) .skip (.exit 4)) (.seq (.block 5 (.seq (.region [] [] c18_11) (.region [] [] c18_12))) (.region [] [] c18_13))))
def c18_15 : List CO := [⟨(.mov (.var 4)), none, none⟩,
  ⟨(.un .not (.loc 0)), (some 18), none⟩]
def c18_16 : List CO := [⟨(.mov (.var 1)), none, none⟩,
  ⟨(.mov (.var 3)), none, none⟩,
  ⟨(.bslice 1 [(.string ⟨#[]⟩)] 1 [(0, (.loc 0))]), none, none⟩,
  ⟨(.append 1 16 (.loc 2) (.loc 0)), none, none⟩,
  ⟨(.mov (.loc 0)), (some 1), none⟩]
def c18_17 : List CO := [⟨(.bin .add (.var 12) (.k (.int .i64 1))), none, none⟩,
  ⟨(.mov (.loc 0)), (some 12), none⟩]
def c18_18 : CC := (.seq (.region [] [] c18_6) (.seq (.cond (.var 13) .skip (.exit 2)) (.seq (.block 3 (.seq (.region [] [] c18_7) (.seq (.region [] [] c18_8) (.seq (.seq (.region [] [] c18_9) (.block 4 (.loop [false, true, false, true, true, false, true, true, true, false, true, true, true, false, true, true, true, false, false] [] c18_14))) (.seq (.region [] [] c18_15) (.cond (.var 18) (.region [] [] c18_16) .skip)))))) (.region [] [] c18_17))))
def c18_19 : List CO := [⟨(.bin .add (.var 8) (.k (.int .i64 1))), none, none⟩,
  ⟨(.mov (.loc 0)), (some 8), none⟩]
def c18_20 : CC := (.seq (.region [] [] c18_3) (.seq (.cond (.var 9) .skip (.exit 0)) (.seq (.block 1 (.seq (.region [] [] c18_4) (.seq (.region [] [] c18_5) (.block 2 (.loop [false, true, false, false, false, false, true, true, true, false, true, true, true, false, false, false, false, false, false] [] c18_18))))) (.region [] [] c18_19))))
def c18_21 : List CO := [⟨(.mov (.var 1)), none, none⟩,
  ⟨(.mov (.loc 0)), (some 0), none⟩]
def c18 : CFun := ⟨0, 19, (.seq (.region [] [] c18_0) (.seq (.region [] [] c18_1) (.seq (.seq (.region [] [] c18_2) (.block 0 (.loop [false, true, false, false, false, false, true, true, true, false, false, false, false, false, false, false, false, false, false] [] c18_20))) (.seq (.region [] [] c18_21) .ret)))), [.var 0]⟩
theorem ok18 : CodeOk Tryd.prog T 18 c18 := ⟨⟨Tryd.f18, Hints.of [] [] [(0, [false, true, false, false, false, false, true, true, true, false, false, false, false, false, false, false, false, false, false], []), (2, [false, true, false, false, false, false, true, true, true, false, true, true, true, false, false, false, false, false, false], []), (4, [false, true, false, true, true, false, true, true, true, false, true, true, true, false, true, true, true, false, false], [])], [0, 1, 3, 5, 6, 8, 9, 10, 11, 12, 16, 17, 18, 19, 22, 23, 24, 25, 36], Tryd.func18, by kernel_rfl, by kernel_rfl⟩⟩

/-! spinney/spinneyref04.side -/
def c19_0 : List CO := [⟨(.mov (.k (.int .i64 0))), (some 2), none⟩]
def c19_1 : List CO := [⟨(.mov (.var 1)), none, none⟩,
  ⟨(.bin .eql (.loc 0) (.k (.int .u8 120))), (some 3), none⟩]
def c19_2 : List CO := [⟨(.mov (.var 0)), none, none⟩,
  ⟨(.bin .sub (.loc 0) (.k (.int .i64 1))), none, none⟩,
  ⟨(.mov (.loc 0)), (some 2), none⟩]
def c19_3 : List CO := [⟨(.mov (.var 0)), none, none⟩,
  ⟨(.mov (.loc 0)), (some 2), none⟩]
def c19 : CFun := ⟨2, 4, (.seq (.region [] [] c19_0) (.seq (.seq (.region [] [] c19_1) (.cond (.var 3) (.seq (.region [] [] c19_2) .ret) .skip)) (.seq (.region [] [] c19_3) .ret))), [.var 2]⟩
theorem ok19 : CodeOk Tryd.prog T 19 c19 := ⟨⟨Tryd.f19, Hints.of [] [] [], [0, 1, 4, 6], Tryd.func19, by kernel_rfl, by kernel_rfl⟩⟩

/-! spinney/ops.find -/
def c20_0 : List CO := [⟨(.box (.k (.agg #[(.int .i64 0), (.string ⟨#[]⟩)]))), (some 2), none⟩,
  ⟨(.mov (.k (.bool false))), (some 3), none⟩]
def c20_1 : List CO := [⟨(.call true 22 []), none, none⟩,
  ⟨(.box (.k (.agg #[(.int .i64 0), (.string ⟨#[]⟩), (.string ⟨#[]⟩), (.int .i64 0), (.string ⟨#[]⟩), (.string ⟨#[]⟩), (.int .i64 0), (.string ⟨#[]⟩), (.string ⟨#[]⟩), (.int .i64 0), (.string ⟨#[]⟩), (.string ⟨#[]⟩), (.int .i64 0), (.string ⟨#[]⟩), (.string ⟨#[]⟩), (.int .i64 0), (.string ⟨#[]⟩), (.string ⟨#[]⟩), (.int .i64 0), (.string ⟨#[]⟩), (.string ⟨#[]⟩), (.int .i64 0), (.string ⟨#[]⟩), (.string ⟨#[]⟩), (.int .i64 0), (.string ⟨#[]⟩), (.string ⟨#[]⟩), (.int .i64 0), (.string ⟨#[]⟩), (.string ⟨#[]⟩)]))), (some 4), none⟩,
  ⟨(.store 30 (.var 4) (.loc 1)), none, none⟩]
def c20_2 : List CO := [⟨(.mov (.k (.int .i64 0))), (some 7), none⟩]
def c20_3 : List CO := [⟨(.bin .lss (.var 7) (.k (.int .i64 10))), (some 8), none⟩]
def c20_4 : List CO := [⟨(.mov (.var 7)), none, none⟩,
  ⟨(.mov (.loc 0)), (some 5), none⟩]
def c20_5 : List CO := [⟨(.mov (.var 5)), none, none⟩,
  ⟨(.iaa 10 3 (.var 4) (.loc 0)), none, none⟩,
  ⟨(.fa 1 (.loc 0)), none, none⟩,
  ⟨(.load false 1 (.loc 0)), none, none⟩,
  ⟨(.len .string (.loc 0)), none, none⟩,
  ⟨(.bin .eql (.loc 0) (.k (.int .i64 2))), none, none⟩,
  ⟨(.mov (.var 1)), none, none⟩,
  ⟨(.eqv .bool true (.loc 1) (.loc 0)), (some 9), none⟩]
def c20_6 : List CO := [⟨(.mov (.var 5)), none, none⟩,
  ⟨(.iaa 10 3 (.var 4) (.loc 0)), none, none⟩,
  ⟨(.fa 2 (.loc 0)), none, none⟩,
  ⟨(.load false 1 (.loc 0)), none, none⟩,
  ⟨(.call true 23 [(.loc 0)]), (some 10), none⟩,
  ⟨(.len .slice (.var 10)), (some 11), none⟩,
  ⟨(.mov (.k (.int .i64 0))), (some 12), none⟩]
def c20_7 : List CO := [⟨(.bin .lss (.var 12) (.var 11)), (some 13), none⟩]
def c20_8 : List CO := [⟨(.ia 1 (.var 10) (.var 12)), none, none⟩,
  ⟨(.load false 1 (.loc 0)), none, none⟩,
  ⟨(.mov (.loc 0)), (some 6), none⟩]
def c20_9 : List CO := [⟨(.mov (.var 6)), none, none⟩,
  ⟨(.mov (.var 0)), none, none⟩,
  ⟨(.bin .eql (.loc 1) (.loc 0)), (some 14), none⟩]
def c20_10 : List CO := [⟨(.mov (.var 5)), none, none⟩,
  ⟨(.iaa 10 3 (.var 4) (.loc 0)), none, none⟩,
  ⟨(.fa 0 (.loc 0)), none, none⟩,
  ⟨(.load false 1 (.loc 0)), none, none⟩,
  ⟨(.mov (.var 5)), none, none⟩,
  ⟨(.iaa 10 3 (.var 4) (.loc 0)), none, none⟩,
  ⟨(.fa 1 (.loc 0)), none, none⟩,
  ⟨(.load false 1 (.loc 0)), none, none⟩,
  ⟨(.build [(.int .i64 0), (.string ⟨#[]⟩)] [(0, 1, (.loc 4)), (1, 1, (.loc 0))]), none, none⟩,
  ⟨(.store 2 (.var 2) (.loc 0)), none, none⟩,
  ⟨(.mov (.k (.bool true))), (some 3), none⟩]
def c20_11 : List CO := [⟨(.bin .add (.var 12) (.k (.int .i64 1))), none, none⟩,
  ⟨(.mov (.loc 0)), (some 12), none⟩]
def c20_12 : CC := (.seq (.region [] [] c20_7) (.seq (.cond (.var 13) .skip (.exit 2)) (.seq (.block 3 (.seq (.region [] [] c20_8) (.seq (.region [] [] c20_9) (.cond (.var 14) (.seq (.region [] [] c20_10) .ret) .skip)))) (.region [] [] c20_11))))
def c20_13 : List CO := [⟨(.bin .add (.var 7) (.k (.int .i64 1))), none, none⟩,
  ⟨(.mov (.loc 0)), (some 7), none⟩]
def c20_14 : CC := (.seq (.region [] [] c20_3) (.seq (.cond (.var 8) .skip (.exit 0)) (.seq (.block 1 (.seq (.region [] [] c20_4) (.seq (.seq (.region [] [] c20_5) (.cond (.var 9) (.exit 1) .skip)) (.seq (.region [] [] c20_6) (.block 2 (.loop [true, true, true, false, true, true, false, true, false, false, true, true, true, false, false] [] c20_12)))))) (.region [] [] c20_13))))
def c20_15 : List CO := [⟨(.build [(.int .i64 0), (.string ⟨#[]⟩)] []), none, none⟩,
  ⟨(.store 2 (.var 2) (.loc 0)), none, none⟩,
  ⟨(.mov (.k (.bool false))), (some 3), none⟩]
def c20 : CFun := ⟨2, 15, (.seq (.region [] [] c20_0) (.seq (.region [] [] c20_1) (.seq (.seq (.region [] [] c20_2) (.block 0 (.loop [true, true, true, false, true, false, false, true, false, false, false, false, false, false, false] [] c20_14))) (.seq (.region [] [] c20_15) .ret)))), [.cell 2 true 2, .var 3]⟩
theorem ok20 : CodeOk Tryd.prog T 20 c20 := ⟨⟨Tryd.f20, Hints.of [] [] [(0, [true, true, true, false, true, false, false, true, false, false, false, false, false, false, false], []), (2, [true, true, true, false, true, true, false, true, false, false, true, true, true, false, false], [])], [0, 1, 4, 5, 6, 7, 9, 11, 12, 21, 26, 27, 28, 29, 34], Tryd.func20, by kernel_rfl, by kernel_rfl⟩⟩

/-! spinney/spinneyref04.find -/
def c21_0 : List CO := [⟨(.box (.k (.agg #[(.int .i64 0), (.string ⟨#[]⟩)]))), (some 2), none⟩,
  ⟨(.mov (.k (.bool false))), (some 3), none⟩]
def c21_1 : List CO := [⟨(.call true 24 []), (some 6), none⟩,
  ⟨(.len .slice (.var 6)), (some 7), none⟩,
  ⟨(.mov (.k (.int .i64 0))), (some 8), none⟩]
def c21_2 : List CO := [⟨(.bin .lss (.var 8) (.var 7)), (some 9), none⟩]
def c21_3 : List CO := [⟨(.ia 3 (.var 6) (.var 8)), none, none⟩,
  ⟨(.load true 3 (.loc 0)), none, none⟩,
  ⟨(.box (.k (.agg #[(.int .i64 0), (.string ⟨#[]⟩), (.slice none 0 0)]))), (some 4), none⟩,
  ⟨(.store 3 (.var 4) (.loc 1)), none, none⟩]
def c21_4 : List CO := [⟨(.fa 2 (.var 4)), none, none⟩,
  ⟨(.load false 1 (.loc 0)), (some 10), none⟩,
  ⟨(.len .slice (.var 10)), (some 11), none⟩,
  ⟨(.mov (.k (.int .i64 0))), (some 12), none⟩]
def c21_5 : List CO := [⟨(.bin .lss (.var 12) (.var 11)), (some 13), none⟩]
def c21_6 : List CO := [⟨(.ia 1 (.var 10) (.var 12)), none, none⟩,
  ⟨(.load false 1 (.loc 0)), none, none⟩,
  ⟨(.mov (.loc 0)), (some 5), none⟩]
def c21_7 : List CO := [⟨(.mov (.var 5)), none, none⟩,
  ⟨(.mov (.var 0)), none, none⟩,
  ⟨(.bin .eql (.loc 1) (.loc 0)), none, none⟩,
  ⟨(.mov (.loc 0)), none, none⟩,
  ⟨(.fa 0 (.var 4)), none, (some ((.loc 0), true))⟩,
  ⟨(.fa 1 (.loc 0)), none, (some ((.loc 1), true))⟩,
  ⟨(.load false 1 (.loc 0)), none, (some ((.loc 2), true))⟩,
  ⟨(.len .string (.loc 0)), none, (some ((.loc 3), true))⟩,
  ⟨(.mov (.var 1)), none, (some ((.loc 4), true))⟩,
  ⟨(.bin .eql (.loc 1) (.loc 0)), none, (some ((.loc 5), true))⟩,
  ⟨(.pick (.loc 6) (.loc 0) (.k (.bool false))), (some 14), none⟩]
def c21_8 : List CO := [⟨(.fa 0 (.var 4)), none, none⟩,
  ⟨(.load true 2 (.loc 0)), none, none⟩,
  ⟨(.store 2 (.var 2) (.loc 0)), none, none⟩,
  ⟨(.mov (.k (.bool true))), (some 3), none⟩]
def c21_9 : List CO := [⟨(.bin .add (.var 12) (.k (.int .i64 1))), none, none⟩,
  ⟨(.mov (.loc 0)), (some 12), none⟩]
def c21_10 : CC := (.seq (.region [] [] c21_5) (.seq (.cond (.var 13) .skip (.exit 2)) (.seq (.block 3 (.seq (.region [] [] c21_6) (.seq (.region [] [] c21_7) (.cond (.var 14) (.seq (.region [] [] c21_8) .ret) .skip)))) (.region [] [] c21_9))))
def c21_11 : List CO := [⟨(.bin .add (.var 8) (.k (.int .i64 1))), none, none⟩,
  ⟨(.mov (.loc 0)), (some 8), none⟩]
def c21_12 : CC := (.seq (.region [] [] c21_2) (.seq (.cond (.var 9) .skip (.exit 0)) (.seq (.block 1 (.seq (.region [] [] c21_3) (.seq (.region [] [] c21_4) (.block 2 (.loop [true, true, true, false, true, false, true, true, true, false, true, true, true, false, false] [] c21_10))))) (.region [] [] c21_11))))
def c21_13 : List CO := [⟨(.build [(.int .i64 0), (.string ⟨#[]⟩)] []), none, none⟩,
  ⟨(.store 2 (.var 2) (.loc 0)), none, none⟩,
  ⟨(.mov (.k (.bool false))), (some 3), none⟩]
def c21 : CFun := ⟨2, 15, (.seq (.region [] [] c21_0) (.seq (.seq (.region [] [] c21_1) (.block 0 (.loop [true, true, true, false, false, false, true, true, true, false, false, false, false, false, false] [] c21_12))) (.seq (.region [] [] c21_13) .ret))), [.cell 2 true 2, .var 3]⟩
theorem ok21 : CodeOk Tryd.prog T 21 c21 := ⟨⟨Tryd.f21, Hints.of [] [] [(0, [true, true, true, false, false, false, true, true, true, false, false, false, false, false, false], []), (2, [true, true, true, false, true, false, true, true, true, false, true, true, true, false, false], [])], [0, 1, 4, 5, 7, 9, 10, 11, 12, 13, 17, 18, 19, 20, 33], Tryd.func21, by kernel_rfl, by kernel_rfl⟩⟩

/-! spinney/ops.table -/
def c22_0 : List CO := [⟨(.box (.k (.agg #[(.int .i64 0), (.string ⟨#[]⟩), (.string ⟨#[]⟩), (.int .i64 0), (.string ⟨#[]⟩), (.string ⟨#[]⟩), (.int .i64 0), (.string ⟨#[]⟩), (.string ⟨#[]⟩), (.int .i64 0), (.string ⟨#[]⟩), (.string ⟨#[]⟩), (.int .i64 0), (.string ⟨#[]⟩), (.string ⟨#[]⟩), (.int .i64 0), (.string ⟨#[]⟩), (.string ⟨#[]⟩), (.int .i64 0), (.string ⟨#[]⟩), (.string ⟨#[]⟩), (.int .i64 0), (.string ⟨#[]⟩), (.string ⟨#[]⟩), (.int .i64 0), (.string ⟨#[]⟩), (.string ⟨#[]⟩), (.int .i64 0), (.string ⟨#[]⟩), (.string ⟨#[]⟩)]))), (some 0), none⟩]
def c22_1 : List CO := [⟨(.build [(.int .i64 0), (.string ⟨#[]⟩), (.string ⟨#[]⟩)] [(0, 1, (.k (.int .i64 1200))), (1, 1, (.k (.string ⟨#[120, 102, 120]⟩))), (2, 1, (.k (.string ⟨#[58, 45]⟩)))]), none, none⟩,
  ⟨(.build [(.int .i64 0), (.string ⟨#[]⟩), (.string ⟨#[]⟩)] [(0, 1, (.k (.int .i64 1200))), (1, 1, (.k (.string ⟨#[102, 120]⟩))), (2, 1, (.k (.string ⟨#[58, 45, 32, 63, 45]⟩)))]), none, none⟩,
  ⟨(.build [(.int .i64 0), (.string ⟨#[]⟩), (.string ⟨#[]⟩)] [(0, 1, (.k (.int .i64 1100))), (1, 1, (.k (.string ⟨#[120, 102, 121]⟩))), (2, 1, (.k (.string ⟨#[59]⟩)))]), none, none⟩,
  ⟨(.build [(.int .i64 0), (.string ⟨#[]⟩), (.string ⟨#[]⟩)] [(0, 1, (.k (.int .i64 1050))), (1, 1, (.k (.string ⟨#[120, 102, 121]⟩))), (2, 1, (.k (.string ⟨#[45, 62]⟩)))]), none, none⟩,
  ⟨(.build [(.int .i64 0), (.string ⟨#[]⟩), (.string ⟨#[]⟩)] [(0, 1, (.k (.int .i64 1000))), (1, 1, (.k (.string ⟨#[120, 102, 121]⟩))), (2, 1, (.k (.string ⟨#[44]⟩)))]), none, none⟩,
  ⟨(.build [(.int .i64 0), (.string ⟨#[]⟩), (.string ⟨#[]⟩)] [(0, 1, (.k (.int .i64 900))), (1, 1, (.k (.string ⟨#[102, 121]⟩))), (2, 1, (.k (.string ⟨#[92, 43]⟩)))]), none, none⟩,
  ⟨(.build [(.int .i64 0), (.string ⟨#[]⟩), (.string ⟨#[]⟩)] [(0, 1, (.k (.int .i64 700))), (1, 1, (.k (.string ⟨#[120, 102, 120]⟩))), (2, 1, (.k (.string ⟨#[61, 32, 92, 61, 32, 61, 61, 32, 92, 61, 61, 32, 64, 60, 32, 64, 61, 60, 32, 64, 62, 32, 64, 62, 61, 32, 61, 46, 46, 32, 105, 115, 32, 61, 58, 61, 32, 61, 92, 61, 32, 60, 32, 61, 60, 32, 62, 32, 62, 61]⟩)))]), none, none⟩,
  ⟨(.build [(.int .i64 0), (.string ⟨#[]⟩), (.string ⟨#[]⟩)] [(0, 1, (.k (.int .i64 500))), (1, 1, (.k (.string ⟨#[121, 102, 120]⟩))), (2, 1, (.k (.string ⟨#[43, 32, 45]⟩)))]), none, none⟩,
  ⟨(.build [(.int .i64 0), (.string ⟨#[]⟩), (.string ⟨#[]⟩)] [(0, 1, (.k (.int .i64 400))), (1, 1, (.k (.string ⟨#[121, 102, 120]⟩))), (2, 1, (.k (.string ⟨#[42, 32, 47, 47, 32, 114, 101, 109, 32, 109, 111, 100]⟩)))]), none, none⟩,
  ⟨(.build [(.int .i64 0), (.string ⟨#[]⟩), (.string ⟨#[]⟩)] [(0, 1, (.k (.int .i64 200))), (1, 1, (.k (.string ⟨#[102, 121]⟩))), (2, 1, (.k (.string ⟨#[45]⟩)))]), none, none⟩,
  ⟨(.build [(.int .i64 0), (.string ⟨#[]⟩), (.string ⟨#[]⟩), (.int .i64 0), (.string ⟨#[]⟩), (.string ⟨#[]⟩), (.int .i64 0), (.string ⟨#[]⟩), (.string ⟨#[]⟩), (.int .i64 0), (.string ⟨#[]⟩), (.string ⟨#[]⟩), (.int .i64 0), (.string ⟨#[]⟩), (.string ⟨#[]⟩), (.int .i64 0), (.string ⟨#[]⟩), (.string ⟨#[]⟩), (.int .i64 0), (.string ⟨#[]⟩), (.string ⟨#[]⟩), (.int .i64 0), (.string ⟨#[]⟩), (.string ⟨#[]⟩), (.int .i64 0), (.string ⟨#[]⟩), (.string ⟨#[]⟩), (.int .i64 0), (.string ⟨#[]⟩), (.string ⟨#[]⟩)] [(0, 3, (.loc 9)), (3, 3, (.loc 8)), (6, 3, (.loc 7)), (9, 3, (.loc 6)), (12, 3, (.loc 5)), (15, 3, (.loc 4)), (18, 3, (.loc 3)), (21, 3, (.loc 2)), (24, 3, (.loc 1)), (27, 3, (.loc 0))]), none, none⟩,
  ⟨(.store 30 (.var 0) (.loc 0)), none, none⟩]
def c22 : CFun := ⟨0, 1, (.seq (.region [] [] c22_0) (.seq (.region [] [] c22_1) .ret)), [.cell 0 true 30]⟩
theorem ok22 : CodeOk Tryd.prog T 22 c22 := ⟨⟨Tryd.f22, Hints.of [] [] [], [0], Tryd.func22, by kernel_rfl, by kernel_rfl⟩⟩

/-! spinney/spinneyref04.Rows -/
def c24_0 : List CO := [⟨(.mov (.k (.slice none 0 0))), (some 0), none⟩]
def c24_1 : List CO := [⟨(.build [(.int .i64 0), (.string ⟨#[]⟩)] [(0, 1, (.k (.int .i64 1200))), (1, 1, (.k (.string ⟨#[120, 102, 120]⟩)))]), none, none⟩,
  ⟨(.bslice 1 [(.string ⟨#[]⟩)] 1 [(0, (.k (.string ⟨#[58, 45]⟩)))]), none, none⟩,
  ⟨(.build [(.int .i64 0), (.string ⟨#[]⟩), (.slice none 0 0)] [(0, 2, (.loc 1)), (2, 1, (.loc 0))]), none, none⟩,
  ⟨(.build [(.int .i64 0), (.string ⟨#[]⟩)] [(0, 1, (.k (.int .i64 1200))), (1, 1, (.k (.string ⟨#[102, 120]⟩)))]), none, none⟩,
  ⟨(.bslice 1 [(.string ⟨#[]⟩)] 2 [(0, (.k (.string ⟨#[58, 45]⟩))), (1, (.k (.string ⟨#[63, 45]⟩)))]), none, none⟩,
  ⟨(.build [(.int .i64 0), (.string ⟨#[]⟩), (.slice none 0 0)] [(0, 2, (.loc 1)), (2, 1, (.loc 0))]), none, none⟩,
  ⟨(.build [(.int .i64 0), (.string ⟨#[]⟩)] [(0, 1, (.k (.int .i64 1100))), (1, 1, (.k (.string ⟨#[120, 102, 121]⟩)))]), none, none⟩,
  ⟨(.bslice 1 [(.string ⟨#[]⟩)] 1 [(0, (.k (.string ⟨#[59]⟩)))]), none, none⟩,
  ⟨(.build [(.int .i64 0), (.string ⟨#[]⟩), (.slice none 0 0)] [(0, 2, (.loc 1)), (2, 1, (.loc 0))]), none, none⟩,
  ⟨(.build [(.int .i64 0), (.string ⟨#[]⟩)] [(0, 1, (.k (.int .i64 1050))), (1, 1, (.k (.string ⟨#[120, 102, 121]⟩)))]), none, none⟩,
  ⟨(.bslice 1 [(.string ⟨#[]⟩)] 1 [(0, (.k (.string ⟨#[45, 62]⟩)))]), none, none⟩,
  ⟨(.build [(.int .i64 0), (.string ⟨#[]⟩), (.slice none 0 0)] [(0, 2, (.loc 1)), (2, 1, (.loc 0))]), none, none⟩,
  ⟨(.build [(.int .i64 0), (.string ⟨#[]⟩)] [(0, 1, (.k (.int .i64 1000))), (1, 1, (.k (.string ⟨#[120, 102, 121]⟩)))]), none, none⟩,
  ⟨(.bslice 1 [(.string ⟨#[]⟩)] 1 [(0, (.k (.string ⟨#[44]⟩)))]), none, none⟩,
  ⟨(.build [(.int .i64 0), (.string ⟨#[]⟩), (.slice none 0 0)] [(0, 2, (.loc 1)), (2, 1, (.loc 0))]), none, none⟩,
  ⟨(.build [(.int .i64 0), (.string ⟨#[]⟩)] [(0, 1, (.k (.int .i64 900))), (1, 1, (.k (.string ⟨#[102, 121]⟩)))]), none, none⟩,
  ⟨(.bslice 1 [(.string ⟨#[]⟩)] 1 [(0, (.k (.string ⟨#[92, 43]⟩)))]), none, none⟩,
  ⟨(.build [(.int .i64 0), (.string ⟨#[]⟩), (.slice none 0 0)] [(0, 2, (.loc 1)), (2, 1, (.loc 0))]), none, none⟩,
  ⟨(.build [(.int .i64 0), (.string ⟨#[]⟩)] [(0, 1, (.k (.int .i64 700))), (1, 1, (.k (.string ⟨#[120, 102, 120]⟩)))]), none, none⟩,
  ⟨(.bslice 1 [(.string ⟨#[]⟩)] 16 [(0, (.k (.string ⟨#[61]⟩))), (1, (.k (.string ⟨#[92, 61]⟩))), (2, (.k (.string ⟨#[61, 61]⟩))), (3, (.k (.string ⟨#[92, 61, 61]⟩))), (4, (.k (.string ⟨#[64, 60]⟩))), (5, (.k (.string ⟨#[64, 61, 60]⟩))), (6, (.k (.string ⟨#[64, 62]⟩))), (7, (.k (.string ⟨#[64, 62, 61]⟩))), (8, (.k (.string ⟨#[61, 46, 46]⟩))), (9, (.k (.string ⟨#[105, 115]⟩))), (10, (.k (.string ⟨#[61, 58, 61]⟩))), (11, (.k (.string ⟨#[61, 92, 61]⟩))), (12, (.k (.string ⟨#[60]⟩))), (13, (.k (.string ⟨#[61, 60]⟩))), (14, (.k (.string ⟨#[62]⟩))), (15, (.k (.string ⟨#[62, 61]⟩)))]), none, none⟩,
  ⟨(.build [(.int .i64 0), (.string ⟨#[]⟩), (.slice none 0 0)] [(0, 2, (.loc 1)), (2, 1, (.loc 0))]), none, none⟩,
  ⟨(.build [(.int .i64 0), (.string ⟨#[]⟩)] [(0, 1, (.k (.int .i64 500))), (1, 1, (.k (.string ⟨#[121, 102, 120]⟩)))]), none, none⟩,
  ⟨(.bslice 1 [(.string ⟨#[]⟩)] 2 [(0, (.k (.string ⟨#[43]⟩))), (1, (.k (.string ⟨#[45]⟩)))]), none, none⟩,
  ⟨(.build [(.int .i64 0), (.string ⟨#[]⟩), (.slice none 0 0)] [(0, 2, (.loc 1)), (2, 1, (.loc 0))]), none, none⟩,
  ⟨(.build [(.int .i64 0), (.string ⟨#[]⟩)] [(0, 1, (.k (.int .i64 400))), (1, 1, (.k (.string ⟨#[121, 102, 120]⟩)))]), none, none⟩,
  ⟨(.bslice 1 [(.string ⟨#[]⟩)] 4 [(0, (.k (.string ⟨#[42]⟩))), (1, (.k (.string ⟨#[47, 47]⟩))), (2, (.k (.string ⟨#[114, 101, 109]⟩))), (3, (.k (.string ⟨#[109, 111, 100]⟩)))]), none, none⟩,
  ⟨(.build [(.int .i64 0), (.string ⟨#[]⟩), (.slice none 0 0)] [(0, 2, (.loc 1)), (2, 1, (.loc 0))]), none, none⟩,
  ⟨(.build [(.int .i64 0), (.string ⟨#[]⟩)] [(0, 1, (.k (.int .i64 200))), (1, 1, (.k (.string ⟨#[102, 121]⟩)))]), none, none⟩,
  ⟨(.bslice 1 [(.string ⟨#[]⟩)] 1 [(0, (.k (.string ⟨#[45]⟩)))]), none, none⟩,
  ⟨(.build [(.int .i64 0), (.string ⟨#[]⟩), (.slice none 0 0)] [(0, 2, (.loc 1)), (2, 1, (.loc 0))]), none, none⟩,
  ⟨(.bslice 3 [(.int .i64 0), (.string ⟨#[]⟩), (.slice none 0 0)] 10 [(0, (.loc 27)), (1, (.loc 24)), (2, (.loc 21)), (3, (.loc 18)), (4, (.loc 15)), (5, (.loc 12)), (6, (.loc 9)), (7, (.loc 6)), (8, (.loc 3)), (9, (.loc 0))]), none, none⟩,
  ⟨(.mov (.loc 0)), (some 0), none⟩]
def c24 : CFun := ⟨0, 1, (.seq (.region [] [] c24_0) (.seq (.region [] [] c24_1) .ret)), [.var 0]⟩
theorem ok24 : CodeOk Tryd.prog T 24 c24 := ⟨⟨Tryd.f24, Hints.of [] [] [], [0], Tryd.func24, by kernel_rfl, by kernel_rfl⟩⟩

def Fl : List (FuncId × FEntry) := [(3, .code c3), (4, .code c4), (5, .code c5), (6, .code c6), (7, .code c7), (8, .code c8), (9, .code c9), (10, .code c10), (11, .code c11), (12, .code c12), (13, .code c13), (14, .code c14), (15, .code c15), (16, .code c16), (17, .code c17), (18, .code c18), (19, .code c19), (20, .code c20), (21, .code c21), (22, .code c22), (24, .code c24)] ++ [(23, .oracle fieldsG)]
def F (f : FuncId) : Option FEntry := Fl.lookup f
theorem hF : ∀ (B : Nat) (w0 : World), K B w0 → ∀ f e, F f = some e → EntryOk Tryd.prog T B w0 f e := fun B w0 hK => entries_of (fun p hp => by
  simp only [Fl, List.cons_append, List.nil_append, List.mem_cons, List.not_mem_nil, or_false] at hp
  rcases hp with rfl | rfl | rfl | rfl | rfl | rfl | rfl | rfl | rfl | rfl | rfl | rfl | rfl | rfl | rfl | rfl | rfl | rfl | rfl | rfl | rfl | rfl
  · exact ok3
  · exact ok4
  · exact ok5
  · exact ok6
  · exact ok7
  · exact ok8
  · exact ok9
  · exact ok10
  · exact ok11
  · exact ok12
  · exact ok13
  · exact ok14
  · exact ok15
  · exact ok16
  · exact ok17
  · exact ok18
  · exact ok19
  · exact ok20
  · exact ok21
  · exact ok22
  · exact ok24
  · exact fields_ok hK)
end Go.Proofs.YtkdjdhfoodlnfaaDoor
end

/-! What all rows of this program need. -/
section
set_option linter.unusedVariables false
namespace Go.Proofs.YtkdjdhfoodlnfaaDoor
open Go Go.AE Go.Proofs Go.ChangeShapes Go.WideShapes Go.ChangeAt Go.RowKit
open Go.ChangeMaps (open_string shut_string)

theorem own : ownKnob Tryd.prog.godebug = none := by kernel_rfl
theorem laidOut : laidOutB Tryd.prog = true := by kernel_rfl
theorem mixed : Tryd.prog.follows .mixedOrders = true := by kernel_rfl
def G : List TypeId := [3, 9, 23]
theorem hG : goodB T G = true := by kernel_rfl

/-- What a call comes to that is handed what came in. -/
theorem law_calls {f : FuncId} {args : List AV} {vals : Array Value} {W : World} (hK : K W.heap.size W) (ha : ArgsRep (AllCells W) W [] args vals) {n : Nat} (he : callN F n f args [] = some (.v (.bool true), [])) :
    Calls Tryd.prog f vals W fun e W' => e = .returned (.bool true) ∧ Below W.heap.size W W' := by
  have hI : AE.Inv W.heap.size W (AllCells W) [] W [] := ⟨Below.refl _ _, Nat.le_refl _, rfl, fun id o L h => by simp at h, fun id L h => by simp at h, fun i j Li Lj h => by simp at h, fun b x h => h⟩
  refine ((callN_ok mixed hT hKs hF n W.heap.size W hK).calls f args [] _ _ he (AllCells W) [] W vals hI ha).mono fun e W' h => ?_
  obtain ⟨v, I', σ', rfl, hI', _, hr⟩ := h
  cases hr
  exact ⟨rfl, hI'.below⟩
end Go.Proofs.YtkdjdhfoodlnfaaDoor
end

/-! The functions of Ops: what is carried out without an input; what came in. -/
section
set_option linter.unusedVariables false
set_option linter.unusedSimpArgs false
namespace Go.AE.YtkdjdhfoodlnfaaDoor
open Go Go.AE Go.Proofs.YtkdjdhfoodlnfaaDoor
set_option maxRecDepth 1000000

theorem live7 : callW F 7 [] [] = some (.v (.bool true), []) := callW_iff.2 ⟨30, by kernel_rfl⟩
def names : List ByteArray := [⟨#[58, 45]⟩, ⟨#[63, 45]⟩, ⟨#[59]⟩, ⟨#[45, 62]⟩, ⟨#[44]⟩, ⟨#[92, 43]⟩, ⟨#[61]⟩, ⟨#[92, 61]⟩, ⟨#[61, 61]⟩, ⟨#[92, 61, 61]⟩, ⟨#[64, 60]⟩, ⟨#[64, 61, 60]⟩, ⟨#[64, 62]⟩, ⟨#[64, 62, 61]⟩, ⟨#[61, 46, 46]⟩, ⟨#[105, 115]⟩, ⟨#[61, 58, 61]⟩, ⟨#[61, 92, 61]⟩, ⟨#[60]⟩, ⟨#[61, 60]⟩, ⟨#[62]⟩, ⟨#[62, 61]⟩, ⟨#[43]⟩, ⟨#[45]⟩, ⟨#[42]⟩, ⟨#[47, 47]⟩, ⟨#[114, 101, 109]⟩, ⟨#[109, 111, 100]⟩]
def namesV : AV := .slc 1 false false (names.map fun s => .v (.string s))
theorem names17 : callW F 17 [] [] = some (namesV, []) := callW_iff.2 ⟨60, by kernel_rfl⟩
theorem names18 : callW F 18 [] [] = some (namesV, []) := callW_iff.2 ⟨60, by kernel_rfl⟩
theorem same16 : callW F 16 [namesV, namesV] [] = some (.v (.bool true), []) := callW_iff.2 ⟨60, by kernel_rfl⟩
/-- the table's rows: priority, kind, names -/
def rowsT : List (Int × ByteArray × ByteArray) := [(1200, ⟨#[120, 102, 120]⟩, ⟨#[58, 45]⟩), (1200, ⟨#[102, 120]⟩, ⟨#[58, 45, 32, 63, 45]⟩), (1100, ⟨#[120, 102, 121]⟩, ⟨#[59]⟩), (1050, ⟨#[120, 102, 121]⟩, ⟨#[45, 62]⟩), (1000, ⟨#[120, 102, 121]⟩, ⟨#[44]⟩), (900, ⟨#[102, 121]⟩, ⟨#[92, 43]⟩), (700, ⟨#[120, 102, 120]⟩, ⟨#[61, 32, 92, 61, 32, 61, 61, 32, 92, 61, 61, 32, 64, 60, 32, 64, 61, 60, 32, 64, 62, 32, 64, 62, 61, 32, 61, 46, 46, 32, 105, 115, 32, 61, 58, 61, 32, 61, 92, 61, 32, 60, 32, 61, 60, 32, 62, 32, 62, 61]⟩), (500, ⟨#[121, 102, 120]⟩, ⟨#[43, 32, 45]⟩), (400, ⟨#[121, 102, 120]⟩, ⟨#[42, 32, 47, 47, 32, 114, 101, 109, 32, 109, 111, 100]⟩), (200, ⟨#[102, 121]⟩, ⟨#[45]⟩)]
def tabV : List AV := rowsT.flatMap fun r => [.v (.int .i64 r.1), .v (.string r.2.1), .v (.string r.2.2)]
theorem table22 : callW F 22 [] [] = some (.agg tabV, []) := callW_iff.2 ⟨5, by kernel_rfl⟩
/-- the names of a row -/
def nmsV (s : ByteArray) : List AV := (Lib.fields s.data.toList).map fun l => .v (.string ⟨l.toArray⟩)
def rowsV : List AV := rowsT.map fun r => .agg [.v (.int .i64 r.1), .v (.string r.2.1), .slc 1 true true (nmsV r.2.2)]
theorem rows24 : callW F 24 [] [] = some (.slc 3 true true rowsV, []) := callW_iff.2 ⟨5, by kernel_rfl⟩

/-! ### What came in -/
theorem in_str {a : AV} (w : WT T 9 a.cells) (e : asEl ti9.agg a.cells = some a) : ∃ s : ByteArray, a = .v (.string s) ∧ s.size ≤ maxLen := by
  generalize hc : a.cells = cs at w e
  have ht : T.ty 9 = some ti9 := rfl
  cases w with
  | bool _ i b h hd => rw [ht] at h; cases h; cases hd
  | int _ i k n h hd hw => rw [ht] at h; cases h; cases hd
  | str _ i s h hd hs => cases e; exact ⟨s, rfl, hs⟩
  | nil _ i e' h hd => rw [ht] at h; cases h; cases hd
  | slc _ i e' j l h hd he hl hel has => rw [ht] at h; cases h; cases hd
  | struct _ i fs pts h hd hlen hf => rw [ht] at h; cases h; cases hd
theorem in_int {a : AV} (w : WT T 3 a.cells) (e : asEl ti3.agg a.cells = some a) : ∃ n : Int, a = .v (.int .i64 n) ∧ (Lit.int .i64 n).wf = true := by
  generalize hc : a.cells = cs at w e
  have ht : T.ty 3 = some ti3 := rfl
  cases w with
  | bool _ i b h hd => rw [ht] at h; cases h; cases hd
  | int _ i k n h hd hw => rw [ht] at h; cases h; cases hd; cases e; exact ⟨n, rfl, hw⟩
  | str _ i s h hd hs => rw [ht] at h; cases h; cases hd
  | nil _ i e' h hd => rw [ht] at h; cases h; cases hd
  | slc _ i e' j l h hd he hl hel has => rw [ht] at h; cases h; cases hd
  | struct _ i fs pts h hd hlen hf => rw [ht] at h; cases h; cases hd
theorem wt_str {cs : List AV} (w : WT T 9 cs) : ∃ s : ByteArray, cs = [.v (.string s)] := by
  have ht : T.ty 9 = some ti9 := rfl
  cases w with
  | bool _ i b h hd => rw [ht] at h; cases h; cases hd
  | int _ i k n h hd hw => rw [ht] at h; cases h; cases hd
  | str _ i s h hd hs => exact ⟨s, rfl⟩
  | nil _ i e' h hd => rw [ht] at h; cases h; cases hd
  | slc _ i e' j l h hd he hl hel has => rw [ht] at h; cases h; cases hd
  | struct _ i fs pts h hd hlen hf => rw [ht] at h; cases h; cases hd
theorem wt_int {cs : List AV} (w : WT T 3 cs) : ∃ n : Int, cs = [.v (.int .i64 n)] := by
  have ht : T.ty 3 = some ti3 := rfl
  cases w with
  | bool _ i b h hd => rw [ht] at h; cases h; cases hd
  | int _ i k n h hd hw => rw [ht] at h; cases h; cases hd; exact ⟨n, rfl⟩
  | str _ i s h hd hs => rw [ht] at h; cases h; cases hd
  | nil _ i e' h hd => rw [ht] at h; cases h; cases hd
  | slc _ i e' j l h hd he hl hel has => rw [ht] at h; cases h; cases hd
  | struct _ i fs pts h hd hlen hf => rw [ht] at h; cases h; cases hd
/-- an operator: its priority, its type -/
def opV (p : Int) (s : ByteArray) : AV := .agg [.v (.int .i64 p), .v (.string s)]
theorem in_op {a : AV} (w : WT T 23 a.cells) (e : asEl ti23.agg a.cells = some a) : ∃ (p : Int) (s : ByteArray), a = opV p s := by
  generalize hc : a.cells = cs at w e
  have ht : T.ty 23 = some ti23 := rfl
  cases w with
  | bool _ i b h hd => rw [ht] at h; cases h; cases hd
  | int _ i k n h hd hw => rw [ht] at h; cases h; cases hd
  | str _ i s h hd hs => rw [ht] at h; cases h; cases hd
  | nil _ i e' h hd => rw [ht] at h; cases h; cases hd
  | slc _ i e' j l h hd he hl hel has => rw [ht] at h; cases h; cases hd
  | struct _ i fs pts h hd hlen hf =>
    rw [ht] at h; cases h; cases hd
    match pts, hlen, hf with
    | [x, y], _, hf =>
      obtain ⟨p, rfl⟩ := wt_int (hf 0 _ x rfl rfl)
      obtain ⟨s, rfl⟩ := wt_str (hf 1 _ y rfl rfl)
      refine ⟨p, s, ?_⟩
      cases e
      rfl
end Go.AE.YtkdjdhfoodlnfaaDoor
end

/-! Ops: what find tells of a name that no row of the table has. -/
section
set_option linter.unusedVariables false
set_option linter.unusedSimpArgs false
namespace Go.AE.YtkdjdhfoodlnfaaDoor
open Go Go.AE Go.Proofs.YtkdjdhfoodlnfaaDoor
set_option maxRecDepth 100000

theorem lit_ne {s t : ByteArray} (h : s ≠ t) : (s.toList == t.toList) = false := by
  rw [Bool.eq_false_iff]
  intro e
  apply h
  have : s.toList = t.toList := by simpa using e
  have h1 : s.data.toList = t.data.toList := by rw [← Go.ByteArray.toList_eq, ← Go.ByteArray.toList_eq]; exact this
  obtain ⟨⟨a⟩⟩ := s
  obtain ⟨⟨b⟩⟩ := t
  cases h1
  rfl
theorem exec_up {n k m : Nat} {c : CC} {vars : List AV} {h : List AO} {r : AXit × List AV × List AO} (hkm : k ≤ m) (he : exec (callN F n) k c vars h = some r) : exec (callW F) m c vars h = some r :=
  exec_mono (fun f xs h r he => callW_iff.2 ⟨n, he⟩) hkm _ _ _ _ he
/-- an element's place, in an array in memory -/
def iaaV (n sz : Nat) (x : AV) (i : Option Nat) : Option AV := match x, i with
  | .ptr id off, some i => if i < n then some (.ptr id (off + i * sz)) else none
  | .ip cs, some i => if i < n then some (.ip (cs.drop (i * sz))) else none
  | _, _ => none
theorem e_iaa {call : CallF} {vars env : List AV} {h : List AO} {n sz : Nat} {x i : Opd} : evOp call vars env h (.iaa n sz x i) = withH h (iaaV n sz (getO vars env x) (natO vars env i)) := by
  simp only [evOp, iaaV]
  cases getO vars env x <;> cases natO vars env i <;> first | rfl | (simp only; split <;> rfl)
theorem pick_und {w : Bool} {y n : Option St} : pick1 (.v undef) w y n = n := rfl

/-! ### ops.find -/
def strs (l : List ByteArray) : List AV := l.map fun s => .v (.string s)
def K20i : List Bool := [true, true, true, false, true, true, false, true, false, false, true, true, true, false, false]
def V20i (name : ByteArray) (alone : Bool) (i : Int) (l : List ByteArray) (j : Int) : List AV := [.v (.string name), .v (.bool alone), .ptr 0 0, .junk, .ptr 1 0, .v (.int .i64 i), .junk, .v (.int .i64 i), .junk, .junk, .slc 1 true true (strs l), .v (.int .i64 l.length), .v (.int .i64 j), .junk, .junk]
def V20e (name : ByteArray) (alone : Bool) (i : Int) (l : List ByteArray) : List AV := [.v (.string name), .v (.bool alone), .ptr 0 0, .junk, .ptr 1 0, .v (.int .i64 i), .junk, .v (.int .i64 i), .junk, .junk, .slc 1 true true (strs l), .v (.int .i64 l.length), .v (.int .i64 l.length), .v (.bool false), .junk]
theorem wrap_small {i : Nat} (h : i ≤ 1000) : IntKind.i64.wrap ((i : Int) + 1) = ((i + 1 : Nat) : Int) := by
  rw [wrap_i64 (by omega) (by omega)]; simp
theorem in20 {K : Nat} {name : ByteArray} {alone : Bool} {i : Int} {l : List ByteArray} {h : List AO} (hl : ∀ s ∈ l, s ≠ name) (hm : l.length ≤ 1000) :
    ∀ (d j m : Nat) (v : List AV), j + d = l.length → d < m → clr K20i v = V20i name alone i l j → loopN (exec (callW F) K c20_12) K20i m v h = some (.exit 2, V20e name alone i l, h) := by
  intro d
  induction d with
  | zero =>
    intro j m v hj hdm hv
    obtain ⟨m, rfl⟩ : ∃ k, m = k + 1 := ⟨m - 1, by omega⟩
    have hj' : j = l.length := by omega
    subst hj'
    have hlt : decide ((l.length : Int) < (l.length : Int)) = false := by simp
    refine loop_exit ?_
    rw [hv]
    simp only [V20i, V20e, c20_12, c20_7, hlt, e_bslice1, e_bslice2, bs1, bs2, e_build, bdH_some, bd_nil, bd_cons, bd1, cl_agg, cl_int, toL, List.map_cons, List.map_nil, putAt, List.set_cons_zero, List.set_cons_succ, and_self, Nat.le_refl, app_get, app_set, g_agg, run_nil, run_cons, stp_plain, stp_guard, put_some, pass_eq, pick_tt, pick_ff, pick_tf, pick_ft, pick_u, reg_some, thn_normal, thn_exit, thn_ret, cnd_t, cnd_f, blk_normal, blk_ret, blk_exit, x_seq, x_region, x_cond, x_block, x_loop, x_ret, x_exit, x_skip, e_mov, e_pick, pk_t, pk_f, withH_some, e_box, bx_some, e_load, e_store, stH_some, e_nil, e_bin, e_eqv, eqH_f, eqH_t, e_un, e_fa, e_ia, ia_eq, nat_eq, natV_nat, e_len, lnH_some, e_extract, ex_0, ex_1, e_call0, e_call1, e_call2, e_call3, pc0_eq, pc1_some, pc2_some, pc3_some, fin_some, g_var0, g_vars, g_loc0, g_locs, g_int, g_bool, g_str, g_sl, s_none, s_zero, s_succ, cl_nil, cl_str, cl_bool, cl_slc, cl_own, evFa, evNil, asEl, evBin, intBin, strBin, evUn, len_nil, len_slc, len_str, clr, List.length_nil, List.length_cons, List.getElem?_cons_zero, List.getElem?_cons_succ, Nat.reduceAdd, Nat.zero_add, Nat.add_zero, Nat.reduceLeDiff, Nat.reduceSub, ↓reduceIte, List.drop_succ_cons, List.drop_zero, List.take_succ_cons, List.take_zero, Bool.false_eq_true, List.nil_append, List.cons_append, Bool.not_true, Bool.not_false, cond_true, cond_false, bne, lv_ret, lv_normal, res1, res2, lv2_some, res_var, res_cell, lvf_v, lvf_slc, res1c, lvo1_some, e_mm, mm_max, mm_min]
  | succ d ih =>
    intro j m v hj hdm hv
    obtain ⟨m, rfl⟩ : ∃ k, m = k + 1 := ⟨m - 1, by omega⟩
    have hjl : j < l.length := by omega
    have hlt : decide ((j : Int) < (l.length : Int)) = true := by simp; omega
    have he : (strs l)[j]? = some (.v (.string l[j])) := by simp [strs, hjl]
    have hne : ((l[j]).toList == name.toList) = false := lit_ne (hl _ (List.getElem_mem hjl))
    have q1 : ∀ h, iaV h 1 (.slc 1 true true (strs l)) (some j) = some (.ip [.v (.string l[j])]) := fun h => iaV_slc he
    have q2 : ∀ h : List AO, evLoad h false 1 (.ip [.v (.string l[j])]) = some (.v (.string l[j])) := fun h => rfl
    have st : exec (callW F) K c20_12 (V20i name alone i l j) h = some (.normal, [.v (.string name), .v (.bool alone), .ptr 0 0, .junk, .ptr 1 0, .v (.int .i64 i), .v (.string l[j]), .v (.int .i64 i), .junk, .junk, .slc 1 true true (strs l), .v (.int .i64 l.length), .v (.int .i64 ((j + 1 : Nat) : Int)), .v (.bool true), .v (.bool false)], h) := by
      simp only [V20i, c20_12, c20_7, c20_8, c20_9, c20_11, hlt, hne, q1, q2, wrap_small (show j ≤ 1000 by omega), e_bslice1, e_bslice2, bs1, bs2, e_build, bdH_some, bd_nil, bd_cons, bd1, cl_agg, cl_int, toL, List.map_cons, List.map_nil, putAt, List.set_cons_zero, List.set_cons_succ, and_self, Nat.le_refl, app_get, app_set, g_agg, run_nil, run_cons, stp_plain, stp_guard, put_some, pass_eq, pick_tt, pick_ff, pick_tf, pick_ft, pick_u, reg_some, thn_normal, thn_exit, thn_ret, cnd_t, cnd_f, blk_normal, blk_ret, blk_exit, x_seq, x_region, x_cond, x_block, x_loop, x_ret, x_exit, x_skip, e_mov, e_pick, pk_t, pk_f, withH_some, e_box, bx_some, e_load, e_store, stH_some, e_nil, e_bin, e_eqv, eqH_f, eqH_t, e_un, e_fa, e_ia, ia_eq, nat_eq, natV_nat, e_len, lnH_some, e_extract, ex_0, ex_1, e_call0, e_call1, e_call2, e_call3, pc0_eq, pc1_some, pc2_some, pc3_some, fin_some, g_var0, g_vars, g_loc0, g_locs, g_int, g_bool, g_str, g_sl, s_none, s_zero, s_succ, cl_nil, cl_str, cl_bool, cl_slc, cl_own, evFa, evNil, asEl, evBin, intBin, strBin, evUn, len_nil, len_slc, len_str, clr, List.length_nil, List.length_cons, List.getElem?_cons_zero, List.getElem?_cons_succ, Nat.reduceAdd, Nat.zero_add, Nat.add_zero, Nat.reduceLeDiff, Nat.reduceSub, ↓reduceIte, List.drop_succ_cons, List.drop_zero, List.take_succ_cons, List.take_zero, Bool.false_eq_true, List.nil_append, List.cons_append, Bool.not_true, Bool.not_false, cond_true, cond_false, bne, lv_ret, lv_normal, res1, res2, lv2_some, res_var, res_cell, lvf_v, lvf_slc, res1c, lvo1_some, e_mm, mm_max, mm_min]
    have hln := loop_normal (call := callW F) (fuel := K) (keep := K20i) (b := c20_12) (n := m) (vars := v) (h := h) (by rw [hv]; exact st)
    rw [hln]
    exact ih (j + 1) m _ (by omega) (by omega) rfl
/-- a row's type, its names' text, its names -/
def kd (i : Nat) : ByteArray := (rowsT.map (·.2.1)).getD i ⟨#[]⟩
def nm (i : Nat) : ByteArray := (rowsT.map (·.2.2)).getD i ⟨#[]⟩
def fl (i : Nat) : List ByteArray := (Lib.fields (nm i).data.toList).map fun l => ⟨l.toArray⟩
def H20 : List AO := [.box [.v (.int .i64 0), .v (.string ⟨#[]⟩)], .box tabV]
theorem fl_names' : ∀ i, i < 10 → (fl i).length ≤ 16 ∧ ((fl i).all fun s => names.any fun t => s.data.toList == t.data.toList) = true := by decide +kernel
theorem fl_names : ∀ i, i < 10 → (fl i).length ≤ 16 ∧ ∀ s ∈ fl i, s ∈ names := by
  intro i hi
  obtain ⟨h1, h2⟩ := fl_names' i hi
  refine ⟨h1, fun s hs => ?_⟩
  obtain ⟨t, ht, e⟩ := List.any_eq_true.1 (List.all_eq_true.1 h2 s hs)
  have : s = t := by
    have e : s.data.toList = t.data.toList := by simpa using e
    obtain ⟨⟨a⟩⟩ := s
    obtain ⟨⟨b⟩⟩ := t
    cases e
    rfl
  exact this ▸ ht
theorem ld_kd : ∀ i, i < 10 → evLoad H20 false 1 (.ptr 1 (i * 3 + 1)) = some (.v (.string (kd i))) := by
  intro i hi
  match i, hi with
  | 0, _ | 1, _ | 2, _ | 3, _ | 4, _ | 5, _ | 6, _ | 7, _ | 8, _ | 9, _ => rfl
theorem ld_nm : ∀ i, i < 10 → evLoad H20 false 1 (.ptr 1 (i * 3 + 2)) = some (.v (.string (nm i))) := by
  intro i hi
  match i, hi with
  | 0, _ | 1, _ | 2, _ | 3, _ | 4, _ | 5, _ | 6, _ | 7, _ | 8, _ | 9, _ => rfl
theorem fields23 : ∀ i, i < 10 → callW F 23 [.v (.string (nm i))] [] = some (.slc 1 true true (strs (fl i)), []) := by
  intro i hi
  refine callW_oracle (g := fieldsG) rfl ?_
  have : ∀ i, i < 10 → (nm i).size < 4294967281 ∧ (nm i).data.toList.all (fun b => decide (b.toNat < 128)) = true := by decide +kernel
  simp only [fieldsG, if_pos (this i hi), strs, fl, List.map_map]
  rfl
def K20 : List Bool := [true, true, true, false, true, false, false, true, false, false, false, false, false, false, false]
def V20 (name : ByteArray) (alone : Bool) (i : Int) : List AV := [.v (.string name), .v (.bool alone), .ptr 0 0, .junk, .ptr 1 0, .junk, .junk, .v (.int .i64 i), .junk, .junk, .junk, .junk, .junk, .junk, .junk]
theorem step20 {K : Nat} (hK : 20 ≤ K) {name : ByteArray} (hn : name ∉ names) (alone : Bool) (i : Nat) (hi : i < 10) : ∃ v', exec (callW F) K c20_14 (V20 name alone i) H20 = some (.normal, v', H20) ∧ clr K20 v' = V20 name alone ((i + 1 : Nat) : Int) := by
  have hlt : decide ((i : Int) < 10) = true := by simp; omega
  have q0 : iaaV 10 3 (.ptr 1 0) (some i) = some (.ptr 1 (i * 3)) := by simp [iaaV, hi]
  have q1 := ld_kd i hi
  have q2 := ld_nm i hi
  have q3 := fields23 i hi
  have q4 : ∀ (h : List AO) (s : ByteArray), (AV.v (.string s)).snap1 h = some (.v (.string s)) := fun _ _ => rfl
  have q5 : ∀ (h : List AO) (a b : Bool), eqNil h .bool (.v (.bool a)) (.v (.bool b)) = some (a == b) := fun _ _ _ => rfl
  cases hc : ((((kd i).size : Int) == 2) == alone) with
  | false =>
    refine ⟨[.v (.string name), .v (.bool alone), .ptr 0 0, .junk, .ptr 1 0, .v (.int .i64 i), .junk, .v (.int .i64 ((i + 1 : Nat) : Int)), .v (.bool true), .v (.bool true), .junk, .junk, .junk, .junk, .junk], ?_, rfl⟩
    simp only [V20, c20_14, c20_3, c20_4, c20_5, c20_13, hlt, q0, q1, q5, hc, e_iaa, wrap_small (show i ≤ 1000 by omega), e_bslice1, e_bslice2, bs1, bs2, e_build, bdH_some, bd_nil, bd_cons, bd1, cl_agg, cl_int, toL, List.map_cons, List.map_nil, putAt, List.set_cons_zero, List.set_cons_succ, and_self, Nat.le_refl, app_get, app_set, g_agg, run_nil, run_cons, stp_plain, stp_guard, put_some, pass_eq, pick_tt, pick_ff, pick_tf, pick_ft, pick_u, reg_some, thn_normal, thn_exit, thn_ret, cnd_t, cnd_f, blk_normal, blk_ret, blk_exit, x_seq, x_region, x_cond, x_block, x_loop, x_ret, x_exit, x_skip, e_mov, e_pick, pk_t, pk_f, withH_some, e_box, bx_some, e_load, e_store, stH_some, e_nil, e_bin, e_eqv, eqH_f, eqH_t, e_un, e_fa, e_ia, ia_eq, nat_eq, natV_nat, e_len, lnH_some, e_extract, ex_0, ex_1, e_call0, e_call1, e_call2, e_call3, pc0_eq, pc1_some, pc2_some, pc3_some, fin_some, g_var0, g_vars, g_loc0, g_locs, g_int, g_bool, g_str, g_sl, s_none, s_zero, s_succ, cl_nil, cl_str, cl_bool, cl_slc, cl_own, evFa, evNil, asEl, evBin, intBin, strBin, evUn, len_nil, len_slc, len_str, clr, List.length_nil, List.length_cons, List.getElem?_cons_zero, List.getElem?_cons_succ, Nat.reduceAdd, Nat.zero_add, Nat.add_zero, Nat.reduceLeDiff, Nat.reduceSub, ↓reduceIte, List.drop_succ_cons, List.drop_zero, List.take_succ_cons, List.take_zero, Bool.false_eq_true, List.nil_append, List.cons_append, Bool.not_true, Bool.not_false, cond_true, cond_false, bne, lv_ret, lv_normal, res1, res2, lv2_some, res_var, res_cell, lvf_v, lvf_slc, res1c, lvo1_some, e_mm, mm_max, mm_min]
  | true =>
    obtain ⟨f1, f2⟩ := fl_names i hi
    have hln := in20 (K := K) (name := name) (alone := alone) (i := i) (l := fl i) (h := H20) (fun s hs e => hn (e ▸ f2 s hs)) (by omega) (fl i).length 0 K
      [.v (.string name), .v (.bool alone), .ptr 0 0, .junk, .ptr 1 0, .v (.int .i64 i), .junk, .v (.int .i64 i), .v (.bool true), .v (.bool false), .slc 1 true true (strs (fl i)), .v (.int .i64 (strs (fl i)).length), .v (.int .i64 0), .junk, .junk] (by omega) (by omega) (by simp [K20i, clr, V20i, strs])
    simp only [K20i] at hln
    refine ⟨[.v (.string name), .v (.bool alone), .ptr 0 0, .junk, .ptr 1 0, .v (.int .i64 i), .junk, .v (.int .i64 ((i + 1 : Nat) : Int)), .junk, .junk, .slc 1 true true (strs (fl i)), .v (.int .i64 (fl i).length), .v (.int .i64 (fl i).length), .v (.bool false), .junk], ?_, rfl⟩
    simp only [V20, c20_14, c20_3, c20_4, c20_5, c20_6, c20_13, hlt, q0, q1, q2, q3, q4, q5, hc, e_iaa, hln, V20e, wrap_small (show i ≤ 1000 by omega), e_bslice1, e_bslice2, bs1, bs2, e_build, bdH_some, bd_nil, bd_cons, bd1, cl_agg, cl_int, toL, List.map_cons, List.map_nil, putAt, List.set_cons_zero, List.set_cons_succ, and_self, Nat.le_refl, app_get, app_set, g_agg, run_nil, run_cons, stp_plain, stp_guard, put_some, pass_eq, pick_tt, pick_ff, pick_tf, pick_ft, pick_u, reg_some, thn_normal, thn_exit, thn_ret, cnd_t, cnd_f, blk_normal, blk_ret, blk_exit, x_seq, x_region, x_cond, x_block, x_loop, x_ret, x_exit, x_skip, e_mov, e_pick, pk_t, pk_f, withH_some, e_box, bx_some, e_load, e_store, stH_some, e_nil, e_bin, e_eqv, eqH_f, eqH_t, e_un, e_fa, e_ia, ia_eq, nat_eq, natV_nat, e_len, lnH_some, e_extract, ex_0, ex_1, e_call0, e_call1, e_call2, e_call3, pc0_eq, pc1_some, pc2_some, pc3_some, fin_some, g_var0, g_vars, g_loc0, g_locs, g_int, g_bool, g_str, g_sl, s_none, s_zero, s_succ, cl_nil, cl_str, cl_bool, cl_slc, cl_own, evFa, evNil, asEl, evBin, intBin, strBin, evUn, len_nil, len_slc, len_str, clr, List.length_nil, List.length_cons, List.getElem?_cons_zero, List.getElem?_cons_succ, Nat.reduceAdd, Nat.zero_add, Nat.add_zero, Nat.reduceLeDiff, Nat.reduceSub, ↓reduceIte, List.drop_succ_cons, List.drop_zero, List.take_succ_cons, List.take_zero, Bool.false_eq_true, List.nil_append, List.cons_append, Bool.not_true, Bool.not_false, cond_true, cond_false, bne, lv_ret, lv_normal, res1, res2, lv2_some, res_var, res_cell, lvf_v, lvf_slc, res1c, lvo1_some, e_mm, mm_max, mm_min]
def E20 (name : ByteArray) (alone : Bool) : List AV := [.v (.string name), .v (.bool alone), .ptr 0 0, .junk, .ptr 1 0, .junk, .junk, .v (.int .i64 ((10 : Nat) : Int)), .v (.bool false), .junk, .junk, .junk, .junk, .junk, .junk]
theorem loop20 {K : Nat} (hK : 20 ≤ K) {name : ByteArray} (hn : name ∉ names) (alone : Bool) : ∀ (d i m : Nat) (v : List AV), i + d = 10 → d < m → clr K20 v = V20 name alone i →
    loopN (exec (callW F) K c20_14) K20 m v H20 = some (.exit 0, E20 name alone, H20) := by
  intro d
  induction d with
  | zero =>
    intro i m v hi hdm hv
    obtain ⟨m, rfl⟩ : ∃ k, m = k + 1 := ⟨m - 1, by omega⟩
    have hi' : i = 10 := by omega
    subst hi'
    have hlt : decide (((10 : Nat) : Int) < 10) = false := by decide
    refine loop_exit ?_
    rw [hv]
    simp only [V20, E20, c20_14, c20_3, hlt, e_bslice1, e_bslice2, bs1, bs2, e_build, bdH_some, bd_nil, bd_cons, bd1, cl_agg, cl_int, toL, List.map_cons, List.map_nil, putAt, List.set_cons_zero, List.set_cons_succ, and_self, Nat.le_refl, app_get, app_set, g_agg, run_nil, run_cons, stp_plain, stp_guard, put_some, pass_eq, pick_tt, pick_ff, pick_tf, pick_ft, pick_u, reg_some, thn_normal, thn_exit, thn_ret, cnd_t, cnd_f, blk_normal, blk_ret, blk_exit, x_seq, x_region, x_cond, x_block, x_loop, x_ret, x_exit, x_skip, e_mov, e_pick, pk_t, pk_f, withH_some, e_box, bx_some, e_load, e_store, stH_some, e_nil, e_bin, e_eqv, eqH_f, eqH_t, e_un, e_fa, e_ia, ia_eq, nat_eq, natV_nat, e_len, lnH_some, e_extract, ex_0, ex_1, e_call0, e_call1, e_call2, e_call3, pc0_eq, pc1_some, pc2_some, pc3_some, fin_some, g_var0, g_vars, g_loc0, g_locs, g_int, g_bool, g_str, g_sl, s_none, s_zero, s_succ, cl_nil, cl_str, cl_bool, cl_slc, cl_own, evFa, evNil, asEl, evBin, intBin, strBin, evUn, len_nil, len_slc, len_str, clr, List.length_nil, List.length_cons, List.getElem?_cons_zero, List.getElem?_cons_succ, Nat.reduceAdd, Nat.zero_add, Nat.add_zero, Nat.reduceLeDiff, Nat.reduceSub, ↓reduceIte, List.drop_succ_cons, List.drop_zero, List.take_succ_cons, List.take_zero, Bool.false_eq_true, List.nil_append, List.cons_append, Bool.not_true, Bool.not_false, cond_true, cond_false, bne, lv_ret, lv_normal, res1, res2, lv2_some, res_var, res_cell, lvf_v, lvf_slc, res1c, lvo1_some, e_mm, mm_max, mm_min]
  | succ d ih =>
    intro i m v hi hdm hv
    obtain ⟨m, rfl⟩ : ∃ k, m = k + 1 := ⟨m - 1, by omega⟩
    obtain ⟨v', st, hv'⟩ := step20 hK hn alone i (by omega)
    have hln := loop_normal (call := callW F) (fuel := K) (keep := K20) (b := c20_14) (n := m) (vars := v) (h := H20) (by rw [hv]; exact st)
    rw [hln]
    exact ih (i + 1) m v' (by omega) (by omega) hv'
def noOp : AV := .tup [opV 0 ⟨#[]⟩, .v (.bool false)]
theorem find20 {name : ByteArray} (hn : name ∉ names) (alone : Bool) : callW F 20 [.v (.string name), .v (.bool alone)] [] = some (noOp, []) := by
  have h0 : exec (callW F) 40 (.region [] [] c20_0) (start c20 [.v (.string name), .v (.bool alone)]) [] = some (.normal, [.v (.string name), .v (.bool alone), .ptr 0 0, .v (.bool false), .v undef, .v undef, .v undef, .v undef, .v undef, .v undef, .v undef, .v undef, .v undef, .v undef, .v undef], [.box [.v (.int .i64 0), .v (.string ⟨#[]⟩)]]) := exec_up (n := 10) (k := 10) (by omega) (by kernel_rfl)
  have h1 : exec (callW F) 40 (.region [] [] c20_1) [.v (.string name), .v (.bool alone), .ptr 0 0, .v (.bool false), .v undef, .v undef, .v undef, .v undef, .v undef, .v undef, .v undef, .v undef, .v undef, .v undef, .v undef] [.box [.v (.int .i64 0), .v (.string ⟨#[]⟩)]] = some (.normal, [.v (.string name), .v (.bool alone), .ptr 0 0, .v (.bool false), .ptr 1 0, .v undef, .v undef, .v undef, .v undef, .v undef, .v undef, .v undef, .v undef, .v undef, .v undef], H20) := exec_up (n := 10) (k := 10) (by omega) (by kernel_rfl)
  have hl := loop20 (K := 40) (by omega) hn alone 10 0 40 [.v (.string name), .v (.bool alone), .ptr 0 0, .v (.bool false), .ptr 1 0, .v undef, .v undef, .v (.int .i64 0), .v undef, .v undef, .v undef, .v undef, .v undef, .v undef, .v undef] (by omega) (by omega) rfl
  have h2 : exec (callW F) 40 (.region [] [] c20_15) (E20 name alone) H20 = some (.normal, [.v (.string name), .v (.bool alone), .ptr 0 0, .v (.bool false), .ptr 1 0, .junk, .junk, .v (.int .i64 ((10 : Nat) : Int)), .v (.bool false), .junk, .junk, .junk, .junk, .junk, .junk], H20) := exec_up (n := 10) (k := 10) (by omega) (by kernel_rfl)
  refine callW_pure (c := c20) rfl rfl 40 ?_
  have e : exec (callW F) 40 c20.body (start c20 [.v (.string name), .v (.bool alone)]) [] = some (.ret, [.v (.string name), .v (.bool alone), .ptr 0 0, .v (.bool false), .ptr 1 0, .junk, .junk, .v (.int .i64 ((10 : Nat) : Int)), .v (.bool false), .junk, .junk, .junk, .junk, .junk, .junk], H20) := by
    have hb : exec (callW F) 40 (.region [] [] c20_2) [.v (.string name), .v (.bool alone), .ptr 0 0, .v (.bool false), .ptr 1 0, .v undef, .v undef, .v undef, .v undef, .v undef, .v undef, .v undef, .v undef, .v undef, .v undef] H20 = some (.normal, [.v (.string name), .v (.bool alone), .ptr 0 0, .v (.bool false), .ptr 1 0, .v undef, .v undef, .v (.int .i64 0), .v undef, .v undef, .v undef, .v undef, .v undef, .v undef, .v undef], H20) := rfl
    rw [show c20.body = (.seq (.region [] [] c20_0) (.seq (.region [] [] c20_1) (.seq (.seq (.region [] [] c20_2) (.block 0 (.loop K20 [] c20_14))) (.seq (.region [] [] c20_15) .ret)))) from rfl]
    rw [x_seq, h0, thn_normal, x_seq, h1, thn_normal, x_seq, x_seq, hb, thn_normal, x_block, x_loop, hl, blk_exit, thn_normal, x_seq, h2, thn_normal, x_ret]
  rw [e]
  rfl
end Go.AE.YtkdjdhfoodlnfaaDoor
end

/-! Ops: what the document's find tells of a name that no row of the table has. -/
section
set_option linter.unusedVariables false
set_option linter.unusedSimpArgs false
namespace Go.AE.YtkdjdhfoodlnfaaDoor
open Go Go.AE Go.Proofs.YtkdjdhfoodlnfaaDoor
set_option maxRecDepth 100000

def K21i : List Bool := [true, true, true, false, true, false, true, true, true, false, true, true, true, false, false]
def V21i (name : ByteArray) (k i : Int) (p : Nat) (l : List ByteArray) (j : Int) : List AV := [.v (.string name), .v (.int .i64 k), .ptr 0 0, .junk, .ptr p 0, .junk, .slc 3 true true rowsV, .v (.int .i64 10), .v (.int .i64 i), .junk, .slc 1 true true (strs l), .v (.int .i64 l.length), .v (.int .i64 j), .junk, .junk]
def V21e (name : ByteArray) (k i : Int) (p : Nat) (l : List ByteArray) : List AV := [.v (.string name), .v (.int .i64 k), .ptr 0 0, .junk, .ptr p 0, .junk, .slc 3 true true rowsV, .v (.int .i64 10), .v (.int .i64 i), .junk, .slc 1 true true (strs l), .v (.int .i64 l.length), .v (.int .i64 l.length), .v (.bool false), .junk]
theorem in21 {K : Nat} {name : ByteArray} {k i : Int} {p : Nat} {l : List ByteArray} {h : List AO} (hl : ∀ s ∈ l, s ≠ name) (hm : l.length ≤ 1000) :
    ∀ (d j m : Nat) (v : List AV), j + d = l.length → d < m → clr K21i v = V21i name k i p l j → loopN (exec (callW F) K c21_10) K21i m v h = some (.exit 2, V21e name k i p l, h) := by
  intro d
  induction d with
  | zero =>
    intro j m v hj hdm hv
    obtain ⟨m, rfl⟩ : ∃ k, m = k + 1 := ⟨m - 1, by omega⟩
    have hj' : j = l.length := by omega
    subst hj'
    have hlt : decide ((l.length : Int) < (l.length : Int)) = false := by simp
    refine loop_exit ?_
    rw [hv]
    simp only [V21i, V21e, c21_10, c21_5, hlt, e_bslice1, e_bslice2, bs1, bs2, e_build, bdH_some, bd_nil, bd_cons, bd1, cl_agg, cl_int, toL, List.map_cons, List.map_nil, putAt, List.set_cons_zero, List.set_cons_succ, and_self, Nat.le_refl, app_get, app_set, g_agg, run_nil, run_cons, stp_plain, stp_guard, put_some, pass_eq, pick_tt, pick_ff, pick_tf, pick_ft, pick_u, reg_some, thn_normal, thn_exit, thn_ret, cnd_t, cnd_f, blk_normal, blk_ret, blk_exit, x_seq, x_region, x_cond, x_block, x_loop, x_ret, x_exit, x_skip, e_mov, e_pick, pk_t, pk_f, withH_some, e_box, bx_some, e_load, e_store, stH_some, e_nil, e_bin, e_eqv, eqH_f, eqH_t, e_un, e_fa, e_ia, ia_eq, nat_eq, natV_nat, e_len, lnH_some, e_extract, ex_0, ex_1, e_call0, e_call1, e_call2, e_call3, pc0_eq, pc1_some, pc2_some, pc3_some, fin_some, g_var0, g_vars, g_loc0, g_locs, g_int, g_bool, g_str, g_sl, s_none, s_zero, s_succ, cl_nil, cl_str, cl_bool, cl_slc, cl_own, evFa, evNil, asEl, evBin, intBin, strBin, evUn, len_nil, len_slc, len_str, clr, List.length_nil, List.length_cons, List.getElem?_cons_zero, List.getElem?_cons_succ, Nat.reduceAdd, Nat.zero_add, Nat.add_zero, Nat.reduceLeDiff, Nat.reduceSub, ↓reduceIte, List.drop_succ_cons, List.drop_zero, List.take_succ_cons, List.take_zero, Bool.false_eq_true, List.nil_append, List.cons_append, Bool.not_true, Bool.not_false, cond_true, cond_false, bne, lv_ret, lv_normal, res1, res2, lv2_some, res_var, res_cell, lvf_v, lvf_slc, res1c, lvo1_some, e_mm, mm_max, mm_min]
  | succ d ih =>
    intro j m v hj hdm hv
    obtain ⟨m, rfl⟩ : ∃ k, m = k + 1 := ⟨m - 1, by omega⟩
    have hjl : j < l.length := by omega
    have hlt : decide ((j : Int) < (l.length : Int)) = true := by simp; omega
    have he : (strs l)[j]? = some (.v (.string l[j])) := by simp [strs, hjl]
    have hne : ((l[j]).toList == name.toList) = false := lit_ne (hl _ (List.getElem_mem hjl))
    have q1 : ∀ h, iaV h 1 (.slc 1 true true (strs l)) (some j) = some (.ip [.v (.string l[j])]) := fun h => iaV_slc he
    have q2 : ∀ h : List AO, evLoad h false 1 (.ip [.v (.string l[j])]) = some (.v (.string l[j])) := fun h => rfl
    have st : exec (callW F) K c21_10 (V21i name k i p l j) h = some (.normal, [.v (.string name), .v (.int .i64 k), .ptr 0 0, .junk, .ptr p 0, .v (.string l[j]), .slc 3 true true rowsV, .v (.int .i64 10), .v (.int .i64 i), .junk, .slc 1 true true (strs l), .v (.int .i64 l.length), .v (.int .i64 ((j + 1 : Nat) : Int)), .v (.bool true), .v (.bool false)], h) := by
      simp only [V21i, c21_10, c21_5, c21_6, c21_7, c21_9, hlt, hne, q1, q2, wrap_small (show j ≤ 1000 by omega), e_bslice1, e_bslice2, bs1, bs2, e_build, bdH_some, bd_nil, bd_cons, bd1, cl_agg, cl_int, toL, List.map_cons, List.map_nil, putAt, List.set_cons_zero, List.set_cons_succ, and_self, Nat.le_refl, app_get, app_set, g_agg, run_nil, run_cons, stp_plain, stp_guard, put_some, pass_eq, pick_tt, pick_ff, pick_tf, pick_ft, pick_u, reg_some, thn_normal, thn_exit, thn_ret, cnd_t, cnd_f, blk_normal, blk_ret, blk_exit, x_seq, x_region, x_cond, x_block, x_loop, x_ret, x_exit, x_skip, e_mov, e_pick, pk_t, pk_f, withH_some, e_box, bx_some, e_load, e_store, stH_some, e_nil, e_bin, e_eqv, eqH_f, eqH_t, e_un, e_fa, e_ia, ia_eq, nat_eq, natV_nat, e_len, lnH_some, e_extract, ex_0, ex_1, e_call0, e_call1, e_call2, e_call3, pc0_eq, pc1_some, pc2_some, pc3_some, fin_some, g_var0, g_vars, g_loc0, g_locs, g_int, g_bool, g_str, g_sl, s_none, s_zero, s_succ, cl_nil, cl_str, cl_bool, cl_slc, cl_own, evFa, evNil, asEl, evBin, intBin, strBin, evUn, len_nil, len_slc, len_str, clr, List.length_nil, List.length_cons, List.getElem?_cons_zero, List.getElem?_cons_succ, Nat.reduceAdd, Nat.zero_add, Nat.add_zero, Nat.reduceLeDiff, Nat.reduceSub, ↓reduceIte, List.drop_succ_cons, List.drop_zero, List.take_succ_cons, List.take_zero, Bool.false_eq_true, List.nil_append, List.cons_append, Bool.not_true, Bool.not_false, cond_true, cond_false, bne, lv_ret, lv_normal, res1, res2, lv2_some, res_var, res_cell, lvf_v, lvf_slc, res1c, lvo1_some, e_mm, mm_max, mm_min]
    have hln := loop_normal (call := callW F) (fuel := K) (keep := K21i) (b := c21_10) (n := m) (vars := v) (h := h) (by rw [hv]; exact st)
    rw [hln]
    exact ih (j + 1) m _ (by omega) (by omega) rfl
def rowV (i : Nat) : AV := .agg [.v (.int .i64 ((rowsT.map (·.1)).getD i 0)), .v (.string (kd i)), .slc 1 true true (strs (fl i))]
theorem rows_at : ∀ i, i < 10 → rowsV[i]? = some (rowV i) := by
  intro i hi
  match i, hi with
  | 0, _ | 1, _ | 2, _ | 3, _ | 4, _ | 5, _ | 6, _ | 7, _ | 8, _ | 9, _ => rfl
def K21 : List Bool := [true, true, true, false, false, false, true, true, true, false, false, false, false, false, false]
def V21 (name : ByteArray) (k i : Int) : List AV := [.v (.string name), .v (.int .i64 k), .ptr 0 0, .junk, .junk, .junk, .slc 3 true true rowsV, .v (.int .i64 10), .v (.int .i64 i), .junk, .junk, .junk, .junk, .junk, .junk]
theorem step21 {K : Nat} (hK : 20 ≤ K) {name : ByteArray} (hn : name ∉ names) (k : Int) (i : Nat) (hi : i < 10) (h : List AO) : ∃ v', exec (callW F) K c21_12 (V21 name k i) h = some (.normal, v', h ++ [.box (rowV i).cells]) ∧ clr K21 v' = V21 name k ((i + 1 : Nat) : Int) := by
  have hlt : decide ((i : Int) < 10) = true := by simp; omega
  have q0 : ∀ h, iaV h 3 (.slc 3 true true rowsV) (some i) = some (.ip (rowV i).cells) := fun h => iaV_slc (rows_at i hi)
  have q1 : ∀ h : List AO, evLoad h true 3 (.ip (rowV i).cells) = some (rowV i) := fun h => rfl
  have q2 : evStore (h ++ [.box [.v (.int .i64 0), .v (.string ⟨#[]⟩), .v (.slice none 0 0)]]) 3 (.ptr h.length 0) (rowV i) = some (h ++ [.box (rowV i).cells]) := st_new rfl rfl rfl
  have q3 : evLoad (h ++ [.box (rowV i).cells]) false 1 (.ptr h.length 2) = some (.slc 1 true true (strs (fl i))) := by rw [ld_new]; rfl
  have q4 : ∀ cs : List AV, bx h (some cs) = some (.ptr h.length 0, h ++ [.box cs]) := fun _ => rfl
  obtain ⟨f1, f2⟩ := fl_names i hi
  have hln := in21 (K := K) (name := name) (k := k) (i := i) (p := h.length) (l := fl i) (h := h ++ [.box (rowV i).cells]) (fun s hs e => hn (e ▸ f2 s hs)) (by omega) (fl i).length 0 K
    [.v (.string name), .v (.int .i64 k), .ptr 0 0, .junk, .ptr h.length 0, .junk, .slc 3 true true rowsV, .v (.int .i64 10), .v (.int .i64 i), .v (.bool true), .slc 1 true true (strs (fl i)), .v (.int .i64 (strs (fl i)).length), .v (.int .i64 0), .junk, .junk] (by omega) (by omega) (by simp [K21i, clr, V21i, strs])
  simp only [K21i] at hln
  refine ⟨[.v (.string name), .v (.int .i64 k), .ptr 0 0, .junk, .ptr h.length 0, .junk, .slc 3 true true rowsV, .v (.int .i64 10), .v (.int .i64 ((i + 1 : Nat) : Int)), .junk, .slc 1 true true (strs (fl i)), .v (.int .i64 (fl i).length), .v (.int .i64 (fl i).length), .v (.bool false), .junk], ?_, rfl⟩
  have hz : (AV.agg [.v (.int .i64 0), .v (.string ⟨#[]⟩), .v (.slice none 0 0)]).cl = some [.v (.int .i64 0), .v (.string ⟨#[]⟩), .v (.slice none 0 0)] := rfl
  have hz2 : ofVal (.agg #[.int .i64 0, .string ⟨#[]⟩, .slice none 0 0]) = .agg [.v (.int .i64 0), .v (.string ⟨#[]⟩), .v (.slice none 0 0)] := by kernel_rfl
  simp only [V21, c21_12, c21_2, c21_3, c21_4, c21_11, hlt, q0, q1, q2, q3, hz, hz2, hln, V21e, wrap_small (show i ≤ 1000 by omega), e_bslice1, e_bslice2, bs1, bs2, e_build, bdH_some, bd_nil, bd_cons, bd1, cl_agg, cl_int, toL, List.map_cons, List.map_nil, putAt, List.set_cons_zero, List.set_cons_succ, and_self, Nat.le_refl, app_get, app_set, g_agg, run_nil, run_cons, stp_plain, stp_guard, put_some, pass_eq, pick_tt, pick_ff, pick_tf, pick_ft, pick_u, reg_some, thn_normal, thn_exit, thn_ret, cnd_t, cnd_f, blk_normal, blk_ret, blk_exit, x_seq, x_region, x_cond, x_block, x_loop, x_ret, x_exit, x_skip, e_mov, e_pick, pk_t, pk_f, withH_some, e_box, bx_some, e_load, e_store, stH_some, e_nil, e_bin, e_eqv, eqH_f, eqH_t, e_un, e_fa, e_ia, ia_eq, nat_eq, natV_nat, e_len, lnH_some, e_extract, ex_0, ex_1, e_call0, e_call1, e_call2, e_call3, pc0_eq, pc1_some, pc2_some, pc3_some, fin_some, g_var0, g_vars, g_loc0, g_locs, g_int, g_bool, g_str, g_sl, s_none, s_zero, s_succ, cl_nil, cl_str, cl_bool, cl_slc, cl_own, evFa, evNil, asEl, evBin, intBin, strBin, evUn, len_nil, len_slc, len_str, clr, List.length_nil, List.length_cons, List.getElem?_cons_zero, List.getElem?_cons_succ, Nat.reduceAdd, Nat.zero_add, Nat.add_zero, Nat.reduceLeDiff, Nat.reduceSub, ↓reduceIte, List.drop_succ_cons, List.drop_zero, List.take_succ_cons, List.take_zero, Bool.false_eq_true, List.nil_append, List.cons_append, Bool.not_true, Bool.not_false, cond_true, cond_false, bne, lv_ret, lv_normal, res1, res2, lv2_some, res_var, res_cell, lvf_v, lvf_slc, res1c, lvo1_some, e_mm, mm_max, mm_min]
theorem loop21 {K : Nat} (hK : 20 ≤ K) {name : ByteArray} (hn : name ∉ names) (k : Int) : ∀ (d i m : Nat) (v : List AV) (h : List AO), i + d = 10 → d < m → clr K21 v = V21 name k i → h[0]? = some (.box [.v (.int .i64 0), .v (.string ⟨#[]⟩)]) →
    ∃ v' h', loopN (exec (callW F) K c21_12) K21 m v h = some (.exit 0, v', h') ∧ v'[2]? = some (.ptr 0 0) ∧ v'.length = 15 ∧ h'[0]? = some (.box [.v (.int .i64 0), .v (.string ⟨#[]⟩)]) := by
  intro d
  induction d with
  | zero =>
    intro i m v h hi hdm hv h0
    obtain ⟨m, rfl⟩ : ∃ k, m = k + 1 := ⟨m - 1, by omega⟩
    have hi' : i = 10 := by omega
    subst hi'
    have hlt : decide (((10 : Nat) : Int) < 10) = false := by decide
    refine ⟨[.v (.string name), .v (.int .i64 k), .ptr 0 0, .junk, .junk, .junk, .slc 3 true true rowsV, .v (.int .i64 10), .v (.int .i64 (10 : Nat)), .v (.bool false), .junk, .junk, .junk, .junk, .junk], h, loop_exit ?_, rfl, rfl, h0⟩
    rw [hv]
    simp only [V21, c21_12, c21_2, hlt, e_bslice1, e_bslice2, bs1, bs2, e_build, bdH_some, bd_nil, bd_cons, bd1, cl_agg, cl_int, toL, List.map_cons, List.map_nil, putAt, List.set_cons_zero, List.set_cons_succ, and_self, Nat.le_refl, app_get, app_set, g_agg, run_nil, run_cons, stp_plain, stp_guard, put_some, pass_eq, pick_tt, pick_ff, pick_tf, pick_ft, pick_u, reg_some, thn_normal, thn_exit, thn_ret, cnd_t, cnd_f, blk_normal, blk_ret, blk_exit, x_seq, x_region, x_cond, x_block, x_loop, x_ret, x_exit, x_skip, e_mov, e_pick, pk_t, pk_f, withH_some, e_box, bx_some, e_load, e_store, stH_some, e_nil, e_bin, e_eqv, eqH_f, eqH_t, e_un, e_fa, e_ia, ia_eq, nat_eq, natV_nat, e_len, lnH_some, e_extract, ex_0, ex_1, e_call0, e_call1, e_call2, e_call3, pc0_eq, pc1_some, pc2_some, pc3_some, fin_some, g_var0, g_vars, g_loc0, g_locs, g_int, g_bool, g_str, g_sl, s_none, s_zero, s_succ, cl_nil, cl_str, cl_bool, cl_slc, cl_own, evFa, evNil, asEl, evBin, intBin, strBin, evUn, len_nil, len_slc, len_str, clr, List.length_nil, List.length_cons, List.getElem?_cons_zero, List.getElem?_cons_succ, Nat.reduceAdd, Nat.zero_add, Nat.add_zero, Nat.reduceLeDiff, Nat.reduceSub, ↓reduceIte, List.drop_succ_cons, List.drop_zero, List.take_succ_cons, List.take_zero, Bool.false_eq_true, List.nil_append, List.cons_append, Bool.not_true, Bool.not_false, cond_true, cond_false, bne, lv_ret, lv_normal, res1, res2, lv2_some, res_var, res_cell, lvf_v, lvf_slc, res1c, lvo1_some, e_mm, mm_max, mm_min]
  | succ d ih =>
    intro i m v h hi hdm hv h0
    obtain ⟨m, rfl⟩ : ∃ k, m = k + 1 := ⟨m - 1, by omega⟩
    obtain ⟨v', st, hv'⟩ := step21 hK hn k i (by omega) h
    have hln := loop_normal (call := callW F) (fuel := K) (keep := K21) (b := c21_12) (n := m) (vars := v) (h := h) (by rw [hv]; exact st)
    rw [hln]
    exact ih (i + 1) m v' _ (by omega) (by omega) hv' (his_get h0)
theorem find21 {name : ByteArray} (hn : name ∉ names) (k : Int) : callW F 21 [.v (.string name), .v (.int .i64 k)] [] = some (noOp, []) := by
  have h0 : exec (callW F) 40 (.region [] [] c21_0) (start c21 [.v (.string name), .v (.int .i64 k)]) [] = some (.normal, [.v (.string name), .v (.int .i64 k), .ptr 0 0, .v (.bool false), .v undef, .v undef, .v undef, .v undef, .v undef, .v undef, .v undef, .v undef, .v undef, .v undef, .v undef], [.box [.v (.int .i64 0), .v (.string ⟨#[]⟩)]]) := exec_up (n := 10) (k := 10) (by omega) (by kernel_rfl)
  have h1 : exec (callW F) 40 (.region [] [] c21_1) [.v (.string name), .v (.int .i64 k), .ptr 0 0, .v (.bool false), .v undef, .v undef, .v undef, .v undef, .v undef, .v undef, .v undef, .v undef, .v undef, .v undef, .v undef] [.box [.v (.int .i64 0), .v (.string ⟨#[]⟩)]] = some (.normal, [.v (.string name), .v (.int .i64 k), .ptr 0 0, .v (.bool false), .v undef, .v undef, .slc 3 true true rowsV, .v (.int .i64 10), .v (.int .i64 0), .v undef, .v undef, .v undef, .v undef, .v undef, .v undef], [.box [.v (.int .i64 0), .v (.string ⟨#[]⟩)]]) := exec_up (n := 10) (k := 10) (by omega) (by kernel_rfl)
  obtain ⟨v', h', hl, e1, e2, e3⟩ := loop21 (K := 40) (by omega) hn k 10 0 40 [.v (.string name), .v (.int .i64 k), .ptr 0 0, .v (.bool false), .v undef, .v undef, .slc 3 true true rowsV, .v (.int .i64 10), .v (.int .i64 0), .v undef, .v undef, .v undef, .v undef, .v undef, .v undef] [.box [.v (.int .i64 0), .v (.string ⟨#[]⟩)]] (by omega) (by omega) rfl rfl
  refine callW_pure (c := c21) rfl rfl 40 ?_
  rw [show c21.body = (.seq (.region [] [] c21_0) (.seq (.seq (.region [] [] c21_1) (.block 0 (.loop K21 [] c21_12))) (.seq (.region [] [] c21_13) .ret))) from rfl]
  rw [x_seq, h0, thn_normal, x_seq, x_seq, h1, thn_normal, x_block, x_loop, hl, blk_exit, thn_normal]
  obtain ⟨x0, x1, x3, x4, x5, x6, x7, x8, x9, x10, x11, x12, x13, x14, rfl⟩ : ∃ x0 x1 x3 x4 x5 x6 x7 x8 x9 x10 x11 x12 x13 x14, v' = [x0, x1, .ptr 0 0, x3, x4, x5, x6, x7, x8, x9, x10, x11, x12, x13, x14] := by
    match v', e2, e1 with
    | [x0, x1, x2, x3, x4, x5, x6, x7, x8, x9, x10, x11, x12, x13, x14], _, e1 => cases e1; exact ⟨_, _, _, _, _, _, _, _, _, _, _, _, _, _, rfl⟩
  have hlt : 0 < h'.length := (List.getElem?_eq_some_iff.1 e3).1
  have s1 : evStore h' 2 (.ptr 0 0) (opV 0 ⟨#[]⟩) = some (h'.set 0 (.box [.v (.int .i64 0), .v (.string ⟨#[]⟩)])) := bx_st (xs := [.v (.int .i64 0), .v (.string ⟨#[]⟩)]) e3 rfl rfl (by decide)
  have s2 : evLoad (h'.set 0 (.box [.v (.int .i64 0), .v (.string ⟨#[]⟩)])) true 2 (.ptr 0 0) = some (opV 0 ⟨#[]⟩) := by
    rw [bx_ld (cs := [.v (.int .i64 0), .v (.string ⟨#[]⟩)]) (by simp [hlt])]; rfl
  have hb : bdH h' (evBuild [x0, x1, .ptr 0 0, x3, x4, x5, x6, x7, x8, x9, x10, x11, x12, x13, x14] [] (toL [.int .i64 0, .string ⟨#[]⟩]) []) = some (opV 0 ⟨#[]⟩, h') := rfl
  rw [show c21.res = [CRes.cell 2 true 2, .var 3] from rfl]
  simp only [opV] at s1 s2
  simp only [c21_13, s1, s2, e_bslice1, e_bslice2, bs1, bs2, e_build, bdH_some, bd_nil, bd_cons, bd1, cl_agg, cl_int, toL, List.map_cons, List.map_nil, putAt, List.set_cons_zero, List.set_cons_succ, and_self, Nat.le_refl, app_get, app_set, g_agg, run_nil, run_cons, stp_plain, stp_guard, put_some, pass_eq, pick_tt, pick_ff, pick_tf, pick_ft, pick_u, reg_some, thn_normal, thn_exit, thn_ret, cnd_t, cnd_f, blk_normal, blk_ret, blk_exit, x_seq, x_region, x_cond, x_block, x_loop, x_ret, x_exit, x_skip, e_mov, e_pick, pk_t, pk_f, withH_some, e_box, bx_some, e_load, e_store, stH_some, e_nil, e_bin, e_eqv, eqH_f, eqH_t, e_un, e_fa, e_ia, ia_eq, nat_eq, natV_nat, e_len, lnH_some, e_extract, ex_0, ex_1, e_call0, e_call1, e_call2, e_call3, pc0_eq, pc1_some, pc2_some, pc3_some, fin_some, g_var0, g_vars, g_loc0, g_locs, g_int, g_bool, g_str, g_sl, s_none, s_zero, s_succ, cl_nil, cl_str, cl_bool, cl_slc, cl_own, evFa, evNil, asEl, evBin, intBin, strBin, evUn, len_nil, len_slc, len_str, clr, List.length_nil, List.length_cons, List.getElem?_cons_zero, List.getElem?_cons_succ, Nat.reduceAdd, Nat.zero_add, Nat.add_zero, Nat.reduceLeDiff, Nat.reduceSub, ↓reduceIte, List.drop_succ_cons, List.drop_zero, List.take_succ_cons, List.take_zero, Bool.false_eq_true, List.nil_append, List.cons_append, Bool.not_true, Bool.not_false, cond_true, cond_false, bne, lv_ret, lv_normal, res1, res2, lv2_some, res_var, res_cell, lvf_v, lvf_slc, res1c, lvo1_some, e_mm, mm_max, mm_min]
  rfl
end Go.AE.YtkdjdhfoodlnfaaDoor
end

/-! OpsBoth, OpsTells, OpsBounds in plain Lean. -/
section
set_option linter.unusedVariables false
set_option linter.unusedSimpArgs false
namespace Go.AE.YtkdjdhfoodlnfaaDoor
open Go Go.AE Go.Proofs.YtkdjdhfoodlnfaaDoor
set_option maxRecDepth 1000000

theorem both_0 : callW F 4 [.v (.string ⟨#[58, 45]⟩)] [] = some (.v (.bool true), []) := callW_iff.2 ⟨60, by kernel_rfl⟩
theorem both_1 : callW F 4 [.v (.string ⟨#[63, 45]⟩)] [] = some (.v (.bool true), []) := callW_iff.2 ⟨60, by kernel_rfl⟩
theorem both_2 : callW F 4 [.v (.string ⟨#[59]⟩)] [] = some (.v (.bool true), []) := callW_iff.2 ⟨60, by kernel_rfl⟩
theorem both_3 : callW F 4 [.v (.string ⟨#[45, 62]⟩)] [] = some (.v (.bool true), []) := callW_iff.2 ⟨60, by kernel_rfl⟩
theorem both_4 : callW F 4 [.v (.string ⟨#[44]⟩)] [] = some (.v (.bool true), []) := callW_iff.2 ⟨60, by kernel_rfl⟩
theorem both_5 : callW F 4 [.v (.string ⟨#[92, 43]⟩)] [] = some (.v (.bool true), []) := callW_iff.2 ⟨60, by kernel_rfl⟩
theorem both_6 : callW F 4 [.v (.string ⟨#[61]⟩)] [] = some (.v (.bool true), []) := callW_iff.2 ⟨60, by kernel_rfl⟩
theorem both_7 : callW F 4 [.v (.string ⟨#[92, 61]⟩)] [] = some (.v (.bool true), []) := callW_iff.2 ⟨60, by kernel_rfl⟩
theorem both_8 : callW F 4 [.v (.string ⟨#[61, 61]⟩)] [] = some (.v (.bool true), []) := callW_iff.2 ⟨60, by kernel_rfl⟩
theorem both_9 : callW F 4 [.v (.string ⟨#[92, 61, 61]⟩)] [] = some (.v (.bool true), []) := callW_iff.2 ⟨60, by kernel_rfl⟩
theorem both_10 : callW F 4 [.v (.string ⟨#[64, 60]⟩)] [] = some (.v (.bool true), []) := callW_iff.2 ⟨60, by kernel_rfl⟩
theorem both_11 : callW F 4 [.v (.string ⟨#[64, 61, 60]⟩)] [] = some (.v (.bool true), []) := callW_iff.2 ⟨60, by kernel_rfl⟩
theorem both_12 : callW F 4 [.v (.string ⟨#[64, 62]⟩)] [] = some (.v (.bool true), []) := callW_iff.2 ⟨60, by kernel_rfl⟩
theorem both_13 : callW F 4 [.v (.string ⟨#[64, 62, 61]⟩)] [] = some (.v (.bool true), []) := callW_iff.2 ⟨60, by kernel_rfl⟩
theorem both_14 : callW F 4 [.v (.string ⟨#[61, 46, 46]⟩)] [] = some (.v (.bool true), []) := callW_iff.2 ⟨60, by kernel_rfl⟩
theorem both_15 : callW F 4 [.v (.string ⟨#[105, 115]⟩)] [] = some (.v (.bool true), []) := callW_iff.2 ⟨60, by kernel_rfl⟩
theorem both_16 : callW F 4 [.v (.string ⟨#[61, 58, 61]⟩)] [] = some (.v (.bool true), []) := callW_iff.2 ⟨60, by kernel_rfl⟩
theorem both_17 : callW F 4 [.v (.string ⟨#[61, 92, 61]⟩)] [] = some (.v (.bool true), []) := callW_iff.2 ⟨60, by kernel_rfl⟩
theorem both_18 : callW F 4 [.v (.string ⟨#[60]⟩)] [] = some (.v (.bool true), []) := callW_iff.2 ⟨60, by kernel_rfl⟩
theorem both_19 : callW F 4 [.v (.string ⟨#[61, 60]⟩)] [] = some (.v (.bool true), []) := callW_iff.2 ⟨60, by kernel_rfl⟩
theorem both_20 : callW F 4 [.v (.string ⟨#[62]⟩)] [] = some (.v (.bool true), []) := callW_iff.2 ⟨60, by kernel_rfl⟩
theorem both_21 : callW F 4 [.v (.string ⟨#[62, 61]⟩)] [] = some (.v (.bool true), []) := callW_iff.2 ⟨60, by kernel_rfl⟩
theorem both_22 : callW F 4 [.v (.string ⟨#[43]⟩)] [] = some (.v (.bool true), []) := callW_iff.2 ⟨60, by kernel_rfl⟩
theorem both_23 : callW F 4 [.v (.string ⟨#[45]⟩)] [] = some (.v (.bool true), []) := callW_iff.2 ⟨60, by kernel_rfl⟩
theorem both_24 : callW F 4 [.v (.string ⟨#[42]⟩)] [] = some (.v (.bool true), []) := callW_iff.2 ⟨60, by kernel_rfl⟩
theorem both_25 : callW F 4 [.v (.string ⟨#[47, 47]⟩)] [] = some (.v (.bool true), []) := callW_iff.2 ⟨60, by kernel_rfl⟩
theorem both_26 : callW F 4 [.v (.string ⟨#[114, 101, 109]⟩)] [] = some (.v (.bool true), []) := callW_iff.2 ⟨60, by kernel_rfl⟩
theorem both_27 : callW F 4 [.v (.string ⟨#[109, 111, 100]⟩)] [] = some (.v (.bool true), []) := callW_iff.2 ⟨60, by kernel_rfl⟩
theorem both_in : ∀ s ∈ names, callW F 4 [.v (.string s)] [] = some (.v (.bool true), []) := by
  intro s hs
  simp only [names, List.mem_cons, List.not_mem_nil, or_false] at hs
  rcases hs with rfl | rfl | rfl | rfl | rfl | rfl | rfl | rfl | rfl | rfl | rfl | rfl | rfl | rfl | rfl | rfl | rfl | rfl | rfl | rfl | rfl | rfl | rfl | rfl | rfl | rfl | rfl | rfl
  · exact both_0
  · exact both_1
  · exact both_2
  · exact both_3
  · exact both_4
  · exact both_5
  · exact both_6
  · exact both_7
  · exact both_8
  · exact both_9
  · exact both_10
  · exact both_11
  · exact both_12
  · exact both_13
  · exact both_14
  · exact both_15
  · exact both_16
  · exact both_17
  · exact both_18
  · exact both_19
  · exact both_20
  · exact both_21
  · exact both_22
  · exact both_23
  · exact both_24
  · exact both_25
  · exact both_26
  · exact both_27

/-- what the four tell of a name -/
def Agrees (s : ByteArray) : Prop := ∃ (p : Int) (k : ByteArray) (b : Bool) (p' : Int) (k' : ByteArray) (b' : Bool), callW F 12 [.v (.string s)] [] = some (.tup [opV p k, .v (.bool b)], []) ∧ callW F 13 [.v (.string s)] [] = some (.tup [opV p' k', .v (.bool b')], []) ∧ callW F 14 [.v (.string s)] [] = some (.tup [opV p k, .v (.bool b)], []) ∧ callW F 15 [.v (.string s)] [] = some (.tup [opV p' k', .v (.bool b')], [])
theorem agrees_0 : Agrees ⟨#[58, 45]⟩ := ⟨1200, ⟨#[102, 120]⟩, true, 1200, ⟨#[120, 102, 120]⟩, true, callW_iff.2 ⟨60, by kernel_rfl⟩, callW_iff.2 ⟨60, by kernel_rfl⟩, callW_iff.2 ⟨60, by kernel_rfl⟩, callW_iff.2 ⟨60, by kernel_rfl⟩⟩
theorem agrees_1 : Agrees ⟨#[63, 45]⟩ := ⟨1200, ⟨#[102, 120]⟩, true, 0, ⟨#[]⟩, false, callW_iff.2 ⟨60, by kernel_rfl⟩, callW_iff.2 ⟨60, by kernel_rfl⟩, callW_iff.2 ⟨60, by kernel_rfl⟩, callW_iff.2 ⟨60, by kernel_rfl⟩⟩
theorem agrees_2 : Agrees ⟨#[59]⟩ := ⟨0, ⟨#[]⟩, false, 1100, ⟨#[120, 102, 121]⟩, true, callW_iff.2 ⟨60, by kernel_rfl⟩, callW_iff.2 ⟨60, by kernel_rfl⟩, callW_iff.2 ⟨60, by kernel_rfl⟩, callW_iff.2 ⟨60, by kernel_rfl⟩⟩
theorem agrees_3 : Agrees ⟨#[45, 62]⟩ := ⟨0, ⟨#[]⟩, false, 1050, ⟨#[120, 102, 121]⟩, true, callW_iff.2 ⟨60, by kernel_rfl⟩, callW_iff.2 ⟨60, by kernel_rfl⟩, callW_iff.2 ⟨60, by kernel_rfl⟩, callW_iff.2 ⟨60, by kernel_rfl⟩⟩
theorem agrees_4 : Agrees ⟨#[44]⟩ := ⟨0, ⟨#[]⟩, false, 1000, ⟨#[120, 102, 121]⟩, true, callW_iff.2 ⟨60, by kernel_rfl⟩, callW_iff.2 ⟨60, by kernel_rfl⟩, callW_iff.2 ⟨60, by kernel_rfl⟩, callW_iff.2 ⟨60, by kernel_rfl⟩⟩
theorem agrees_5 : Agrees ⟨#[92, 43]⟩ := ⟨900, ⟨#[102, 121]⟩, true, 0, ⟨#[]⟩, false, callW_iff.2 ⟨60, by kernel_rfl⟩, callW_iff.2 ⟨60, by kernel_rfl⟩, callW_iff.2 ⟨60, by kernel_rfl⟩, callW_iff.2 ⟨60, by kernel_rfl⟩⟩
theorem agrees_6 : Agrees ⟨#[61]⟩ := ⟨0, ⟨#[]⟩, false, 700, ⟨#[120, 102, 120]⟩, true, callW_iff.2 ⟨60, by kernel_rfl⟩, callW_iff.2 ⟨60, by kernel_rfl⟩, callW_iff.2 ⟨60, by kernel_rfl⟩, callW_iff.2 ⟨60, by kernel_rfl⟩⟩
theorem agrees_7 : Agrees ⟨#[92, 61]⟩ := ⟨0, ⟨#[]⟩, false, 700, ⟨#[120, 102, 120]⟩, true, callW_iff.2 ⟨60, by kernel_rfl⟩, callW_iff.2 ⟨60, by kernel_rfl⟩, callW_iff.2 ⟨60, by kernel_rfl⟩, callW_iff.2 ⟨60, by kernel_rfl⟩⟩
theorem agrees_8 : Agrees ⟨#[61, 61]⟩ := ⟨0, ⟨#[]⟩, false, 700, ⟨#[120, 102, 120]⟩, true, callW_iff.2 ⟨60, by kernel_rfl⟩, callW_iff.2 ⟨60, by kernel_rfl⟩, callW_iff.2 ⟨60, by kernel_rfl⟩, callW_iff.2 ⟨60, by kernel_rfl⟩⟩
theorem agrees_9 : Agrees ⟨#[92, 61, 61]⟩ := ⟨0, ⟨#[]⟩, false, 700, ⟨#[120, 102, 120]⟩, true, callW_iff.2 ⟨60, by kernel_rfl⟩, callW_iff.2 ⟨60, by kernel_rfl⟩, callW_iff.2 ⟨60, by kernel_rfl⟩, callW_iff.2 ⟨60, by kernel_rfl⟩⟩
theorem agrees_10 : Agrees ⟨#[64, 60]⟩ := ⟨0, ⟨#[]⟩, false, 700, ⟨#[120, 102, 120]⟩, true, callW_iff.2 ⟨60, by kernel_rfl⟩, callW_iff.2 ⟨60, by kernel_rfl⟩, callW_iff.2 ⟨60, by kernel_rfl⟩, callW_iff.2 ⟨60, by kernel_rfl⟩⟩
theorem agrees_11 : Agrees ⟨#[64, 61, 60]⟩ := ⟨0, ⟨#[]⟩, false, 700, ⟨#[120, 102, 120]⟩, true, callW_iff.2 ⟨60, by kernel_rfl⟩, callW_iff.2 ⟨60, by kernel_rfl⟩, callW_iff.2 ⟨60, by kernel_rfl⟩, callW_iff.2 ⟨60, by kernel_rfl⟩⟩
theorem agrees_12 : Agrees ⟨#[64, 62]⟩ := ⟨0, ⟨#[]⟩, false, 700, ⟨#[120, 102, 120]⟩, true, callW_iff.2 ⟨60, by kernel_rfl⟩, callW_iff.2 ⟨60, by kernel_rfl⟩, callW_iff.2 ⟨60, by kernel_rfl⟩, callW_iff.2 ⟨60, by kernel_rfl⟩⟩
theorem agrees_13 : Agrees ⟨#[64, 62, 61]⟩ := ⟨0, ⟨#[]⟩, false, 700, ⟨#[120, 102, 120]⟩, true, callW_iff.2 ⟨60, by kernel_rfl⟩, callW_iff.2 ⟨60, by kernel_rfl⟩, callW_iff.2 ⟨60, by kernel_rfl⟩, callW_iff.2 ⟨60, by kernel_rfl⟩⟩
theorem agrees_14 : Agrees ⟨#[61, 46, 46]⟩ := ⟨0, ⟨#[]⟩, false, 700, ⟨#[120, 102, 120]⟩, true, callW_iff.2 ⟨60, by kernel_rfl⟩, callW_iff.2 ⟨60, by kernel_rfl⟩, callW_iff.2 ⟨60, by kernel_rfl⟩, callW_iff.2 ⟨60, by kernel_rfl⟩⟩
theorem agrees_15 : Agrees ⟨#[105, 115]⟩ := ⟨0, ⟨#[]⟩, false, 700, ⟨#[120, 102, 120]⟩, true, callW_iff.2 ⟨60, by kernel_rfl⟩, callW_iff.2 ⟨60, by kernel_rfl⟩, callW_iff.2 ⟨60, by kernel_rfl⟩, callW_iff.2 ⟨60, by kernel_rfl⟩⟩
theorem agrees_16 : Agrees ⟨#[61, 58, 61]⟩ := ⟨0, ⟨#[]⟩, false, 700, ⟨#[120, 102, 120]⟩, true, callW_iff.2 ⟨60, by kernel_rfl⟩, callW_iff.2 ⟨60, by kernel_rfl⟩, callW_iff.2 ⟨60, by kernel_rfl⟩, callW_iff.2 ⟨60, by kernel_rfl⟩⟩
theorem agrees_17 : Agrees ⟨#[61, 92, 61]⟩ := ⟨0, ⟨#[]⟩, false, 700, ⟨#[120, 102, 120]⟩, true, callW_iff.2 ⟨60, by kernel_rfl⟩, callW_iff.2 ⟨60, by kernel_rfl⟩, callW_iff.2 ⟨60, by kernel_rfl⟩, callW_iff.2 ⟨60, by kernel_rfl⟩⟩
theorem agrees_18 : Agrees ⟨#[60]⟩ := ⟨0, ⟨#[]⟩, false, 700, ⟨#[120, 102, 120]⟩, true, callW_iff.2 ⟨60, by kernel_rfl⟩, callW_iff.2 ⟨60, by kernel_rfl⟩, callW_iff.2 ⟨60, by kernel_rfl⟩, callW_iff.2 ⟨60, by kernel_rfl⟩⟩
theorem agrees_19 : Agrees ⟨#[61, 60]⟩ := ⟨0, ⟨#[]⟩, false, 700, ⟨#[120, 102, 120]⟩, true, callW_iff.2 ⟨60, by kernel_rfl⟩, callW_iff.2 ⟨60, by kernel_rfl⟩, callW_iff.2 ⟨60, by kernel_rfl⟩, callW_iff.2 ⟨60, by kernel_rfl⟩⟩
theorem agrees_20 : Agrees ⟨#[62]⟩ := ⟨0, ⟨#[]⟩, false, 700, ⟨#[120, 102, 120]⟩, true, callW_iff.2 ⟨60, by kernel_rfl⟩, callW_iff.2 ⟨60, by kernel_rfl⟩, callW_iff.2 ⟨60, by kernel_rfl⟩, callW_iff.2 ⟨60, by kernel_rfl⟩⟩
theorem agrees_21 : Agrees ⟨#[62, 61]⟩ := ⟨0, ⟨#[]⟩, false, 700, ⟨#[120, 102, 120]⟩, true, callW_iff.2 ⟨60, by kernel_rfl⟩, callW_iff.2 ⟨60, by kernel_rfl⟩, callW_iff.2 ⟨60, by kernel_rfl⟩, callW_iff.2 ⟨60, by kernel_rfl⟩⟩
theorem agrees_22 : Agrees ⟨#[43]⟩ := ⟨0, ⟨#[]⟩, false, 500, ⟨#[121, 102, 120]⟩, true, callW_iff.2 ⟨60, by kernel_rfl⟩, callW_iff.2 ⟨60, by kernel_rfl⟩, callW_iff.2 ⟨60, by kernel_rfl⟩, callW_iff.2 ⟨60, by kernel_rfl⟩⟩
theorem agrees_23 : Agrees ⟨#[45]⟩ := ⟨200, ⟨#[102, 121]⟩, true, 500, ⟨#[121, 102, 120]⟩, true, callW_iff.2 ⟨60, by kernel_rfl⟩, callW_iff.2 ⟨60, by kernel_rfl⟩, callW_iff.2 ⟨60, by kernel_rfl⟩, callW_iff.2 ⟨60, by kernel_rfl⟩⟩
theorem agrees_24 : Agrees ⟨#[42]⟩ := ⟨0, ⟨#[]⟩, false, 400, ⟨#[121, 102, 120]⟩, true, callW_iff.2 ⟨60, by kernel_rfl⟩, callW_iff.2 ⟨60, by kernel_rfl⟩, callW_iff.2 ⟨60, by kernel_rfl⟩, callW_iff.2 ⟨60, by kernel_rfl⟩⟩
theorem agrees_25 : Agrees ⟨#[47, 47]⟩ := ⟨0, ⟨#[]⟩, false, 400, ⟨#[121, 102, 120]⟩, true, callW_iff.2 ⟨60, by kernel_rfl⟩, callW_iff.2 ⟨60, by kernel_rfl⟩, callW_iff.2 ⟨60, by kernel_rfl⟩, callW_iff.2 ⟨60, by kernel_rfl⟩⟩
theorem agrees_26 : Agrees ⟨#[114, 101, 109]⟩ := ⟨0, ⟨#[]⟩, false, 400, ⟨#[121, 102, 120]⟩, true, callW_iff.2 ⟨60, by kernel_rfl⟩, callW_iff.2 ⟨60, by kernel_rfl⟩, callW_iff.2 ⟨60, by kernel_rfl⟩, callW_iff.2 ⟨60, by kernel_rfl⟩⟩
theorem agrees_27 : Agrees ⟨#[109, 111, 100]⟩ := ⟨0, ⟨#[]⟩, false, 400, ⟨#[121, 102, 120]⟩, true, callW_iff.2 ⟨60, by kernel_rfl⟩, callW_iff.2 ⟨60, by kernel_rfl⟩, callW_iff.2 ⟨60, by kernel_rfl⟩, callW_iff.2 ⟨60, by kernel_rfl⟩⟩
theorem agrees_in : ∀ s ∈ names, Agrees s := by
  intro s hs
  simp only [names, List.mem_cons, List.not_mem_nil, or_false] at hs
  rcases hs with rfl | rfl | rfl | rfl | rfl | rfl | rfl | rfl | rfl | rfl | rfl | rfl | rfl | rfl | rfl | rfl | rfl | rfl | rfl | rfl | rfl | rfl | rfl | rfl | rfl | rfl | rfl | rfl
  · exact agrees_0
  · exact agrees_1
  · exact agrees_2
  · exact agrees_3
  · exact agrees_4
  · exact agrees_5
  · exact agrees_6
  · exact agrees_7
  · exact agrees_8
  · exact agrees_9
  · exact agrees_10
  · exact agrees_11
  · exact agrees_12
  · exact agrees_13
  · exact agrees_14
  · exact agrees_15
  · exact agrees_16
  · exact agrees_17
  · exact agrees_18
  · exact agrees_19
  · exact agrees_20
  · exact agrees_21
  · exact agrees_22
  · exact agrees_23
  · exact agrees_24
  · exact agrees_25
  · exact agrees_26
  · exact agrees_27

section
variable {name : ByteArray} (hn : name ∉ names)
include hn
theorem pre_none : callW F 12 [.v (.string name)] [] = some (noOp, []) ∧ callW F 13 [.v (.string name)] [] = some (noOp, []) ∧ callW F 14 [.v (.string name)] [] = some (noOp, []) ∧ callW F 15 [.v (.string name)] [] = some (noOp, []) := by
  have f1 := find20 hn true
  have f2 := find20 hn false
  have f3 := find21 hn 2
  have f4 := find21 hn 3
  have q4 : ∀ (h : List AO) (x : Value), (AV.v x).snap1 h = some (.v x) := fun _ _ => rfl
  have z : (AV.agg [.v (.int .i64 0), .v (.string ⟨#[]⟩)]).cl = some [.v (.int .i64 0), .v (.string ⟨#[]⟩)] := rfl
  have z2 : ofVal (.agg #[.int .i64 0, .string ⟨#[]⟩]) = .agg [.v (.int .i64 0), .v (.string ⟨#[]⟩)] := by kernel_rfl
  have s1 : evStore [.box [.v (.int .i64 0), .v (.string ⟨#[]⟩)]] 2 (.ptr 0 0) (.agg [.v (.int .i64 0), .v (.string ⟨#[]⟩)]) = some [.box [.v (.int .i64 0), .v (.string ⟨#[]⟩)]] := rfl
  have s2 : evLoad [.box [.v (.int .i64 0), .v (.string ⟨#[]⟩)]] true 2 (.ptr 0 0) = some (.agg [.v (.int .i64 0), .v (.string ⟨#[]⟩)]) := rfl
  have s3 : ∀ h, lvf h (.tup [.agg [.v (.int .i64 0), .v (.string ⟨#[]⟩)], .v (.bool false)]) = some (noOp, []) := fun _ => rfl
  simp only [noOp, opV] at f1 f2 f3 f4
  refine ⟨callW_pure (c := c12) rfl rfl 0 ?_, callW_pure (c := c13) rfl rfl 0 ?_, callW_pure (c := c14) rfl rfl 0 ?_, callW_pure (c := c15) rfl rfl 0 ?_⟩
  · simp only [c12, start, List.replicate, c12_0, c12_1, f1, q4, z, z2, s1, s2, s3, e_bslice1, e_bslice2, bs1, bs2, e_build, bdH_some, bd_nil, bd_cons, bd1, cl_agg, cl_int, toL, List.map_cons, List.map_nil, putAt, List.set_cons_zero, List.set_cons_succ, and_self, Nat.le_refl, app_get, app_set, g_agg, run_nil, run_cons, stp_plain, stp_guard, put_some, pass_eq, pick_tt, pick_ff, pick_tf, pick_ft, pick_u, reg_some, thn_normal, thn_exit, thn_ret, cnd_t, cnd_f, blk_normal, blk_ret, blk_exit, x_seq, x_region, x_cond, x_block, x_loop, x_ret, x_exit, x_skip, e_mov, e_pick, pk_t, pk_f, withH_some, e_box, bx_some, e_load, e_store, stH_some, e_nil, e_bin, e_eqv, eqH_f, eqH_t, e_un, e_fa, e_ia, ia_eq, nat_eq, natV_nat, e_len, lnH_some, e_extract, ex_0, ex_1, e_call0, e_call1, e_call2, e_call3, pc0_eq, pc1_some, pc2_some, pc3_some, fin_some, g_var0, g_vars, g_loc0, g_locs, g_int, g_bool, g_str, g_sl, s_none, s_zero, s_succ, cl_nil, cl_str, cl_bool, cl_slc, cl_own, evFa, evNil, asEl, evBin, intBin, strBin, evUn, len_nil, len_slc, len_str, clr, List.length_nil, List.length_cons, List.getElem?_cons_zero, List.getElem?_cons_succ, Nat.reduceAdd, Nat.zero_add, Nat.add_zero, Nat.reduceLeDiff, Nat.reduceSub, ↓reduceIte, List.drop_succ_cons, List.drop_zero, List.take_succ_cons, List.take_zero, Bool.false_eq_true, List.nil_append, List.cons_append, Bool.not_true, Bool.not_false, cond_true, cond_false, bne, lv_ret, lv_normal, res1, res2, lv2_some, res_var, res_cell, lvf_v, lvf_slc, res1c, lvo1_some, e_mm, mm_max, mm_min]
  · simp only [c13, start, List.replicate, c13_0, c13_1, f2, q4, z, z2, s1, s2, s3, e_bslice1, e_bslice2, bs1, bs2, e_build, bdH_some, bd_nil, bd_cons, bd1, cl_agg, cl_int, toL, List.map_cons, List.map_nil, putAt, List.set_cons_zero, List.set_cons_succ, and_self, Nat.le_refl, app_get, app_set, g_agg, run_nil, run_cons, stp_plain, stp_guard, put_some, pass_eq, pick_tt, pick_ff, pick_tf, pick_ft, pick_u, reg_some, thn_normal, thn_exit, thn_ret, cnd_t, cnd_f, blk_normal, blk_ret, blk_exit, x_seq, x_region, x_cond, x_block, x_loop, x_ret, x_exit, x_skip, e_mov, e_pick, pk_t, pk_f, withH_some, e_box, bx_some, e_load, e_store, stH_some, e_nil, e_bin, e_eqv, eqH_f, eqH_t, e_un, e_fa, e_ia, ia_eq, nat_eq, natV_nat, e_len, lnH_some, e_extract, ex_0, ex_1, e_call0, e_call1, e_call2, e_call3, pc0_eq, pc1_some, pc2_some, pc3_some, fin_some, g_var0, g_vars, g_loc0, g_locs, g_int, g_bool, g_str, g_sl, s_none, s_zero, s_succ, cl_nil, cl_str, cl_bool, cl_slc, cl_own, evFa, evNil, asEl, evBin, intBin, strBin, evUn, len_nil, len_slc, len_str, clr, List.length_nil, List.length_cons, List.getElem?_cons_zero, List.getElem?_cons_succ, Nat.reduceAdd, Nat.zero_add, Nat.add_zero, Nat.reduceLeDiff, Nat.reduceSub, ↓reduceIte, List.drop_succ_cons, List.drop_zero, List.take_succ_cons, List.take_zero, Bool.false_eq_true, List.nil_append, List.cons_append, Bool.not_true, Bool.not_false, cond_true, cond_false, bne, lv_ret, lv_normal, res1, res2, lv2_some, res_var, res_cell, lvf_v, lvf_slc, res1c, lvo1_some, e_mm, mm_max, mm_min]
  · simp only [c14, start, List.replicate, c14_0, c14_1, f3, q4, z, z2, s1, s2, s3, e_bslice1, e_bslice2, bs1, bs2, e_build, bdH_some, bd_nil, bd_cons, bd1, cl_agg, cl_int, toL, List.map_cons, List.map_nil, putAt, List.set_cons_zero, List.set_cons_succ, and_self, Nat.le_refl, app_get, app_set, g_agg, run_nil, run_cons, stp_plain, stp_guard, put_some, pass_eq, pick_tt, pick_ff, pick_tf, pick_ft, pick_u, reg_some, thn_normal, thn_exit, thn_ret, cnd_t, cnd_f, blk_normal, blk_ret, blk_exit, x_seq, x_region, x_cond, x_block, x_loop, x_ret, x_exit, x_skip, e_mov, e_pick, pk_t, pk_f, withH_some, e_box, bx_some, e_load, e_store, stH_some, e_nil, e_bin, e_eqv, eqH_f, eqH_t, e_un, e_fa, e_ia, ia_eq, nat_eq, natV_nat, e_len, lnH_some, e_extract, ex_0, ex_1, e_call0, e_call1, e_call2, e_call3, pc0_eq, pc1_some, pc2_some, pc3_some, fin_some, g_var0, g_vars, g_loc0, g_locs, g_int, g_bool, g_str, g_sl, s_none, s_zero, s_succ, cl_nil, cl_str, cl_bool, cl_slc, cl_own, evFa, evNil, asEl, evBin, intBin, strBin, evUn, len_nil, len_slc, len_str, clr, List.length_nil, List.length_cons, List.getElem?_cons_zero, List.getElem?_cons_succ, Nat.reduceAdd, Nat.zero_add, Nat.add_zero, Nat.reduceLeDiff, Nat.reduceSub, ↓reduceIte, List.drop_succ_cons, List.drop_zero, List.take_succ_cons, List.take_zero, Bool.false_eq_true, List.nil_append, List.cons_append, Bool.not_true, Bool.not_false, cond_true, cond_false, bne, lv_ret, lv_normal, res1, res2, lv2_some, res_var, res_cell, lvf_v, lvf_slc, res1c, lvo1_some, e_mm, mm_max, mm_min]
  · simp only [c15, start, List.replicate, c15_0, c15_1, f4, q4, z, z2, s1, s2, s3, e_bslice1, e_bslice2, bs1, bs2, e_build, bdH_some, bd_nil, bd_cons, bd1, cl_agg, cl_int, toL, List.map_cons, List.map_nil, putAt, List.set_cons_zero, List.set_cons_succ, and_self, Nat.le_refl, app_get, app_set, g_agg, run_nil, run_cons, stp_plain, stp_guard, put_some, pass_eq, pick_tt, pick_ff, pick_tf, pick_ft, pick_u, reg_some, thn_normal, thn_exit, thn_ret, cnd_t, cnd_f, blk_normal, blk_ret, blk_exit, x_seq, x_region, x_cond, x_block, x_loop, x_ret, x_exit, x_skip, e_mov, e_pick, pk_t, pk_f, withH_some, e_box, bx_some, e_load, e_store, stH_some, e_nil, e_bin, e_eqv, eqH_f, eqH_t, e_un, e_fa, e_ia, ia_eq, nat_eq, natV_nat, e_len, lnH_some, e_extract, ex_0, ex_1, e_call0, e_call1, e_call2, e_call3, pc0_eq, pc1_some, pc2_some, pc3_some, fin_some, g_var0, g_vars, g_loc0, g_locs, g_int, g_bool, g_str, g_sl, s_none, s_zero, s_succ, cl_nil, cl_str, cl_bool, cl_slc, cl_own, evFa, evNil, asEl, evBin, intBin, strBin, evUn, len_nil, len_slc, len_str, clr, List.length_nil, List.length_cons, List.getElem?_cons_zero, List.getElem?_cons_succ, Nat.reduceAdd, Nat.zero_add, Nat.add_zero, Nat.reduceLeDiff, Nat.reduceSub, ↓reduceIte, List.drop_succ_cons, List.drop_zero, List.take_succ_cons, List.take_zero, Bool.false_eq_true, List.nil_append, List.cons_append, Bool.not_true, Bool.not_false, cond_true, cond_false, bne, lv_ret, lv_normal, res1, res2, lv2_some, res_var, res_cell, lvf_v, lvf_slc, res1c, lvo1_some, e_mm, mm_max, mm_min]
theorem both_out : callW F 4 [.v (.string name)] [] = some (.v (.bool true), []) := by
  obtain ⟨p1, p2, _, _⟩ := pre_none hn
  have hlive := live7
  have q4 : ∀ (h : List AO) (x : Value), (AV.v x).snap1 h = some (.v x) := fun _ _ => rfl
  have z : (AV.agg [.v (.int .i64 0), .v (.string ⟨#[]⟩)]).cl = some [.v (.int .i64 0), .v (.string ⟨#[]⟩)] := rfl
  have z2 : ofVal (.agg #[.int .i64 0, .string ⟨#[]⟩]) = .agg [.v (.int .i64 0), .v (.string ⟨#[]⟩)] := by kernel_rfl
  have s1 : ∀ h : List AO, evStore (h ++ [.box [.v (.int .i64 0), .v (.string ⟨#[]⟩)]]) 2 (.ptr h.length 0) (.agg [.v (.int .i64 0), .v (.string ⟨#[]⟩)]) = some (h ++ [.box [.v (.int .i64 0), .v (.string ⟨#[]⟩)]]) := fun h => st_new rfl rfl rfl
  have s1a := s1 []
  have s1b := s1 [.box [.v (.int .i64 0), .v (.string ⟨#[]⟩)]]
  simp only [List.nil_append, List.length_nil, List.length_cons, List.cons_append, Nat.zero_add] at s1a s1b
  simp only [noOp, opV] at p1 p2
  refine callW_pure (c := c4) rfl rfl 0 ?_
  simp only [c4, start, List.replicate, c4_0, c4_1, c4_2, c4_3, c4_4, c4_6, hlive, p1, p2, q4, z, z2, s1a, s1b, pick_und, e_bslice1, e_bslice2, bs1, bs2, e_build, bdH_some, bd_nil, bd_cons, bd1, cl_agg, cl_int, toL, List.map_cons, List.map_nil, putAt, List.set_cons_zero, List.set_cons_succ, and_self, Nat.le_refl, app_get, app_set, g_agg, run_nil, run_cons, stp_plain, stp_guard, put_some, pass_eq, pick_tt, pick_ff, pick_tf, pick_ft, pick_u, reg_some, thn_normal, thn_exit, thn_ret, cnd_t, cnd_f, blk_normal, blk_ret, blk_exit, x_seq, x_region, x_cond, x_block, x_loop, x_ret, x_exit, x_skip, e_mov, e_pick, pk_t, pk_f, withH_some, e_box, bx_some, e_load, e_store, stH_some, e_nil, e_bin, e_eqv, eqH_f, eqH_t, e_un, e_fa, e_ia, ia_eq, nat_eq, natV_nat, e_len, lnH_some, e_extract, ex_0, ex_1, e_call0, e_call1, e_call2, e_call3, pc0_eq, pc1_some, pc2_some, pc3_some, fin_some, g_var0, g_vars, g_loc0, g_locs, g_int, g_bool, g_str, g_sl, s_none, s_zero, s_succ, cl_nil, cl_str, cl_bool, cl_slc, cl_own, evFa, evNil, asEl, evBin, intBin, strBin, evUn, len_nil, len_slc, len_str, clr, List.length_nil, List.length_cons, List.getElem?_cons_zero, List.getElem?_cons_succ, Nat.reduceAdd, Nat.zero_add, Nat.add_zero, Nat.reduceLeDiff, Nat.reduceSub, ↓reduceIte, List.drop_succ_cons, List.drop_zero, List.take_succ_cons, List.take_zero, Bool.false_eq_true, List.nil_append, List.cons_append, Bool.not_true, Bool.not_false, cond_true, cond_false, bne, lv_ret, lv_normal, res1, res2, lv2_some, res_var, res_cell, lvf_v, lvf_slc, res1c, lvo1_some, e_mm, mm_max, mm_min]
end
theorem agrees (s : ByteArray) : Agrees s := by
  by_cases h : s ∈ names
  · exact agrees_in s h
  · obtain ⟨p1, p2, p3, p4⟩ := pre_none h
    exact ⟨0, ⟨#[]⟩, false, 0, ⟨#[]⟩, false, p1, p2, p3, p4⟩
theorem tells_ok (name : ByteArray) : callW F 5 [.v (.string name)] [] = some (.v (.bool true), []) := by
  obtain ⟨p, k, b, p', k', b', p1, p2, p3, p4⟩ := agrees name
  have hlive := live7
  have hs := same16
  have h17 := names17
  have h18 := names18
  have q4 : ∀ (h : List AO) (x : Value), (AV.v x).snap1 h = some (.v x) := fun _ _ => rfl
  have z : (AV.agg [.v (.int .i64 0), .v (.string ⟨#[]⟩)]).cl = some [.v (.int .i64 0), .v (.string ⟨#[]⟩)] := rfl
  have z2 : ofVal (.agg #[.int .i64 0, .string ⟨#[]⟩]) = .agg [.v (.int .i64 0), .v (.string ⟨#[]⟩)] := by kernel_rfl
  let o : AO := .box [.v (.int .i64 0), .v (.string ⟨#[]⟩)]
  let u : AO := .box [.v (.int .i64 p), .v (.string k)]
  let u' : AO := .box [.v (.int .i64 p'), .v (.string k')]
  have s1 : ∀ (h : List AO) (p : Int) (k : ByteArray), evStore (h ++ [o]) 2 (.ptr h.length 0) (.agg [.v (.int .i64 p), .v (.string k)]) = some (h ++ [.box [.v (.int .i64 p), .v (.string k)]]) := fun h p k => st_new rfl rfl rfl
  have s1a := s1 [] p k
  have s1b := s1 [u] p k
  have s1c := s1 [u, u] p' k'
  have s1d := s1 [u, u, u'] p' k'
  have l1a : evLoad [u, u, u', u'] true 2 (.ptr 0 0) = some (.agg [.v (.int .i64 p), .v (.string k)]) := rfl
  have l1b : evLoad [u, u, u', u'] true 2 (.ptr 1 0) = some (.agg [.v (.int .i64 p), .v (.string k)]) := rfl
  have l1c : evLoad [u, u, u', u'] true 2 (.ptr 2 0) = some (.agg [.v (.int .i64 p'), .v (.string k')]) := rfl
  have l1d : evLoad [u, u, u', u'] true 2 (.ptr 3 0) = some (.agg [.v (.int .i64 p'), .v (.string k')]) := rfl
  have e1 : ∀ (h : List AO) (p : Int) (k : ByteArray), eqNil h (.flat [.i, .s]) (.agg [.v (.int .i64 p), .v (.string k)]) (.agg [.v (.int .i64 p), .v (.string k)]) = some true := fun _ _ _ => by simp [eqNil, flatEq]
  have e2 : ∀ (h : List AO) (b : Bool), eqNil h .bool (.v (.bool b)) (.v (.bool b)) = some true := fun _ _ => by simp [eqNil]
  have e3 : ∀ h : List AO, namesV.snap1 h = some namesV := fun _ => rfl
  simp only [o, u, u', List.nil_append, List.length_nil, List.length_cons, List.cons_append, Nat.zero_add, Nat.reduceAdd] at s1a s1b s1c s1d l1a l1b l1c l1d
  simp only [opV] at p1 p2 p3 p4
  refine callW_pure (c := c5) rfl rfl 0 ?_
  simp only [c5, start, List.replicate, c5_0, c5_1, c5_2, c5_3, c5_4, c5_5, hlive, hs, h17, h18, p1, p2, p3, p4, q4, z, z2, s1a, s1b, s1c, s1d, l1a, l1b, l1c, l1d, e1, e2, e3, pick_und, e_bslice1, e_bslice2, bs1, bs2, e_build, bdH_some, bd_nil, bd_cons, bd1, cl_agg, cl_int, toL, List.map_cons, List.map_nil, putAt, List.set_cons_zero, List.set_cons_succ, and_self, Nat.le_refl, app_get, app_set, g_agg, run_nil, run_cons, stp_plain, stp_guard, put_some, pass_eq, pick_tt, pick_ff, pick_tf, pick_ft, pick_u, reg_some, thn_normal, thn_exit, thn_ret, cnd_t, cnd_f, blk_normal, blk_ret, blk_exit, x_seq, x_region, x_cond, x_block, x_loop, x_ret, x_exit, x_skip, e_mov, e_pick, pk_t, pk_f, withH_some, e_box, bx_some, e_load, e_store, stH_some, e_nil, e_bin, e_eqv, eqH_f, eqH_t, e_un, e_fa, e_ia, ia_eq, nat_eq, natV_nat, e_len, lnH_some, e_extract, ex_0, ex_1, e_call0, e_call1, e_call2, e_call3, pc0_eq, pc1_some, pc2_some, pc3_some, fin_some, g_var0, g_vars, g_loc0, g_locs, g_int, g_bool, g_str, g_sl, s_none, s_zero, s_succ, cl_nil, cl_str, cl_bool, cl_slc, cl_own, evFa, evNil, asEl, evBin, intBin, strBin, evUn, len_nil, len_slc, len_str, clr, List.length_nil, List.length_cons, List.getElem?_cons_zero, List.getElem?_cons_succ, Nat.reduceAdd, Nat.zero_add, Nat.add_zero, Nat.reduceLeDiff, Nat.reduceSub, ↓reduceIte, List.drop_succ_cons, List.drop_zero, List.take_succ_cons, List.take_zero, Bool.false_eq_true, List.nil_append, List.cons_append, Bool.not_true, Bool.not_false, cond_true, cond_false, bne, lv_ret, lv_normal, res1, res2, lv2_some, res_var, res_cell, lvf_v, lvf_slc, res1c, lvo1_some, e_mm, mm_max, mm_min]
theorem both_ok (name : ByteArray) : callW F 4 [.v (.string name)] [] = some (.v (.bool true), []) := by
  by_cases h : name ∈ names
  · exact both_in name h
  · exact both_out h
end Go.AE.YtkdjdhfoodlnfaaDoor
end

/-! What all rows of this seat need: the world in which the library's variables hold what their initialisers lay. -/
section
set_option linter.unusedVariables false
namespace Go.Proofs.YtkdjdhfoodlnfaaDoor
open Go Go.AE Go.Proofs Go.RowKit Go.Lib Go.Shelf

/-- a world in which the two variables hold what their initialisers lay: two blocks more (the ranges of the one, and what it points at) -/
noncomputable def laidWorld (os : Os) : World :=
  let N := (World.settled Tryd.prog os).heap.size
  let w0 := World.holding Tryd.prog os ⟨#[.cells (Lib.whiteT.map fun (z : Nat) => Value.int .u16 (z : Int)).toArray (Tryd.laysFields_ren.t 198), .cells #[.slice (some ⟨N, 0, none⟩) 7 7, .slice none 0 0, .int .i64 2] (Tryd.laysFields_ren.t 196)], #[], []⟩
  let put (h : Array Obj) (g : Nat) (cs : Array Value) : Array Obj := h.modify g fun
    | .cells _ t frozen => .cells cs t frozen
    | o => o
  let h1 := put w0.heap (Tryd.laysFields_ren.g 0) (Lib.asciiSpaceTab.map fun z => Value.int .u8 z).toArray
  let h2 := put h1 (Tryd.laysFields_ren.g 6) #[.pointer (some ⟨N + 1, 0, none⟩)]
  { w0 with heap := h2 }
set_option maxRecDepth 1000000 in
theorem laid_met (os : Os) (args : Array Value) : laidMetH Tryd.prog Rows.opsSidesRow.laid ((laidWorld os).forCall (fun _ _ => 0) ⟨#[], args, []⟩).memory :=
  (LaidIn.of_run (l := Rows.opsSidesRow.laid) [Tryd.laysFields_ren.g 0, Tryd.laysFields_ren.g 6, (World.settled Tryd.prog default).heap.size, (World.settled Tryd.prog default).heap.size + 1] 10 (by kernel_rfl) (by kernel_rfl) (by kernel_rfl) (by kernel_rfl)).met
set_option maxRecDepth 1000000 in
theorem tabs_of {W : World} (hL : laidMetH Tryd.prog Rows.opsSidesRow.laid W) : Lib.TabIs Tryd.prog W "strings.asciiSpace" .u8 Lib.asciiSpaceTab := by
  have h : VarReads Tryd.prog W "strings.asciiSpace" (Lib.tabData .u8 Lib.asciiSpaceTab) := Lib.laidMet.reads (l := Rows.opsSidesRow.laid) hL (.tail _ (.head _))
  obtain ⟨g', t', cs, fuel, p, hg', ht', hvar, hd⟩ := h
  obtain rfl := Option.some.inj (gSpace.symm.trans hg')
  have hy : (Tryd.prog.globals[Tryd.laysFields_ren.g 0]?).map (·.type) = some (Tryd.laysFields_ren.t 119) := by kernel_rfl
  obtain rfl := Option.some.inj (hy.symm.trans ht')
  unfold TabIs
  rw [hvar, ← cells_of_tab Tryd.laysFields.t119 Tryd.laysFields.t5 (by kernel_rfl) (by kernel_rfl) hd]
/-- The witness, where a variable holds a pointer that is not nil. -/
theorem witness_ref {H : Type} {enc : TypeId × Value → H} {C : Checked} {os : Os} {f : FuncId} {fn : Func} {s : ChangeSpec} {conds : List PathCond} {apart : Bool} {X : World → Array Value → Prop} (modest : Bool) (w0 : World) (args : Array Value) (fuel : Nat) (hos : w0.os = os)
    (hv : (w0.forCall (fun _ _ => 0) ⟨#[], args, []⟩).variablesRefB C.prog = true)
    (hr : ((w0.forCall (fun _ _ => 0) ⟨#[], args, []⟩).heap.toList.drop C.prog.globals.size).take ((begin C.prog (fun _ _ => 0) default).world.heap.size - C.prog.globals.size) =
      (begin C.prog (fun _ _ => 0) default).world.heap.toList.drop C.prog.globals.size)
    (hok : Input.okWideB C.prog (w0.forCall (fun _ _ => 0) ⟨#[], args, []⟩) f ⟨#[], args, []⟩ = true)
    (hpre : s.preB enc C.prog fn conds apart (w0.forCall (fun _ _ => 0) ⟨#[], args, []⟩).memory args fuel = true)
    (hsz : s.sizedB enc C.prog fn apart (w0.forCall (fun _ _ => 0) ⟨#[], args, []⟩).memory args fuel = true)
    (hx : X (w0.forCall (fun _ _ => 0) ⟨#[], args, []⟩).memory args) :
    ∃ (w : World) (tape : Tape) (i : Input), w.os = os ∧ (w.forCall tape i).Shaped C.prog ∧ i.vars = [] ∧ Input.okWide C.prog (w.forCall tape i) .any w.heap.size f i ∧
      ((s.pre enc C.prog fn conds apart (w.forCall tape i).memory i.args ∧ X (w.forCall tape i).memory i.args) ∧ sizedMet enc C.prog fn (OpenSpec.ofChange s) apart (w.forCall tape i).memory i.args) ∧ ({ modest := modest } : Assume).holds C.prog (lone (Frame.enter C.prog f i.args .normal) [] (w.forCall tape i)) :=
  ⟨w0, fun _ _ => 0, ⟨#[], args, []⟩, hos, World.shaped_of_RefB hv hr, (Input.okWide_of_okWideB (base := 0) hok).1, (Input.okWide_of_okWideB hok).2, ⟨⟨ChangeSpec.pre_of_preB hpre, hx⟩, sizedMet_of_sizedB hsz⟩, by
    simp only [Assume.holds]
    exact ⟨by simp, by simp, fun _ => Modest.zero, by simp, by simp⟩⟩
end Go.Proofs.YtkdjdhfoodlnfaaDoor
end

/-! The row and the card of OpsTells, out of its plain law. -/
section
set_option linter.unusedVariables false
namespace Go.Proofs.YtkdjdhfoodlnfaaDoor
open Go Go.AE Go.Proofs Go.ChangeShapes Go.WideShapes Go.ChangeAt Go.RowKit
open Go.ChangeMaps (open_string shut_string)
namespace opsTells
theorem args {I : Cells} {W : World} {a0 : AV} {v0 : Value} (r0 : Rep I W [] a0 v0) : ArgsRep I W [] [a0] #[v0] := by
  refine ⟨rfl, fun i a h => ?_⟩
  match i, h with
  | 0, h => cases h; exact r0
def Plain : Prop := ∀ a0 : AV, WT T 9 a0.cells → asEl ti9.agg a0.cells = some a0 →
  ∃ n, callN F n 5 [a0] [] = some (.v (.bool true), [])

set_option maxRecDepth 100000 in
theorem lifted (plain : Plain) (os : Os) (started : os.Started) (H : Type) (enc : TypeId × Value → H) :
    ReturnsInHanded {} Tryd.checked os 5 .any (fun w args => (Rows.opsTellsSpec.pre enc Tryd.prog Tryd.f5 [] false w args ∧ laidMetH Tryd.prog Rows.opsTellsRow.laid w) ∧ sizedMet enc Tryd.prog Tryd.f5 (OpenSpec.ofChange Rows.opsTellsSpec) false w args)
      (Rows.opsTellsSpec.post enc Tryd.prog Tryd.f5 false true false false) := by
  refine returnsInHanded_of_change_and (C := Tryd.checked) (X := fun w _ => laidMetH Tryd.prog Rows.opsTellsRow.laid w) (fun _ _ _ hh h => h.of_heap hh) own started (by kernel_rfl) Tryd.func5
    (witness_ref (enc := enc) (C := Tryd.checked) (os := os) (X := fun w _ => laidMetH Tryd.prog Rows.opsTellsRow.laid w) false (laidWorld os) #[ti9.zero] 8 rfl (by kernel_rfl) (by kernel_rfl) (by kernel_rfl) (by kernel_rfl) (by kernel_rfl) (laid_met os _)) ?_
  intro W base args' ds gs before hval0 hW _ _ hL _
  have hval : ∀ (j : Nat) t v, Tryd.f5.params[j]? = some t → args'[j]? = some v → Value.okWide Tryd.prog W .any base t v := hval0
  have hW' := hW
  obtain ⟨p, q, hA0, hV, rfl, hfz, hnd⟩ := hW
  have hA : DataW.TrodAll enc Tryd.prog W 0 (fun _ => true) true Tryd.f5.params.toList args'.toList ds p := hA0
  rw [Tryd.params5] at hA hval
  obtain ⟨v0, vs0, d0, ds0, p0, q0, hargs, rfl, rfl, h0, r0⟩ := trodAll_cons hA
  obtain ⟨rfl, rfl, rfl⟩ := trodAll_nil r0
  obtain rfl : args' = #[v0] := by cases args'; simp_all
  obtain ⟨rfl, rfl⟩ := trodVars_none hV
  obtain ⟨a0, w0, e0, x0⟩ := trod_arg hT hG (t := 9) (i := ti9) (by decide) rfl (hval 0 9 v0 rfl rfl) h0
  have l0 : ∀ x ∈ p0, x.block < W.heap.size := by obtain ⟨m, hm⟩ := h0; exact DataW.trod_lt m _ _ _ hm
  obtain ⟨n, hn⟩ := plain a0 w0 e0
  refine (law_calls ⟨rfl, tabs_of hL⟩ (args x0) hn).mono fun e W' ⟨he, bel⟩ => ?_
  subst he
  exact ⟨_, rfl, _, _, _, [], _, [], hW', trodAll_mk1 (shut_bool Tryd.underlying4 _),
    (trodAll_cons_mk (Below.trod laidOut (by kernel_rfl) (of_decide_eq_true (by kernel_rfl)) h0 bel l0) trodAll_mk0), rfl, bel.frame _, fun h => by cases h⟩
theorem over (plain : Plain) : Rows.opsTellsRow.holds Tryd.pinned (OpenSpec.ofChange Rows.opsTellsSpec) :=
  OpenClaim.holds_of_wide 5 Tryd.f5 rfl rfl rfl rfl rfl rfl rfl ⟨rfl, rfl, rfl, rfl, rfl⟩ rfl rfl rfl rfl rfl (by kernel_rfl) Tryd.func5 (by kernel_rfl)
    (of_decide_eq_true (by kernel_rfl)) (by unfold Func.isWrapper; first | (rw [if_pos (by decide +kernel)]; kernel_rfl) | (rw [if_neg (by decide +kernel)]; exact ⟨rfl, rfl⟩))
    (fun os started H enc _ => lifted plain os started H enc)
theorem proved (plain : Plain) : Rows.OpsTellsCardSaid :=
  Claim7.holds_tied_plain_at .later [] Rows.opsTellsCard.laidKinds true Rows.opsTellsCard.stood.harness Rows.opsTellsCard.stood.looks
    (over plain) (fun _ h => by cases h) (by kernel_rfl) (fun _ h => by cases h) opsTells_row_tie rfl ⟨rfl, rfl⟩ (by kernel_rfl) rfl
    (fun f fn hf hfn => by
      obtain rfl : f = 5 := Option.some.inj ((show Tryd.prog.funcNamed Rows.opsTellsRow.func = some 5 by kernel_rfl).symm.trans hf) |>.symm
      obtain rfl : fn = Tryd.f5 := (Option.some.inj (Tryd.func5.symm.trans hfn)).symm
      refine ⟨by kernel_rfl, fun j t ht => ?_⟩
      rw [Tryd.params5] at ht
      match j, ht with
      | 0, ht => cases ht; exact (show Tryd.prog.wantsStandIn 9 = false by kernel_rfl)
      | _ + 1, ht => simp at ht)
    (by kernel_rfl)
end opsTells
end Go.Proofs.YtkdjdhfoodlnfaaDoor
end

/- Texts of this claim, put together. -/
import Derived.Test.YtghgbbiklkpbnaaDoorChecked
import Derived.Ground.NamesProg
import Derived.Shelf.Unicode.ValidAny
import Derived.Test.YtghgbbiklkpbnaaDoorEval3
import Derived.Lib.LaidU8T
import Derived.KernelRfl
set_option linter.unusedSimpArgs false
set_option linter.unusedVariables false
section
namespace Go.Proofs
open Go.Shelf
def Tryd.lays196_ren : Go.Shelf.Ren := ⟨fun | 196 => 32 | 259 => 48 | n => n, fun | 9 => 9 | 4 => 4 | 3 => 3 | 5 => 5 | 12 => 12 | 119 => 86 | 0 => 0 | 46 => 90 | 139 => 89 | 138 => 88 | 53 => 92 | n => n, fun | 3 => 0 | 4 => 1 | n => n⟩
theorem Tryd.lays196 : Go.Proofs.Lays.n196 Tryd.prog Tryd.lays196_ren := {
 mixed := by kernel_rfl
 f196 := Tryd.func32.trans (congrArg some (by kernel_rfl))
 f259 := Tryd.func48.trans (congrArg some (by kernel_rfl))
 t0 := Tryd.underlying0
 a0 := Tryd.isAgg0
 z0 := Tryd.sizeOf0
 v0 := Tryd.zeroValue0
 t3 := Tryd.underlying3
 a3 := Tryd.isAgg3
 z3 := Tryd.sizeOf3
 v3 := Tryd.zeroValue3
 t4 := Tryd.underlying4
 a4 := Tryd.isAgg4
 z4 := Tryd.sizeOf4
 v4 := Tryd.zeroValue4
 t5 := Tryd.underlying5
 a5 := Tryd.isAgg5
 z5 := Tryd.sizeOf5
 v5 := Tryd.zeroValue5
 t9 := Tryd.underlying9
 a9 := Tryd.isAgg9
 z9 := Tryd.sizeOf9
 v9 := Tryd.zeroValue9
 t12 := Tryd.underlying12
 a12 := Tryd.isAgg12
 z12 := Tryd.sizeOf12
 v12 := Tryd.zeroValue12
 t46 := Tryd.underlying90
 a46 := Tryd.isAgg90
 z46 := Tryd.sizeOf90
 v46 := Tryd.zeroValue90
 t53 := Tryd.underlying92
 a53 := Tryd.isAgg92
 z53 := Tryd.sizeOf92
 v53 := Tryd.zeroValue92
 t119 := Tryd.underlying86
 a119 := Tryd.isAgg86
 z119 := Tryd.sizeOf86
 t138 := Tryd.underlying88
 a138 := Tryd.isAgg88
 z138 := Tryd.sizeOf88
 v138 := Tryd.zeroValue88
 t139 := Tryd.underlying89
 a139 := Tryd.isAgg89
 z139 := Tryd.sizeOf89
 v139 := Tryd.zeroValue89
 g3 := by kernel_rfl
 g4 := by kernel_rfl }
end Go.Proofs
end

section
namespace Go.Proofs.YtghgbbiklkpbnaaDoor
open Go Go.RowKit Go.AE Go.Proofs

def K (B : Nat) (w : World) : Prop := B = w.heap.size ∧ Lib.Utf8Tabs (Tryd.lays196_ren.g 3) (Tryd.lays196_ren.g 4) w
theorem hKs : Holds K := fun B w0 I σ w h hK hI => ⟨rfl, Utf8Tabs_below hK.2 (hK.1 ▸ hI.below)⟩

theorem look_ends {B : Nat} {w0 w : World} {I : Cells} {σ : List AE.Loc} {h : List AO} (hI : AE.Inv B w0 I σ w h) {r : AV} {e : Ending} {v : Value} {w' : World} (he : e = .returned v) (hB : Below w.heap.size w w') (hr : Rep I w σ r v) : AE.Ends B w0 I σ w r h e w' := by
 have hext : Ext I w I w' := ⟨fun _ _ h => h, fun b x hi => hB.cell (p := ⟨b, x, none⟩) (hI.imm_lt hi)⟩
 refine ⟨v, I, σ, he, hI.same (hB.mono hI.base) hext (fun b x hi => by
  obtain ⟨u, hu⟩ := hI.imm b x hi
  exact ⟨u, (hext.cell b x hi).trans hu⟩) (fun j Lj hj hh => ⟨hB.block _ (hI.mine j Lj hj hh).2, fun _ h => h⟩), ⟨hext, Later.refl _, fun _ _ h => .inl h, hB.size⟩, hr.mono hext (Later.refl _)⟩

def validG (args : List AV) (h : List AO) : Option (AV × List AO) := match args with
 | [.v (.string s)] => if s.size ≤ 9223372036854775807 then some (.v (.bool (Lib.validD s.data.toList)), h) else none
 | _ => none
theorem valid_enter (vals : Array Value) (w : World) : (callFunc 32 vals).run Tryd.prog w = .ok (.enter 32 vals) w := enters_of Tryd.func32 (by kernel_rfl) rfl vals w
theorem valid_ok {B : Nat} {w0 : World} (hK : K B w0) : ∀ args h r h', validG args h = some (r, h') → (∀ (vals : Array Value) (w : World), (callFunc 32 vals).run Tryd.prog w = .ok (.enter 32 vals) w) ∧
  ∀ I σ w (vals : Array Value), AE.Inv B w0 I σ w h → ArgsRep I w σ args vals → Calls Tryd.prog 32 vals w (AE.Ends B w0 I σ w r h') := by
 intro args h r h' hg
 refine ⟨valid_enter, fun I σ w vals hI ha => ?_⟩
 unfold validG at hg
 split at hg
 ·rename_i s
  split at hg
  ·rename_i hs
   cases hg
   have hsz := ha.size
   obtain ⟨l⟩ := vals
   match l, hsz with
   | [u], _ =>
    have h1 := ha.rep 0 _ rfl
    cases h1
    have cV : Calls Tryd.prog 32 #[.string s] w _ := Any.utf8_ValidString Tryd.lays196 s w hs (hKs B w0 I σ w h hK hI).2
    refine cV.mono ?_
    rintro e w' ⟨he, hB⟩
    exact look_ends hI he hB (.v _ _)
  ·cases hg
 ·cases hg
end Go.Proofs.YtghgbbiklkpbnaaDoor
end

section
set_option maxRecDepth 100000
namespace Go.Proofs.YtghgbbiklkpbnaaDoor
open Go Go.AE Go.Proofs
def ti2 : TI := ⟨1, 8, (.int .i64 0), (.int .i64)⟩
theorem tiOk2 : TIok Tryd.prog 2 ti2 := tiok_of (by kernel_rfl) (by kernel_rfl)
def ti3 : TI := ⟨1, 8, (.int .i64 0), (.int .i64)⟩
theorem tiOk3 : TIok Tryd.prog 3 ti3 := tiok_of (by kernel_rfl) (by kernel_rfl)
def ti4 : TI := ⟨1, 1, (.bool false), .bool⟩
theorem tiOk4 : TIok Tryd.prog 4 ti4 := tiok_of (by kernel_rfl) (by kernel_rfl)
def ti9 : TI := ⟨1, 16, (.string ⟨#[]⟩), .string⟩
theorem tiOk9 : TIok Tryd.prog 9 ti9 := tiok_of (by kernel_rfl) (by kernel_rfl)
def ti22 : TI := ⟨1, 24, (.slice none 0 0), (.slice 41)⟩
theorem tiOk22 : TIok Tryd.prog 22 ti22 := tiok_of (by kernel_rfl) (by kernel_rfl)
def ti24 : TI := ⟨4, 56, (.agg #[(.string ⟨#[]⟩), (.int .i64 0), (.int .i64 0), (.slice none 0 0)]), (.struct #[⟨"Name", 9, 0, false, "", "", 0⟩, ⟨"Arity", 3, 1, false, "", "", 16⟩, ⟨"Vars", 3, 2, false, "", "", 24⟩, ⟨"L", 22, 3, false, "", "", 32⟩])⟩
theorem tiOk24 : TIok Tryd.prog 24 ti24 := tiok_of (by kernel_rfl) (by kernel_rfl)
def ti27 : TI := ⟨1, 8, (.int .i64 0), (.int .i64)⟩
theorem tiOk27 : TIok Tryd.prog 27 ti27 := tiok_of (by kernel_rfl) (by kernel_rfl)
def ti30 : TI := ⟨1, 24, (.slice none 0 0), (.slice 32)⟩
theorem tiOk30 : TIok Tryd.prog 30 ti30 := tiok_of (by kernel_rfl) (by kernel_rfl)
def ti32 : TI := ⟨4, 56, (.agg #[(.int .i64 0), (.string ⟨#[]⟩), (.int .i64 0), (.slice none 0 0)]), (.struct #[⟨"Kind", 3, 0, false, "", "", 0⟩, ⟨"Name", 9, 1, false, "", "", 8⟩, ⟨"N", 2, 2, false, "", "", 24⟩, ⟨"Args", 30, 3, false, "", "", 32⟩])⟩
theorem tiOk32 : TIok Tryd.prog 32 ti32 := tiok_of (by kernel_rfl) (by kernel_rfl)
def ti35 : TI := ⟨6, 88, (.agg #[(.int .i64 0), (.string ⟨#[]⟩), (.int .i64 0), (.slice none 0 0), (.slice none 0 0), (.int .i64 0)]), (.struct #[⟨"Head", 32, 0, false, "", "", 0⟩, ⟨"Body", 30, 4, false, "", "", 56⟩, ⟨"Vars", 3, 5, false, "", "", 80⟩])⟩
theorem tiOk35 : TIok Tryd.prog 35 ti35 := tiok_of (by kernel_rfl) (by kernel_rfl)
def ti41 : TI := ⟨5, 48, (.agg #[(.int .i64 0), (.int .i64 0), (.int .i64 0), (.string ⟨#[]⟩), (.int .i64 0)]), (.struct #[⟨"Op", 3, 0, false, "", "", 0⟩, ⟨"A", 3, 1, false, "", "", 8⟩, ⟨"B", 3, 2, false, "", "", 16⟩, ⟨"Name", 9, 3, false, "", "", 24⟩, ⟨"N", 2, 4, false, "", "", 40⟩])⟩
theorem tiOk41 : TIok Tryd.prog 41 ti41 := tiok_of (by kernel_rfl) (by kernel_rfl)
def ti43 : TI := ⟨1, 8, (.pointer none), (.pointer 46)⟩
theorem tiOk43 : TIok Tryd.prog 43 ti43 := tiok_of (by kernel_rfl) (by kernel_rfl)
def ti44 : TI := ⟨1, 8, (.map none), (.map 3 4)⟩
theorem tiOk44 : TIok Tryd.prog 44 ti44 := tiok_of (by kernel_rfl) (by kernel_rfl)
def ti46 : TI := ⟨11, 104, (.agg #[(.string ⟨#[]⟩), (.int .i64 0), (.int .i64 0), (.slice none 0 0), (.map none), (.map none), (.int .i64 0), (.int .i64 0), (.int .i64 0), (.bool false), (.bool false)]), (.struct #[⟨"c", 24, 0, false, "", "spinney/valid", 0⟩, ⟨"regs", 44, 4, false, "", "spinney/valid", 56⟩, ⟨"known", 44, 5, false, "", "spinney/valid", 64⟩, ⟨"parts", 2, 6, false, "", "spinney/valid", 72⟩, ⟨"of", 3, 7, false, "", "spinney/valid", 80⟩, ⟨"under", 3, 8, false, "", "spinney/valid", 88⟩, ⟨"head", 4, 9, false, "", "spinney/valid", 96⟩, ⟨"over", 4, 10, false, "", "spinney/valid", 97⟩])⟩
theorem tiOk46 : TIok Tryd.prog 46 ti46 := tiok_of (by kernel_rfl) (by kernel_rfl)
def ti51 : TI := ⟨1, 8, (.pointer none), (.pointer 54)⟩
theorem tiOk51 : TIok Tryd.prog 51 ti51 := tiok_of (by kernel_rfl) (by kernel_rfl)
def ti52 : TI := ⟨1, 24, (.slice none 0 0), (.slice 3)⟩
theorem tiOk52 : TIok Tryd.prog 52 ti52 := tiok_of (by kernel_rfl) (by kernel_rfl)
def ti54 : TI := ⟨10, 128, (.agg #[(.string ⟨#[]⟩), (.int .i64 0), (.int .i64 0), (.slice none 0 0), (.slice none 0 0), (.slice none 0 0), (.int .i64 0), (.bool false), (.bool false), (.int .i64 0)]), (.struct #[⟨"c", 24, 0, false, "", "spinney/spinneyref16", 0⟩, ⟨"regs", 52, 4, false, "", "spinney/spinneyref16", 56⟩, ⟨"known", 52, 5, false, "", "spinney/spinneyref16", 80⟩, ⟨"parts", 2, 6, false, "", "spinney/spinneyref16", 104⟩, ⟨"ofGet", 4, 7, false, "", "spinney/spinneyref16", 112⟩, ⟨"inHead", 4, 8, false, "", "spinney/spinneyref16", 113⟩, ⟨"under", 3, 9, false, "", "spinney/spinneyref16", 120⟩])⟩
theorem tiOk54 : TIok Tryd.prog 54 ti54 := tiok_of (by kernel_rfl) (by kernel_rfl)
def ti59 : TI := ⟨1, 24, (.slice none 0 0), (.slice 2)⟩
theorem tiOk59 : TIok Tryd.prog 59 ti59 := tiok_of (by kernel_rfl) (by kernel_rfl)
def ti66 : TI := ⟨1, 8, (.pointer none), (.pointer 68)⟩
theorem tiOk66 : TIok Tryd.prog 66 ti66 := tiok_of (by kernel_rfl) (by kernel_rfl)
def ti68 : TI := ⟨3, 56, (.agg #[(.slice none 0 0), (.slice none 0 0), (.int .i64 0)]), (.struct #[⟨"l", 22, 0, false, "", "spinney/spinneyref15", 0⟩, ⟨"met", 59, 1, false, "", "spinney/spinneyref15", 24⟩, ⟨"next", 3, 2, false, "", "spinney/spinneyref15", 48⟩])⟩
theorem tiOk68 : TIok Tryd.prog 68 ti68 := tiok_of (by kernel_rfl) (by kernel_rfl)
def ti78 : TI := ⟨1, 24, (.slice none 0 0), (.slice 9)⟩
theorem tiOk78 : TIok Tryd.prog 78 ti78 := tiok_of (by kernel_rfl) (by kernel_rfl)
def ti82 : TI := ⟨5, 64, (.agg #[(.int .i64 0), (.int .i64 0), (.string ⟨#[]⟩), (.int .i64 0), (.slice none 0 0)]), (.struct #[⟨"r", 3, 0, false, "", "spinney/spinneyref15", 0⟩, ⟨"t", 32, 1, false, "", "spinney/spinneyref15", 8⟩])⟩
theorem tiOk82 : TIok Tryd.prog 82 ti82 := tiok_of (by kernel_rfl) (by kernel_rfl)
def ti83 : TI := ⟨1, 24, (.slice none 0 0), (.slice 82)⟩
theorem tiOk83 : TIok Tryd.prog 83 ti83 := tiok_of (by kernel_rfl) (by kernel_rfl)
def tys : List (TypeId × TI) := [(2, ti2), (3, ti3), (4, ti4), (9, ti9), (22, ti22), (24, ti24), (27, ti27), (30, ti30), (32, ti32), (35, ti35), (41, ti41), (43, ti43), (44, ti44), (46, ti46), (51, ti51), (52, ti52), (54, ti54), (59, ti59), (66, ti66), (68, ti68), (78, ti78), (82, ti82), (83, ti83)]
def pures : List FuncId := [0, 1, 2, 3, 4, 5, 6, 7, 8, 9, 10, 11, 12, 13, 17, 21, 22, 23, 24, 25, 26, 27, 28, 32, 33, 36, 37, 38, 39, 40, 41, 43, 44, 48, 50, 51, 52, 53, 54, 55, 56, 57, 63, 64, 65, 66, 67, 68, 69, 70]
def lits : List TypeId := []
def frz : List FuncId := [39, 33]
def pushes : List FuncId := [42]
def T : Tb := ⟨fun t => tys.lookup t, fun f => pures.contains f, fun t => lits.contains t, fun f => frz.contains f, fun f => pushes.contains f⟩
theorem hT : TbOk Tryd.prog T := tbok_of (fun p hp => by
 simp only [tys, List.mem_cons, List.not_mem_nil, or_false] at hp
 rcases hp with rfl | rfl | rfl | rfl | rfl | rfl | rfl | rfl | rfl | rfl | rfl | rfl | rfl | rfl | rfl | rfl | rfl | rfl | rfl | rfl | rfl | rfl | rfl
 ·exact tiOk2
 ·exact tiOk3
 ·exact tiOk4
 ·exact tiOk9
 ·exact tiOk22
 ·exact tiOk24
 ·exact tiOk27
 ·exact tiOk30
 ·exact tiOk32
 ·exact tiOk35
 ·exact tiOk41
 ·exact tiOk43
 ·exact tiOk44
 ·exact tiOk46
 ·exact tiOk51
 ·exact tiOk52
 ·exact tiOk54
 ·exact tiOk59
 ·exact tiOk66
 ·exact tiOk68
 ·exact tiOk78
 ·exact tiOk82
 ·exact tiOk83)
def c3_0 : List CO := [⟨(.box 24 (.var 0)), (some 1), none⟩,
 ⟨(.mov (.k (.bool false))), (some 2), none⟩]
def c3_1 : List CO := [⟨(.call true 5 []), none, none⟩,
 ⟨(.mov (.loc 0)), (some 3), none⟩]
def c3_2 : List CO := [⟨(.load true 4 (.var 1)), none, none⟩,
 ⟨(.call true 6 [(.loc 0)]), (some 8), none⟩]
def c3_3 : List CO := [⟨(.mov (.var 3)), none, none⟩,
 ⟨(.mov (.loc 0)), (some 2), none⟩]
def c3_4 : List CO := [⟨(.load true 4 (.var 1)), none, none⟩,
 ⟨(.call true 7 [(.loc 0)]), none, none⟩,
 ⟨(.mov (.loc 0)), none, none⟩,
 ⟨(.extract (.loc 0) 0), none, none⟩,
 ⟨(.extract (.loc 1) 1), none, none⟩,
 ⟨(.mov (.loc 1)), (some 4), none⟩,
 ⟨(.mov (.loc 1)), (some 5), none⟩]
def c3_5 : List CO := [⟨(.load true 4 (.var 1)), none, none⟩,
 ⟨(.call true 8 [(.loc 0)]), none, none⟩,
 ⟨(.mov (.loc 0)), none, none⟩,
 ⟨(.extract (.loc 0) 0), none, none⟩,
 ⟨(.extract (.loc 1) 1), none, none⟩,
 ⟨(.mov (.loc 1)), (some 6), none⟩,
 ⟨(.mov (.loc 1)), (some 7), none⟩]
def c3_6 : List CO := [⟨(.mov (.var 3)), none, none⟩,
 ⟨(.mov (.loc 0)), none, none⟩,
 ⟨(.mov (.var 4)), none, (some ((.loc 0), true))⟩,
 ⟨(.mov (.var 6)), none, (some ((.loc 1), true))⟩,
 ⟨(.bin .eql (.loc 1) (.loc 0)), none, (some ((.loc 2), true))⟩,
 ⟨(.pick (.loc 3) (.loc 0) (.k (.bool false))), none, none⟩,
 ⟨(.mov (.loc 0)), none, none⟩,
 ⟨(.mov (.var 5)), none, (some ((.loc 0), true))⟩,
 ⟨(.mov (.var 7)), none, (some ((.loc 1), true))⟩,
 ⟨(.bin .eql (.loc 1) (.loc 0)), none, (some ((.loc 2), true))⟩,
 ⟨(.pick (.loc 3) (.loc 0) (.k (.bool false))), none, none⟩,
 ⟨(.mov (.loc 0)), (some 2), none⟩]
def c3 : CFun := ⟨1, 9, (.seq (.region [] [] c3_0) (.seq (.region [] [] c3_1) (.seq (.seq (.region [] [] c3_2) (.cond (.var 8) (.seq (.region [] [] c3_3) .ret) .skip)) (.seq (.region [] [] c3_4) (.seq (.region [] [] c3_5) (.seq (.region [] [] c3_6) .ret)))))), [.var 2]⟩
theorem ok3 : CodeOk Tryd.prog T 3 c3 := ⟨⟨Tryd.f3, Hints.of [] [] [], [0, 1, 2, 3, 4, 5, 6, 7, 10], Tryd.func3, by kernel_rfl, by kernel_rfl⟩⟩

def c4_0 : List CO := [⟨(.box 32 (.var 0)), (some 1), none⟩,
 ⟨(.mov (.k (.bool false))), (some 2), none⟩]
def c4_1 : List CO := [⟨(.call true 5 []), none, none⟩,
 ⟨(.mov (.loc 0)), (some 3), none⟩]
def c4_2 : List CO := [⟨(.load true 4 (.var 1)), none, none⟩,
 ⟨(.call true 9 [(.loc 0), (.k (.int .i64 2000))]), none, none⟩,
 ⟨(.un .not (.loc 0)), (some 8), none⟩]
def c4_3 : List CO := [⟨(.mov (.var 3)), none, none⟩,
 ⟨(.mov (.loc 0)), (some 2), none⟩]
def c4_4 : List CO := [⟨(.load true 4 (.var 1)), none, none⟩,
 ⟨(.call true 10 [(.loc 0)]), none, none⟩,
 ⟨(.mov (.loc 0)), none, none⟩,
 ⟨(.extract (.loc 0) 0), none, none⟩,
 ⟨(.extract (.loc 1) 1), none, none⟩,
 ⟨(.box 35 (.k (.agg #[(.int .i64 0), (.string ⟨#[]⟩), (.int .i64 0), (.slice none 0 0), (.slice none 0 0), (.int .i64 0)]))), (some 4), none⟩,
 ⟨(.store 6 (.var 4) (.loc 2)), none, none⟩,
 ⟨(.mov (.loc 2)), (some 5), none⟩]
def c4_5 : List CO := [⟨(.mov (.var 5)), none, none⟩,
 ⟨(.bin .neq (.loc 0) (.k (.int .i64 0))), (some 9), none⟩]
def c4_6 : List CO := [⟨(.mov (.var 3)), none, none⟩,
 ⟨(.mov (.loc 0)), (some 2), none⟩]
def c4_7 : List CO := [⟨(.load true 6 (.var 4)), none, none⟩,
 ⟨(.call true 11 [(.loc 0)]), none, none⟩,
 ⟨(.call true 7 [(.loc 0)]), none, none⟩,
 ⟨(.mov (.loc 0)), none, none⟩,
 ⟨(.extract (.loc 0) 0), none, none⟩,
 ⟨(.extract (.loc 1) 1), none, none⟩,
 ⟨(.mov (.loc 1)), (some 6), none⟩,
 ⟨(.mov (.loc 1)), (some 7), none⟩]
def c4_8 : List CO := [⟨(.mov (.var 3)), none, none⟩,
 ⟨(.mov (.loc 0)), none, none⟩,
 ⟨(.mov (.var 6)), none, (some ((.loc 0), true))⟩,
 ⟨(.bin .eql (.loc 0) (.k (.int .i64 0))), none, (some ((.loc 1), true))⟩,
 ⟨(.pick (.loc 2) (.loc 0) (.k (.bool false))), none, none⟩,
 ⟨(.mov (.loc 0)), none, none⟩,
 ⟨(.mov (.var 7)), none, (some ((.loc 0), true))⟩,
 ⟨(.bin .eql (.loc 0) (.k (.int .i64 0))), none, (some ((.loc 1), true))⟩,
 ⟨(.pick (.loc 2) (.loc 0) (.k (.bool false))), none, none⟩,
 ⟨(.mov (.loc 0)), (some 2), none⟩]
def c4 : CFun := ⟨1, 10, (.seq (.region [] [] c4_0) (.seq (.region [] [] c4_1) (.seq (.seq (.region [] [] c4_2) (.cond (.var 8) (.seq (.region [] [] c4_3) .ret) .skip)) (.seq (.region [] [] c4_4) (.seq (.seq (.region [] [] c4_5) (.cond (.var 9) (.seq (.region [] [] c4_6) .ret) .skip)) (.seq (.region [] [] c4_7) (.seq (.region [] [] c4_8) .ret))))))), [.var 2]⟩
theorem ok4 : CodeOk Tryd.prog T 4 c4 := ⟨⟨Tryd.f4, Hints.of [] [] [], [0, 1, 2, 3, 4, 5, 6, 7, 11, 19], Tryd.func4, by kernel_rfl, by kernel_rfl⟩⟩

def c5_0 : List CO := [⟨(.mov (.k (.bool false))), (some 0), none⟩]
def c5_1 : List CO := [⟨(.build [(.int .i64 0), (.int .i64 0), (.int .i64 0), (.string ⟨#[]⟩), (.int .i64 0)] [(0, 1, (.k (.int .i64 12)))]), none, none⟩,
 ⟨(.bslice 5 [(.int .i64 0), (.int .i64 0), (.int .i64 0), (.string ⟨#[]⟩), (.int .i64 0)] 1 [(0, (.loc 0))]), none, none⟩,
 ⟨(.build [(.string ⟨#[]⟩), (.int .i64 0), (.int .i64 0), (.slice none 0 0)] [(3, 1, (.loc 0))]), none, none⟩,
 ⟨(.call true 7 [(.loc 0)]), none, none⟩,
 ⟨(.mov (.loc 0)), none, none⟩,
 ⟨(.extract (.loc 0) 0), none, none⟩,
 ⟨(.extract (.loc 1) 1), none, none⟩,
 ⟨(.mov (.loc 1)), (some 1), none⟩,
 ⟨(.mov (.loc 1)), (some 2), none⟩]
def c5_2 : List CO := [⟨(.build [(.int .i64 0), (.int .i64 0), (.int .i64 0), (.string ⟨#[]⟩), (.int .i64 0)] [(0, 1, (.k (.int .i64 5))), (3, 1, (.k (.string ⟨#[102]⟩))), (4, 1, (.k (.int .i64 2)))]), none, none⟩,
 ⟨(.build [(.int .i64 0), (.int .i64 0), (.int .i64 0), (.string ⟨#[]⟩), (.int .i64 0)] [(0, 1, (.k (.int .i64 8))), (3, 1, (.k (.string ⟨#[97]⟩)))]), none, none⟩,
 ⟨(.build [(.int .i64 0), (.int .i64 0), (.int .i64 0), (.string ⟨#[]⟩), (.int .i64 0)] [(0, 1, (.k (.int .i64 23)))]), none, none⟩,
 ⟨(.bslice 5 [(.int .i64 0), (.int .i64 0), (.int .i64 0), (.string ⟨#[]⟩), (.int .i64 0)] 3 [(0, (.loc 2)), (1, (.loc 1)), (2, (.loc 0))]), none, none⟩,
 ⟨(.build [(.string ⟨#[]⟩), (.int .i64 0), (.int .i64 0), (.slice none 0 0)] [(1, 1, (.k (.int .i64 1))), (3, 1, (.loc 0))]), none, none⟩,
 ⟨(.call true 7 [(.loc 0)]), none, none⟩,
 ⟨(.mov (.loc 0)), none, none⟩,
 ⟨(.extract (.loc 0) 0), none, none⟩,
 ⟨(.extract (.loc 1) 1), none, none⟩,
 ⟨(.mov (.loc 1)), (some 3), none⟩,
 ⟨(.mov (.loc 1)), (some 4), none⟩]
def c5_3 : List CO := [⟨(.build [(.int .i64 0), (.int .i64 0), (.int .i64 0), (.string ⟨#[]⟩), (.int .i64 0)] [(0, 1, (.k (.int .i64 4))), (4, 1, (.k (.int .i64 2)))]), none, none⟩,
 ⟨(.build [(.int .i64 0), (.int .i64 0), (.int .i64 0), (.string ⟨#[]⟩), (.int .i64 0)] [(0, 1, (.k (.int .i64 23)))]), none, none⟩,
 ⟨(.bslice 5 [(.int .i64 0), (.int .i64 0), (.int .i64 0), (.string ⟨#[]⟩), (.int .i64 0)] 2 [(0, (.loc 1)), (1, (.loc 0))]), none, none⟩,
 ⟨(.build [(.string ⟨#[]⟩), (.int .i64 0), (.int .i64 0), (.slice none 0 0)] [(1, 1, (.k (.int .i64 1))), (3, 1, (.loc 0))]), none, none⟩,
 ⟨(.call true 7 [(.loc 0)]), none, none⟩,
 ⟨(.mov (.loc 0)), none, none⟩,
 ⟨(.extract (.loc 0) 0), none, none⟩,
 ⟨(.extract (.loc 1) 1), none, none⟩,
 ⟨(.mov (.loc 1)), (some 5), none⟩,
 ⟨(.mov (.loc 1)), (some 6), none⟩]
def c5_4 : List CO := [⟨(.mov (.var 1)), none, none⟩,
 ⟨(.bin .eql (.loc 0) (.k (.int .i64 0))), none, none⟩,
 ⟨(.mov (.loc 0)), none, none⟩,
 ⟨(.mov (.var 2)), none, (some ((.loc 0), true))⟩,
 ⟨(.bin .eql (.loc 0) (.k (.int .i64 150))), none, (some ((.loc 1), true))⟩,
 ⟨(.pick (.loc 2) (.loc 0) (.k (.bool false))), none, none⟩,
 ⟨(.mov (.loc 0)), none, none⟩,
 ⟨(.mov (.var 3)), none, (some ((.loc 0), true))⟩,
 ⟨(.bin .eql (.loc 0) (.k (.int .i64 2))), none, (some ((.loc 1), true))⟩,
 ⟨(.pick (.loc 2) (.loc 0) (.k (.bool false))), none, none⟩,
 ⟨(.mov (.loc 0)), none, none⟩,
 ⟨(.mov (.var 4)), none, (some ((.loc 0), true))⟩,
 ⟨(.bin .eql (.loc 0) (.k (.int .i64 150))), none, (some ((.loc 1), true))⟩,
 ⟨(.pick (.loc 2) (.loc 0) (.k (.bool false))), none, none⟩,
 ⟨(.mov (.loc 0)), none, none⟩,
 ⟨(.mov (.var 5)), none, (some ((.loc 0), true))⟩,
 ⟨(.bin .eql (.loc 0) (.k (.int .i64 0))), none, (some ((.loc 1), true))⟩,
 ⟨(.pick (.loc 2) (.loc 0) (.k (.bool false))), none, none⟩,
 ⟨(.mov (.loc 0)), none, none⟩,
 ⟨(.mov (.var 6)), none, (some ((.loc 0), true))⟩,
 ⟨(.bin .eql (.loc 0) (.k (.int .i64 0))), none, (some ((.loc 1), true))⟩,
 ⟨(.pick (.loc 2) (.loc 0) (.k (.bool false))), none, none⟩,
 ⟨(.mov (.loc 0)), (some 0), none⟩]
def c5 : CFun := ⟨0, 7, (.seq (.region [] [] c5_0) (.seq (.region [] [] c5_1) (.seq (.region [] [] c5_2) (.seq (.region [] [] c5_3) (.seq (.region [] [] c5_4) .ret))))), [.var 0]⟩
theorem ok5 : CodeOk Tryd.prog T 5 c5 := ⟨⟨Tryd.f5, Hints.of [] [] [], [0, 1, 2, 3, 4, 5, 6], Tryd.func5, by kernel_rfl, by kernel_rfl⟩⟩

def c6_0 : List CO := [⟨(.box 24 (.var 0)), (some 1), none⟩,
 ⟨(.mov (.k (.bool false))), (some 2), none⟩]
def c6_1 : List CO := [⟨(.fa 3 (.var 1)), none, none⟩,
 ⟨(.load false 1 (.loc 0)), none, none⟩,
 ⟨(.len .slice (.loc 0)), none, none⟩,
 ⟨(.bin .gtr (.loc 0) (.k (.int .i64 2000))), none, none⟩,
 ⟨(.mov (.loc 0)), none, none⟩,
 ⟨(.fa 0 (.var 1)), none, (some ((.loc 0), false))⟩,
 ⟨(.load false 1 (.loc 0)), none, (some ((.loc 1), false))⟩,
 ⟨(.len .string (.loc 0)), none, (some ((.loc 2), false))⟩,
 ⟨(.bin .gtr (.loc 0) (.k (.int .i64 1000))), none, (some ((.loc 3), false))⟩,
 ⟨(.pick (.loc 4) (.k (.bool true)) (.loc 0)), (some 4), none⟩]
def c6_2 : List CO := [⟨(.mov (.k (.bool true))), (some 2), none⟩]
def c6_3 : List CO := [⟨(.fa 3 (.var 1)), none, none⟩,
 ⟨(.load false 1 (.loc 0)), (some 5), none⟩,
 ⟨(.len .slice (.var 5)), (some 6), none⟩,
 ⟨(.mov (.k (.int .i64 0))), (some 7), none⟩]
def c6_4 : List CO := [⟨(.bin .lss (.var 7) (.var 6)), (some 8), none⟩]
def c6_5 : List CO := [⟨(.ia 5 (.var 5) (.var 7)), none, none⟩,
 ⟨(.load true 5 (.loc 0)), none, none⟩,
 ⟨(.box 41 (.k (.agg #[(.int .i64 0), (.int .i64 0), (.int .i64 0), (.string ⟨#[]⟩), (.int .i64 0)]))), (some 3), none⟩,
 ⟨(.store 5 (.var 3) (.loc 1)), none, none⟩]
def c6_6 : List CO := [⟨(.fa 3 (.var 3)), none, none⟩,
 ⟨(.load false 1 (.loc 0)), none, none⟩,
 ⟨(.len .string (.loc 0)), none, none⟩,
 ⟨(.bin .gtr (.loc 0) (.k (.int .i64 1000))), (some 9), none⟩]
def c6_7 : List CO := [⟨(.mov (.k (.bool true))), (some 2), none⟩]
def c6_8 : List CO := [⟨(.bin .add (.var 7) (.k (.int .i64 1))), none, none⟩,
 ⟨(.mov (.loc 0)), (some 7), none⟩]
def c6_9 : CC := (.seq (.region [] [] c6_4) (.seq (.cond (.var 8) .skip (.exit 0)) (.seq (.block 1 (.seq (.region [] [] c6_5) (.seq (.region [] [] c6_6) (.cond (.var 9) (.seq (.region [] [] c6_7) .ret) .skip)))) (.region [] [] c6_8))))
def c6_10 : List CO := [⟨(.mov (.k (.bool false))), (some 2), none⟩]
def c6 : CFun := ⟨1, 10, (.seq (.region [] [] c6_0) (.seq (.seq (.region [] [] c6_1) (.cond (.var 4) (.seq (.region [] [] c6_2) .ret) .skip)) (.seq (.seq (.region [] [] c6_3) (.block 0 (.loop [false, false, false, false, false, true, true, true, false, false] [] c6_9))) (.seq (.region [] [] c6_10) .ret)))), [.var 2]⟩
theorem ok6 : CodeOk Tryd.prog T 6 c6 := ⟨⟨Tryd.f6, Hints.of [] [] [(0, [false, false, false, false, false, true, true, true, false, false], [])], [0, 1, 2, 4, 14, 16, 17, 18, 19, 25], Tryd.func6, by kernel_rfl, by kernel_rfl⟩⟩

def c7_0 : List CO := [⟨(.box 24 (.var 0)), (some 1), none⟩,
 ⟨(.mov (.k (.int .i64 0))), (some 2), none⟩,
 ⟨(.mov (.k (.int .i64 0))), (some 3), none⟩]
def c7_1 : List CO := [⟨(.fa 1 (.var 1)), none, none⟩,
 ⟨(.load false 1 (.loc 0)), none, none⟩,
 ⟨(.bin .lss (.loc 0) (.k (.int .i64 0))), none, none⟩,
 ⟨(.mov (.loc 0)), none, none⟩,
 ⟨(.fa 1 (.var 1)), none, (some ((.loc 0), false))⟩,
 ⟨(.load false 1 (.loc 0)), none, (some ((.loc 1), false))⟩,
 ⟨(.bin .gtr (.loc 0) (.k (.int .i64 16))), none, (some ((.loc 2), false))⟩,
 ⟨(.pick (.loc 3) (.k (.bool true)) (.loc 0)), none, none⟩,
 ⟨(.mov (.loc 0)), none, none⟩,
 ⟨(.fa 2 (.var 1)), none, (some ((.loc 0), false))⟩,
 ⟨(.load false 1 (.loc 0)), none, (some ((.loc 1), false))⟩,
 ⟨(.bin .lss (.loc 0) (.k (.int .i64 0))), none, (some ((.loc 2), false))⟩,
 ⟨(.pick (.loc 3) (.k (.bool true)) (.loc 0)), none, none⟩,
 ⟨(.mov (.loc 0)), none, none⟩,
 ⟨(.fa 0 (.var 1)), none, (some ((.loc 0), false))⟩,
 ⟨(.load false 1 (.loc 0)), none, (some ((.loc 1), false))⟩,
 ⟨(.call true 12 [(.loc 0)]), none, (some ((.loc 2), false))⟩,
 ⟨(.un .not (.loc 0)), none, (some ((.loc 3), false))⟩,
 ⟨(.pick (.loc 4) (.k (.bool true)) (.loc 0)), (some 11), none⟩]
def c7_2 : List CO := [⟨(.mov (.k (.int .i64 0))), (some 2), none⟩,
 ⟨(.mov (.k (.int .i64 150))), (some 3), none⟩]
def c7_3 : List CO := [⟨(.load true 4 (.var 1)), none, none⟩,
 ⟨(.mkmap (.int .i64)), none, none⟩,
 ⟨(.mkmap (.int .i64)), none, none⟩,
 ⟨(.build [(.string ⟨#[]⟩), (.int .i64 0), (.int .i64 0), (.slice none 0 0), (.map none), (.map none), (.int .i64 0), (.int .i64 0), (.int .i64 0), (.bool false), (.bool false)] [(0, 4, (.loc 2)), (4, 1, (.loc 1)), (5, 1, (.loc 0)), (9, 1, (.k (.bool true)))]), none, none⟩,
 ⟨(.box 46 (.loc 0)), none, none⟩,
 ⟨(.mov (.loc 0)), (some 4), none⟩]
def c7_4 : List CO := [⟨(.fa 1 (.var 1)), none, none⟩,
 ⟨(.load false 1 (.loc 0)), (some 12), none⟩,
 ⟨(.mov (.k (.int .i64 0))), (some 13), none⟩]
def c7_5 : List CO := [⟨(.bin .lss (.var 13) (.var 12)), (some 14), none⟩]
def c7_6 : List CO := [⟨(.mov (.var 13)), none, none⟩,
 ⟨(.mov (.loc 0)), (some 5), none⟩]
def c7_7 : List CO := [⟨(.mov (.var 4)), none, none⟩,
 ⟨(.nilchk (.loc 0)), none, none⟩,
 ⟨(.fa 4 (.loc 0)), none, none⟩,
 ⟨(.load false 1 (.loc 0)), none, none⟩,
 ⟨(.mov (.var 5)), none, none⟩,
 ⟨(.mapupd (.int .i64) (.loc 1) (.loc 0) (.k (.bool true))), none, none⟩]
def c7_8 : List CO := [⟨(.bin .add (.var 13) (.k (.int .i64 1))), none, none⟩,
 ⟨(.mov (.loc 0)), (some 13), none⟩]
def c7_9 : CC := (.seq (.region [] [] c7_5) (.seq (.cond (.var 14) .skip (.exit 0)) (.seq (.block 1 (.seq (.region [] [] c7_6) (.region [] [] c7_7))) (.region [] [] c7_8))))
def c7_10 : List CO := [⟨(.fa 3 (.var 1)), none, none⟩,
 ⟨(.load false 1 (.loc 0)), (some 15), none⟩,
 ⟨(.len .slice (.var 15)), (some 16), none⟩,
 ⟨(.mov (.k (.int .i64 0))), (some 17), none⟩]
def c7_11 : List CO := [⟨(.bin .lss (.var 17) (.var 16)), (some 18), none⟩]
def c7_12 : List CO := [⟨(.mov (.var 17)), none, none⟩,
 ⟨(.ia 5 (.var 15) (.var 17)), none, none⟩,
 ⟨(.load true 5 (.loc 0)), none, none⟩,
 ⟨(.box 41 (.k (.agg #[(.int .i64 0), (.int .i64 0), (.int .i64 0), (.string ⟨#[]⟩), (.int .i64 0)]))), (some 7), none⟩,
 ⟨(.mov (.loc 3)), (some 6), none⟩,
 ⟨(.store 5 (.var 7) (.loc 2)), none, none⟩]
def c7_13 : List CO := [⟨(.fa 0 (.var 7)), none, none⟩,
 ⟨(.load false 1 (.loc 0)), none, none⟩,
 ⟨(.call true 13 [(.loc 0)]), none, none⟩,
 ⟨(.mov (.loc 0)), none, none⟩,
 ⟨(.extract (.loc 0) 0), none, none⟩,
 ⟨(.extract (.loc 1) 1), none, none⟩,
 ⟨(.extract (.loc 2) 2), none, none⟩,
 ⟨(.mov (.loc 2)), (some 8), none⟩,
 ⟨(.mov (.loc 2)), (some 9), none⟩,
 ⟨(.mov (.loc 2)), (some 10), none⟩]
def c7_14 : List CO := [⟨(.mov (.var 10)), none, none⟩,
 ⟨(.un .not (.loc 0)), none, none⟩,
 ⟨(.mov (.loc 0)), none, none⟩,
 ⟨(.mov (.var 4)), none, (some ((.loc 0), false))⟩,
 ⟨(.nilchk (.loc 0)), none, (some ((.loc 1), false))⟩,
 ⟨(.fa 10 (.loc 0)), none, (some ((.loc 2), false))⟩,
 ⟨(.load false 1 (.loc 0)), none, (some ((.loc 3), false))⟩,
 ⟨(.pick (.loc 4) (.k (.bool true)) (.loc 0)), none, none⟩,
 ⟨(.mov (.loc 0)), none, none⟩,
 ⟨(.fa 3 (.var 7)), none, (some ((.loc 0), false))⟩,
 ⟨(.load false 1 (.loc 0)), none, (some ((.loc 1), false))⟩,
 ⟨(.call true 12 [(.loc 0)]), none, (some ((.loc 2), false))⟩,
 ⟨(.un .not (.loc 0)), none, (some ((.loc 3), false))⟩,
 ⟨(.pick (.loc 4) (.k (.bool true)) (.loc 0)), none, none⟩,
 ⟨(.mov (.loc 0)), none, none⟩,
 ⟨(.mov (.var 4)), none, (some ((.loc 0), false))⟩,
 ⟨(.mov (.var 8)), none, (some ((.loc 1), false))⟩,
 ⟨(.mov (.var 9)), none, (some ((.loc 2), false))⟩,
 ⟨(.load true 5 (.var 7)), none, (some ((.loc 3), false))⟩,
 ⟨(.call false 14 [(.loc 3), (.loc 2), (.loc 1), (.loc 0)]), none, (some ((.loc 4), false))⟩,
 ⟨(.un .not (.loc 0)), none, (some ((.loc 5), false))⟩,
 ⟨(.pick (.loc 6) (.k (.bool true)) (.loc 0)), none, none⟩,
 ⟨(.mov (.loc 0)), none, none⟩,
 ⟨(.mov (.var 4)), none, (some ((.loc 0), false))⟩,
 ⟨(.mov (.var 8)), none, (some ((.loc 1), false))⟩,
 ⟨(.mov (.var 9)), none, (some ((.loc 2), false))⟩,
 ⟨(.load true 5 (.var 7)), none, (some ((.loc 3), false))⟩,
 ⟨(.call false 15 [(.loc 3), (.loc 2), (.loc 1), (.loc 0)]), none, (some ((.loc 4), false))⟩,
 ⟨(.un .not (.loc 0)), none, (some ((.loc 5), false))⟩,
 ⟨(.pick (.loc 6) (.k (.bool true)) (.loc 0)), (some 19), none⟩]
def c7_15 : List CO := [⟨(.mov (.var 6)), none, none⟩,
 ⟨(.mov (.loc 0)), (some 2), none⟩,
 ⟨(.mov (.k (.int .i64 150))), (some 3), none⟩]
def c7_16 : List CO := [⟨(.mov (.var 4)), none, none⟩,
 ⟨(.mov (.var 8)), none, none⟩,
 ⟨(.mov (.var 9)), none, none⟩,
 ⟨(.load true 5 (.var 7)), none, none⟩,
 ⟨(.call false 16 [(.loc 3), (.loc 2), (.loc 1), (.loc 0)]), none, none⟩]
def c7_17 : List CO := [⟨(.bin .add (.var 17) (.k (.int .i64 1))), none, none⟩,
 ⟨(.mov (.loc 0)), (some 17), none⟩]
def c7_18 : CC := (.seq (.region [] [] c7_11) (.seq (.cond (.var 18) .skip (.exit 2)) (.seq (.block 3 (.seq (.region [] [] c7_12) (.seq (.region [] [] c7_13) (.seq (.seq (.region [] [] c7_14) (.cond (.var 19) (.seq (.region [] [] c7_15) .ret) .skip)) (.region [] [] c7_16))))) (.region [] [] c7_17))))
def c7_19 : List CO := [⟨(.mov (.var 4)), none, none⟩,
 ⟨(.nilchk (.loc 0)), none, none⟩,
 ⟨(.fa 10 (.loc 0)), none, none⟩,
 ⟨(.load false 1 (.loc 0)), none, none⟩,
 ⟨(.un .not (.loc 0)), (some 20), none⟩]
def c7_20 : List CO := [⟨(.fa 3 (.var 1)), none, none⟩,
 ⟨(.load false 1 (.loc 0)), none, none⟩,
 ⟨(.len .slice (.loc 0)), none, none⟩,
 ⟨(.mov (.loc 0)), (some 2), none⟩,
 ⟨(.mov (.k (.int .i64 150))), (some 3), none⟩]
def c7_21 : List CO := [⟨(.mov (.k (.int .i64 0))), (some 2), none⟩,
 ⟨(.mov (.k (.int .i64 0))), (some 3), none⟩]
def c7 : CFun := ⟨1, 21, (.seq (.region [] [] c7_0) (.seq (.seq (.region [] [] c7_1) (.cond (.var 11) (.seq (.region [] [] c7_2) .ret) .skip)) (.seq (.region [] [] c7_3) (.seq (.seq (.region [] [] c7_4) (.block 0 (.loop [false, true, false, false, true, false, false, false, false, false, false, false, true, true, false, false, false, false, false, false, false] [] c7_9))) (.seq (.seq (.region [] [] c7_10) (.block 2 (.loop [false, true, false, false, true, false, false, false, false, false, false, false, false, false, false, true, true, true, false, false, false] [] c7_18))) (.seq (.seq (.region [] [] c7_19) (.cond (.var 20) (.seq (.region [] [] c7_20) .ret) .skip)) (.seq (.region [] [] c7_21) .ret))))))), [.var 2, .var 3]⟩
theorem ok7 : CodeOk Tryd.prog T 7 c7 := ⟨⟨Tryd.f7, Hints.of [] [] [(0, [false, true, false, false, true, false, false, false, false, false, false, false, true, true, false, false, false, false, false, false, false], []), (2, [false, true, false, false, true, false, false, false, false, false, false, false, false, false, false, true, true, true, false, false, false], [])], [0, 1, 2, 3, 4, 5, 6, 7, 8, 9, 10, 29, 36, 37, 38, 47, 48, 49, 50, 90, 102], Tryd.func7, by kernel_rfl, by kernel_rfl⟩⟩

def c8_0 : List CO := [⟨(.box 24 (.var 0)), (some 1), none⟩,
 ⟨(.mov (.k (.int .i64 0))), (some 2), none⟩,
 ⟨(.mov (.k (.int .i64 0))), (some 3), none⟩]
def c8_1 : List CO := [⟨(.fa 1 (.var 1)), none, none⟩,
 ⟨(.load false 1 (.loc 0)), none, none⟩,
 ⟨(.bin .lss (.loc 0) (.k (.int .i64 0))), none, none⟩,
 ⟨(.mov (.loc 0)), none, none⟩,
 ⟨(.fa 1 (.var 1)), none, (some ((.loc 0), false))⟩,
 ⟨(.load false 1 (.loc 0)), none, (some ((.loc 1), false))⟩,
 ⟨(.bin .gtr (.loc 0) (.k (.int .i64 16))), none, (some ((.loc 2), false))⟩,
 ⟨(.pick (.loc 3) (.k (.bool true)) (.loc 0)), none, none⟩,
 ⟨(.mov (.loc 0)), none, none⟩,
 ⟨(.fa 2 (.var 1)), none, (some ((.loc 0), false))⟩,
 ⟨(.load false 1 (.loc 0)), none, (some ((.loc 1), false))⟩,
 ⟨(.bin .lss (.loc 0) (.k (.int .i64 0))), none, (some ((.loc 2), false))⟩,
 ⟨(.pick (.loc 3) (.k (.bool true)) (.loc 0)), none, none⟩,
 ⟨(.mov (.loc 0)), none, none⟩,
 ⟨(.fa 0 (.var 1)), none, (some ((.loc 0), false))⟩,
 ⟨(.load false 1 (.loc 0)), none, (some ((.loc 1), false))⟩,
 ⟨(.call true 17 [(.loc 0)]), none, (some ((.loc 2), false))⟩,
 ⟨(.un .not (.loc 0)), none, (some ((.loc 3), false))⟩,
 ⟨(.pick (.loc 4) (.k (.bool true)) (.loc 0)), (some 9), none⟩]
def c8_2 : List CO := [⟨(.mov (.k (.int .i64 0))), (some 2), none⟩,
 ⟨(.mov (.k (.int .i64 150))), (some 3), none⟩]
def c8_3 : List CO := [⟨(.load true 4 (.var 1)), none, none⟩,
 ⟨(.build [(.string ⟨#[]⟩), (.int .i64 0), (.int .i64 0), (.slice none 0 0), (.slice none 0 0), (.slice none 0 0), (.int .i64 0), (.bool false), (.bool false), (.int .i64 0)] [(0, 4, (.loc 0)), (8, 1, (.k (.bool true)))]), none, none⟩,
 ⟨(.box 54 (.loc 0)), none, none⟩,
 ⟨(.mov (.loc 0)), (some 4), none⟩]
def c8_4 : List CO := [⟨(.fa 1 (.var 1)), none, none⟩,
 ⟨(.load false 1 (.loc 0)), (some 10), none⟩,
 ⟨(.mov (.k (.int .i64 0))), (some 11), none⟩]
def c8_5 : List CO := [⟨(.bin .lss (.var 11) (.var 10)), (some 12), none⟩]
def c8_6 : List CO := [⟨(.mov (.var 11)), none, none⟩,
 ⟨(.mov (.loc 0)), (some 5), none⟩]
def c8_7 : List CO := [⟨(.mov (.var 4)), none, none⟩,
 ⟨(.mov (.var 4)), none, none⟩,
 ⟨(.nilchk (.loc 0)), none, none⟩,
 ⟨(.fa 4 (.loc 0)), none, none⟩,
 ⟨(.load false 1 (.loc 0)), none, none⟩,
 ⟨(.mov (.var 5)), none, none⟩,
 ⟨(.bslice 1 [(.int .i64 0)] 1 [(0, (.loc 0))]), none, none⟩,
 ⟨(.append 3 1 8 (.loc 2) (.loc 0)), none, none⟩,
 ⟨(.nilchk (.loc 7)), none, none⟩,
 ⟨(.fa 4 (.loc 0)), none, none⟩,
 ⟨(.store 1 (.loc 0) (.loc 2)), none, none⟩]
def c8_8 : List CO := [⟨(.bin .add (.var 11) (.k (.int .i64 1))), none, none⟩,
 ⟨(.mov (.loc 0)), (some 11), none⟩]
def c8_9 : CC := (.seq (.region [] [] c8_5) (.seq (.cond (.var 12) .skip (.exit 0)) (.seq (.block 1 (.seq (.region [] [] c8_6) (.region [] [] c8_7))) (.region [] [] c8_8))))
def c8_10 : List CO := [⟨(.mov (.k (.bool false))), (some 6), none⟩]
def c8_11 : List CO := [⟨(.fa 3 (.var 1)), none, none⟩,
 ⟨(.load false 1 (.loc 0)), (some 13), none⟩,
 ⟨(.len .slice (.var 13)), (some 14), none⟩,
 ⟨(.mov (.k (.int .i64 0))), (some 15), none⟩]
def c8_12 : List CO := [⟨(.bin .lss (.var 15) (.var 14)), (some 16), none⟩]
def c8_13 : List CO := [⟨(.mov (.var 15)), none, none⟩,
 ⟨(.ia 5 (.var 13) (.var 15)), none, none⟩,
 ⟨(.load true 5 (.loc 0)), none, none⟩,
 ⟨(.box 41 (.k (.agg #[(.int .i64 0), (.int .i64 0), (.int .i64 0), (.string ⟨#[]⟩), (.int .i64 0)]))), (some 8), none⟩,
 ⟨(.mov (.loc 3)), (some 7), none⟩,
 ⟨(.store 5 (.var 8) (.loc 2)), none, none⟩]
def c8_14 : List CO := [⟨(.mov (.var 6)), none, none⟩,
 ⟨(.mov (.loc 0)), none, none⟩,
 ⟨(.fa 3 (.var 8)), none, (some ((.loc 0), false))⟩,
 ⟨(.load false 1 (.loc 0)), none, (some ((.loc 1), false))⟩,
 ⟨(.call true 17 [(.loc 0)]), none, (some ((.loc 2), false))⟩,
 ⟨(.un .not (.loc 0)), none, (some ((.loc 3), false))⟩,
 ⟨(.pick (.loc 4) (.k (.bool true)) (.loc 0)), none, none⟩,
 ⟨(.mov (.loc 0)), none, none⟩,
 ⟨(.mov (.var 4)), none, (some ((.loc 0), false))⟩,
 ⟨(.load true 5 (.var 8)), none, (some ((.loc 1), false))⟩,
 ⟨(.call false 18 [(.loc 1), (.loc 0)]), none, (some ((.loc 2), false))⟩,
 ⟨(.un .not (.loc 0)), none, (some ((.loc 3), false))⟩,
 ⟨(.pick (.loc 4) (.k (.bool true)) (.loc 0)), none, none⟩,
 ⟨(.mov (.loc 0)), none, none⟩,
 ⟨(.mov (.var 4)), none, (some ((.loc 0), false))⟩,
 ⟨(.load true 5 (.var 8)), none, (some ((.loc 1), false))⟩,
 ⟨(.call false 19 [(.loc 1), (.loc 0)]), none, (some ((.loc 2), false))⟩,
 ⟨(.un .not (.loc 0)), none, (some ((.loc 3), false))⟩,
 ⟨(.pick (.loc 4) (.k (.bool true)) (.loc 0)), (some 17), none⟩]
def c8_15 : List CO := [⟨(.mov (.var 7)), none, none⟩,
 ⟨(.mov (.loc 0)), (some 2), none⟩,
 ⟨(.mov (.k (.int .i64 150))), (some 3), none⟩]
def c8_16 : List CO := [⟨(.mov (.var 4)), none, none⟩,
 ⟨(.load true 5 (.var 8)), none, none⟩,
 ⟨(.call false 20 [(.loc 1), (.loc 0)]), none, none⟩]
def c8_17 : List CO := [⟨(.fa 0 (.var 8)), none, none⟩,
 ⟨(.load false 1 (.loc 0)), none, none⟩,
 ⟨(.bin .eql (.loc 0) (.k (.int .i64 23))), none, none⟩,
 ⟨(.mov (.loc 0)), (some 6), none⟩]
def c8_18 : List CO := [⟨(.bin .add (.var 15) (.k (.int .i64 1))), none, none⟩,
 ⟨(.mov (.loc 0)), (some 15), none⟩]
def c8_19 : CC := (.seq (.region [] [] c8_12) (.seq (.cond (.var 16) .skip (.exit 2)) (.seq (.block 3 (.seq (.region [] [] c8_13) (.seq (.seq (.region [] [] c8_14) (.cond (.var 17) (.seq (.region [] [] c8_15) .ret) .skip)) (.seq (.region [] [] c8_16) (.region [] [] c8_17))))) (.region [] [] c8_18))))
def c8_20 : List CO := [⟨(.mov (.var 6)), none, none⟩,
 ⟨(.un .not (.loc 0)), (some 18), none⟩]
def c8_21 : List CO := [⟨(.fa 3 (.var 1)), none, none⟩,
 ⟨(.load false 1 (.loc 0)), none, none⟩,
 ⟨(.len .slice (.loc 0)), none, none⟩,
 ⟨(.mov (.loc 0)), (some 2), none⟩,
 ⟨(.mov (.k (.int .i64 150))), (some 3), none⟩]
def c8_22 : List CO := [⟨(.mov (.k (.int .i64 0))), (some 2), none⟩,
 ⟨(.mov (.k (.int .i64 0))), (some 3), none⟩]
def c8 : CFun := ⟨1, 19, (.seq (.region [] [] c8_0) (.seq (.seq (.region [] [] c8_1) (.cond (.var 9) (.seq (.region [] [] c8_2) .ret) .skip)) (.seq (.region [] [] c8_3) (.seq (.seq (.region [] [] c8_4) (.block 0 (.loop [false, true, false, false, true, false, false, false, false, false, true, true, false, false, false, false, false, false, false] [] c8_9))) (.seq (.region [] [] c8_10) (.seq (.seq (.region [] [] c8_11) (.block 2 (.loop [false, true, false, false, true, false, true, false, false, false, false, false, false, true, true, true, false, false, false] [] c8_19))) (.seq (.seq (.region [] [] c8_20) (.cond (.var 18) (.seq (.region [] [] c8_21) .ret) .skip)) (.seq (.region [] [] c8_22) .ret)))))))), [.var 2, .var 3]⟩
theorem ok8 : CodeOk Tryd.prog T 8 c8 := ⟨⟨Tryd.f8, Hints.of [] [] [(0, [false, true, false, false, true, false, false, false, false, false, true, true, false, false, false, false, false, false, false], []), (2, [false, true, false, false, true, false, true, false, false, false, false, false, false, true, true, true, false, false, false], [])], [0, 1, 2, 3, 4, 5, 6, 7, 8, 27, 32, 33, 34, 48, 49, 50, 51, 73, 83], Tryd.func8, by kernel_rfl, by kernel_rfl⟩⟩

def c9_0 : List CO := [⟨(.box 32 (.var 0)), (some 2), none⟩,
 ⟨(.mov (.k (.bool false))), (some 3), none⟩]
def c9_1 : List CO := [⟨(.load true 4 (.var 2)), none, none⟩,
 ⟨(.mov (.var 1)), none, none⟩,
 ⟨(.call true 21 [(.loc 1), (.loc 0)]), none, none⟩,
 ⟨(.bin .geq (.loc 0) (.k (.int .i64 0))), none, none⟩,
 ⟨(.mov (.loc 0)), (some 3), none⟩]
def c9 : CFun := ⟨2, 4, (.seq (.region [] [] c9_0) (.seq (.region [] [] c9_1) .ret)), [.var 3]⟩
theorem ok9 : CodeOk Tryd.prog T 9 c9 := ⟨⟨Tryd.f9, Hints.of [] [] [], [0, 1, 2, 4], Tryd.func9, by kernel_rfl, by kernel_rfl⟩⟩

def c10_0 : List CO := [⟨(.box 32 (.var 0)), (some 1), none⟩,
 ⟨(.box 35 (.k (.agg #[(.int .i64 0), (.string ⟨#[]⟩), (.int .i64 0), (.slice none 0 0), (.slice none 0 0), (.int .i64 0)]))), (some 2), none⟩,
 ⟨(.mov (.k (.int .i64 0))), (some 3), none⟩]
def c10_1 : List CO := [⟨(.load true 4 (.var 1)), none, none⟩,
 ⟨(.call true 22 [(.loc 0)]), none, none⟩,
 ⟨(.mov (.loc 0)), (some 4), none⟩]
def c10_2 : List CO := [⟨(.mov (.var 4)), none, none⟩,
 ⟨(.bin .neq (.loc 0) (.k (.int .i64 0))), (some 9), none⟩]
def c10_3 : List CO := [⟨(.build [(.int .i64 0), (.string ⟨#[]⟩), (.int .i64 0), (.slice none 0 0), (.slice none 0 0), (.int .i64 0)] []), none, none⟩,
 ⟨(.mov (.var 4)), none, none⟩,
 ⟨(.store 6 (.var 2) (.loc 1)), none, none⟩,
 ⟨(.mov (.loc 1)), (some 3), none⟩]
def c10_4 : List CO := [⟨(.load true 4 (.var 1)), none, none⟩,
 ⟨(.call true 23 [(.loc 0)]), none, none⟩,
 ⟨(.mov (.loc 0)), (some 5), none⟩]
def c10_5 : List CO := [⟨(.load true 4 (.var 1)), none, none⟩,
 ⟨(.mov (.var 5)), none, none⟩,
 ⟨(.call true 24 [(.loc 1), (.loc 0)]), none, none⟩,
 ⟨(.store 4 (.var 1) (.loc 0)), none, none⟩]
def c10_6 : List CO := [⟨(.load true 4 (.var 1)), none, none⟩,
 ⟨(.mov (.var 5)), none, none⟩,
 ⟨(.len .slice (.loc 0)), none, none⟩,
 ⟨(.build [(.int .i64 0), (.string ⟨#[]⟩), (.int .i64 0), (.slice none 0 0), (.slice none 0 0), (.int .i64 0)] [(0, 4, (.loc 2)), (5, 1, (.loc 0))]), none, none⟩,
 ⟨(.box 35 (.k (.agg #[(.int .i64 0), (.string ⟨#[]⟩), (.int .i64 0), (.slice none 0 0), (.slice none 0 0), (.int .i64 0)]))), (some 6), none⟩,
 ⟨(.store 6 (.var 6) (.loc 1)), none, none⟩]
def c10_7 : List CO := [⟨(.load true 4 (.var 1)), none, none⟩,
 ⟨(.call true 25 [(.loc 0), (.k (.string ⟨#[58, 45]⟩)), (.k (.int .i64 2))]), (some 10), none⟩]
def c10_8 : List CO := [⟨(.fa 3 (.var 1)), none, none⟩,
 ⟨(.load false 1 (.loc 0)), none, none⟩,
 ⟨(.ia 4 (.loc 0) (.k (.int .i64 1))), none, none⟩,
 ⟨(.load true 4 (.loc 0)), none, none⟩,
 ⟨(.call true 26 [(.loc 0)]), none, none⟩,
 ⟨(.mov (.loc 0)), none, none⟩,
 ⟨(.extract (.loc 0) 0), none, none⟩,
 ⟨(.extract (.loc 1) 1), none, none⟩,
 ⟨(.mov (.loc 1)), (some 7), none⟩,
 ⟨(.mov (.loc 1)), (some 8), none⟩]
def c10_9 : List CO := [⟨(.mov (.var 8)), none, none⟩,
 ⟨(.bin .neq (.loc 0) (.k (.int .i64 0))), (some 11), none⟩]
def c10_10 : List CO := [⟨(.build [(.int .i64 0), (.string ⟨#[]⟩), (.int .i64 0), (.slice none 0 0), (.slice none 0 0), (.int .i64 0)] []), none, none⟩,
 ⟨(.mov (.var 8)), none, none⟩,
 ⟨(.store 6 (.var 2) (.loc 1)), none, none⟩,
 ⟨(.mov (.loc 1)), (some 3), none⟩]
def c10_11 : List CO := [⟨(.fa 3 (.var 1)), none, none⟩,
 ⟨(.load false 1 (.loc 0)), none, none⟩,
 ⟨(.ia 4 (.loc 0) (.k (.int .i64 0))), none, none⟩,
 ⟨(.load true 4 (.loc 0)), none, none⟩,
 ⟨(.fa 0 (.var 6)), none, none⟩,
 ⟨(.store 4 (.loc 0) (.loc 1)), none, none⟩]
def c10_12 : List CO := [⟨(.mov (.var 7)), none, none⟩,
 ⟨(.fa 4 (.var 6)), none, none⟩,
 ⟨(.store 1 (.loc 0) (.loc 1)), none, none⟩]
def c10_13 : List CO := [⟨(.fa 0 (.var 6)), none, none⟩,
 ⟨(.load true 4 (.loc 0)), none, none⟩,
 ⟨(.call true 27 [(.loc 0)]), none, none⟩,
 ⟨(.un .not (.loc 0)), none, none⟩,
 ⟨(.mov (.loc 0)), none, none⟩,
 ⟨(.fa 0 (.var 6)), none, (some ((.loc 0), false))⟩,
 ⟨(.fa 1 (.loc 0)), none, (some ((.loc 1), false))⟩,
 ⟨(.load false 1 (.loc 0)), none, (some ((.loc 2), false))⟩,
 ⟨(.fa 0 (.var 6)), none, (some ((.loc 3), false))⟩,
 ⟨(.fa 3 (.loc 0)), none, (some ((.loc 4), false))⟩,
 ⟨(.load false 1 (.loc 0)), none, (some ((.loc 5), false))⟩,
 ⟨(.len .slice (.loc 0)), none, (some ((.loc 6), false))⟩,
 ⟨(.call true 28 [(.loc 4), (.loc 0)]), none, (some ((.loc 7), false))⟩,
 ⟨(.pick (.loc 8) (.k (.bool true)) (.loc 0)), (some 12), none⟩]
def c10_14 : List CO := [⟨(.build [(.int .i64 0), (.string ⟨#[]⟩), (.int .i64 0), (.slice none 0 0), (.slice none 0 0), (.int .i64 0)] []), none, none⟩,
 ⟨(.store 6 (.var 2) (.loc 0)), none, none⟩,
 ⟨(.mov (.k (.int .i64 80))), (some 3), none⟩]
def c10_15 : List CO := [⟨(.load true 6 (.var 6)), none, none⟩,
 ⟨(.store 6 (.var 2) (.loc 0)), none, none⟩,
 ⟨(.mov (.k (.int .i64 0))), (some 3), none⟩]
def c10 : CFun := ⟨1, 13, (.seq (.region [] [] c10_0) (.seq (.seq (.region [] [] c10_1) (.seq (.region [] [] c10_2) (.cond (.var 9) (.seq (.region [] [] c10_3) .ret) .skip))) (.seq (.region [] [] c10_4) (.seq (.region [] [] c10_5) (.seq (.region [] [] c10_6) (.seq (.seq (.region [] [] c10_7) (.cond (.var 10) (.seq (.region [] [] c10_8) (.seq (.seq (.region [] [] c10_9) (.cond (.var 11) (.seq (.region [] [] c10_10) .ret) .skip)) (.seq (.region [] [] c10_11) (.region [] [] c10_12)))) .skip)) (.seq (.seq (.region [] [] c10_13) (.cond (.var 12) (.seq (.region [] [] c10_14) .ret) .skip)) (.seq (.region [] [] c10_15) .ret)))))))), [.cell 2 true 6, .var 3]⟩
theorem ok10 : CodeOk Tryd.prog T 10 c10 := ⟨⟨Tryd.f10, Hints.of [] [] [], [0, 1, 2, 3, 4, 5, 6, 7, 8, 12, 25, 35, 58], Tryd.func10, by kernel_rfl, by kernel_rfl⟩⟩

def c11_0 : List CO := [⟨(.box 35 (.var 0)), (some 1), none⟩,
 ⟨(.box 24 (.k (.agg #[(.string ⟨#[]⟩), (.int .i64 0), (.int .i64 0), (.slice none 0 0)]))), (some 2), none⟩]
def c11_1 : List CO := [⟨(.build [(.slice none 0 0), (.slice none 0 0), (.int .i64 0)] [(2, 1, (.k (.int .i64 16)))]), none, none⟩,
 ⟨(.box 68 (.loc 0)), none, none⟩,
 ⟨(.mov (.loc 0)), (some 3), none⟩]
def c11_2 : List CO := [⟨(.fa 0 (.var 1)), none, none⟩,
 ⟨(.fa 3 (.loc 0)), none, none⟩,
 ⟨(.load false 1 (.loc 0)), (some 9), none⟩,
 ⟨(.len .slice (.var 9)), (some 10), none⟩,
 ⟨(.mov (.k (.int .i64 0))), (some 11), none⟩]
def c11_3 : List CO := [⟨(.bin .lss (.var 11) (.var 10)), (some 12), none⟩]
def c11_4 : List CO := [⟨(.mov (.var 11)), none, none⟩,
 ⟨(.ia 4 (.var 9) (.var 11)), none, none⟩,
 ⟨(.load true 4 (.loc 0)), none, none⟩,
 ⟨(.box 32 (.k (.agg #[(.int .i64 0), (.string ⟨#[]⟩), (.int .i64 0), (.slice none 0 0)]))), (some 5), none⟩,
 ⟨(.mov (.loc 3)), (some 4), none⟩,
 ⟨(.store 4 (.var 5) (.loc 2)), none, none⟩]
def c11_5 : List CO := [⟨(.mov (.var 3)), none, none⟩,
 ⟨(.mov (.var 4)), none, none⟩,
 ⟨(.load true 4 (.var 5)), none, none⟩,
 ⟨(.call false 29 [(.loc 2), (.loc 1), (.loc 0)]), none, none⟩]
def c11_6 : List CO := [⟨(.bin .add (.var 11) (.k (.int .i64 1))), none, none⟩,
 ⟨(.mov (.loc 0)), (some 11), none⟩]
def c11_7 : CC := (.seq (.region [] [] c11_3) (.seq (.cond (.var 12) .skip (.exit 0)) (.seq (.block 1 (.seq (.region [] [] c11_4) (.region [] [] c11_5))) (.region [] [] c11_6))))
def c11_8 : List CO := [⟨(.fa 4 (.var 1)), none, none⟩,
 ⟨(.load false 1 (.loc 0)), (some 13), none⟩,
 ⟨(.len .slice (.var 13)), (some 14), none⟩,
 ⟨(.mov (.k (.int .i64 0))), (some 15), none⟩]
def c11_9 : List CO := [⟨(.bin .lss (.var 15) (.var 14)), (some 16), none⟩]
def c11_10 : List CO := [⟨(.ia 4 (.var 13) (.var 15)), none, none⟩,
 ⟨(.load true 4 (.loc 0)), none, none⟩,
 ⟨(.box 32 (.k (.agg #[(.int .i64 0), (.string ⟨#[]⟩), (.int .i64 0), (.slice none 0 0)]))), (some 6), none⟩,
 ⟨(.store 4 (.var 6) (.loc 1)), none, none⟩]
def c11_11 : List CO := [⟨(.fa 0 (.var 6)), none, none⟩,
 ⟨(.load false 1 (.loc 0)), none, none⟩,
 ⟨(.bin .eql (.loc 0) (.k (.int .i64 2))), none, none⟩,
 ⟨(.mov (.loc 0)), none, none⟩,
 ⟨(.fa 1 (.var 6)), none, (some ((.loc 0), true))⟩,
 ⟨(.load false 1 (.loc 0)), none, (some ((.loc 1), true))⟩,
 ⟨(.bin .eql (.loc 0) (.k (.string ⟨#[33]⟩))), none, (some ((.loc 2), true))⟩,
 ⟨(.pick (.loc 3) (.loc 0) (.k (.bool false))), (some 17), none⟩]
def c11_12 : List CO := [⟨(.mov (.var 3)), none, none⟩,
 ⟨(.build [(.int .i64 0), (.int .i64 0), (.int .i64 0), (.string ⟨#[]⟩), (.int .i64 0)] [(0, 1, (.k (.int .i64 22)))]), none, none⟩,
 ⟨(.call false 30 [(.loc 1), (.loc 0)]), none, none⟩]
def c11_13 : List CO := [⟨(.fa 3 (.var 6)), none, none⟩,
 ⟨(.load false 1 (.loc 0)), (some 18), none⟩,
 ⟨(.len .slice (.var 18)), (some 19), none⟩,
 ⟨(.mov (.k (.int .i64 0))), (some 20), none⟩]
def c11_14 : List CO := [⟨(.bin .lss (.var 20) (.var 19)), (some 21), none⟩]
def c11_15 : List CO := [⟨(.mov (.var 20)), none, none⟩,
 ⟨(.ia 4 (.var 18) (.var 20)), none, none⟩,
 ⟨(.load true 4 (.loc 0)), none, none⟩,
 ⟨(.box 32 (.k (.agg #[(.int .i64 0), (.string ⟨#[]⟩), (.int .i64 0), (.slice none 0 0)]))), (some 8), none⟩,
 ⟨(.mov (.loc 3)), (some 7), none⟩,
 ⟨(.store 4 (.var 8) (.loc 2)), none, none⟩]
def c11_16 : List CO := [⟨(.mov (.var 3)), none, none⟩,
 ⟨(.mov (.var 7)), none, none⟩,
 ⟨(.load true 4 (.var 8)), none, none⟩,
 ⟨(.call false 31 [(.loc 2), (.loc 1), (.loc 0)]), none, none⟩]
def c11_17 : List CO := [⟨(.bin .add (.var 20) (.k (.int .i64 1))), none, none⟩,
 ⟨(.mov (.loc 0)), (some 20), none⟩]
def c11_18 : CC := (.seq (.region [] [] c11_14) (.seq (.cond (.var 21) .skip (.exit 4)) (.seq (.block 5 (.seq (.region [] [] c11_15) (.region [] [] c11_16))) (.region [] [] c11_17))))
def c11_19 : List CO := [⟨(.mov (.var 3)), none, none⟩,
 ⟨(.fa 1 (.var 6)), none, none⟩,
 ⟨(.load false 1 (.loc 0)), none, none⟩,
 ⟨(.fa 3 (.var 6)), none, none⟩,
 ⟨(.load false 1 (.loc 0)), none, none⟩,
 ⟨(.len .slice (.loc 0)), none, none⟩,
 ⟨(.build [(.int .i64 0), (.int .i64 0), (.int .i64 0), (.string ⟨#[]⟩), (.int .i64 0)] [(0, 1, (.k (.int .i64 21))), (3, 1, (.loc 3)), (4, 1, (.loc 0))]), none, none⟩,
 ⟨(.call false 30 [(.loc 6), (.loc 0)]), none, none⟩]
def c11_20 : List CO := [⟨(.bin .add (.var 15) (.k (.int .i64 1))), none, none⟩,
 ⟨(.mov (.loc 0)), (some 15), none⟩]
def c11_21 : CC := (.seq (.region [] [] c11_9) (.seq (.cond (.var 16) .skip (.exit 2)) (.seq (.block 3 (.seq (.region [] [] c11_10) (.seq (.seq (.region [] [] c11_11) (.cond (.var 17) (.seq (.region [] [] c11_12) (.exit 3)) .skip)) (.seq (.seq (.region [] [] c11_13) (.block 4 (.loop [false, true, true, true, false, false, true, false, false, false, false, false, false, true, true, true, false, false, true, true, true, false] [] c11_18))) (.region [] [] c11_19))))) (.region [] [] c11_20))))
def c11_22 : List CO := [⟨(.mov (.var 3)), none, none⟩,
 ⟨(.build [(.int .i64 0), (.int .i64 0), (.int .i64 0), (.string ⟨#[]⟩), (.int .i64 0)] [(0, 1, (.k (.int .i64 23)))]), none, none⟩,
 ⟨(.call false 30 [(.loc 1), (.loc 0)]), none, none⟩]
def c11_23 : List CO := [⟨(.fa 0 (.var 1)), none, none⟩,
 ⟨(.fa 1 (.loc 0)), none, none⟩,
 ⟨(.load false 1 (.loc 0)), none, none⟩,
 ⟨(.fa 0 (.var 1)), none, none⟩,
 ⟨(.fa 3 (.loc 0)), none, none⟩,
 ⟨(.load false 1 (.loc 0)), none, none⟩,
 ⟨(.len .slice (.loc 0)), none, none⟩,
 ⟨(.fa 5 (.var 1)), none, none⟩,
 ⟨(.load false 1 (.loc 0)), none, none⟩,
 ⟨(.mov (.var 3)), none, none⟩,
 ⟨(.nilchk (.loc 0)), none, none⟩,
 ⟨(.fa 0 (.loc 0)), none, none⟩,
 ⟨(.load false 1 (.loc 0)), none, none⟩,
 ⟨(.build [(.string ⟨#[]⟩), (.int .i64 0), (.int .i64 0), (.slice none 0 0)] [(0, 1, (.loc 10)), (1, 1, (.loc 6)), (2, 1, (.loc 4)), (3, 1, (.loc 0))]), none, none⟩,
 ⟨(.store 4 (.var 2) (.loc 0)), none, none⟩]
def c11 : CFun := ⟨1, 22, (.seq (.region [] [] c11_0) (.seq (.region [] [] c11_1) (.seq (.seq (.region [.ap 3 0 41 5, .ap 3 1 2 1] [] c11_2) (.block 0 (.loop [false, true, true, true, false, false, false, false, false, true, true, true, false, false, false, false, false, false, false, false, false, false] [] c11_7))) (.seq (.seq (.region [] [] c11_8) (.block 2 (.loop [false, true, true, true, false, false, false, false, false, false, false, false, false, true, true, true, false, false, false, false, false, false] [] c11_21))) (.seq (.region [] [] c11_22) (.seq (.region [] [] c11_23) .ret)))))), [.cell 2 true 4]⟩
theorem ok11 : CodeOk Tryd.prog T 11 c11 := ⟨⟨Tryd.f11, Hints.of [(2, [.ap 3 0 41 5, .ap 3 1 2 1])] [] [(0, [false, true, true, true, false, false, false, false, false, true, true, true, false, false, false, false, false, false, false, false, false, false], []), (2, [false, true, true, true, false, false, false, false, false, false, false, false, false, true, true, true, false, false, false, false, false, false], []), (4, [false, true, true, true, false, false, true, false, false, false, false, false, false, true, true, true, false, false, true, true, true, false], [])], [0, 1, 2, 3, 4, 5, 7, 8, 9, 14, 15, 16, 17, 27, 28, 29, 30, 40, 45, 46, 47, 48], Tryd.func11, by kernel_rfl, by kernel_rfl⟩⟩

def c12_0 : List CO := [⟨(.mov (.k (.bool false))), (some 1), none⟩]
def c12_1 : List CO := [⟨(.mov (.var 0)), none, none⟩,
 ⟨(.len .string (.loc 0)), none, none⟩,
 ⟨(.bin .leq (.loc 0) (.k (.int .i64 255))), none, none⟩,
 ⟨(.mov (.loc 0)), none, none⟩,
 ⟨(.mov (.var 0)), none, (some ((.loc 0), true))⟩,
 ⟨(.call true 32 [(.loc 0)]), none, (some ((.loc 1), true))⟩,
 ⟨(.pick (.loc 2) (.loc 0) (.k (.bool false))), none, none⟩,
 ⟨(.mov (.loc 0)), (some 1), none⟩]
def c12 : CFun := ⟨1, 2, (.seq (.region [] [] c12_0) (.seq (.region [] [] c12_1) .ret)), [.var 1]⟩
theorem ok12 : CodeOk Tryd.prog T 12 c12 := ⟨⟨Tryd.f12, Hints.of [] [] [], [0, 2], Tryd.func12, by kernel_rfl, by kernel_rfl⟩⟩

def c13_0 : List CO := [⟨(.mov (.k (.int .i64 0))), (some 1), none⟩,
 ⟨(.mov (.k (.int .i64 0))), (some 2), none⟩,
 ⟨(.mov (.k (.bool false))), (some 3), none⟩]
def c13_1 : List CO := [⟨(.mov (.var 0)), none, none⟩,
 ⟨(.bin .lss (.loc 0) (.k (.int .i64 1))), none, none⟩,
 ⟨(.mov (.loc 0)), none, none⟩,
 ⟨(.mov (.var 0)), none, (some ((.loc 0), false))⟩,
 ⟨(.bin .gtr (.loc 0) (.k (.int .i64 23))), none, (some ((.loc 1), false))⟩,
 ⟨(.pick (.loc 2) (.k (.bool true)) (.loc 0)), (some 4), none⟩]
def c13_2 : List CO := [⟨(.mov (.k (.int .i64 0))), (some 1), none⟩,
 ⟨(.mov (.k (.int .i64 0))), (some 2), none⟩,
 ⟨(.mov (.k (.bool false))), (some 3), none⟩]
def c13_3 : List CO := [⟨(.mov (.var 0)), none, none⟩,
 ⟨(.bin .geq (.loc 0) (.k (.int .i64 21))), (some 5), none⟩]
def c13_4 : List CO := [⟨(.mov (.var 0)), none, none⟩,
 ⟨(.bin .sub (.loc 0) (.k (.int .i64 21))), none, none⟩,
 ⟨(.mov (.k (.int .i64 4))), (some 1), none⟩,
 ⟨(.mov (.loc 1)), (some 2), none⟩,
 ⟨(.mov (.k (.bool true))), (some 3), none⟩]
def c13_5 : List CO := [⟨(.mov (.var 0)), none, none⟩,
 ⟨(.bin .sub (.loc 0) (.k (.int .i64 1))), none, none⟩,
 ⟨(.bin .quo (.loc 0) (.k (.int .i64 5))), none, none⟩,
 ⟨(.mov (.var 0)), none, none⟩,
 ⟨(.bin .sub (.loc 0) (.k (.int .i64 1))), none, none⟩,
 ⟨(.bin .rem (.loc 0) (.k (.int .i64 5))), none, none⟩,
 ⟨(.mov (.loc 3)), (some 1), none⟩,
 ⟨(.mov (.loc 1)), (some 2), none⟩,
 ⟨(.mov (.k (.bool true))), (some 3), none⟩]
def c13 : CFun := ⟨1, 6, (.seq (.region [] [] c13_0) (.seq (.seq (.region [] [] c13_1) (.cond (.var 4) (.seq (.region [] [] c13_2) .ret) .skip)) (.seq (.seq (.region [] [] c13_3) (.cond (.var 5) (.seq (.region [] [] c13_4) .ret) .skip)) (.seq (.region [] [] c13_5) .ret)))), [.var 1, .var 2, .var 3]⟩
theorem ok13 : CodeOk Tryd.prog T 13 c13 := ⟨⟨Tryd.f13, Hints.of [] [] [], [0, 2, 3, 4, 10, 12], Tryd.func13, by kernel_rfl, by kernel_rfl⟩⟩

def c14_0 : List CO := [⟨(.box 41 (.var 3)), (some 4), none⟩,
 ⟨(.mov (.k (.bool false))), (some 5), none⟩]
def c14_1 : List CO := [⟨(.mov (.var 1)), (some 6), none⟩]
def c14_2 : List CO := [⟨(.bin .eql (.var 6) (.k (.int .i64 0))), none, none⟩,
 ⟨(.mov (.loc 0)), (some 7), none⟩]
def c14_3 : List CO := [⟨(.mov (.var 0)), none, none⟩,
 ⟨(.nilchk (.loc 0)), none, none⟩,
 ⟨(.fa 9 (.loc 0)), none, none⟩,
 ⟨(.load false 1 (.loc 0)), none, none⟩,
 ⟨(.mov (.loc 0)), none, none⟩,
 ⟨(.mov (.var 0)), none, (some ((.loc 0), true))⟩,
 ⟨(.nilchk (.loc 0)), none, (some ((.loc 1), true))⟩,
 ⟨(.fa 6 (.loc 0)), none, (some ((.loc 2), true))⟩,
 ⟨(.load false 1 (.loc 0)), none, (some ((.loc 3), true))⟩,
 ⟨(.bin .eql (.loc 0) (.k (.int .i64 0))), none, (some ((.loc 4), true))⟩,
 ⟨(.pick (.loc 5) (.loc 0) (.k (.bool false))), none, none⟩,
 ⟨(.mov (.loc 0)), none, none⟩,
 ⟨(.mov (.var 0)), none, (some ((.loc 0), true))⟩,
 ⟨(.nilchk (.loc 0)), none, (some ((.loc 1), true))⟩,
 ⟨(.fa 4 (.loc 0)), none, (some ((.loc 2), true))⟩,
 ⟨(.load false 1 (.loc 0)), none, (some ((.loc 3), true))⟩,
 ⟨(.fa 1 (.var 4)), none, (some ((.loc 4), true))⟩,
 ⟨(.load false 1 (.loc 0)), none, (some ((.loc 5), true))⟩,
 ⟨(.lookup (.int .i64) (.bool false) false (.loc 2) (.loc 0)), none, (some ((.loc 6), true))⟩,
 ⟨(.pick (.loc 7) (.loc 0) (.k (.bool false))), none, none⟩,
 ⟨(.mov (.loc 0)), (some 5), none⟩]
def c14_4 : List CO := [⟨(.bin .eql (.var 6) (.k (.int .i64 1))), none, none⟩,
 ⟨(.mov (.loc 0)), (some 8), none⟩]
def c14_5 : List CO := [⟨(.bin .eql (.var 6) (.k (.int .i64 3))), none, none⟩,
 ⟨(.mov (.loc 0)), (some 8), none⟩]
def c14_6 : List CO := [⟨(.mov (.var 0)), none, none⟩,
 ⟨(.nilchk (.loc 0)), none, none⟩,
 ⟨(.fa 6 (.loc 0)), none, none⟩,
 ⟨(.load false 1 (.loc 0)), none, none⟩,
 ⟨(.bin .gtr (.loc 0) (.k (.int .i64 0))), none, none⟩,
 ⟨(.mov (.loc 0)), none, none⟩,
 ⟨(.mov (.var 0)), none, (some ((.loc 0), true))⟩,
 ⟨(.nilchk (.loc 0)), none, (some ((.loc 1), true))⟩,
 ⟨(.fa 7 (.loc 0)), none, (some ((.loc 2), true))⟩,
 ⟨(.load false 1 (.loc 0)), none, (some ((.loc 3), true))⟩,
 ⟨(.mov (.var 1)), none, (some ((.loc 4), true))⟩,
 ⟨(.bin .sub (.loc 0) (.k (.int .i64 1))), none, (some ((.loc 5), true))⟩,
 ⟨(.bin .eql (.loc 2) (.loc 0)), none, (some ((.loc 6), true))⟩,
 ⟨(.pick (.loc 7) (.loc 0) (.k (.bool false))), none, none⟩,
 ⟨(.mov (.loc 0)), (some 5), none⟩]
def c14_7 : List CO := [⟨(.bin .eql (.var 6) (.k (.int .i64 2))), none, none⟩,
 ⟨(.mov (.loc 0)), (some 9), none⟩]
def c14_8 : List CO := [⟨(.mov (.var 0)), none, none⟩,
 ⟨(.nilchk (.loc 0)), none, none⟩,
 ⟨(.fa 6 (.loc 0)), none, none⟩,
 ⟨(.load false 1 (.loc 0)), none, none⟩,
 ⟨(.bin .eql (.loc 0) (.k (.int .i64 0))), none, none⟩,
 ⟨(.mov (.loc 0)), none, none⟩,
 ⟨(.fa 1 (.var 4)), none, (some ((.loc 0), true))⟩,
 ⟨(.load false 1 (.loc 0)), none, (some ((.loc 1), true))⟩,
 ⟨(.bin .geq (.loc 0) (.k (.int .i64 0))), none, (some ((.loc 2), true))⟩,
 ⟨(.pick (.loc 3) (.loc 0) (.k (.bool false))), none, none⟩,
 ⟨(.mov (.loc 0)), none, none⟩,
 ⟨(.fa 1 (.var 4)), none, (some ((.loc 0), true))⟩,
 ⟨(.load false 1 (.loc 0)), none, (some ((.loc 1), true))⟩,
 ⟨(.bin .lss (.loc 0) (.k (.int .i64 16))), none, (some ((.loc 2), true))⟩,
 ⟨(.mov (.loc 0)), none, (some ((.loc 3), true))⟩,
 ⟨(.mov (.var 2)), none, (some ((.loc 0), false))⟩,
 ⟨(.bin .eql (.loc 0) (.k (.int .i64 4))), none, (some ((.loc 1), false))⟩,
 ⟨(.pick (.loc 2) (.k (.bool true)) (.loc 0)), none, (some ((.loc 6), true))⟩,
 ⟨(.pick (.loc 7) (.loc 0) (.k (.bool false))), none, none⟩,
 ⟨(.mov (.loc 0)), none, none⟩,
 ⟨(.mov (.var 0)), none, (some ((.loc 0), true))⟩,
 ⟨(.nilchk (.loc 0)), none, (some ((.loc 1), true))⟩,
 ⟨(.fa 9 (.loc 0)), none, (some ((.loc 2), true))⟩,
 ⟨(.load false 1 (.loc 0)), none, (some ((.loc 3), true))⟩,
 ⟨(.mov (.loc 0)), none, (some ((.loc 4), true))⟩,
 ⟨(.mov (.var 0)), none, (some ((.loc 0), false))⟩,
 ⟨(.nilchk (.loc 0)), none, (some ((.loc 1), false))⟩,
 ⟨(.fa 4 (.loc 0)), none, (some ((.loc 2), false))⟩,
 ⟨(.load false 1 (.loc 0)), none, (some ((.loc 3), false))⟩,
 ⟨(.fa 1 (.var 4)), none, (some ((.loc 4), false))⟩,
 ⟨(.load false 1 (.loc 0)), none, (some ((.loc 5), false))⟩,
 ⟨(.lookup (.int .i64) (.bool false) false (.loc 2) (.loc 0)), none, (some ((.loc 6), false))⟩,
 ⟨(.un .not (.loc 0)), none, (some ((.loc 7), false))⟩,
 ⟨(.pick (.loc 8) (.k (.bool true)) (.loc 0)), none, (some ((.loc 13), true))⟩,
 ⟨(.pick (.loc 14) (.loc 0) (.k (.bool false))), none, none⟩,
 ⟨(.mov (.loc 0)), (some 5), none⟩]
def c14_9 : List CO := [⟨(.mov (.var 0)), none, none⟩,
 ⟨(.nilchk (.loc 0)), none, none⟩,
 ⟨(.fa 6 (.loc 0)), none, none⟩,
 ⟨(.load false 1 (.loc 0)), none, none⟩,
 ⟨(.bin .eql (.loc 0) (.k (.int .i64 0))), none, none⟩,
 ⟨(.mov (.loc 0)), (some 5), none⟩]
def c14 : CFun := ⟨4, 10, (.seq (.region [] [] c14_0) (.seq (.seq (.region [] [] c14_1) (.block 0 (.seq (.region [] [] c14_2) (.cond (.var 7) (.seq (.region [] [] c14_3) .ret) (.seq (.seq (.region [] [] c14_4) (.cond (.var 8) .skip (.region [] [] c14_5))) (.cond (.var 8) (.seq (.region [] [] c14_6) .ret) (.seq (.region [] [] c14_7) (.cond (.var 9) (.seq (.region [] [] c14_8) .ret) .skip)))))))) (.seq (.region [] [] c14_9) .ret))), [.var 5]⟩
theorem ok14 : CodeOk Tryd.prog T 14 c14 := ⟨⟨Tryd.f14, Hints.of [] [] [], [0, 1, 2, 3, 7, 8, 9, 10, 32, 49], Tryd.func14, by kernel_rfl, by kernel_rfl⟩⟩

def c15_0 : List CO := [⟨(.box 41 (.var 3)), (some 4), none⟩,
 ⟨(.mov (.k (.bool false))), (some 5), none⟩]
def c15_1 : List CO := [⟨(.mov (.var 1)), none, none⟩,
 ⟨(.bin .eql (.loc 0) (.k (.int .i64 4))), none, none⟩,
 ⟨(.mov (.loc 0)), none, none⟩,
 ⟨(.fa 0 (.var 4)), none, (some ((.loc 0), true))⟩,
 ⟨(.load false 1 (.loc 0)), none, (some ((.loc 1), true))⟩,
 ⟨(.bin .eql (.loc 0) (.k (.int .i64 21))), none, (some ((.loc 2), true))⟩,
 ⟨(.pick (.loc 3) (.loc 0) (.k (.bool false))), none, none⟩,
 ⟨(.mov (.loc 0)), (some 7), none⟩]
def c15_2 : List CO := [⟨(.fa 4 (.var 4)), none, none⟩,
 ⟨(.load false 1 (.loc 0)), none, none⟩,
 ⟨(.bin .lss (.loc 0) (.k (.int .i64 0))), none, none⟩,
 ⟨(.mov (.loc 0)), none, none⟩,
 ⟨(.fa 4 (.var 4)), none, (some ((.loc 0), false))⟩,
 ⟨(.load false 1 (.loc 0)), none, (some ((.loc 1), false))⟩,
 ⟨(.bin .gtr (.loc 0) (.k (.int .i64 16))), none, (some ((.loc 2), false))⟩,
 ⟨(.pick (.loc 3) (.k (.bool true)) (.loc 0)), none, none⟩,
 ⟨(.mov (.loc 0)), none, none⟩,
 ⟨(.mov (.var 0)), none, (some ((.loc 0), false))⟩,
 ⟨(.nilchk (.loc 0)), none, (some ((.loc 1), false))⟩,
 ⟨(.fa 9 (.loc 0)), none, (some ((.loc 2), false))⟩,
 ⟨(.load false 1 (.loc 0)), none, (some ((.loc 3), false))⟩,
 ⟨(.mov (.loc 0)), none, (some ((.loc 4), false))⟩,
 ⟨(.fa 4 (.var 4)), none, (some ((.loc 0), true))⟩,
 ⟨(.load false 1 (.loc 0)), none, (some ((.loc 1), true))⟩,
 ⟨(.bin .gtr (.loc 0) (.k (.int .i64 0))), none, (some ((.loc 2), true))⟩,
 ⟨(.pick (.loc 3) (.loc 0) (.k (.bool false))), none, (some ((.loc 8), false))⟩,
 ⟨(.pick (.loc 9) (.k (.bool true)) (.loc 0)), (some 8), none⟩]
def c15_3 : List CO := [⟨(.mov (.k (.bool false))), (some 5), none⟩]
def c15_4 : List CO := [⟨(.fa 4 (.var 4)), none, none⟩,
 ⟨(.load false 1 (.loc 0)), (some 9), none⟩,
 ⟨(.mov (.k (.int .i64 0))), (some 10), none⟩]
def c15_5 : List CO := [⟨(.bin .lss (.var 10) (.var 9)), (some 11), none⟩]
def c15_6 : List CO := [⟨(.mov (.var 10)), none, none⟩,
 ⟨(.mov (.loc 0)), (some 6), none⟩]
def c15_7 : List CO := [⟨(.mov (.var 0)), none, none⟩,
 ⟨(.nilchk (.loc 0)), none, none⟩,
 ⟨(.fa 4 (.loc 0)), none, none⟩,
 ⟨(.load false 1 (.loc 0)), none, none⟩,
 ⟨(.mov (.var 6)), none, none⟩,
 ⟨(.lookup (.int .i64) (.bool false) false (.loc 1) (.loc 0)), none, none⟩,
 ⟨(.un .not (.loc 0)), (some 12), none⟩]
def c15_8 : List CO := [⟨(.mov (.k (.bool false))), (some 5), none⟩]
def c15_9 : List CO := [⟨(.bin .add (.var 10) (.k (.int .i64 1))), none, none⟩,
 ⟨(.mov (.loc 0)), (some 10), none⟩]
def c15_10 : CC := (.seq (.region [] [] c15_5) (.seq (.cond (.var 11) .skip (.exit 1)) (.seq (.block 2 (.seq (.region [] [] c15_6) (.seq (.region [] [] c15_7) (.cond (.var 12) (.seq (.region [] [] c15_8) .ret) .skip)))) (.region [] [] c15_9))))
def c15_11 : List CO := [⟨(.mov (.var 1)), none, none⟩,
 ⟨(.bin .eql (.loc 0) (.k (.int .i64 4))), none, none⟩,
 ⟨(.mov (.loc 0)), (some 13), none⟩]
def c15_12 : List CO := [⟨(.mov (.var 2)), none, none⟩,
 ⟨(.bin .eql (.loc 0) (.k (.int .i64 2))), none, none⟩,
 ⟨(.mov (.loc 0)), (some 13), none⟩]
def c15_13 : List CO := [⟨(.mov (.var 2)), none, none⟩,
 ⟨(.bin .eql (.loc 0) (.k (.int .i64 3))), none, none⟩,
 ⟨(.mov (.loc 0)), (some 13), none⟩]
def c15_14 : List CO := [⟨(.mov (.var 2)), none, none⟩,
 ⟨(.bin .eql (.loc 0) (.k (.int .i64 0))), none, none⟩,
 ⟨(.mov (.loc 0)), (some 14), none⟩]
def c15_15 : List CO := [⟨(.fa 2 (.var 4)), none, none⟩,
 ⟨(.load false 1 (.loc 0)), none, none⟩,
 ⟨(.bin .geq (.loc 0) (.k (.int .i64 0))), none, none⟩,
 ⟨(.mov (.loc 0)), none, none⟩,
 ⟨(.fa 2 (.var 4)), none, (some ((.loc 0), true))⟩,
 ⟨(.load false 1 (.loc 0)), none, (some ((.loc 1), true))⟩,
 ⟨(.mov (.var 0)), none, (some ((.loc 2), true))⟩,
 ⟨(.nilchk (.loc 0)), none, (some ((.loc 3), true))⟩,
 ⟨(.fa 0 (.loc 0)), none, (some ((.loc 4), true))⟩,
 ⟨(.fa 2 (.loc 0)), none, (some ((.loc 5), true))⟩,
 ⟨(.load false 1 (.loc 0)), none, (some ((.loc 6), true))⟩,
 ⟨(.bin .lss (.loc 5) (.loc 0)), none, (some ((.loc 7), true))⟩,
 ⟨(.pick (.loc 8) (.loc 0) (.k (.bool false))), none, none⟩,
 ⟨(.mov (.loc 0)), none, none⟩,
 ⟨(.mov (.var 0)), none, (some ((.loc 0), true))⟩,
 ⟨(.nilchk (.loc 0)), none, (some ((.loc 1), true))⟩,
 ⟨(.fa 5 (.loc 0)), none, (some ((.loc 2), true))⟩,
 ⟨(.load false 1 (.loc 0)), none, (some ((.loc 3), true))⟩,
 ⟨(.fa 2 (.var 4)), none, (some ((.loc 4), true))⟩,
 ⟨(.load false 1 (.loc 0)), none, (some ((.loc 5), true))⟩,
 ⟨(.lookup (.int .i64) (.bool false) false (.loc 2) (.loc 0)), none, (some ((.loc 6), true))⟩,
 ⟨(.un .not (.loc 0)), none, (some ((.loc 7), true))⟩,
 ⟨(.pick (.loc 8) (.loc 0) (.k (.bool false))), none, none⟩,
 ⟨(.mov (.loc 0)), (some 5), none⟩]
def c15_16 : List CO := [⟨(.mov (.var 2)), none, none⟩,
 ⟨(.bin .eql (.loc 0) (.k (.int .i64 1))), none, none⟩,
 ⟨(.mov (.loc 0)), (some 15), none⟩]
def c15_17 : List CO := [⟨(.mov (.var 0)), none, none⟩,
 ⟨(.nilchk (.loc 0)), none, none⟩,
 ⟨(.fa 5 (.loc 0)), none, none⟩,
 ⟨(.load false 1 (.loc 0)), none, none⟩,
 ⟨(.fa 2 (.var 4)), none, none⟩,
 ⟨(.load false 1 (.loc 0)), none, none⟩,
 ⟨(.lookup (.int .i64) (.bool false) false (.loc 2) (.loc 0)), none, none⟩,
 ⟨(.mov (.loc 0)), (some 5), none⟩]
def c15_18 : List CO := [⟨(.mov (.var 1)), none, none⟩,
 ⟨(.bin .eql (.loc 0) (.k (.int .i64 0))), none, none⟩,
 ⟨(.mov (.loc 0)), (some 16), none⟩]
def c15_19 : List CO := [⟨(.mov (.var 1)), none, none⟩,
 ⟨(.bin .eql (.loc 0) (.k (.int .i64 2))), none, none⟩,
 ⟨(.mov (.loc 0)), (some 16), none⟩]
def c15_20 : List CO := [⟨(.fa 4 (.var 4)), none, none⟩,
 ⟨(.load false 1 (.loc 0)), none, none⟩,
 ⟨(.bin .geq (.loc 0) (.k (.int .i64 1))), none, none⟩,
 ⟨(.mov (.loc 0)), none, none⟩,
 ⟨(.fa 4 (.var 4)), none, (some ((.loc 0), true))⟩,
 ⟨(.load false 1 (.loc 0)), none, (some ((.loc 1), true))⟩,
 ⟨(.bin .leq (.loc 0) (.k (.int .i64 16))), none, (some ((.loc 2), true))⟩,
 ⟨(.pick (.loc 3) (.loc 0) (.k (.bool false))), none, none⟩,
 ⟨(.mov (.loc 0)), (some 5), none⟩]
def c15_21 : List CO := [⟨(.fa 2 (.var 4)), none, none⟩,
 ⟨(.load false 1 (.loc 0)), none, none⟩,
 ⟨(.bin .geq (.loc 0) (.k (.int .i64 16))), none, none⟩,
 ⟨(.mov (.loc 0)), none, none⟩,
 ⟨(.mov (.var 0)), none, (some ((.loc 0), true))⟩,
 ⟨(.nilchk (.loc 0)), none, (some ((.loc 1), true))⟩,
 ⟨(.fa 4 (.loc 0)), none, (some ((.loc 2), true))⟩,
 ⟨(.load false 1 (.loc 0)), none, (some ((.loc 3), true))⟩,
 ⟨(.fa 2 (.var 4)), none, (some ((.loc 4), true))⟩,
 ⟨(.load false 1 (.loc 0)), none, (some ((.loc 5), true))⟩,
 ⟨(.lookup (.int .i64) (.bool false) false (.loc 2) (.loc 0)), none, (some ((.loc 6), true))⟩,
 ⟨(.mov (.var 1)), none, (some ((.loc 7), true))⟩,
 ⟨(.bin .eql (.loc 0) (.k (.int .i64 3))), none, (some ((.loc 8), true))⟩,
 ⟨(.eqv .bool false (.loc 2) (.loc 0)), none, (some ((.loc 9), true))⟩,
 ⟨(.pick (.loc 10) (.loc 0) (.k (.bool false))), none, none⟩,
 ⟨(.mov (.loc 0)), (some 5), none⟩]
def c15_22 : List CO := [⟨(.mov (.k (.bool true))), (some 5), none⟩]
def c15 : CFun := ⟨4, 17, (.seq (.region [] [] c15_0) (.seq (.block 0 (.seq (.region [] [] c15_1) (.cond (.var 7) (.seq (.seq (.region [] [] c15_2) (.cond (.var 8) (.seq (.region [] [] c15_3) .ret) .skip)) (.seq (.region [] [] c15_4) (.block 1 (.loop [true, false, false, false, false, false, false, false, false, true, true, false, false, false, false, false, false] [] c15_10)))) (.seq (.seq (.region [] [] c15_11) (.cond (.var 13) .skip (.seq (.region [] [] c15_12) (.cond (.var 13) .skip (.region [] [] c15_13))))) (.cond (.var 13) .skip (.seq (.region [] [] c15_14) (.cond (.var 14) (.seq (.region [] [] c15_15) .ret) (.seq (.region [] [] c15_16) (.cond (.var 15) (.seq (.region [] [] c15_17) .ret) (.seq (.seq (.region [] [] c15_18) (.cond (.var 16) .skip (.region [] [] c15_19))) (.cond (.var 16) (.seq (.region [] [] c15_20) .ret) (.seq (.region [] [] c15_21) .ret)))))))))))) (.seq (.region [] [] c15_22) .ret))), [.var 5]⟩
theorem ok15 : CodeOk Tryd.prog T 15 c15 := ⟨⟨Tryd.f15, Hints.of [] [] [(1, [true, false, false, false, false, false, false, false, false, true, true, false, false, false, false, false, false], [])], [0, 1, 2, 3, 7, 8, 9, 25, 51, 53, 54, 55, 63, 65, 72, 98, 108], Tryd.func15, by kernel_rfl, by kernel_rfl⟩⟩

def c16_0 : List CO := [⟨(.box 41 (.var 3)), (some 4), none⟩]
def c16_1 : List CO := [⟨(.mov (.var 0)), none, none⟩,
 ⟨(.nilchk (.loc 0)), none, none⟩,
 ⟨(.fa 9 (.loc 0)), none, none⟩,
 ⟨(.load false 1 (.loc 0)), none, none⟩,
 ⟨(.mov (.loc 0)), none, none⟩,
 ⟨(.mov (.var 1)), none, (some ((.loc 0), true))⟩,
 ⟨(.bin .eql (.loc 0) (.k (.int .i64 2))), none, (some ((.loc 1), true))⟩,
 ⟨(.mov (.loc 0)), none, (some ((.loc 2), true))⟩,
 ⟨(.mov (.var 1)), none, (some ((.loc 0), false))⟩,
 ⟨(.bin .eql (.loc 0) (.k (.int .i64 4))), none, (some ((.loc 1), false))⟩,
 ⟨(.mov (.loc 0)), none, (some ((.loc 2), false))⟩,
 ⟨(.fa 0 (.var 4)), none, (some ((.loc 0), true))⟩,
 ⟨(.load false 1 (.loc 0)), none, (some ((.loc 1), true))⟩,
 ⟨(.bin .neq (.loc 0) (.k (.int .i64 23))), none, (some ((.loc 2), true))⟩,
 ⟨(.pick (.loc 3) (.loc 0) (.k (.bool false))), none, (some ((.loc 6), false))⟩,
 ⟨(.pick (.loc 7) (.k (.bool true)) (.loc 0)), none, (some ((.loc 10), true))⟩,
 ⟨(.pick (.loc 11) (.loc 0) (.k (.bool false))), (some 5), none⟩]
def c16_2 : List CO := [⟨(.mov (.var 0)), none, none⟩,
 ⟨(.nilchk (.loc 0)), none, none⟩,
 ⟨(.fa 9 (.loc 0)), none, none⟩,
 ⟨(.store 1 (.loc 0) (.k (.bool false))), none, none⟩]
def c16_3 : List CO := [⟨(.mov (.var 0)), none, none⟩,
 ⟨(.nilchk (.loc 0)), none, none⟩,
 ⟨(.fa 4 (.loc 0)), none, none⟩,
 ⟨(.load false 1 (.loc 0)), none, none⟩,
 ⟨(.clrmap (.loc 0)), none, none⟩]
def c16_4 : List CO := [⟨(.mov (.var 1)), none, none⟩,
 ⟨(.bin .eql (.loc 0) (.k (.int .i64 4))), none, none⟩,
 ⟨(.mov (.loc 0)), (some 6), none⟩]
def c16_5 : List CO := [⟨(.fa 0 (.var 4)), none, none⟩,
 ⟨(.load false 1 (.loc 0)), none, none⟩,
 ⟨(.bin .eql (.loc 0) (.k (.int .i64 21))), (some 7), none⟩]
def c16_6 : List CO := [⟨(.mov (.var 0)), none, none⟩,
 ⟨(.nilchk (.loc 0)), none, none⟩,
 ⟨(.fa 4 (.loc 0)), none, none⟩,
 ⟨(.load false 1 (.loc 0)), none, none⟩,
 ⟨(.clrmap (.loc 0)), none, none⟩]
def c16_7 : List CO := [⟨(.mov (.var 0)), none, none⟩,
 ⟨(.fa 0 (.var 4)), none, none⟩,
 ⟨(.load false 1 (.loc 0)), none, none⟩,
 ⟨(.bin .eql (.loc 0) (.k (.int .i64 23))), none, none⟩,
 ⟨(.nilchk (.loc 3)), none, none⟩,
 ⟨(.fa 10 (.loc 0)), none, none⟩,
 ⟨(.store 1 (.loc 0) (.loc 2)), none, none⟩]
def c16_8 : List CO := [⟨(.mov (.var 2)), none, none⟩,
 ⟨(.bin .eql (.loc 0) (.k (.int .i64 0))), none, none⟩,
 ⟨(.mov (.loc 0)), (some 8), none⟩]
def c16_9 : List CO := [⟨(.mov (.var 0)), none, none⟩,
 ⟨(.nilchk (.loc 0)), none, none⟩,
 ⟨(.fa 5 (.loc 0)), none, none⟩,
 ⟨(.load false 1 (.loc 0)), none, none⟩,
 ⟨(.fa 2 (.var 4)), none, none⟩,
 ⟨(.load false 1 (.loc 0)), none, none⟩,
 ⟨(.mapupd (.int .i64) (.loc 2) (.loc 0) (.k (.bool true))), none, none⟩]
def c16_10 : List CO := [⟨(.mov (.var 2)), none, none⟩,
 ⟨(.bin .eql (.loc 0) (.k (.int .i64 4))), none, none⟩,
 ⟨(.mov (.loc 0)), none, none⟩,
 ⟨(.mov (.var 1)), none, (some ((.loc 0), true))⟩,
 ⟨(.bin .eql (.loc 0) (.k (.int .i64 1))), none, (some ((.loc 1), true))⟩,
 ⟨(.pick (.loc 2) (.loc 0) (.k (.bool false))), none, none⟩,
 ⟨(.mov (.loc 0)), (some 9), none⟩]
def c16_11 : List CO := [⟨(.mov (.var 0)), none, none⟩,
 ⟨(.nilchk (.loc 0)), none, none⟩,
 ⟨(.fa 4 (.loc 0)), none, none⟩,
 ⟨(.load false 1 (.loc 0)), none, none⟩,
 ⟨(.fa 2 (.var 4)), none, none⟩,
 ⟨(.load false 1 (.loc 0)), none, none⟩,
 ⟨(.mapupd (.int .i64) (.loc 2) (.loc 0) (.k (.bool true))), none, none⟩]
def c16_12 : List CO := [⟨(.mov (.var 2)), none, none⟩,
 ⟨(.bin .eql (.loc 0) (.k (.int .i64 4))), none, none⟩,
 ⟨(.mov (.loc 0)), none, none⟩,
 ⟨(.mov (.var 1)), none, (some ((.loc 0), true))⟩,
 ⟨(.bin .neq (.loc 0) (.k (.int .i64 3))), none, (some ((.loc 1), true))⟩,
 ⟨(.pick (.loc 2) (.loc 0) (.k (.bool false))), none, none⟩,
 ⟨(.mov (.loc 0)), (some 10), none⟩]
def c16_13 : List CO := [⟨(.mov (.var 0)), none, none⟩,
 ⟨(.mov (.var 0)), none, none⟩,
 ⟨(.mov (.var 0)), none, none⟩,
 ⟨(.fa 4 (.var 4)), none, none⟩,
 ⟨(.load false 1 (.loc 0)), none, none⟩,
 ⟨(.mov (.var 1)), none, none⟩,
 ⟨(.fa 1 (.var 4)), none, none⟩,
 ⟨(.load false 1 (.loc 0)), none, none⟩,
 ⟨(.nilchk (.loc 7)), none, none⟩,
 ⟨(.fa 6 (.loc 0)), none, none⟩,
 ⟨(.store 1 (.loc 0) (.loc 5)), none, none⟩,
 ⟨(.nilchk (.loc 9)), none, none⟩,
 ⟨(.fa 7 (.loc 0)), none, none⟩,
 ⟨(.store 1 (.loc 0) (.loc 7)), none, none⟩,
 ⟨(.nilchk (.loc 11)), none, none⟩,
 ⟨(.fa 8 (.loc 0)), none, none⟩,
 ⟨(.store 1 (.loc 0) (.loc 8)), none, none⟩]
def c16_14 : List CO := [⟨(.mov (.var 1)), none, none⟩,
 ⟨(.bin .eql (.loc 0) (.k (.int .i64 2))), none, none⟩,
 ⟨(.mov (.loc 0)), none, none⟩,
 ⟨(.mov (.var 2)), none, (some ((.loc 0), true))⟩,
 ⟨(.bin .neq (.loc 0) (.k (.int .i64 4))), none, (some ((.loc 1), true))⟩,
 ⟨(.pick (.loc 2) (.loc 0) (.k (.bool false))), none, none⟩,
 ⟨(.mov (.loc 0)), (some 11), none⟩]
def c16_15 : List CO := [⟨(.mov (.var 0)), none, none⟩,
 ⟨(.nilchk (.loc 0)), none, none⟩,
 ⟨(.fa 4 (.loc 0)), none, none⟩,
 ⟨(.load false 1 (.loc 0)), none, none⟩,
 ⟨(.fa 1 (.var 4)), none, none⟩,
 ⟨(.load false 1 (.loc 0)), none, none⟩,
 ⟨(.mapupd (.int .i64) (.loc 2) (.loc 0) (.k (.bool true))), none, none⟩]
def c16_16 : List CO := [⟨(.mov (.var 1)), none, none⟩,
 ⟨(.bin .eql (.loc 0) (.k (.int .i64 1))), none, none⟩,
 ⟨(.mov (.loc 0)), (some 12), none⟩]
def c16_17 : List CO := [⟨(.mov (.var 1)), none, none⟩,
 ⟨(.bin .eql (.loc 0) (.k (.int .i64 3))), none, none⟩,
 ⟨(.mov (.loc 0)), (some 12), none⟩]
def c16_18 : List CO := [⟨(.mov (.var 0)), none, none⟩,
 ⟨(.nilchk (.loc 0)), none, none⟩,
 ⟨(.fa 6 (.loc 0)), none, none⟩,
 ⟨(.load false 1 (.loc 0)), none, none⟩,
 ⟨(.bin .sub (.loc 0) (.k (.int .i64 1))), none, none⟩,
 ⟨(.nilchk (.loc 4)), none, none⟩,
 ⟨(.fa 6 (.loc 0)), none, none⟩,
 ⟨(.store 1 (.loc 0) (.loc 2)), none, none⟩]
def c16_19 : List CO := [⟨(.mov (.var 0)), none, none⟩,
 ⟨(.nilchk (.loc 0)), none, none⟩,
 ⟨(.fa 6 (.loc 0)), none, none⟩,
 ⟨(.load false 1 (.loc 0)), none, none⟩,
 ⟨(.bin .eql (.loc 0) (.k (.int .i64 0))), none, none⟩,
 ⟨(.mov (.loc 0)), none, none⟩,
 ⟨(.mov (.var 1)), none, (some ((.loc 0), true))⟩,
 ⟨(.bin .eql (.loc 0) (.k (.int .i64 3))), none, (some ((.loc 1), true))⟩,
 ⟨(.pick (.loc 2) (.loc 0) (.k (.bool false))), (some 13), none⟩]
def c16_20 : List CO := [⟨(.mov (.var 0)), none, none⟩,
 ⟨(.nilchk (.loc 0)), none, none⟩,
 ⟨(.fa 4 (.loc 0)), none, none⟩,
 ⟨(.load false 1 (.loc 0)), none, none⟩,
 ⟨(.mov (.var 0)), none, none⟩,
 ⟨(.nilchk (.loc 0)), none, none⟩,
 ⟨(.fa 8 (.loc 0)), none, none⟩,
 ⟨(.load false 1 (.loc 0)), none, none⟩,
 ⟨(.mapupd (.int .i64) (.loc 4) (.loc 0) (.k (.bool true))), none, none⟩]
def c16 : CFun := ⟨4, 14, (.seq (.region [] [] c16_0) (.seq (.seq (.region [] [] c16_1) (.cond (.var 5) (.seq (.region [] [] c16_2) (.region [] [] c16_3)) .skip)) (.seq (.block 0 (.seq (.region [] [] c16_4) (.cond (.var 6) (.seq (.seq (.region [] [] c16_5) (.cond (.var 7) (.region [] [] c16_6) .skip)) (.seq (.region [] [] c16_7) .ret)) (.seq (.region [] [] c16_8) (.cond (.var 8) (.region [] [] c16_9) (.seq (.region [] [] c16_10) (.cond (.var 9) (.region [] [] c16_11) (.seq (.region [] [] c16_12) (.cond (.var 10) (.region [] [((some 0), 4)] c16_13) .skip))))))))) (.block 1 (.seq (.region [] [] c16_14) (.cond (.var 11) (.region [] [] c16_15) (.seq (.seq (.region [] [] c16_16) (.cond (.var 12) .skip (.region [] [] c16_17))) (.cond (.var 12) (.seq (.region [] [] c16_18) (.seq (.region [] [] c16_19) (.cond (.var 13) (.region [] [] c16_20) .skip))) .skip)))))))), []⟩
theorem ok16 : CodeOk Tryd.prog T 16 c16 := ⟨⟨Tryd.f16, Hints.of [] [(13, [((some 0), 4)])] [], [0, 1, 2, 3, 7, 24, 32, 37, 48, 57, 70, 91, 104, 124], Tryd.func16, by kernel_rfl, by kernel_rfl⟩⟩

def c17_0 : List CO := [⟨(.mov (.k (.bool false))), (some 1), none⟩]
def c17_1 : List CO := [⟨(.mov (.var 0)), none, none⟩,
 ⟨(.len .string (.loc 0)), none, none⟩,
 ⟨(.bin .leq (.loc 0) (.k (.int .i64 255))), none, none⟩,
 ⟨(.mov (.loc 0)), none, none⟩,
 ⟨(.mov (.var 0)), none, (some ((.loc 0), true))⟩,
 ⟨(.call true 32 [(.loc 0)]), none, (some ((.loc 1), true))⟩,
 ⟨(.pick (.loc 2) (.loc 0) (.k (.bool false))), none, none⟩,
 ⟨(.mov (.loc 0)), (some 1), none⟩]
def c17 : CFun := ⟨1, 2, (.seq (.region [] [] c17_0) (.seq (.region [] [] c17_1) .ret)), [.var 1]⟩
theorem ok17 : CodeOk Tryd.prog T 17 c17 := ⟨⟨Tryd.f17, Hints.of [] [] [], [0, 2], Tryd.func17, by kernel_rfl, by kernel_rfl⟩⟩

def c18_0 : List CO := [⟨(.box 41 (.var 1)), (some 2), none⟩,
 ⟨(.mov (.k (.bool false))), (some 3), none⟩]
def c18_1 : List CO := [⟨(.fa 0 (.var 2)), none, none⟩,
 ⟨(.load false 1 (.loc 0)), none, none⟩,
 ⟨(.bin .geq (.loc 0) (.k (.int .i64 1))), none, none⟩,
 ⟨(.mov (.loc 0)), none, none⟩,
 ⟨(.fa 0 (.var 2)), none, (some ((.loc 0), true))⟩,
 ⟨(.load false 1 (.loc 0)), none, (some ((.loc 1), true))⟩,
 ⟨(.bin .leq (.loc 0) (.k (.int .i64 5))), none, (some ((.loc 2), true))⟩,
 ⟨(.pick (.loc 3) (.loc 0) (.k (.bool false))), none, none⟩,
 ⟨(.mov (.loc 0)), (some 5), none⟩]
def c18_2 : List CO := [⟨(.mov (.var 0)), none, none⟩,
 ⟨(.nilchk (.loc 0)), none, none⟩,
 ⟨(.fa 8 (.loc 0)), none, none⟩,
 ⟨(.load false 1 (.loc 0)), none, none⟩,
 ⟨(.mov (.loc 0)), none, none⟩,
 ⟨(.mov (.var 0)), none, (some ((.loc 0), true))⟩,
 ⟨(.nilchk (.loc 0)), none, (some ((.loc 1), true))⟩,
 ⟨(.fa 6 (.loc 0)), none, (some ((.loc 2), true))⟩,
 ⟨(.load false 1 (.loc 0)), none, (some ((.loc 3), true))⟩,
 ⟨(.bin .eql (.loc 0) (.k (.int .i64 0))), none, (some ((.loc 4), true))⟩,
 ⟨(.pick (.loc 5) (.loc 0) (.k (.bool false))), none, none⟩,
 ⟨(.mov (.loc 0)), none, none⟩,
 ⟨(.mov (.var 0)), none, (some ((.loc 0), true))⟩,
 ⟨(.nilchk (.loc 0)), none, (some ((.loc 1), true))⟩,
 ⟨(.fa 4 (.loc 0)), none, (some ((.loc 2), true))⟩,
 ⟨(.load false 1 (.loc 0)), none, (some ((.loc 3), true))⟩,
 ⟨(.fa 1 (.var 2)), none, (some ((.loc 4), true))⟩,
 ⟨(.load false 1 (.loc 0)), none, (some ((.loc 5), true))⟩,
 ⟨(.callf 33 [(.loc 2), (.loc 0)]), none, (some ((.loc 6), true))⟩,
 ⟨(.pick (.loc 7) (.loc 0) (.k (.bool false))), none, none⟩,
 ⟨(.mov (.loc 0)), (some 3), none⟩]
def c18_3 : List CO := [⟨(.fa 0 (.var 2)), none, none⟩,
 ⟨(.load false 1 (.loc 0)), none, none⟩,
 ⟨(.bin .geq (.loc 0) (.k (.int .i64 6))), none, none⟩,
 ⟨(.mov (.loc 0)), none, none⟩,
 ⟨(.fa 0 (.var 2)), none, (some ((.loc 0), true))⟩,
 ⟨(.load false 1 (.loc 0)), none, (some ((.loc 1), true))⟩,
 ⟨(.bin .leq (.loc 0) (.k (.int .i64 10))), none, (some ((.loc 2), true))⟩,
 ⟨(.pick (.loc 3) (.loc 0) (.k (.bool false))), none, none⟩,
 ⟨(.mov (.loc 0)), (some 6), none⟩]
def c18_4 : List CO := [⟨(.mov (.var 0)), none, none⟩,
 ⟨(.nilchk (.loc 0)), none, none⟩,
 ⟨(.fa 6 (.loc 0)), none, none⟩,
 ⟨(.load false 1 (.loc 0)), none, none⟩,
 ⟨(.bin .gtr (.loc 0) (.k (.int .i64 0))), none, none⟩,
 ⟨(.mov (.loc 0)), none, none⟩,
 ⟨(.mov (.var 0)), none, (some ((.loc 0), true))⟩,
 ⟨(.nilchk (.loc 0)), none, (some ((.loc 1), true))⟩,
 ⟨(.fa 7 (.loc 0)), none, (some ((.loc 2), true))⟩,
 ⟨(.load false 1 (.loc 0)), none, (some ((.loc 3), true))⟩,
 ⟨(.pick (.loc 4) (.loc 0) (.k (.bool false))), none, none⟩,
 ⟨(.mov (.loc 0)), (some 3), none⟩]
def c18_5 : List CO := [⟨(.fa 0 (.var 2)), none, none⟩,
 ⟨(.load false 1 (.loc 0)), none, none⟩,
 ⟨(.bin .geq (.loc 0) (.k (.int .i64 11))), none, none⟩,
 ⟨(.mov (.loc 0)), none, none⟩,
 ⟨(.fa 0 (.var 2)), none, (some ((.loc 0), true))⟩,
 ⟨(.load false 1 (.loc 0)), none, (some ((.loc 1), true))⟩,
 ⟨(.bin .leq (.loc 0) (.k (.int .i64 15))), none, (some ((.loc 2), true))⟩,
 ⟨(.pick (.loc 3) (.loc 0) (.k (.bool false))), none, none⟩,
 ⟨(.mov (.loc 0)), (some 7), none⟩]
def c18_6 : List CO := [⟨(.mov (.var 0)), none, none⟩,
 ⟨(.nilchk (.loc 0)), none, none⟩,
 ⟨(.fa 8 (.loc 0)), none, none⟩,
 ⟨(.load false 1 (.loc 0)), none, none⟩,
 ⟨(.un .not (.loc 0)), none, none⟩,
 ⟨(.mov (.loc 0)), none, none⟩,
 ⟨(.mov (.var 0)), none, (some ((.loc 0), true))⟩,
 ⟨(.nilchk (.loc 0)), none, (some ((.loc 1), true))⟩,
 ⟨(.fa 4 (.loc 0)), none, (some ((.loc 2), true))⟩,
 ⟨(.load false 1 (.loc 0)), none, (some ((.loc 3), true))⟩,
 ⟨(.fa 1 (.var 2)), none, (some ((.loc 4), true))⟩,
 ⟨(.load false 1 (.loc 0)), none, (some ((.loc 5), true))⟩,
 ⟨(.callf 33 [(.loc 2), (.loc 0)]), none, (some ((.loc 6), true))⟩,
 ⟨(.pick (.loc 7) (.loc 0) (.k (.bool false))), none, none⟩,
 ⟨(.mov (.loc 0)), (some 4), none⟩]
def c18_7 : List CO := [⟨(.mov (.var 0)), none, none⟩,
 ⟨(.nilchk (.loc 0)), none, none⟩,
 ⟨(.fa 6 (.loc 0)), none, none⟩,
 ⟨(.load false 1 (.loc 0)), none, none⟩,
 ⟨(.bin .eql (.loc 0) (.k (.int .i64 0))), none, none⟩,
 ⟨(.mov (.loc 0)), none, none⟩,
 ⟨(.fa 1 (.var 2)), none, (some ((.loc 0), true))⟩,
 ⟨(.load false 1 (.loc 0)), none, (some ((.loc 1), true))⟩,
 ⟨(.bin .geq (.loc 0) (.k (.int .i64 0))), none, (some ((.loc 2), true))⟩,
 ⟨(.pick (.loc 3) (.loc 0) (.k (.bool false))), none, none⟩,
 ⟨(.mov (.loc 0)), none, none⟩,
 ⟨(.fa 1 (.var 2)), none, (some ((.loc 0), true))⟩,
 ⟨(.load false 1 (.loc 0)), none, (some ((.loc 1), true))⟩,
 ⟨(.bin .lss (.loc 0) (.k (.int .i64 16))), none, (some ((.loc 2), true))⟩,
 ⟨(.mov (.loc 0)), none, (some ((.loc 3), true))⟩,
 ⟨(.fa 0 (.var 2)), none, (some ((.loc 0), false))⟩,
 ⟨(.load false 1 (.loc 0)), none, (some ((.loc 1), false))⟩,
 ⟨(.bin .eql (.loc 0) (.k (.int .i64 15))), none, (some ((.loc 2), false))⟩,
 ⟨(.pick (.loc 3) (.k (.bool true)) (.loc 0)), none, (some ((.loc 7), true))⟩,
 ⟨(.pick (.loc 8) (.loc 0) (.k (.bool false))), none, none⟩,
 ⟨(.mov (.loc 0)), none, none⟩,
 ⟨(.mov (.var 4)), none, (some ((.loc 0), true))⟩,
 ⟨(.un .not (.loc 0)), none, (some ((.loc 1), true))⟩,
 ⟨(.pick (.loc 2) (.loc 0) (.k (.bool false))), none, none⟩,
 ⟨(.mov (.loc 0)), (some 3), none⟩]
def c18_8 : List CO := [⟨(.fa 0 (.var 2)), none, none⟩,
 ⟨(.load false 1 (.loc 0)), none, none⟩,
 ⟨(.bin .geq (.loc 0) (.k (.int .i64 16))), none, none⟩,
 ⟨(.mov (.loc 0)), none, none⟩,
 ⟨(.fa 0 (.var 2)), none, (some ((.loc 0), true))⟩,
 ⟨(.load false 1 (.loc 0)), none, (some ((.loc 1), true))⟩,
 ⟨(.bin .leq (.loc 0) (.k (.int .i64 20))), none, (some ((.loc 2), true))⟩,
 ⟨(.pick (.loc 3) (.loc 0) (.k (.bool false))), none, none⟩,
 ⟨(.mov (.loc 0)), (some 8), none⟩]
def c18_9 : List CO := [⟨(.mov (.var 0)), none, none⟩,
 ⟨(.nilchk (.loc 0)), none, none⟩,
 ⟨(.fa 6 (.loc 0)), none, none⟩,
 ⟨(.load false 1 (.loc 0)), none, none⟩,
 ⟨(.bin .gtr (.loc 0) (.k (.int .i64 0))), none, none⟩,
 ⟨(.mov (.loc 0)), none, none⟩,
 ⟨(.mov (.var 0)), none, (some ((.loc 0), true))⟩,
 ⟨(.nilchk (.loc 0)), none, (some ((.loc 1), true))⟩,
 ⟨(.fa 7 (.loc 0)), none, (some ((.loc 2), true))⟩,
 ⟨(.load false 1 (.loc 0)), none, (some ((.loc 3), true))⟩,
 ⟨(.un .not (.loc 0)), none, (some ((.loc 4), true))⟩,
 ⟨(.pick (.loc 5) (.loc 0) (.k (.bool false))), none, none⟩,
 ⟨(.mov (.loc 0)), (some 3), none⟩]
def c18_10 : List CO := [⟨(.fa 0 (.var 2)), none, none⟩,
 ⟨(.load false 1 (.loc 0)), none, none⟩,
 ⟨(.bin .geq (.loc 0) (.k (.int .i64 21))), none, none⟩,
 ⟨(.mov (.loc 0)), none, none⟩,
 ⟨(.fa 0 (.var 2)), none, (some ((.loc 0), true))⟩,
 ⟨(.load false 1 (.loc 0)), none, (some ((.loc 1), true))⟩,
 ⟨(.bin .leq (.loc 0) (.k (.int .i64 23))), none, (some ((.loc 2), true))⟩,
 ⟨(.pick (.loc 3) (.loc 0) (.k (.bool false))), none, none⟩,
 ⟨(.mov (.loc 0)), (some 9), none⟩]
def c18_11 : List CO := [⟨(.mov (.var 0)), none, none⟩,
 ⟨(.nilchk (.loc 0)), none, none⟩,
 ⟨(.fa 6 (.loc 0)), none, none⟩,
 ⟨(.load false 1 (.loc 0)), none, none⟩,
 ⟨(.bin .eql (.loc 0) (.k (.int .i64 0))), none, none⟩,
 ⟨(.mov (.loc 0)), (some 3), none⟩]
def c18_12 : List CO := [⟨(.mov (.k (.bool false))), (some 3), none⟩]
def c18 : CFun := ⟨2, 10, (.seq (.region [] [] c18_0) (.seq (.block 0 (.seq (.region [] [] c18_1) (.cond (.var 5) (.seq (.region [] [] c18_2) .ret) (.seq (.region [] [] c18_3) (.cond (.var 6) (.seq (.region [] [] c18_4) .ret) (.seq (.region [] [] c18_5) (.cond (.var 7) (.seq (.region [] [] c18_6) (.seq (.region [] [] c18_7) .ret)) (.seq (.region [] [] c18_8) (.cond (.var 8) (.seq (.region [] [] c18_9) .ret) (.seq (.region [] [] c18_10) (.cond (.var 9) (.seq (.region [] [] c18_11) .ret) .skip))))))))))) (.seq (.region [] [] c18_12) .ret))), [.var 3]⟩
theorem ok18 : CodeOk Tryd.prog T 18 c18 := ⟨⟨Tryd.f18, Hints.of [] [] [], [0, 1, 3, 4, 5, 6, 35, 55, 102, 123], Tryd.func18, by kernel_rfl, by kernel_rfl⟩⟩

def c19_0 : List CO := [⟨(.box 41 (.var 1)), (some 2), none⟩,
 ⟨(.mov (.k (.bool false))), (some 3), none⟩]
def c19_1 : List CO := [⟨(.fa 0 (.var 2)), none, none⟩,
 ⟨(.load false 1 (.loc 0)), (some 4), none⟩]
def c19_2 : List CO := [⟨(.bin .eql (.var 4) (.k (.int .i64 1))), none, none⟩,
 ⟨(.mov (.loc 0)), (some 5), none⟩]
def c19_3 : List CO := [⟨(.bin .eql (.var 4) (.k (.int .i64 6))), none, none⟩,
 ⟨(.mov (.loc 0)), (some 5), none⟩]
def c19_4 : List CO := [⟨(.bin .eql (.var 4) (.k (.int .i64 11))), none, none⟩,
 ⟨(.mov (.loc 0)), (some 5), none⟩]
def c19_5 : List CO := [⟨(.bin .eql (.var 4) (.k (.int .i64 16))), none, none⟩,
 ⟨(.mov (.loc 0)), (some 5), none⟩]
def c19_6 : List CO := [⟨(.fa 2 (.var 2)), none, none⟩,
 ⟨(.load false 1 (.loc 0)), none, none⟩,
 ⟨(.bin .geq (.loc 0) (.k (.int .i64 0))), none, none⟩,
 ⟨(.mov (.loc 0)), none, none⟩,
 ⟨(.fa 2 (.var 2)), none, (some ((.loc 0), true))⟩,
 ⟨(.load false 1 (.loc 0)), none, (some ((.loc 1), true))⟩,
 ⟨(.mov (.var 0)), none, (some ((.loc 2), true))⟩,
 ⟨(.nilchk (.loc 0)), none, (some ((.loc 3), true))⟩,
 ⟨(.fa 0 (.loc 0)), none, (some ((.loc 4), true))⟩,
 ⟨(.fa 2 (.loc 0)), none, (some ((.loc 5), true))⟩,
 ⟨(.load false 1 (.loc 0)), none, (some ((.loc 6), true))⟩,
 ⟨(.bin .lss (.loc 5) (.loc 0)), none, (some ((.loc 7), true))⟩,
 ⟨(.pick (.loc 8) (.loc 0) (.k (.bool false))), none, none⟩,
 ⟨(.mov (.loc 0)), none, none⟩,
 ⟨(.mov (.var 0)), none, (some ((.loc 0), true))⟩,
 ⟨(.nilchk (.loc 0)), none, (some ((.loc 1), true))⟩,
 ⟨(.fa 5 (.loc 0)), none, (some ((.loc 2), true))⟩,
 ⟨(.load false 1 (.loc 0)), none, (some ((.loc 3), true))⟩,
 ⟨(.fa 2 (.var 2)), none, (some ((.loc 4), true))⟩,
 ⟨(.load false 1 (.loc 0)), none, (some ((.loc 5), true))⟩,
 ⟨(.callf 33 [(.loc 2), (.loc 0)]), none, (some ((.loc 6), true))⟩,
 ⟨(.un .not (.loc 0)), none, (some ((.loc 7), true))⟩,
 ⟨(.pick (.loc 8) (.loc 0) (.k (.bool false))), none, none⟩,
 ⟨(.mov (.loc 0)), (some 3), none⟩]
def c19_7 : List CO := [⟨(.bin .eql (.var 4) (.k (.int .i64 2))), none, none⟩,
 ⟨(.mov (.loc 0)), (some 6), none⟩]
def c19_8 : List CO := [⟨(.bin .eql (.var 4) (.k (.int .i64 7))), none, none⟩,
 ⟨(.mov (.loc 0)), (some 6), none⟩]
def c19_9 : List CO := [⟨(.bin .eql (.var 4) (.k (.int .i64 12))), none, none⟩,
 ⟨(.mov (.loc 0)), (some 6), none⟩]
def c19_10 : List CO := [⟨(.bin .eql (.var 4) (.k (.int .i64 17))), none, none⟩,
 ⟨(.mov (.loc 0)), (some 6), none⟩]
def c19_11 : List CO := [⟨(.mov (.var 0)), none, none⟩,
 ⟨(.nilchk (.loc 0)), none, none⟩,
 ⟨(.fa 5 (.loc 0)), none, none⟩,
 ⟨(.load false 1 (.loc 0)), none, none⟩,
 ⟨(.fa 2 (.var 2)), none, none⟩,
 ⟨(.load false 1 (.loc 0)), none, none⟩,
 ⟨(.callf 33 [(.loc 2), (.loc 0)]), none, none⟩,
 ⟨(.mov (.loc 0)), (some 3), none⟩]
def c19_12 : List CO := [⟨(.bin .eql (.var 4) (.k (.int .i64 10))), none, none⟩,
 ⟨(.mov (.loc 0)), (some 7), none⟩]
def c19_13 : List CO := [⟨(.fa 2 (.var 2)), none, none⟩,
 ⟨(.load false 1 (.loc 0)), none, none⟩,
 ⟨(.bin .geq (.loc 0) (.k (.int .i64 16))), none, none⟩,
 ⟨(.mov (.loc 0)), none, none⟩,
 ⟨(.mov (.var 0)), none, (some ((.loc 0), true))⟩,
 ⟨(.nilchk (.loc 0)), none, (some ((.loc 1), true))⟩,
 ⟨(.fa 4 (.loc 0)), none, (some ((.loc 2), true))⟩,
 ⟨(.load false 1 (.loc 0)), none, (some ((.loc 3), true))⟩,
 ⟨(.fa 2 (.var 2)), none, (some ((.loc 4), true))⟩,
 ⟨(.load false 1 (.loc 0)), none, (some ((.loc 5), true))⟩,
 ⟨(.callf 33 [(.loc 2), (.loc 0)]), none, (some ((.loc 6), true))⟩,
 ⟨(.un .not (.loc 0)), none, (some ((.loc 7), true))⟩,
 ⟨(.pick (.loc 8) (.loc 0) (.k (.bool false))), none, none⟩,
 ⟨(.mov (.loc 0)), (some 3), none⟩]
def c19_14 : List CO := [⟨(.bin .eql (.var 4) (.k (.int .i64 20))), none, none⟩,
 ⟨(.mov (.loc 0)), (some 8), none⟩]
def c19_15 : List CO := [⟨(.fa 2 (.var 2)), none, none⟩,
 ⟨(.load false 1 (.loc 0)), none, none⟩,
 ⟨(.bin .geq (.loc 0) (.k (.int .i64 16))), none, none⟩,
 ⟨(.mov (.loc 0)), none, none⟩,
 ⟨(.mov (.var 0)), none, (some ((.loc 0), true))⟩,
 ⟨(.nilchk (.loc 0)), none, (some ((.loc 1), true))⟩,
 ⟨(.fa 4 (.loc 0)), none, (some ((.loc 2), true))⟩,
 ⟨(.load false 1 (.loc 0)), none, (some ((.loc 3), true))⟩,
 ⟨(.fa 2 (.var 2)), none, (some ((.loc 4), true))⟩,
 ⟨(.load false 1 (.loc 0)), none, (some ((.loc 5), true))⟩,
 ⟨(.callf 33 [(.loc 2), (.loc 0)]), none, (some ((.loc 6), true))⟩,
 ⟨(.pick (.loc 7) (.loc 0) (.k (.bool false))), none, none⟩,
 ⟨(.mov (.loc 0)), (some 3), none⟩]
def c19_16 : List CO := [⟨(.bin .eql (.var 4) (.k (.int .i64 5))), none, none⟩,
 ⟨(.mov (.loc 0)), (some 9), none⟩]
def c19_17 : List CO := [⟨(.bin .eql (.var 4) (.k (.int .i64 15))), none, none⟩,
 ⟨(.mov (.loc 0)), (some 9), none⟩]
def c19_18 : List CO := [⟨(.fa 4 (.var 2)), none, none⟩,
 ⟨(.load false 1 (.loc 0)), none, none⟩,
 ⟨(.bin .geq (.loc 0) (.k (.int .i64 1))), none, none⟩,
 ⟨(.mov (.loc 0)), none, none⟩,
 ⟨(.fa 4 (.var 2)), none, (some ((.loc 0), true))⟩,
 ⟨(.load false 1 (.loc 0)), none, (some ((.loc 1), true))⟩,
 ⟨(.bin .leq (.loc 0) (.k (.int .i64 16))), none, (some ((.loc 2), true))⟩,
 ⟨(.pick (.loc 3) (.loc 0) (.k (.bool false))), none, none⟩,
 ⟨(.mov (.loc 0)), (some 3), none⟩]
def c19_19 : List CO := [⟨(.bin .eql (.var 4) (.k (.int .i64 21))), none, none⟩,
 ⟨(.mov (.loc 0)), (some 10), none⟩]
def c19_20 : List CO := [⟨(.mov (.var 0)), none, none⟩,
 ⟨(.fa 4 (.var 2)), none, none⟩,
 ⟨(.load false 1 (.loc 0)), none, none⟩,
 ⟨(.call false 34 [(.loc 2), (.loc 0)]), none, none⟩,
 ⟨(.mov (.loc 0)), (some 3), none⟩]
def c19_21 : List CO := [⟨(.mov (.k (.bool true))), (some 3), none⟩]
def c19 : CFun := ⟨2, 11, (.seq (.region [] [] c19_0) (.seq (.seq (.region [] [] c19_1) (.block 0 (.seq (.seq (.region [] [] c19_2) (.cond (.var 5) .skip (.seq (.region [] [] c19_3) (.cond (.var 5) .skip (.seq (.region [] [] c19_4) (.cond (.var 5) .skip (.region [] [] c19_5))))))) (.cond (.var 5) (.seq (.region [] [] c19_6) .ret) (.seq (.seq (.region [] [] c19_7) (.cond (.var 6) .skip (.seq (.region [] [] c19_8) (.cond (.var 6) .skip (.seq (.region [] [] c19_9) (.cond (.var 6) .skip (.region [] [] c19_10))))))) (.cond (.var 6) (.seq (.region [] [] c19_11) .ret) (.seq (.region [] [] c19_12) (.cond (.var 7) (.seq (.region [] [] c19_13) .ret) (.seq (.region [] [] c19_14) (.cond (.var 8) (.seq (.region [] [] c19_15) .ret) (.seq (.seq (.region [] [] c19_16) (.cond (.var 9) .skip (.region [] [] c19_17))) (.cond (.var 9) (.seq (.region [] [] c19_18) .ret) (.seq (.region [] [] c19_19) (.cond (.var 10) (.seq (.region [] [] c19_20) .ret) .skip)))))))))))))) (.seq (.region [] [] c19_21) .ret))), [.var 3]⟩
theorem ok19 : CodeOk Tryd.prog T 19 c19 := ⟨⟨Tryd.f19, Hints.of [] [] [], [0, 1, 3, 4, 6, 7, 35, 47, 62, 76, 87], Tryd.func19, by kernel_rfl, by kernel_rfl⟩⟩

def c20_0 : List CO := [⟨(.box 41 (.var 1)), (some 2), none⟩]
def c20_1 : List CO := [⟨(.fa 0 (.var 2)), none, none⟩,
 ⟨(.load false 1 (.loc 0)), (some 3), none⟩]
def c20_2 : List CO := [⟨(.bin .eql (.var 3) (.k (.int .i64 1))), none, none⟩,
 ⟨(.mov (.loc 0)), (some 4), none⟩]
def c20_3 : List CO := [⟨(.bin .eql (.var 3) (.k (.int .i64 6))), none, none⟩,
 ⟨(.mov (.loc 0)), (some 4), none⟩]
def c20_4 : List CO := [⟨(.bin .eql (.var 3) (.k (.int .i64 11))), none, none⟩,
 ⟨(.mov (.loc 0)), (some 4), none⟩]
def c20_5 : List CO := [⟨(.bin .eql (.var 3) (.k (.int .i64 16))), none, none⟩,
 ⟨(.mov (.loc 0)), (some 4), none⟩]
def c20_6 : List CO := [⟨(.mov (.var 0)), none, none⟩,
 ⟨(.mov (.var 0)), none, none⟩,
 ⟨(.nilchk (.loc 0)), none, none⟩,
 ⟨(.fa 5 (.loc 0)), none, none⟩,
 ⟨(.load false 1 (.loc 0)), none, none⟩,
 ⟨(.fa 2 (.var 2)), none, none⟩,
 ⟨(.load false 1 (.loc 0)), none, none⟩,
 ⟨(.bslice 1 [(.int .i64 0)] 1 [(0, (.loc 0))]), none, none⟩,
 ⟨(.append 3 1 8 (.loc 3) (.loc 0)), none, none⟩,
 ⟨(.nilchk (.loc 8)), none, none⟩,
 ⟨(.fa 5 (.loc 0)), none, none⟩,
 ⟨(.store 1 (.loc 0) (.loc 2)), none, none⟩]
def c20_7 : List CO := [⟨(.bin .eql (.var 3) (.k (.int .i64 10))), none, none⟩,
 ⟨(.mov (.loc 0)), (some 5), none⟩]
def c20_8 : List CO := [⟨(.mov (.var 0)), none, none⟩,
 ⟨(.mov (.var 0)), none, none⟩,
 ⟨(.nilchk (.loc 0)), none, none⟩,
 ⟨(.fa 4 (.loc 0)), none, none⟩,
 ⟨(.load false 1 (.loc 0)), none, none⟩,
 ⟨(.fa 2 (.var 2)), none, none⟩,
 ⟨(.load false 1 (.loc 0)), none, none⟩,
 ⟨(.bslice 1 [(.int .i64 0)] 1 [(0, (.loc 0))]), none, none⟩,
 ⟨(.append 3 1 8 (.loc 3) (.loc 0)), none, none⟩,
 ⟨(.nilchk (.loc 8)), none, none⟩,
 ⟨(.fa 4 (.loc 0)), none, none⟩,
 ⟨(.store 1 (.loc 0) (.loc 2)), none, none⟩]
def c20_9 : List CO := [⟨(.fa 0 (.var 2)), none, none⟩,
 ⟨(.load false 1 (.loc 0)), none, none⟩,
 ⟨(.bin .geq (.loc 0) (.k (.int .i64 6))), none, none⟩,
 ⟨(.mov (.loc 0)), none, none⟩,
 ⟨(.fa 0 (.var 2)), none, (some ((.loc 0), true))⟩,
 ⟨(.load false 1 (.loc 0)), none, (some ((.loc 1), true))⟩,
 ⟨(.bin .leq (.loc 0) (.k (.int .i64 10))), none, (some ((.loc 2), true))⟩,
 ⟨(.pick (.loc 3) (.loc 0) (.k (.bool false))), none, none⟩,
 ⟨(.mov (.loc 0)), (some 6), none⟩]
def c20_10 : List CO := [⟨(.fa 0 (.var 2)), none, none⟩,
 ⟨(.load false 1 (.loc 0)), none, none⟩,
 ⟨(.bin .geq (.loc 0) (.k (.int .i64 16))), none, none⟩,
 ⟨(.mov (.loc 0)), none, none⟩,
 ⟨(.fa 0 (.var 2)), none, (some ((.loc 0), true))⟩,
 ⟨(.load false 1 (.loc 0)), none, (some ((.loc 1), true))⟩,
 ⟨(.bin .leq (.loc 0) (.k (.int .i64 20))), none, (some ((.loc 2), true))⟩,
 ⟨(.pick (.loc 3) (.loc 0) (.k (.bool false))), none, none⟩,
 ⟨(.mov (.loc 0)), (some 6), none⟩]
def c20_11 : List CO := [⟨(.mov (.var 0)), none, none⟩,
 ⟨(.nilchk (.loc 0)), none, none⟩,
 ⟨(.fa 6 (.loc 0)), none, none⟩,
 ⟨(.load false 1 (.loc 0)), none, none⟩,
 ⟨(.bin .sub (.loc 0) (.k (.int .i64 1))), none, none⟩,
 ⟨(.nilchk (.loc 4)), none, none⟩,
 ⟨(.fa 6 (.loc 0)), none, none⟩,
 ⟨(.store 1 (.loc 0) (.loc 2)), none, none⟩]
def c20_12 : List CO := [⟨(.mov (.var 0)), none, none⟩,
 ⟨(.nilchk (.loc 0)), none, none⟩,
 ⟨(.fa 6 (.loc 0)), none, none⟩,
 ⟨(.load false 1 (.loc 0)), none, none⟩,
 ⟨(.bin .eql (.loc 0) (.k (.int .i64 0))), none, none⟩,
 ⟨(.mov (.loc 0)), none, none⟩,
 ⟨(.mov (.var 0)), none, (some ((.loc 0), true))⟩,
 ⟨(.nilchk (.loc 0)), none, (some ((.loc 1), true))⟩,
 ⟨(.fa 7 (.loc 0)), none, (some ((.loc 2), true))⟩,
 ⟨(.load false 1 (.loc 0)), none, (some ((.loc 3), true))⟩,
 ⟨(.un .not (.loc 0)), none, (some ((.loc 4), true))⟩,
 ⟨(.pick (.loc 5) (.loc 0) (.k (.bool false))), (some 7), none⟩]
def c20_13 : List CO := [⟨(.mov (.var 0)), none, none⟩,
 ⟨(.mov (.var 0)), none, none⟩,
 ⟨(.nilchk (.loc 0)), none, none⟩,
 ⟨(.fa 4 (.loc 0)), none, none⟩,
 ⟨(.load false 1 (.loc 0)), none, none⟩,
 ⟨(.mov (.var 0)), none, none⟩,
 ⟨(.nilchk (.loc 0)), none, none⟩,
 ⟨(.fa 9 (.loc 0)), none, none⟩,
 ⟨(.load false 1 (.loc 0)), none, none⟩,
 ⟨(.bslice 1 [(.int .i64 0)] 1 [(0, (.loc 0))]), none, none⟩,
 ⟨(.append 3 1 8 (.loc 5) (.loc 0)), none, none⟩,
 ⟨(.nilchk (.loc 10)), none, none⟩,
 ⟨(.fa 4 (.loc 0)), none, none⟩,
 ⟨(.store 1 (.loc 0) (.loc 2)), none, none⟩]
def c20_14 : List CO := [⟨(.fa 0 (.var 2)), none, none⟩,
 ⟨(.load false 1 (.loc 0)), none, none⟩,
 ⟨(.bin .geq (.loc 0) (.k (.int .i64 11))), none, none⟩,
 ⟨(.mov (.loc 0)), none, none⟩,
 ⟨(.fa 0 (.var 2)), none, (some ((.loc 0), true))⟩,
 ⟨(.load false 1 (.loc 0)), none, (some ((.loc 1), true))⟩,
 ⟨(.bin .leq (.loc 0) (.k (.int .i64 15))), none, (some ((.loc 2), true))⟩,
 ⟨(.pick (.loc 3) (.loc 0) (.k (.bool false))), none, none⟩,
 ⟨(.mov (.loc 0)), (some 8), none⟩]
def c20_15 : List CO := [⟨(.mov (.var 0)), none, none⟩,
 ⟨(.call false 35 [(.loc 0)]), none, none⟩]
def c20_16 : List CO := [⟨(.mov (.var 0)), none, none⟩,
 ⟨(.fa 1 (.var 2)), none, none⟩,
 ⟨(.load false 1 (.loc 0)), none, none⟩,
 ⟨(.nilchk (.loc 2)), none, none⟩,
 ⟨(.fa 9 (.loc 0)), none, none⟩,
 ⟨(.store 1 (.loc 0) (.loc 2)), none, none⟩]
def c20_17 : List CO := [⟨(.fa 0 (.var 2)), none, none⟩,
 ⟨(.load false 1 (.loc 0)), none, none⟩,
 ⟨(.bin .neq (.loc 0) (.k (.int .i64 15))), (some 9), none⟩]
def c20_18 : List CO := [⟨(.mov (.var 0)), none, none⟩,
 ⟨(.mov (.var 0)), none, none⟩,
 ⟨(.nilchk (.loc 0)), none, none⟩,
 ⟨(.fa 4 (.loc 0)), none, none⟩,
 ⟨(.load false 1 (.loc 0)), none, none⟩,
 ⟨(.fa 1 (.var 2)), none, none⟩,
 ⟨(.load false 1 (.loc 0)), none, none⟩,
 ⟨(.bslice 1 [(.int .i64 0)] 1 [(0, (.loc 0))]), none, none⟩,
 ⟨(.append 3 1 8 (.loc 3) (.loc 0)), none, none⟩,
 ⟨(.nilchk (.loc 8)), none, none⟩,
 ⟨(.fa 4 (.loc 0)), none, none⟩,
 ⟨(.store 1 (.loc 0) (.loc 2)), none, none⟩]
def c20_19 : List CO := [⟨(.fa 0 (.var 2)), none, none⟩,
 ⟨(.load false 1 (.loc 0)), none, none⟩,
 ⟨(.bin .eql (.loc 0) (.k (.int .i64 21))), none, none⟩,
 ⟨(.mov (.loc 0)), none, none⟩,
 ⟨(.fa 0 (.var 2)), none, (some ((.loc 0), false))⟩,
 ⟨(.load false 1 (.loc 0)), none, (some ((.loc 1), false))⟩,
 ⟨(.bin .eql (.loc 0) (.k (.int .i64 22))), none, (some ((.loc 2), false))⟩,
 ⟨(.pick (.loc 3) (.k (.bool true)) (.loc 0)), none, none⟩,
 ⟨(.mov (.loc 0)), (some 10), none⟩]
def c20_20 : List CO := [⟨(.mov (.var 0)), none, none⟩,
 ⟨(.call false 35 [(.loc 0)]), none, none⟩]
def c20_21 : List CO := [⟨(.fa 0 (.var 2)), none, none⟩,
 ⟨(.load false 1 (.loc 0)), (some 11), none⟩]
def c20_22 : List CO := [⟨(.bin .eql (.var 11) (.k (.int .i64 5))), none, none⟩,
 ⟨(.mov (.loc 0)), (some 12), none⟩]
def c20_23 : List CO := [⟨(.bin .eql (.var 11) (.k (.int .i64 15))), none, none⟩,
 ⟨(.mov (.loc 0)), (some 12), none⟩]
def c20_24 : List CO := [⟨(.mov (.var 0)), none, none⟩,
 ⟨(.fa 4 (.var 2)), none, none⟩,
 ⟨(.load false 1 (.loc 0)), none, none⟩,
 ⟨(.nilchk (.loc 2)), none, none⟩,
 ⟨(.fa 6 (.loc 0)), none, none⟩,
 ⟨(.store 1 (.loc 0) (.loc 2)), none, none⟩]
def c20_25 : List CO := [⟨(.mov (.var 0)), none, none⟩,
 ⟨(.fa 0 (.var 2)), none, none⟩,
 ⟨(.load false 1 (.loc 0)), none, none⟩,
 ⟨(.bin .eql (.loc 0) (.k (.int .i64 5))), none, none⟩,
 ⟨(.nilchk (.loc 3)), none, none⟩,
 ⟨(.fa 7 (.loc 0)), none, none⟩,
 ⟨(.store 1 (.loc 0) (.loc 2)), none, none⟩]
def c20_26 : List CO := [⟨(.bin .eql (.var 11) (.k (.int .i64 21))), none, none⟩,
 ⟨(.mov (.loc 0)), (some 13), none⟩]
def c20_27 : List CO := [⟨(.mov (.var 0)), none, none⟩,
 ⟨(.nilchk (.loc 0)), none, none⟩,
 ⟨(.fa 4 (.loc 0)), none, none⟩,
 ⟨(.store 1 (.loc 0) (.k (.slice none 0 0))), none, none⟩]
def c20 : CFun := ⟨2, 14, (.seq (.region [] [] c20_0) (.seq (.seq (.region [] [] c20_1) (.block 0 (.seq (.seq (.region [] [] c20_2) (.cond (.var 4) .skip (.seq (.region [] [] c20_3) (.cond (.var 4) .skip (.seq (.region [] [] c20_4) (.cond (.var 4) .skip (.region [] [] c20_5))))))) (.cond (.var 4) (.region [] [] c20_6) (.seq (.region [] [] c20_7) (.cond (.var 5) (.region [] [] c20_8) .skip)))))) (.seq (.block 1 (.seq (.seq (.region [] [] c20_9) (.cond (.var 6) .skip (.region [] [] c20_10))) (.cond (.var 6) (.seq (.region [] [] c20_11) (.seq (.region [] [] c20_12) (.cond (.var 7) (.region [] [] c20_13) .skip))) (.seq (.region [] [] c20_14) (.cond (.var 8) (.seq (.region [] [] c20_15) (.seq (.region [] [] c20_16) (.seq (.region [] [] c20_17) (.cond (.var 9) (.region [] [] c20_18) .skip)))) (.seq (.region [] [] c20_19) (.cond (.var 10) (.region [] [] c20_20) .skip))))))) (.seq (.region [] [] c20_21) (.block 2 (.seq (.seq (.region [] [] c20_22) (.cond (.var 12) .skip (.region [] [] c20_23))) (.cond (.var 12) (.seq (.region [] [] c20_24) (.region [] [] c20_25)) (.seq (.region [] [] c20_26) (.cond (.var 13) (.region [] [] c20_27) .skip))))))))), []⟩
theorem ok20 : CodeOk Tryd.prog T 20 c20 := ⟨⟨Tryd.f20, Hints.of [] [] [], [0, 1, 3, 5, 6, 22, 35, 70, 84, 102, 114, 126, 127, 141], Tryd.func20, by kernel_rfl, by kernel_rfl⟩⟩

def c21_0 : List CO := [⟨(.box 32 (.var 0)), (some 2), none⟩,
 ⟨(.mov (.k (.int .i64 0))), (some 3), none⟩]
def c21_1 : List CO := [⟨(.mov (.var 1)), none, none⟩,
 ⟨(.bin .sub (.loc 0) (.k (.int .i64 1))), none, none⟩,
 ⟨(.mov (.loc 0)), (some 1), none⟩]
def c21_2 : List CO := [⟨(.fa 3 (.var 2)), none, none⟩,
 ⟨(.load false 1 (.loc 0)), (some 5), none⟩,
 ⟨(.len .slice (.var 5)), (some 6), none⟩,
 ⟨(.mov (.k (.int .i64 0))), (some 7), none⟩]
def c21_3 : List CO := [⟨(.bin .lss (.var 7) (.var 6)), (some 8), none⟩]
def c21_4 : List CO := [⟨(.ia 4 (.var 5) (.var 7)), none, none⟩,
 ⟨(.load true 4 (.loc 0)), none, none⟩,
 ⟨(.box 32 (.k (.agg #[(.int .i64 0), (.string ⟨#[]⟩), (.int .i64 0), (.slice none 0 0)]))), (some 4), none⟩,
 ⟨(.store 4 (.var 4) (.loc 1)), none, none⟩]
def c21_5 : List CO := [⟨(.mov (.var 1)), none, none⟩,
 ⟨(.bin .lss (.loc 0) (.k (.int .i64 0))), (some 9), none⟩]
def c21_6 : List CO := [⟨(.mov (.var 1)), none, none⟩,
 ⟨(.mov (.loc 0)), (some 3), none⟩]
def c21_7 : List CO := [⟨(.load true 4 (.var 4)), none, none⟩,
 ⟨(.mov (.var 1)), none, none⟩,
 ⟨(.call true 21 [(.loc 1), (.loc 0)]), none, none⟩,
 ⟨(.mov (.loc 0)), (some 1), none⟩]
def c21_8 : List CO := [⟨(.bin .add (.var 7) (.k (.int .i64 1))), none, none⟩,
 ⟨(.mov (.loc 0)), (some 7), none⟩]
def c21_9 : CC := (.seq (.region [] [] c21_3) (.seq (.cond (.var 8) .skip (.exit 0)) (.seq (.block 1 (.seq (.region [] [] c21_4) (.seq (.seq (.region [] [] c21_5) (.cond (.var 9) (.seq (.region [] [] c21_6) .ret) .skip)) (.region [] [] c21_7)))) (.region [] [] c21_8))))
def c21_10 : List CO := [⟨(.mov (.var 1)), none, none⟩,
 ⟨(.mov (.loc 0)), (some 3), none⟩]
def c21 : CFun := ⟨2, 10, (.seq (.region [] [] c21_0) (.seq (.region [] [] c21_1) (.seq (.seq (.region [] [] c21_2) (.block 0 (.loop [false, true, false, false, false, true, true, true, false, false] [] c21_9))) (.seq (.region [] [] c21_10) .ret)))), [.var 3]⟩
theorem ok21 : CodeOk Tryd.prog T 21 c21 := ⟨⟨Tryd.f21, Hints.of [] [] [(0, [false, true, false, false, false, true, true, true, false, false], [])], [0, 1, 2, 4, 6, 10, 11, 12, 13, 17], Tryd.func21, by kernel_rfl, by kernel_rfl⟩⟩

def c22_0 : List CO := [⟨(.box 32 (.var 0)), (some 1), none⟩,
 ⟨(.mov (.k (.int .i64 0))), (some 2), none⟩]
def c22_1 : List CO := [⟨(.load true 4 (.var 1)), none, none⟩,
 ⟨(.call true 36 [(.loc 0)]), none, none⟩,
 ⟨(.un .not (.loc 0)), (some 3), none⟩]
def c22_2 : List CO := [⟨(.mov (.k (.int .i64 30))), (some 2), none⟩]
def c22_3 : List CO := [⟨(.load true 4 (.var 1)), none, none⟩,
 ⟨(.call true 37 [(.loc 0)]), none, none⟩,
 ⟨(.bin .gtr (.loc 0) (.k (.int .i64 60))), (some 4), none⟩]
def c22_4 : List CO := [⟨(.mov (.k (.int .i64 3))), (some 2), none⟩]
def c22_5 : List CO := [⟨(.mov (.k (.int .i64 0))), (some 2), none⟩]
def c22 : CFun := ⟨1, 5, (.seq (.region [] [] c22_0) (.seq (.seq (.region [] [] c22_1) (.cond (.var 3) (.seq (.region [] [] c22_2) .ret) .skip)) (.seq (.seq (.region [] [] c22_3) (.cond (.var 4) (.seq (.region [] [] c22_4) .ret) .skip)) (.seq (.region [] [] c22_5) .ret)))), [.var 2]⟩
theorem ok22 : CodeOk Tryd.prog T 22 c22 := ⟨⟨Tryd.f22, Hints.of [] [] [], [0, 1, 2, 5, 8], Tryd.func22, by kernel_rfl, by kernel_rfl⟩⟩

def c23_0 : List CO := [⟨(.box 32 (.var 0)), (some 1), none⟩,
 ⟨(.mov (.k (.slice none 0 0))), (some 2), none⟩]
def c23_1 : List CO := [⟨(.mov (.k (.slice none 0 0))), (some 3), none⟩]
def c23_2 : List CO := [⟨(.load true 4 (.var 1)), none, none⟩,
 ⟨(.call true 38 [(.loc 0)]), (some 5), none⟩,
 ⟨(.len .slice (.var 5)), (some 6), none⟩,
 ⟨(.mov (.k (.int .i64 0))), (some 7), none⟩]
def c23_3 : List CO := [⟨(.bin .lss (.var 7) (.var 6)), (some 8), none⟩]
def c23_4 : List CO := [⟨(.ia 1 (.var 5) (.var 7)), none, none⟩,
 ⟨(.load false 1 (.loc 0)), none, none⟩,
 ⟨(.mov (.loc 0)), (some 4), none⟩]
def c23_5 : List CO := [⟨(.mov (.var 3)), none, none⟩,
 ⟨(.mov (.var 4)), none, none⟩,
 ⟨(.callf 39 [(.loc 1), (.loc 0)]), none, none⟩,
 ⟨(.un .not (.loc 0)), (some 9), none⟩]
def c23_6 : List CO := [⟨(.mov (.var 3)), none, none⟩,
 ⟨(.mov (.var 4)), none, none⟩,
 ⟨(.bslice 1 [(.int .i64 0)] 1 [(0, (.loc 0))]), none, none⟩,
 ⟨(.append 2 1 8 (.loc 2) (.loc 0)), none, none⟩,
 ⟨(.mov (.loc 0)), (some 3), none⟩]
def c23_7 : List CO := [⟨(.bin .add (.var 7) (.k (.int .i64 1))), none, none⟩,
 ⟨(.mov (.loc 0)), (some 7), none⟩]
def c23_8 : CC := (.seq (.region [] [] c23_3) (.seq (.cond (.var 8) .skip (.exit 0)) (.seq (.block 1 (.seq (.region [] [] c23_4) (.seq (.region [] [] c23_5) (.cond (.var 9) (.region [] [] c23_6) .skip)))) (.region [] [] c23_7))))
def c23_9 : List CO := [⟨(.mov (.var 3)), none, none⟩,
 ⟨(.mov (.loc 0)), (some 2), none⟩]
def c23 : CFun := ⟨1, 10, (.seq (.region [] [] c23_0) (.seq (.region [] [] c23_1) (.seq (.seq (.region [] [] c23_2) (.block 0 (.loop [false, false, false, true, false, true, true, true, false, false] [] c23_8))) (.seq (.region [] [] c23_9) .ret)))), [.var 2]⟩
theorem ok23 : CodeOk Tryd.prog T 23 c23 := ⟨⟨Tryd.f23, Hints.of [] [] [(0, [false, false, false, true, false, true, true, true, false, false], [])], [0, 1, 2, 3, 5, 7, 8, 9, 10, 16], Tryd.func23, by kernel_rfl, by kernel_rfl⟩⟩

def c24_0 : List CO := [⟨(.box 32 (.var 0)), (some 2), none⟩,
 ⟨(.box 32 (.k (.agg #[(.int .i64 0), (.string ⟨#[]⟩), (.int .i64 0), (.slice none 0 0)]))), (some 3), none⟩]
def c24_1 : List CO := [⟨(.fa 0 (.var 2)), none, none⟩,
 ⟨(.load false 1 (.loc 0)), none, none⟩,
 ⟨(.bin .eql (.loc 0) (.k (.int .i64 1))), (some 6), none⟩]
def c24_2 : List CO := [⟨(.mov (.var 1)), none, none⟩,
 ⟨(.fa 2 (.var 2)), none, none⟩,
 ⟨(.load false 1 (.loc 0)), none, none⟩,
 ⟨(.call true 41 [(.loc 2), (.loc 0)]), none, none⟩,
 ⟨(.call true 40 [(.loc 0)]), none, none⟩,
 ⟨(.store 4 (.var 3) (.loc 0)), none, none⟩]
def c24_3 : List CO := [⟨(.mov (.k (.slice none 0 0))), (some 4), none⟩]
def c24_4 : List CO := [⟨(.fa 3 (.var 2)), none, none⟩,
 ⟨(.load false 1 (.loc 0)), (some 7), none⟩,
 ⟨(.len .slice (.var 7)), (some 8), none⟩,
 ⟨(.mov (.k (.int .i64 0))), (some 9), none⟩]
def c24_5 : List CO := [⟨(.bin .lss (.var 9) (.var 8)), (some 10), none⟩]
def c24_6 : List CO := [⟨(.ia 4 (.var 7) (.var 9)), none, none⟩,
 ⟨(.load true 4 (.loc 0)), none, none⟩,
 ⟨(.box 32 (.k (.agg #[(.int .i64 0), (.string ⟨#[]⟩), (.int .i64 0), (.slice none 0 0)]))), (some 5), none⟩,
 ⟨(.store 4 (.var 5) (.loc 1)), none, none⟩]
def c24_7 : List CO := [⟨(.mov (.var 4)), none, none⟩,
 ⟨(.load true 4 (.var 5)), none, none⟩,
 ⟨(.mov (.var 1)), none, none⟩,
 ⟨(.call true 24 [(.loc 1), (.loc 0)]), none, none⟩,
 ⟨(.bslice 4 [(.int .i64 0), (.string ⟨#[]⟩), (.int .i64 0), (.slice none 0 0)] 1 [(0, (.loc 0))]), none, none⟩,
 ⟨(.append 32 4 56 (.loc 4) (.loc 0)), none, none⟩,
 ⟨(.mov (.loc 0)), (some 4), none⟩]
def c24_8 : List CO := [⟨(.bin .add (.var 9) (.k (.int .i64 1))), none, none⟩,
 ⟨(.mov (.loc 0)), (some 9), none⟩]
def c24_9 : CC := (.seq (.region [] [] c24_5) (.seq (.cond (.var 10) .skip (.exit 0)) (.seq (.block 1 (.seq (.region [] [] c24_6) (.region [] [] c24_7))) (.region [] [] c24_8))))
def c24_10 : List CO := [⟨(.mov (.var 4)), none, none⟩,
 ⟨(.fa 3 (.var 2)), none, none⟩,
 ⟨(.store 1 (.loc 0) (.loc 1)), none, none⟩]
def c24_11 : List CO := [⟨(.load true 4 (.var 2)), none, none⟩,
 ⟨(.store 4 (.var 3) (.loc 0)), none, none⟩]
def c24 : CFun := ⟨2, 11, (.seq (.region [] [] c24_0) (.seq (.seq (.region [] [] c24_1) (.cond (.var 6) (.seq (.region [] [] c24_2) .ret) .skip)) (.seq (.region [] [] c24_3) (.seq (.seq (.region [] [] c24_4) (.block 0 (.loop [false, true, true, true, true, false, false, true, true, true, false] [] c24_9))) (.seq (.region [] [] c24_10) (.seq (.region [] [] c24_11) .ret)))))), [.cell 3 true 4]⟩
theorem ok24 : CodeOk Tryd.prog T 24 c24 := ⟨⟨Tryd.f24, Hints.of [] [] [(0, [false, true, true, true, true, false, false, true, true, true, false], [])], [0, 1, 2, 4, 5, 7, 10, 17, 18, 19, 20], Tryd.func24, by kernel_rfl, by kernel_rfl⟩⟩

def c25_0 : List CO := [⟨(.box 32 (.var 0)), (some 3), none⟩,
 ⟨(.mov (.k (.bool false))), (some 4), none⟩]
def c25_1 : List CO := [⟨(.fa 0 (.var 3)), none, none⟩,
 ⟨(.load false 1 (.loc 0)), none, none⟩,
 ⟨(.bin .eql (.loc 0) (.k (.int .i64 4))), none, none⟩,
 ⟨(.mov (.loc 0)), none, none⟩,
 ⟨(.fa 1 (.var 3)), none, (some ((.loc 0), true))⟩,
 ⟨(.load false 1 (.loc 0)), none, (some ((.loc 1), true))⟩,
 ⟨(.mov (.var 1)), none, (some ((.loc 2), true))⟩,
 ⟨(.bin .eql (.loc 1) (.loc 0)), none, (some ((.loc 3), true))⟩,
 ⟨(.pick (.loc 4) (.loc 0) (.k (.bool false))), none, none⟩,
 ⟨(.mov (.loc 0)), none, none⟩,
 ⟨(.fa 3 (.var 3)), none, (some ((.loc 0), true))⟩,
 ⟨(.load false 1 (.loc 0)), none, (some ((.loc 1), true))⟩,
 ⟨(.len .slice (.loc 0)), none, (some ((.loc 2), true))⟩,
 ⟨(.mov (.var 2)), none, (some ((.loc 3), true))⟩,
 ⟨(.bin .eql (.loc 1) (.loc 0)), none, (some ((.loc 4), true))⟩,
 ⟨(.pick (.loc 5) (.loc 0) (.k (.bool false))), none, none⟩,
 ⟨(.mov (.loc 0)), (some 4), none⟩]
def c25 : CFun := ⟨3, 5, (.seq (.region [] [] c25_0) (.seq (.region [] [] c25_1) .ret)), [.var 4]⟩
theorem ok25 : CodeOk Tryd.prog T 25 c25 := ⟨⟨Tryd.f25, Hints.of [] [] [], [0, 1, 2, 3, 6], Tryd.func25, by kernel_rfl, by kernel_rfl⟩⟩

def c26_0 : List CO := [⟨(.box 32 (.var 0)), (some 1), none⟩,
 ⟨(.mov (.k (.slice none 0 0))), (some 2), none⟩,
 ⟨(.mov (.k (.int .i64 0))), (some 3), none⟩]
def c26_1 : List CO := [⟨(.load true 4 (.var 1)), none, none⟩,
 ⟨(.call true 22 [(.loc 0)]), none, none⟩,
 ⟨(.mov (.loc 0)), (some 4), none⟩]
def c26_2 : List CO := [⟨(.mov (.var 4)), none, none⟩,
 ⟨(.bin .neq (.loc 0) (.k (.int .i64 0))), (some 7), none⟩]
def c26_3 : List CO := [⟨(.mov (.var 4)), none, none⟩,
 ⟨(.mov (.k (.slice none 0 0))), (some 2), none⟩,
 ⟨(.mov (.loc 1)), (some 3), none⟩]
def c26_4 : List CO := [⟨(.load true 4 (.var 1)), none, none⟩,
 ⟨(.call false 42 [(.loc 0)]), none, none⟩,
 ⟨(.mov (.loc 0)), (some 5), none⟩]
def c26_5 : List CO := [⟨(.mov (.var 5)), (some 8), none⟩,
 ⟨(.len .slice (.var 8)), (some 9), none⟩,
 ⟨(.mov (.k (.int .i64 0))), (some 10), none⟩]
def c26_6 : List CO := [⟨(.bin .lss (.var 10) (.var 9)), (some 11), none⟩]
def c26_7 : List CO := [⟨(.ia 4 (.var 8) (.var 10)), none, none⟩,
 ⟨(.load true 4 (.loc 0)), none, none⟩,
 ⟨(.box 32 (.k (.agg #[(.int .i64 0), (.string ⟨#[]⟩), (.int .i64 0), (.slice none 0 0)]))), (some 6), none⟩,
 ⟨(.store 4 (.var 6) (.loc 1)), none, none⟩]
def c26_8 : List CO := [⟨(.load true 4 (.var 6)), none, none⟩,
 ⟨(.call true 27 [(.loc 0)]), none, none⟩,
 ⟨(.un .not (.loc 0)), (some 12), none⟩]
def c26_9 : List CO := [⟨(.mov (.k (.slice none 0 0))), (some 2), none⟩,
 ⟨(.mov (.k (.int .i64 80))), (some 3), none⟩]
def c26_10 : List CO := [⟨(.bin .add (.var 10) (.k (.int .i64 1))), none, none⟩,
 ⟨(.mov (.loc 0)), (some 10), none⟩]
def c26_11 : CC := (.seq (.region [] [] c26_6) (.seq (.cond (.var 11) .skip (.exit 0)) (.seq (.block 1 (.seq (.region [] [] c26_7) (.seq (.region [] [] c26_8) (.cond (.var 12) (.seq (.region [] [] c26_9) .ret) .skip)))) (.region [] [] c26_10))))
def c26_12 : List CO := [⟨(.mov (.var 5)), none, none⟩,
 ⟨(.mov (.loc 0)), (some 2), none⟩,
 ⟨(.mov (.k (.int .i64 0))), (some 3), none⟩]
def c26 : CFun := ⟨1, 13, (.seq (.region [] [] c26_0) (.seq (.seq (.region [] [] c26_1) (.seq (.region [] [] c26_2) (.cond (.var 7) (.seq (.region [] [] c26_3) .ret) .skip))) (.seq (.region [] [] c26_4) (.seq (.seq (.region [] [] c26_5) (.block 0 (.loop [false, false, false, false, false, true, false, false, true, true, true, false, false] [] c26_11))) (.seq (.region [] [] c26_12) .ret))))), [.var 2, .var 3]⟩
theorem ok26 : CodeOk Tryd.prog T 26 c26 := ⟨⟨Tryd.f26, Hints.of [] [] [(0, [false, false, false, false, false, true, false, false, true, true, true, false, false], [])], [0, 1, 2, 3, 4, 5, 7, 11, 15, 16, 17, 18, 23], Tryd.func26, by kernel_rfl, by kernel_rfl⟩⟩

def c27_0 : List CO := [⟨(.box 32 (.var 0)), (some 1), none⟩,
 ⟨(.mov (.k (.bool false))), (some 2), none⟩]
def c27_1 : List CO := [⟨(.fa 0 (.var 1)), none, none⟩,
 ⟨(.load false 1 (.loc 0)), none, none⟩,
 ⟨(.bin .neq (.loc 0) (.k (.int .i64 2))), none, none⟩,
 ⟨(.mov (.loc 0)), none, none⟩,
 ⟨(.fa 0 (.var 1)), none, (some ((.loc 0), true))⟩,
 ⟨(.load false 1 (.loc 0)), none, (some ((.loc 1), true))⟩,
 ⟨(.bin .neq (.loc 0) (.k (.int .i64 4))), none, (some ((.loc 2), true))⟩,
 ⟨(.pick (.loc 3) (.loc 0) (.k (.bool false))), (some 3), none⟩]
def c27_2 : List CO := [⟨(.mov (.k (.bool false))), (some 2), none⟩]
def c27_3 : List CO := [⟨(.fa 3 (.var 1)), none, none⟩,
 ⟨(.load false 1 (.loc 0)), none, none⟩,
 ⟨(.len .slice (.loc 0)), (some 4), none⟩]
def c27_4 : List CO := [⟨(.bin .eql (.var 4) (.k (.int .i64 1))), none, none⟩,
 ⟨(.mov (.loc 0)), (some 5), none⟩]
def c27_5 : List CO := [⟨(.bslice 1 [(.string ⟨#[]⟩)] 3 [(0, (.k (.string ⟨#[92, 43]⟩))), (1, (.k (.string ⟨#[58, 45]⟩))), (2, (.k (.string ⟨#[63, 45]⟩)))]), none, none⟩,
 ⟨(.fa 1 (.var 1)), none, none⟩,
 ⟨(.load false 1 (.loc 0)), none, none⟩,
 ⟨(.call true 43 [(.loc 2), (.loc 0)]), none, none⟩,
 ⟨(.un .not (.loc 0)), none, none⟩,
 ⟨(.mov (.loc 0)), (some 2), none⟩]
def c27_6 : List CO := [⟨(.bin .eql (.var 4) (.k (.int .i64 2))), none, none⟩,
 ⟨(.mov (.loc 0)), (some 6), none⟩]
def c27_7 : List CO := [⟨(.bslice 1 [(.string ⟨#[]⟩)] 4 [(0, (.k (.string ⟨#[44]⟩))), (1, (.k (.string ⟨#[59]⟩))), (2, (.k (.string ⟨#[45, 62]⟩))), (3, (.k (.string ⟨#[58, 45]⟩)))]), none, none⟩,
 ⟨(.fa 1 (.var 1)), none, none⟩,
 ⟨(.load false 1 (.loc 0)), none, none⟩,
 ⟨(.call true 43 [(.loc 2), (.loc 0)]), none, none⟩,
 ⟨(.un .not (.loc 0)), none, none⟩,
 ⟨(.mov (.loc 0)), (some 2), none⟩]
def c27_8 : List CO := [⟨(.mov (.k (.bool true))), (some 2), none⟩]
def c27 : CFun := ⟨1, 7, (.seq (.region [] [] c27_0) (.seq (.seq (.region [] [] c27_1) (.cond (.var 3) (.seq (.region [] [] c27_2) .ret) .skip)) (.seq (.seq (.region [] [] c27_3) (.block 0 (.seq (.region [] [] c27_4) (.cond (.var 5) (.seq (.region [] [] c27_5) .ret) (.seq (.region [] [] c27_6) (.cond (.var 6) (.seq (.region [] [] c27_7) .ret) .skip)))))) (.seq (.region [] [] c27_8) .ret)))), [.var 2]⟩
theorem ok27 : CodeOk Tryd.prog T 27 c27 := ⟨⟨Tryd.f27, Hints.of [] [] [], [0, 1, 2, 10, 13, 14, 21], Tryd.func27, by kernel_rfl, by kernel_rfl⟩⟩

def c28_0 : List CO := [⟨(.mov (.k (.bool false))), (some 2), none⟩]
def c28_1 : List CO := [⟨(.mov (.var 1)), none, none⟩,
 ⟨(.call true 44 [(.loc 0)]), none, none⟩,
 ⟨(.mov (.var 0)), none, none⟩,
 ⟨(.call true 43 [(.loc 1), (.loc 0)]), none, none⟩,
 ⟨(.mov (.loc 0)), (some 2), none⟩]
def c28 : CFun := ⟨2, 3, (.seq (.region [] [] c28_0) (.seq (.region [] [] c28_1) .ret)), [.var 2]⟩
theorem ok28 : CodeOk Tryd.prog T 28 c28 := ⟨⟨Tryd.f28, Hints.of [] [] [], [0, 1, 4], Tryd.func28, by kernel_rfl, by kernel_rfl⟩⟩

def c29_0 : List CO := [⟨(.box 32 (.var 2)), (some 3), none⟩]
def c29_1 : List CO := [⟨(.fa 0 (.var 3)), none, none⟩,
 ⟨(.load false 1 (.loc 0)), (some 6), none⟩]
def c29_2 : List CO := [⟨(.bin .eql (.var 6) (.k (.int .i64 1))), none, none⟩,
 ⟨(.mov (.loc 0)), (some 7), none⟩]
def c29_3 : List CO := [⟨(.mov (.var 0)), none, none⟩,
 ⟨(.mov (.var 1)), none, none⟩,
 ⟨(.load true 4 (.var 3)), none, none⟩,
 ⟨(.call false 45 [(.loc 2), (.k (.int .i64 1)), (.k (.int .i64 2)), (.loc 1), (.loc 0)]), none, none⟩]
def c29_4 : List CO := [⟨(.bin .eql (.var 6) (.k (.int .i64 2))), none, none⟩,
 ⟨(.mov (.loc 0)), (some 8), none⟩]
def c29_5 : List CO := [⟨(.mov (.var 0)), none, none⟩,
 ⟨(.mov (.var 1)), none, none⟩,
 ⟨(.fa 1 (.var 3)), none, none⟩,
 ⟨(.load false 1 (.loc 0)), none, none⟩,
 ⟨(.build [(.int .i64 0), (.int .i64 0), (.int .i64 0), (.string ⟨#[]⟩), (.int .i64 0)] [(0, 1, (.k (.int .i64 3))), (1, 1, (.loc 2)), (3, 1, (.loc 0))]), none, none⟩,
 ⟨(.call false 30 [(.loc 4), (.loc 0)]), none, none⟩]
def c29_6 : List CO := [⟨(.bin .eql (.var 6) (.k (.int .i64 3))), none, none⟩,
 ⟨(.mov (.loc 0)), (some 9), none⟩]
def c29_7 : List CO := [⟨(.mov (.var 0)), none, none⟩,
 ⟨(.mov (.var 1)), none, none⟩,
 ⟨(.fa 2 (.var 3)), none, none⟩,
 ⟨(.load false 1 (.loc 0)), none, none⟩,
 ⟨(.build [(.int .i64 0), (.int .i64 0), (.int .i64 0), (.string ⟨#[]⟩), (.int .i64 0)] [(0, 1, (.k (.int .i64 4))), (1, 1, (.loc 2)), (4, 1, (.loc 0))]), none, none⟩,
 ⟨(.call false 30 [(.loc 4), (.loc 0)]), none, none⟩]
def c29_8 : List CO := [⟨(.bin .eql (.var 6) (.k (.int .i64 4))), none, none⟩,
 ⟨(.mov (.loc 0)), (some 10), none⟩]
def c29_9 : List CO := [⟨(.mov (.var 1)), none, none⟩,
 ⟨(.load true 4 (.var 3)), none, none⟩,
 ⟨(.build [(.int .i64 0), (.int .i64 0), (.string ⟨#[]⟩), (.int .i64 0), (.slice none 0 0)] [(0, 1, (.loc 1)), (1, 4, (.loc 0))]), none, none⟩,
 ⟨(.bslice 5 [(.int .i64 0), (.int .i64 0), (.string ⟨#[]⟩), (.int .i64 0), (.slice none 0 0)] 1 [(0, (.loc 0))]), none, none⟩,
 ⟨(.mov (.loc 0)), (some 4), none⟩]
def c29_10 : List CO := [⟨(.mov (.var 4)), none, none⟩,
 ⟨(.len .slice (.loc 0)), none, none⟩,
 ⟨(.bin .gtr (.loc 0) (.k (.int .i64 0))), (some 11), none⟩]
def c29_11 : List CO := [⟨(.mov (.var 4)), none, none⟩,
 ⟨(.ia 5 (.loc 0) (.k (.int .i64 0))), none, none⟩,
 ⟨(.load true 5 (.loc 0)), none, none⟩,
 ⟨(.box 82 (.k (.agg #[(.int .i64 0), (.int .i64 0), (.string ⟨#[]⟩), (.int .i64 0), (.slice none 0 0)]))), (some 5), none⟩,
 ⟨(.store 5 (.var 5) (.loc 1)), none, none⟩]
def c29_12 : List CO := [⟨(.mov (.var 4)), none, none⟩,
 ⟨(.slice 5 (.loc 0) (some (.k (.int .i64 1))) none none), none, none⟩,
 ⟨(.mov (.var 0)), none, none⟩,
 ⟨(.fa 0 (.var 5)), none, none⟩,
 ⟨(.load false 1 (.loc 0)), none, none⟩,
 ⟨(.fa 1 (.var 5)), none, none⟩,
 ⟨(.load true 4 (.loc 0)), none, none⟩,
 ⟨(.call false 46 [(.loc 4), (.loc 2), (.loc 0)]), none, none⟩,
 ⟨(.append 82 5 64 (.loc 6) (.loc 0)), none, none⟩,
 ⟨(.mov (.loc 0)), (some 4), none⟩]
def c29_13 : CC := (.seq (.seq (.region [] [] c29_10) (.cond (.var 11) .skip (.exit 1))) (.block 2 (.seq (.region [] [] c29_11) (.region [] [] c29_12))))
def c29 : CFun := ⟨3, 12, (.seq (.region [] [] c29_0) (.seq (.region [] [] c29_1) (.block 0 (.seq (.region [] [] c29_2) (.cond (.var 7) (.region [] [] c29_3) (.seq (.region [] [] c29_4) (.cond (.var 8) (.region [] [] c29_5) (.seq (.region [] [] c29_6) (.cond (.var 9) (.region [] [] c29_7) (.seq (.region [] [] c29_8) (.cond (.var 10) (.seq (.region [] [] c29_9) (.block 1 (.loop [true, false, false, false, true, false, false, false, false, false, false, false] [] c29_13))) .skip))))))))))), []⟩
theorem ok29 : CodeOk Tryd.prog T 29 c29 := ⟨⟨Tryd.f29, Hints.of [] [] [(1, [true, false, false, false, true, false, false, false, false, false, false, false], [])], [0, 1, 2, 5, 6, 7, 9, 10, 16, 24, 32, 40], Tryd.func29, by kernel_rfl, by kernel_rfl⟩⟩

def c30_0 : List CO := [⟨(.box 41 (.var 1)), (some 2), none⟩]
def c30_1 : List CO := [⟨(.mov (.var 0)), none, none⟩,
 ⟨(.mov (.var 0)), none, none⟩,
 ⟨(.nilchk (.loc 0)), none, none⟩,
 ⟨(.fa 0 (.loc 0)), none, none⟩,
 ⟨(.load false 1 (.loc 0)), none, none⟩,
 ⟨(.load true 5 (.var 2)), none, none⟩,
 ⟨(.bslice 5 [(.int .i64 0), (.int .i64 0), (.int .i64 0), (.string ⟨#[]⟩), (.int .i64 0)] 1 [(0, (.loc 0))]), none, none⟩,
 ⟨(.append 41 5 48 (.loc 2) (.loc 0)), none, none⟩,
 ⟨(.nilchk (.loc 7)), none, none⟩,
 ⟨(.fa 0 (.loc 0)), none, none⟩,
 ⟨(.store 1 (.loc 0) (.loc 2)), none, none⟩]
def c30 : CFun := ⟨2, 3, (.seq (.region [] [] c30_0) (.region [] [] c30_1)), []⟩
theorem ok30 : CodeOk Tryd.prog T 30 c30 := ⟨⟨Tryd.f30, Hints.of [] [] [], [0, 1, 3], Tryd.func30, by kernel_rfl, by kernel_rfl⟩⟩

def c31_0 : List CO := [⟨(.box 32 (.var 2)), (some 3), none⟩]
def c31_1 : List CO := [⟨(.fa 0 (.var 3)), none, none⟩,
 ⟨(.load false 1 (.loc 0)), (some 4), none⟩]
def c31_2 : List CO := [⟨(.bin .eql (.var 4) (.k (.int .i64 1))), none, none⟩,
 ⟨(.mov (.loc 0)), (some 5), none⟩]
def c31_3 : List CO := [⟨(.mov (.var 0)), none, none⟩,
 ⟨(.mov (.var 1)), none, none⟩,
 ⟨(.load true 4 (.var 3)), none, none⟩,
 ⟨(.call false 45 [(.loc 2), (.k (.int .i64 11)), (.k (.int .i64 12)), (.loc 1), (.loc 0)]), none, none⟩]
def c31_4 : List CO := [⟨(.bin .eql (.var 4) (.k (.int .i64 2))), none, none⟩,
 ⟨(.mov (.loc 0)), (some 6), none⟩]
def c31_5 : List CO := [⟨(.mov (.var 0)), none, none⟩,
 ⟨(.mov (.var 1)), none, none⟩,
 ⟨(.fa 1 (.var 3)), none, none⟩,
 ⟨(.load false 1 (.loc 0)), none, none⟩,
 ⟨(.build [(.int .i64 0), (.int .i64 0), (.int .i64 0), (.string ⟨#[]⟩), (.int .i64 0)] [(0, 1, (.k (.int .i64 13))), (1, 1, (.loc 2)), (3, 1, (.loc 0))]), none, none⟩,
 ⟨(.call false 30 [(.loc 4), (.loc 0)]), none, none⟩]
def c31_6 : List CO := [⟨(.bin .eql (.var 4) (.k (.int .i64 3))), none, none⟩,
 ⟨(.mov (.loc 0)), (some 7), none⟩]
def c31_7 : List CO := [⟨(.mov (.var 0)), none, none⟩,
 ⟨(.mov (.var 1)), none, none⟩,
 ⟨(.fa 2 (.var 3)), none, none⟩,
 ⟨(.load false 1 (.loc 0)), none, none⟩,
 ⟨(.build [(.int .i64 0), (.int .i64 0), (.int .i64 0), (.string ⟨#[]⟩), (.int .i64 0)] [(0, 1, (.k (.int .i64 14))), (1, 1, (.loc 2)), (4, 1, (.loc 0))]), none, none⟩,
 ⟨(.call false 30 [(.loc 4), (.loc 0)]), none, none⟩]
def c31_8 : List CO := [⟨(.mov (.var 0)), none, none⟩,
 ⟨(.mov (.var 1)), none, none⟩,
 ⟨(.load true 4 (.var 3)), none, none⟩,
 ⟨(.call false 47 [(.loc 2), (.loc 1), (.loc 0)]), none, none⟩]
def c31 : CFun := ⟨3, 8, (.seq (.region [] [] c31_0) (.seq (.region [] [] c31_1) (.block 0 (.seq (.region [] [] c31_2) (.cond (.var 5) (.region [] [] c31_3) (.seq (.region [] [] c31_4) (.cond (.var 6) (.region [] [] c31_5) (.seq (.region [] [] c31_6) (.cond (.var 7) (.region [] [] c31_7) (.region [] [] c31_8)))))))))), []⟩
theorem ok31 : CodeOk Tryd.prog T 31 c31 := ⟨⟨Tryd.f31, Hints.of [] [] [], [0, 1, 2, 5, 7, 12, 18, 26], Tryd.func31, by kernel_rfl, by kernel_rfl⟩⟩

def c33_0 : List CO := [⟨(.mov (.k (.bool false))), (some 2), none⟩]
def c33_1 : List CO := [⟨(.mov (.var 0)), (some 4), none⟩,
 ⟨(.len .slice (.var 4)), (some 5), none⟩,
 ⟨(.mov (.k (.int .i64 0))), (some 6), none⟩]
def c33_2 : List CO := [⟨(.bin .lss (.var 6) (.var 5)), (some 7), none⟩]
def c33_3 : List CO := [⟨(.ia 1 (.var 4) (.var 6)), none, none⟩,
 ⟨(.load false 1 (.loc 0)), none, none⟩,
 ⟨(.mov (.loc 0)), (some 3), none⟩]
def c33_4 : List CO := [⟨(.mov (.var 3)), none, none⟩,
 ⟨(.mov (.var 1)), none, none⟩,
 ⟨(.bin .eql (.loc 1) (.loc 0)), (some 8), none⟩]
def c33_5 : List CO := [⟨(.mov (.k (.bool true))), (some 2), none⟩]
def c33_6 : List CO := [⟨(.bin .add (.var 6) (.k (.int .i64 1))), none, none⟩,
 ⟨(.mov (.loc 0)), (some 6), none⟩]
def c33_7 : CC := (.seq (.region [] [] c33_2) (.seq (.cond (.var 7) .skip (.exit 0)) (.seq (.block 1 (.seq (.region [] [] c33_3) (.seq (.region [] [] c33_4) (.cond (.var 8) (.seq (.region [] [] c33_5) .ret) .skip)))) (.region [] [] c33_6))))
def c33_8 : List CO := [⟨(.mov (.k (.bool false))), (some 2), none⟩]
def c33 : CFun := ⟨2, 9, (.seq (.region [] [] c33_0) (.seq (.seq (.region [] [] c33_1) (.block 0 (.loop [false, true, false, false, true, true, true, false, false] [] c33_7))) (.seq (.region [] [] c33_8) .ret))), [.var 2]⟩
theorem ok33 : CodeOk Tryd.prog T 33 c33 := ⟨⟨Tryd.f33, Hints.of [] [] [(0, [false, true, false, false, true, true, true, false, false], [])], [0, 1, 4, 6, 7, 8, 9, 10, 15], Tryd.func33, by kernel_rfl, by kernel_rfl⟩⟩

def c34_0 : List CO := [⟨(.mov (.k (.bool false))), (some 2), none⟩]
def c34_1 : List CO := [⟨(.mov (.var 1)), none, none⟩,
 ⟨(.bin .lss (.loc 0) (.k (.int .i64 0))), none, none⟩,
 ⟨(.mov (.loc 0)), none, none⟩,
 ⟨(.mov (.var 1)), none, (some ((.loc 0), false))⟩,
 ⟨(.bin .gtr (.loc 0) (.k (.int .i64 16))), none, (some ((.loc 1), false))⟩,
 ⟨(.pick (.loc 2) (.k (.bool true)) (.loc 0)), none, none⟩,
 ⟨(.mov (.loc 0)), none, none⟩,
 ⟨(.mov (.var 0)), none, (some ((.loc 0), false))⟩,
 ⟨(.nilchk (.loc 0)), none, (some ((.loc 1), false))⟩,
 ⟨(.fa 8 (.loc 0)), none, (some ((.loc 2), false))⟩,
 ⟨(.load false 1 (.loc 0)), none, (some ((.loc 3), false))⟩,
 ⟨(.mov (.loc 0)), none, (some ((.loc 4), false))⟩,
 ⟨(.mov (.var 1)), none, (some ((.loc 0), true))⟩,
 ⟨(.bin .gtr (.loc 0) (.k (.int .i64 0))), none, (some ((.loc 1), true))⟩,
 ⟨(.pick (.loc 2) (.loc 0) (.k (.bool false))), none, (some ((.loc 7), false))⟩,
 ⟨(.pick (.loc 8) (.k (.bool true)) (.loc 0)), (some 4), none⟩]
def c34_2 : List CO := [⟨(.mov (.k (.bool false))), (some 2), none⟩]
def c34_3 : List CO := [⟨(.mov (.var 1)), (some 5), none⟩,
 ⟨(.mov (.k (.int .i64 0))), (some 6), none⟩]
def c34_4 : List CO := [⟨(.bin .lss (.var 6) (.var 5)), (some 7), none⟩]
def c34_5 : List CO := [⟨(.mov (.var 6)), none, none⟩,
 ⟨(.mov (.loc 0)), (some 3), none⟩]
def c34_6 : List CO := [⟨(.mov (.var 0)), none, none⟩,
 ⟨(.nilchk (.loc 0)), none, none⟩,
 ⟨(.fa 4 (.loc 0)), none, none⟩,
 ⟨(.load false 1 (.loc 0)), none, none⟩,
 ⟨(.mov (.var 3)), none, none⟩,
 ⟨(.callf 33 [(.loc 1), (.loc 0)]), none, none⟩,
 ⟨(.un .not (.loc 0)), (some 8), none⟩]
def c34_7 : List CO := [⟨(.mov (.k (.bool false))), (some 2), none⟩]
def c34_8 : List CO := [⟨(.bin .add (.var 6) (.k (.int .i64 1))), none, none⟩,
 ⟨(.mov (.loc 0)), (some 6), none⟩]
def c34_9 : CC := (.seq (.region [] [] c34_4) (.seq (.cond (.var 7) .skip (.exit 0)) (.seq (.block 1 (.seq (.region [] [] c34_5) (.seq (.region [] [] c34_6) (.cond (.var 8) (.seq (.region [] [] c34_7) .ret) .skip)))) (.region [] [] c34_8))))
def c34_10 : List CO := [⟨(.mov (.k (.bool true))), (some 2), none⟩]
def c34 : CFun := ⟨2, 9, (.seq (.region [] [] c34_0) (.seq (.seq (.region [] [] c34_1) (.cond (.var 4) (.seq (.region [] [] c34_2) .ret) .skip)) (.seq (.seq (.region [] [] c34_3) (.block 0 (.loop [true, false, false, false, false, true, true, false, false] [] c34_9))) (.seq (.region [] [] c34_10) .ret)))), [.var 2]⟩
theorem ok34 : CodeOk Tryd.prog T 34 c34 := ⟨⟨Tryd.f34, Hints.of [] [] [(0, [true, false, false, false, false, true, true, false, false], [])], [0, 1, 4, 5, 21, 22, 23, 24, 32], Tryd.func34, by kernel_rfl, by kernel_rfl⟩⟩

def c35_0 : List CO := [⟨(.mov (.var 0)), none, none⟩,
 ⟨(.nilchk (.loc 0)), none, none⟩,
 ⟨(.fa 8 (.loc 0)), none, none⟩,
 ⟨(.load false 1 (.loc 0)), (some 1), none⟩]
def c35_1 : List CO := [⟨(.mov (.var 0)), none, none⟩,
 ⟨(.nilchk (.loc 0)), none, none⟩,
 ⟨(.fa 8 (.loc 0)), none, none⟩,
 ⟨(.store 1 (.loc 0) (.k (.bool false))), none, none⟩]
def c35_2 : List CO := [⟨(.mov (.var 0)), none, none⟩,
 ⟨(.nilchk (.loc 0)), none, none⟩,
 ⟨(.fa 4 (.loc 0)), none, none⟩,
 ⟨(.store 1 (.loc 0) (.k (.slice none 0 0))), none, none⟩]
def c35 : CFun := ⟨1, 2, (.seq (.region [] [] c35_0) (.cond (.var 1) (.seq (.region [] [] c35_1) (.region [] [] c35_2)) .skip)), []⟩
theorem ok35 : CodeOk Tryd.prog T 35 c35 := ⟨⟨Tryd.f35, Hints.of [] [] [], [0, 5], Tryd.func35, by kernel_rfl, by kernel_rfl⟩⟩

def c36_0 : List CO := [⟨(.box 32 (.var 0)), (some 1), none⟩,
 ⟨(.mov (.k (.bool false))), (some 2), none⟩]
def c36_1 : List CO := [⟨(.fa 0 (.var 1)), none, none⟩,
 ⟨(.load false 1 (.loc 0)), (some 4), none⟩]
def c36_2 : List CO := [⟨(.bin .eql (.var 4) (.k (.int .i64 1))), none, none⟩,
 ⟨(.mov (.loc 0)), (some 5), none⟩]
def c36_3 : List CO := [⟨(.fa 2 (.var 1)), none, none⟩,
 ⟨(.load false 1 (.loc 0)), none, none⟩,
 ⟨(.bin .geq (.loc 0) (.k (.int .i64 0))), none, none⟩,
 ⟨(.mov (.loc 0)), none, none⟩,
 ⟨(.fa 1 (.var 1)), none, (some ((.loc 0), true))⟩,
 ⟨(.load false 1 (.loc 0)), none, (some ((.loc 1), true))⟩,
 ⟨(.bin .eql (.loc 0) (.k (.string ⟨#[]⟩))), none, (some ((.loc 2), true))⟩,
 ⟨(.pick (.loc 3) (.loc 0) (.k (.bool false))), none, none⟩,
 ⟨(.mov (.loc 0)), none, none⟩,
 ⟨(.fa 3 (.var 1)), none, (some ((.loc 0), true))⟩,
 ⟨(.load false 1 (.loc 0)), none, (some ((.loc 1), true))⟩,
 ⟨(.len .slice (.loc 0)), none, (some ((.loc 2), true))⟩,
 ⟨(.bin .eql (.loc 0) (.k (.int .i64 0))), none, (some ((.loc 3), true))⟩,
 ⟨(.pick (.loc 4) (.loc 0) (.k (.bool false))), none, none⟩,
 ⟨(.mov (.loc 0)), (some 2), none⟩]
def c36_4 : List CO := [⟨(.bin .eql (.var 4) (.k (.int .i64 2))), none, none⟩,
 ⟨(.mov (.loc 0)), (some 6), none⟩]
def c36_5 : List CO := [⟨(.fa 2 (.var 1)), none, none⟩,
 ⟨(.load false 1 (.loc 0)), none, none⟩,
 ⟨(.bin .eql (.loc 0) (.k (.int .i64 0))), none, none⟩,
 ⟨(.mov (.loc 0)), none, none⟩,
 ⟨(.fa 1 (.var 1)), none, (some ((.loc 0), true))⟩,
 ⟨(.load false 1 (.loc 0)), none, (some ((.loc 1), true))⟩,
 ⟨(.call true 17 [(.loc 0)]), none, (some ((.loc 2), true))⟩,
 ⟨(.pick (.loc 3) (.loc 0) (.k (.bool false))), none, none⟩,
 ⟨(.mov (.loc 0)), none, none⟩,
 ⟨(.fa 3 (.var 1)), none, (some ((.loc 0), true))⟩,
 ⟨(.load false 1 (.loc 0)), none, (some ((.loc 1), true))⟩,
 ⟨(.len .slice (.loc 0)), none, (some ((.loc 2), true))⟩,
 ⟨(.bin .eql (.loc 0) (.k (.int .i64 0))), none, (some ((.loc 3), true))⟩,
 ⟨(.pick (.loc 4) (.loc 0) (.k (.bool false))), none, none⟩,
 ⟨(.mov (.loc 0)), (some 2), none⟩]
def c36_6 : List CO := [⟨(.bin .eql (.var 4) (.k (.int .i64 3))), none, none⟩,
 ⟨(.mov (.loc 0)), (some 7), none⟩]
def c36_7 : List CO := [⟨(.fa 1 (.var 1)), none, none⟩,
 ⟨(.load false 1 (.loc 0)), none, none⟩,
 ⟨(.bin .eql (.loc 0) (.k (.string ⟨#[]⟩))), none, none⟩,
 ⟨(.mov (.loc 0)), none, none⟩,
 ⟨(.fa 3 (.var 1)), none, (some ((.loc 0), true))⟩,
 ⟨(.load false 1 (.loc 0)), none, (some ((.loc 1), true))⟩,
 ⟨(.len .slice (.loc 0)), none, (some ((.loc 2), true))⟩,
 ⟨(.bin .eql (.loc 0) (.k (.int .i64 0))), none, (some ((.loc 3), true))⟩,
 ⟨(.pick (.loc 4) (.loc 0) (.k (.bool false))), none, none⟩,
 ⟨(.mov (.loc 0)), (some 2), none⟩]
def c36_8 : List CO := [⟨(.bin .eql (.var 4) (.k (.int .i64 4))), none, none⟩,
 ⟨(.mov (.loc 0)), (some 8), none⟩]
def c36_9 : List CO := [⟨(.fa 2 (.var 1)), none, none⟩,
 ⟨(.load false 1 (.loc 0)), none, none⟩,
 ⟨(.bin .neq (.loc 0) (.k (.int .i64 0))), none, none⟩,
 ⟨(.mov (.loc 0)), none, none⟩,
 ⟨(.fa 1 (.var 1)), none, (some ((.loc 0), false))⟩,
 ⟨(.load false 1 (.loc 0)), none, (some ((.loc 1), false))⟩,
 ⟨(.call true 17 [(.loc 0)]), none, (some ((.loc 2), false))⟩,
 ⟨(.un .not (.loc 0)), none, (some ((.loc 3), false))⟩,
 ⟨(.pick (.loc 4) (.k (.bool true)) (.loc 0)), none, none⟩,
 ⟨(.mov (.loc 0)), none, none⟩,
 ⟨(.fa 3 (.var 1)), none, (some ((.loc 0), false))⟩,
 ⟨(.load false 1 (.loc 0)), none, (some ((.loc 1), false))⟩,
 ⟨(.len .slice (.loc 0)), none, (some ((.loc 2), false))⟩,
 ⟨(.bin .lss (.loc 0) (.k (.int .i64 1))), none, (some ((.loc 3), false))⟩,
 ⟨(.pick (.loc 4) (.k (.bool true)) (.loc 0)), none, none⟩,
 ⟨(.mov (.loc 0)), none, none⟩,
 ⟨(.fa 3 (.var 1)), none, (some ((.loc 0), false))⟩,
 ⟨(.load false 1 (.loc 0)), none, (some ((.loc 1), false))⟩,
 ⟨(.len .slice (.loc 0)), none, (some ((.loc 2), false))⟩,
 ⟨(.bin .gtr (.loc 0) (.k (.int .i64 16))), none, (some ((.loc 3), false))⟩,
 ⟨(.pick (.loc 4) (.k (.bool true)) (.loc 0)), (some 9), none⟩]
def c36_10 : List CO := [⟨(.mov (.k (.bool false))), (some 2), none⟩]
def c36_11 : List CO := [⟨(.fa 3 (.var 1)), none, none⟩,
 ⟨(.load false 1 (.loc 0)), (some 10), none⟩,
 ⟨(.len .slice (.var 10)), (some 11), none⟩,
 ⟨(.mov (.k (.int .i64 0))), (some 12), none⟩]
def c36_12 : List CO := [⟨(.bin .lss (.var 12) (.var 11)), (some 13), none⟩]
def c36_13 : List CO := [⟨(.ia 4 (.var 10) (.var 12)), none, none⟩,
 ⟨(.load true 4 (.loc 0)), none, none⟩,
 ⟨(.box 32 (.k (.agg #[(.int .i64 0), (.string ⟨#[]⟩), (.int .i64 0), (.slice none 0 0)]))), (some 3), none⟩,
 ⟨(.store 4 (.var 3) (.loc 1)), none, none⟩]
def c36_14 : List CO := [⟨(.load true 4 (.var 3)), none, none⟩,
 ⟨(.call true 36 [(.loc 0)]), none, none⟩,
 ⟨(.un .not (.loc 0)), (some 14), none⟩]
def c36_15 : List CO := [⟨(.mov (.k (.bool false))), (some 2), none⟩]
def c36_16 : List CO := [⟨(.bin .add (.var 12) (.k (.int .i64 1))), none, none⟩,
 ⟨(.mov (.loc 0)), (some 12), none⟩]
def c36_17 : CC := (.seq (.region [] [] c36_12) (.seq (.cond (.var 13) .skip (.exit 1)) (.seq (.block 2 (.seq (.region [] [] c36_13) (.seq (.region [] [] c36_14) (.cond (.var 14) (.seq (.region [] [] c36_15) .ret) .skip)))) (.region [] [] c36_16))))
def c36_18 : List CO := [⟨(.mov (.k (.bool true))), (some 2), none⟩]
def c36_19 : List CO := [⟨(.mov (.k (.bool false))), (some 2), none⟩]
def c36 : CFun := ⟨1, 15, (.seq (.region [] [] c36_0) (.seq (.seq (.region [] [] c36_1) (.block 0 (.seq (.region [] [] c36_2) (.cond (.var 5) (.seq (.region [] [] c36_3) .ret) (.seq (.region [] [] c36_4) (.cond (.var 6) (.seq (.region [] [] c36_5) .ret) (.seq (.region [] [] c36_6) (.cond (.var 7) (.seq (.region [] [] c36_7) .ret) (.seq (.region [] [] c36_8) (.cond (.var 8) (.seq (.seq (.region [] [] c36_9) (.cond (.var 9) (.seq (.region [] [] c36_10) .ret) .skip)) (.seq (.seq (.region [] [] c36_11) (.block 1 (.loop [false, false, false, false, false, false, false, false, false, false, true, true, true, false, false] [] c36_17))) (.seq (.region [] [] c36_18) .ret))) .skip)))))))))) (.seq (.region [] [] c36_19) .ret))), [.var 2]⟩
theorem ok36 : CodeOk Tryd.prog T 36 c36 := ⟨⟨Tryd.f36, Hints.of [] [] [(1, [false, false, false, false, false, false, false, false, false, false, true, true, true, false, false], [])], [0, 1, 2, 4, 6, 7, 23, 39, 50, 72, 74, 75, 76, 77, 82], Tryd.func36, by kernel_rfl, by kernel_rfl⟩⟩

def c37_0 : List CO := [⟨(.box 32 (.var 0)), (some 1), none⟩,
 ⟨(.mov (.k (.int .i64 0))), (some 2), none⟩]
def c37_1 : List CO := [⟨(.mov (.k (.int .i64 0))), (some 3), none⟩]
def c37_2 : List CO := [⟨(.fa 3 (.var 1)), none, none⟩,
 ⟨(.load false 1 (.loc 0)), (some 5), none⟩,
 ⟨(.len .slice (.var 5)), (some 6), none⟩,
 ⟨(.mov (.k (.int .i64 0))), (some 7), none⟩]
def c37_3 : List CO := [⟨(.bin .lss (.var 7) (.var 6)), (some 8), none⟩]
def c37_4 : List CO := [⟨(.ia 4 (.var 5) (.var 7)), none, none⟩,
 ⟨(.load true 4 (.loc 0)), none, none⟩,
 ⟨(.box 32 (.k (.agg #[(.int .i64 0), (.string ⟨#[]⟩), (.int .i64 0), (.slice none 0 0)]))), (some 4), none⟩,
 ⟨(.store 4 (.var 4) (.loc 1)), none, none⟩]
def c37_5 : List CO := [⟨(.mov (.var 3)), none, none⟩,
 ⟨(.load true 4 (.var 4)), none, none⟩,
 ⟨(.call true 37 [(.loc 0)]), none, none⟩,
 ⟨(.mm true (.loc 2) (.loc 0)), none, none⟩,
 ⟨(.mov (.loc 0)), (some 3), none⟩]
def c37_6 : List CO := [⟨(.bin .add (.var 7) (.k (.int .i64 1))), none, none⟩,
 ⟨(.mov (.loc 0)), (some 7), none⟩]
def c37_7 : CC := (.seq (.region [] [] c37_3) (.seq (.cond (.var 8) .skip (.exit 0)) (.seq (.block 1 (.seq (.region [] [] c37_4) (.region [] [] c37_5))) (.region [] [] c37_6))))
def c37_8 : List CO := [⟨(.mov (.var 3)), none, none⟩,
 ⟨(.bin .add (.loc 0) (.k (.int .i64 1))), none, none⟩,
 ⟨(.mov (.loc 0)), (some 2), none⟩]
def c37 : CFun := ⟨1, 9, (.seq (.region [] [] c37_0) (.seq (.region [] [] c37_1) (.seq (.seq (.region [] [] c37_2) (.block 0 (.loop [false, false, false, true, false, true, true, true, false] [] c37_7))) (.seq (.region [] [] c37_8) .ret)))), [.var 2]⟩
theorem ok37 : CodeOk Tryd.prog T 37 c37 := ⟨⟨Tryd.f37, Hints.of [] [] [(0, [false, false, false, true, false, true, true, true, false], [])], [0, 1, 2, 3, 5, 7, 8, 9, 10], Tryd.func37, by kernel_rfl, by kernel_rfl⟩⟩

def c38_0 : List CO := [⟨(.box 32 (.var 0)), (some 1), none⟩,
 ⟨(.mov (.k (.slice none 0 0))), (some 2), none⟩]
def c38_1 : List CO := [⟨(.mov (.k (.slice none 0 0))), (some 3), none⟩]
def c38_2 : List CO := [⟨(.fa 0 (.var 1)), none, none⟩,
 ⟨(.load false 1 (.loc 0)), none, none⟩,
 ⟨(.bin .eql (.loc 0) (.k (.int .i64 1))), (some 5), none⟩]
def c38_3 : List CO := [⟨(.mov (.var 3)), none, none⟩,
 ⟨(.fa 2 (.var 1)), none, none⟩,
 ⟨(.load false 1 (.loc 0)), none, none⟩,
 ⟨(.bslice 1 [(.int .i64 0)] 1 [(0, (.loc 0))]), none, none⟩,
 ⟨(.append 2 1 8 (.loc 3) (.loc 0)), none, none⟩,
 ⟨(.mov (.loc 0)), (some 3), none⟩]
def c38_4 : List CO := [⟨(.fa 3 (.var 1)), none, none⟩,
 ⟨(.load false 1 (.loc 0)), (some 6), none⟩,
 ⟨(.len .slice (.var 6)), (some 7), none⟩,
 ⟨(.mov (.k (.int .i64 0))), (some 8), none⟩]
def c38_5 : List CO := [⟨(.bin .lss (.var 8) (.var 7)), (some 9), none⟩]
def c38_6 : List CO := [⟨(.ia 4 (.var 6) (.var 8)), none, none⟩,
 ⟨(.load true 4 (.loc 0)), none, none⟩,
 ⟨(.box 32 (.k (.agg #[(.int .i64 0), (.string ⟨#[]⟩), (.int .i64 0), (.slice none 0 0)]))), (some 4), none⟩,
 ⟨(.store 4 (.var 4) (.loc 1)), none, none⟩]
def c38_7 : List CO := [⟨(.mov (.var 3)), none, none⟩,
 ⟨(.load true 4 (.var 4)), none, none⟩,
 ⟨(.call true 38 [(.loc 0)]), none, none⟩,
 ⟨(.append 2 1 8 (.loc 2) (.loc 0)), none, none⟩,
 ⟨(.mov (.loc 0)), (some 3), none⟩]
def c38_8 : List CO := [⟨(.bin .add (.var 8) (.k (.int .i64 1))), none, none⟩,
 ⟨(.mov (.loc 0)), (some 8), none⟩]
def c38_9 : CC := (.seq (.region [] [] c38_5) (.seq (.cond (.var 9) .skip (.exit 0)) (.seq (.block 1 (.seq (.region [] [] c38_6) (.region [] [] c38_7))) (.region [] [] c38_8))))
def c38_10 : List CO := [⟨(.mov (.var 3)), none, none⟩,
 ⟨(.mov (.loc 0)), (some 2), none⟩]
def c38 : CFun := ⟨1, 10, (.seq (.region [] [] c38_0) (.seq (.region [] [] c38_1) (.seq (.seq (.region [] [] c38_2) (.cond (.var 5) (.region [] [] c38_3) .skip)) (.seq (.seq (.region [] [] c38_4) (.block 0 (.loop [false, false, false, true, false, false, true, true, true, false] [] c38_9))) (.seq (.region [] [] c38_10) .ret))))), [.var 2]⟩
theorem ok38 : CodeOk Tryd.prog T 38 c38 := ⟨⟨Tryd.f38, Hints.of [] [] [(0, [false, false, false, true, false, false, true, true, true, false], [])], [0, 1, 2, 3, 5, 8, 15, 16, 17, 18], Tryd.func38, by kernel_rfl, by kernel_rfl⟩⟩

def c39_0 : List CO := [⟨(.mov (.k (.bool false))), (some 2), none⟩]
def c39_1 : List CO := [⟨(.mov (.var 0)), (some 4), none⟩,
 ⟨(.len .slice (.var 4)), (some 5), none⟩,
 ⟨(.mov (.k (.int .i64 0))), (some 6), none⟩]
def c39_2 : List CO := [⟨(.bin .lss (.var 6) (.var 5)), (some 7), none⟩]
def c39_3 : List CO := [⟨(.ia 1 (.var 4) (.var 6)), none, none⟩,
 ⟨(.load false 1 (.loc 0)), none, none⟩,
 ⟨(.mov (.loc 0)), (some 3), none⟩]
def c39_4 : List CO := [⟨(.mov (.var 3)), none, none⟩,
 ⟨(.mov (.var 1)), none, none⟩,
 ⟨(.bin .eql (.loc 1) (.loc 0)), (some 8), none⟩]
def c39_5 : List CO := [⟨(.mov (.k (.bool true))), (some 2), none⟩]
def c39_6 : List CO := [⟨(.bin .add (.var 6) (.k (.int .i64 1))), none, none⟩,
 ⟨(.mov (.loc 0)), (some 6), none⟩]
def c39_7 : CC := (.seq (.region [] [] c39_2) (.seq (.cond (.var 7) .skip (.exit 0)) (.seq (.block 1 (.seq (.region [] [] c39_3) (.seq (.region [] [] c39_4) (.cond (.var 8) (.seq (.region [] [] c39_5) .ret) .skip)))) (.region [] [] c39_6))))
def c39_8 : List CO := [⟨(.mov (.k (.bool false))), (some 2), none⟩]
def c39 : CFun := ⟨2, 9, (.seq (.region [] [] c39_0) (.seq (.seq (.region [] [] c39_1) (.block 0 (.loop [false, true, false, false, true, true, true, false, false] [] c39_7))) (.seq (.region [] [] c39_8) .ret))), [.var 2]⟩
theorem ok39 : CodeOk Tryd.prog T 39 c39 := ⟨⟨Tryd.f39, Hints.of [] [] [(0, [false, true, false, false, true, true, true, false, false], [])], [0, 1, 4, 6, 7, 8, 9, 10, 15], Tryd.func39, by kernel_rfl, by kernel_rfl⟩⟩

def c40_0 : List CO := [⟨(.box 32 (.k (.agg #[(.int .i64 0), (.string ⟨#[]⟩), (.int .i64 0), (.slice none 0 0)]))), (some 1), none⟩]
def c40_1 : List CO := [⟨(.mov (.var 0)), none, none⟩,
 ⟨(.build [(.int .i64 0), (.string ⟨#[]⟩), (.int .i64 0), (.slice none 0 0)] [(0, 1, (.k (.int .i64 1))), (2, 1, (.loc 0))]), none, none⟩,
 ⟨(.store 4 (.var 1) (.loc 0)), none, none⟩]
def c40 : CFun := ⟨1, 2, (.seq (.region [] [] c40_0) (.seq (.region [] [] c40_1) .ret)), [.cell 1 true 4]⟩
theorem ok40 : CodeOk Tryd.prog T 40 c40 := ⟨⟨Tryd.f40, Hints.of [] [] [], [0, 2], Tryd.func40, by kernel_rfl, by kernel_rfl⟩⟩

def c41_0 : List CO := [⟨(.mov (.k (.int .i64 0))), (some 2), none⟩]
def c41_1 : List CO := [⟨(.mov (.var 0)), (some 5), none⟩,
 ⟨(.len .slice (.var 5)), (some 6), none⟩,
 ⟨(.mov (.k (.int .i64 0))), (some 7), none⟩]
def c41_2 : List CO := [⟨(.bin .lss (.var 7) (.var 6)), (some 8), none⟩]
def c41_3 : List CO := [⟨(.mov (.var 7)), none, none⟩,
 ⟨(.ia 1 (.var 5) (.var 7)), none, none⟩,
 ⟨(.load false 1 (.loc 0)), none, none⟩,
 ⟨(.mov (.loc 2)), (some 3), none⟩,
 ⟨(.mov (.loc 1)), (some 4), none⟩]
def c41_4 : List CO := [⟨(.mov (.var 4)), none, none⟩,
 ⟨(.mov (.var 1)), none, none⟩,
 ⟨(.bin .eql (.loc 1) (.loc 0)), (some 9), none⟩]
def c41_5 : List CO := [⟨(.mov (.var 3)), none, none⟩,
 ⟨(.mov (.loc 0)), (some 2), none⟩]
def c41_6 : List CO := [⟨(.bin .add (.var 7) (.k (.int .i64 1))), none, none⟩,
 ⟨(.mov (.loc 0)), (some 7), none⟩]
def c41_7 : CC := (.seq (.region [] [] c41_2) (.seq (.cond (.var 8) .skip (.exit 0)) (.seq (.block 1 (.seq (.region [] [] c41_3) (.seq (.region [] [] c41_4) (.cond (.var 9) (.seq (.region [] [] c41_5) .ret) .skip)))) (.region [] [] c41_6))))
def c41_8 : List CO := [⟨(.mov (.k (.int .i64 0))), (some 2), none⟩]
def c41 : CFun := ⟨2, 10, (.seq (.region [] [] c41_0) (.seq (.seq (.region [] [] c41_1) (.block 0 (.loop [false, true, false, false, false, true, true, true, false, false] [] c41_7))) (.seq (.region [] [] c41_8) .ret))), [.var 2]⟩
theorem ok41 : CodeOk Tryd.prog T 41 c41 := ⟨⟨Tryd.f41, Hints.of [] [] [(0, [false, true, false, false, false, true, true, true, false, false], [])], [0, 1, 4, 5, 6, 7, 8, 9, 10, 16], Tryd.func41, by kernel_rfl, by kernel_rfl⟩⟩

def c42_0 : List CO := [⟨(.box 32 (.var 0)), (some 1), none⟩,
 ⟨(.mov (.k (.slice none 0 0))), (some 2), none⟩]
def c42_1 : List CO := [⟨(.load true 4 (.var 1)), none, none⟩,
 ⟨(.call true 25 [(.loc 0), (.k (.string ⟨#[44]⟩)), (.k (.int .i64 2))]), (some 3), none⟩]
def c42_2 : List CO := [⟨(.fa 3 (.var 1)), none, none⟩,
 ⟨(.load false 1 (.loc 0)), none, none⟩,
 ⟨(.ia 4 (.loc 0) (.k (.int .i64 0))), none, none⟩,
 ⟨(.load true 4 (.loc 0)), none, none⟩,
 ⟨(.call false 42 [(.loc 0)]), none, none⟩,
 ⟨(.fa 3 (.var 1)), none, none⟩,
 ⟨(.load false 1 (.loc 0)), none, none⟩,
 ⟨(.ia 4 (.loc 0) (.k (.int .i64 1))), none, none⟩,
 ⟨(.load true 4 (.loc 0)), none, none⟩,
 ⟨(.call false 42 [(.loc 0)]), none, none⟩,
 ⟨(.append 32 4 56 (.loc 5) (.loc 0)), none, none⟩,
 ⟨(.mov (.loc 0)), (some 2), none⟩]
def c42_3 : List CO := [⟨(.load true 4 (.var 1)), none, none⟩,
 ⟨(.bslice 4 [(.int .i64 0), (.string ⟨#[]⟩), (.int .i64 0), (.slice none 0 0)] 1 [(0, (.loc 0))]), none, none⟩,
 ⟨(.mov (.loc 0)), (some 2), none⟩]
def c42 : CFun := ⟨1, 4, (.seq (.region [] [] c42_0) (.seq (.seq (.region [] [] c42_1) (.cond (.var 3) (.seq (.region [] [] c42_2) .ret) .skip)) (.seq (.region [] [] c42_3) .ret))), [.var 2]⟩
theorem ok42 : CodeOk Tryd.prog T 42 c42 := ⟨⟨Tryd.f42, Hints.of [] [] [], [0, 1, 2, 4], Tryd.func42, by kernel_rfl, by kernel_rfl⟩⟩

def c43_0 : List CO := [⟨(.mov (.k (.bool false))), (some 2), none⟩]
def c43_1 : List CO := [⟨(.mov (.var 0)), (some 4), none⟩,
 ⟨(.len .slice (.var 4)), (some 5), none⟩,
 ⟨(.mov (.k (.int .i64 0))), (some 6), none⟩]
def c43_2 : List CO := [⟨(.bin .lss (.var 6) (.var 5)), (some 7), none⟩]
def c43_3 : List CO := [⟨(.ia 1 (.var 4) (.var 6)), none, none⟩,
 ⟨(.load false 1 (.loc 0)), none, none⟩,
 ⟨(.mov (.loc 0)), (some 3), none⟩]
def c43_4 : List CO := [⟨(.mov (.var 3)), none, none⟩,
 ⟨(.mov (.var 1)), none, none⟩,
 ⟨(.bin .eql (.loc 1) (.loc 0)), (some 8), none⟩]
def c43_5 : List CO := [⟨(.mov (.k (.bool true))), (some 2), none⟩]
def c43_6 : List CO := [⟨(.bin .add (.var 6) (.k (.int .i64 1))), none, none⟩,
 ⟨(.mov (.loc 0)), (some 6), none⟩]
def c43_7 : CC := (.seq (.region [] [] c43_2) (.seq (.cond (.var 7) .skip (.exit 0)) (.seq (.block 1 (.seq (.region [] [] c43_3) (.seq (.region [] [] c43_4) (.cond (.var 8) (.seq (.region [] [] c43_5) .ret) .skip)))) (.region [] [] c43_6))))
def c43_8 : List CO := [⟨(.mov (.k (.bool false))), (some 2), none⟩]
def c43 : CFun := ⟨2, 9, (.seq (.region [] [] c43_0) (.seq (.seq (.region [] [] c43_1) (.block 0 (.loop [false, true, false, false, true, true, true, false, false] [] c43_7))) (.seq (.region [] [] c43_8) .ret))), [.var 2]⟩
theorem ok43 : CodeOk Tryd.prog T 43 c43 := ⟨⟨Tryd.f43, Hints.of [] [] [(0, [false, true, false, false, true, true, true, false, false], [])], [0, 1, 4, 6, 7, 8, 9, 10, 15], Tryd.func43, by kernel_rfl, by kernel_rfl⟩⟩

def c44_0 : List CO := [⟨(.mov (.k (.slice none 0 0))), (some 1), none⟩]
def c44_1 : List CO := [⟨(.mov (.var 0)), (some 2), none⟩]
def c44_2 : List CO := [⟨(.bin .eql (.var 2) (.k (.int .i64 0))), none, none⟩,
 ⟨(.mov (.loc 0)), (some 3), none⟩]
def c44_3 : List CO := [⟨(.bslice 1 [(.string ⟨#[]⟩)] 3 [(0, (.k (.string ⟨#[116, 114, 117, 101]⟩))), (1, (.k (.string ⟨#[102, 97, 105, 108]⟩))), (2, (.k (.string ⟨#[33]⟩)))]), none, none⟩,
 ⟨(.mov (.loc 0)), (some 1), none⟩]
def c44_4 : List CO := [⟨(.bin .eql (.var 2) (.k (.int .i64 1))), none, none⟩,
 ⟨(.mov (.loc 0)), (some 4), none⟩]
def c44_5 : List CO := [⟨(.bslice 1 [(.string ⟨#[]⟩)] 6 [(0, (.k (.string ⟨#[118, 97, 114]⟩))), (1, (.k (.string ⟨#[110, 111, 110, 118, 97, 114]⟩))), (2, (.k (.string ⟨#[97, 116, 111, 109]⟩))), (3, (.k (.string ⟨#[105, 110, 116, 101, 103, 101, 114]⟩))), (4, (.k (.string ⟨#[97, 116, 111, 109, 105, 99]⟩))), (5, (.k (.string ⟨#[99, 111, 109, 112, 111, 117, 110, 100]⟩)))]), none, none⟩,
 ⟨(.mov (.loc 0)), (some 1), none⟩]
def c44_6 : List CO := [⟨(.bin .eql (.var 2) (.k (.int .i64 2))), none, none⟩,
 ⟨(.mov (.loc 0)), (some 5), none⟩]
def c44_7 : List CO := [⟨(.bslice 1 [(.string ⟨#[]⟩)] 16 [(0, (.k (.string ⟨#[61]⟩))), (1, (.k (.string ⟨#[92, 61]⟩))), (2, (.k (.string ⟨#[61, 61]⟩))), (3, (.k (.string ⟨#[92, 61, 61]⟩))), (4, (.k (.string ⟨#[64, 60]⟩))), (5, (.k (.string ⟨#[64, 61, 60]⟩))), (6, (.k (.string ⟨#[64, 62]⟩))), (7, (.k (.string ⟨#[64, 62, 61]⟩))), (8, (.k (.string ⟨#[61, 46, 46]⟩))), (9, (.k (.string ⟨#[105, 115]⟩))), (10, (.k (.string ⟨#[61, 58, 61]⟩))), (11, (.k (.string ⟨#[61, 92, 61]⟩))), (12, (.k (.string ⟨#[60]⟩))), (13, (.k (.string ⟨#[61, 60]⟩))), (14, (.k (.string ⟨#[62]⟩))), (15, (.k (.string ⟨#[62, 61]⟩)))]), none, none⟩,
 ⟨(.mov (.loc 0)), (some 1), none⟩]
def c44_8 : List CO := [⟨(.bin .eql (.var 2) (.k (.int .i64 3))), none, none⟩,
 ⟨(.mov (.loc 0)), (some 6), none⟩]
def c44_9 : List CO := [⟨(.bslice 1 [(.string ⟨#[]⟩)] 2 [(0, (.k (.string ⟨#[102, 117, 110, 99, 116, 111, 114]⟩))), (1, (.k (.string ⟨#[97, 114, 103]⟩)))]), none, none⟩,
 ⟨(.mov (.loc 0)), (some 1), none⟩]
def c44_10 : List CO := [⟨(.mov (.k (.slice none 0 0))), (some 1), none⟩]
def c44 : CFun := ⟨1, 7, (.seq (.region [] [] c44_0) (.seq (.seq (.region [] [] c44_1) (.block 0 (.seq (.region [] [] c44_2) (.cond (.var 3) (.seq (.region [] [] c44_3) .ret) (.seq (.region [] [] c44_4) (.cond (.var 4) (.seq (.region [] [] c44_5) .ret) (.seq (.region [] [] c44_6) (.cond (.var 5) (.seq (.region [] [] c44_7) .ret) (.seq (.region [] [] c44_8) (.cond (.var 6) (.seq (.region [] [] c44_9) .ret) .skip)))))))))) (.seq (.region [] [] c44_10) .ret))), [.var 1]⟩
theorem ok44 : CodeOk Tryd.prog T 44 c44 := ⟨⟨Tryd.f44, Hints.of [] [] [], [0, 2, 3, 4, 7, 10, 13], Tryd.func44, by kernel_rfl, by kernel_rfl⟩⟩

def c45_0 : List CO := [⟨(.box 32 (.var 4)), (some 5), none⟩]
def c45_1 : List CO := [⟨(.mov (.var 2)), none, none⟩,
 ⟨(.mov (.loc 0)), (some 6), none⟩]
def c45_2 : List CO := [⟨(.mov (.var 0)), none, none⟩,
 ⟨(.nilchk (.loc 0)), none, none⟩,
 ⟨(.fa 1 (.loc 0)), none, none⟩,
 ⟨(.load false 1 (.loc 0)), none, none⟩,
 ⟨(.fa 2 (.var 5)), none, none⟩,
 ⟨(.load false 1 (.loc 0)), none, none⟩,
 ⟨(.callf 39 [(.loc 2), (.loc 0)]), none, none⟩,
 ⟨(.un .not (.loc 0)), (some 7), none⟩]
def c45_3 : List CO := [⟨(.mov (.var 0)), none, none⟩,
 ⟨(.mov (.var 0)), none, none⟩,
 ⟨(.nilchk (.loc 0)), none, none⟩,
 ⟨(.fa 1 (.loc 0)), none, none⟩,
 ⟨(.load false 1 (.loc 0)), none, none⟩,
 ⟨(.fa 2 (.var 5)), none, none⟩,
 ⟨(.load false 1 (.loc 0)), none, none⟩,
 ⟨(.bslice 1 [(.int .i64 0)] 1 [(0, (.loc 0))]), none, none⟩,
 ⟨(.append 2 1 8 (.loc 3) (.loc 0)), none, none⟩,
 ⟨(.nilchk (.loc 8)), none, none⟩,
 ⟨(.fa 1 (.loc 0)), none, none⟩,
 ⟨(.store 1 (.loc 0) (.loc 2)), none, none⟩]
def c45_4 : List CO := [⟨(.mov (.var 1)), none, none⟩,
 ⟨(.mov (.loc 0)), (some 6), none⟩]
def c45_5 : List CO := [⟨(.mov (.var 0)), none, none⟩,
 ⟨(.mov (.var 6)), none, none⟩,
 ⟨(.mov (.var 3)), none, none⟩,
 ⟨(.fa 2 (.var 5)), none, none⟩,
 ⟨(.load false 1 (.loc 0)), none, none⟩,
 ⟨(.build [(.int .i64 0), (.int .i64 0), (.int .i64 0), (.string ⟨#[]⟩), (.int .i64 0)] [(0, 1, (.loc 3)), (1, 1, (.loc 2)), (2, 1, (.loc 0))]), none, none⟩,
 ⟨(.call false 30 [(.loc 5), (.loc 0)]), none, none⟩]
def c45 : CFun := ⟨5, 8, (.seq (.region [] [] c45_0) (.seq (.region [] [] c45_1) (.seq (.seq (.region [] [] c45_2) (.cond (.var 7) (.seq (.region [] [] c45_3) (.region [] [] c45_4)) .skip)) (.region [] [] c45_5)))), []⟩
theorem ok45 : CodeOk Tryd.prog T 45 c45 := ⟨⟨Tryd.f45, Hints.of [] [] [], [0, 1, 2, 3, 4, 9, 10, 19], Tryd.func45, by kernel_rfl, by kernel_rfl⟩⟩

def c46_0 : List CO := [⟨(.box 32 (.var 2)), (some 3), none⟩,
 ⟨(.mov (.k (.slice none 0 0))), (some 4), none⟩]
def c46_1 : List CO := [⟨(.mov (.var 0)), none, none⟩,
 ⟨(.mov (.var 1)), none, none⟩,
 ⟨(.fa 1 (.var 3)), none, none⟩,
 ⟨(.load false 1 (.loc 0)), none, none⟩,
 ⟨(.fa 3 (.var 3)), none, none⟩,
 ⟨(.load false 1 (.loc 0)), none, none⟩,
 ⟨(.len .slice (.loc 0)), none, none⟩,
 ⟨(.build [(.int .i64 0), (.int .i64 0), (.int .i64 0), (.string ⟨#[]⟩), (.int .i64 0)] [(0, 1, (.k (.int .i64 5))), (1, 1, (.loc 5)), (3, 1, (.loc 3)), (4, 1, (.loc 0))]), none, none⟩,
 ⟨(.call false 30 [(.loc 7), (.loc 0)]), none, none⟩]
def c46_2 : List CO := [⟨(.mov (.k (.slice none 0 0))), (some 5), none⟩]
def c46_3 : List CO := [⟨(.fa 3 (.var 3)), none, none⟩,
 ⟨(.load false 1 (.loc 0)), (some 8), none⟩,
 ⟨(.len .slice (.var 8)), (some 9), none⟩,
 ⟨(.mov (.k (.int .i64 0))), (some 10), none⟩]
def c46_4 : List CO := [⟨(.bin .lss (.var 10) (.var 9)), (some 11), none⟩]
def c46_5 : List CO := [⟨(.ia 4 (.var 8) (.var 10)), none, none⟩,
 ⟨(.load true 4 (.loc 0)), none, none⟩,
 ⟨(.box 32 (.k (.agg #[(.int .i64 0), (.string ⟨#[]⟩), (.int .i64 0), (.slice none 0 0)]))), (some 6), none⟩,
 ⟨(.store 4 (.var 6) (.loc 1)), none, none⟩]
def c46_6 : List CO := [⟨(.fa 0 (.var 6)), none, none⟩,
 ⟨(.load false 1 (.loc 0)), (some 12), none⟩]
def c46_7 : List CO := [⟨(.bin .eql (.var 12) (.k (.int .i64 1))), none, none⟩,
 ⟨(.mov (.loc 0)), (some 13), none⟩]
def c46_8 : List CO := [⟨(.mov (.var 0)), none, none⟩,
 ⟨(.load true 4 (.var 6)), none, none⟩,
 ⟨(.call false 45 [(.loc 1), (.k (.int .i64 6)), (.k (.int .i64 7)), (.k (.int .i64 0)), (.loc 0)]), none, none⟩]
def c46_9 : List CO := [⟨(.bin .eql (.var 12) (.k (.int .i64 2))), none, none⟩,
 ⟨(.mov (.loc 0)), (some 14), none⟩]
def c46_10 : List CO := [⟨(.mov (.var 0)), none, none⟩,
 ⟨(.fa 1 (.var 6)), none, none⟩,
 ⟨(.load false 1 (.loc 0)), none, none⟩,
 ⟨(.build [(.int .i64 0), (.int .i64 0), (.int .i64 0), (.string ⟨#[]⟩), (.int .i64 0)] [(0, 1, (.k (.int .i64 8))), (3, 1, (.loc 0))]), none, none⟩,
 ⟨(.call false 30 [(.loc 3), (.loc 0)]), none, none⟩]
def c46_11 : List CO := [⟨(.bin .eql (.var 12) (.k (.int .i64 3))), none, none⟩,
 ⟨(.mov (.loc 0)), (some 15), none⟩]
def c46_12 : List CO := [⟨(.mov (.var 0)), none, none⟩,
 ⟨(.fa 2 (.var 6)), none, none⟩,
 ⟨(.load false 1 (.loc 0)), none, none⟩,
 ⟨(.build [(.int .i64 0), (.int .i64 0), (.int .i64 0), (.string ⟨#[]⟩), (.int .i64 0)] [(0, 1, (.k (.int .i64 9))), (4, 1, (.loc 0))]), none, none⟩,
 ⟨(.call false 30 [(.loc 3), (.loc 0)]), none, none⟩]
def c46_13 : List CO := [⟨(.mov (.var 0)), none, none⟩,
 ⟨(.call false 49 [(.loc 0)]), none, none⟩,
 ⟨(.mov (.loc 0)), (some 7), none⟩]
def c46_14 : List CO := [⟨(.mov (.var 0)), none, none⟩,
 ⟨(.mov (.var 7)), none, none⟩,
 ⟨(.build [(.int .i64 0), (.int .i64 0), (.int .i64 0), (.string ⟨#[]⟩), (.int .i64 0)] [(0, 1, (.k (.int .i64 10))), (2, 1, (.loc 0))]), none, none⟩,
 ⟨(.call false 30 [(.loc 2), (.loc 0)]), none, none⟩]
def c46_15 : List CO := [⟨(.mov (.var 5)), none, none⟩,
 ⟨(.mov (.var 7)), none, none⟩,
 ⟨(.load true 4 (.var 6)), none, none⟩,
 ⟨(.build [(.int .i64 0), (.int .i64 0), (.string ⟨#[]⟩), (.int .i64 0), (.slice none 0 0)] [(0, 1, (.loc 1)), (1, 4, (.loc 0))]), none, none⟩,
 ⟨(.bslice 5 [(.int .i64 0), (.int .i64 0), (.string ⟨#[]⟩), (.int .i64 0), (.slice none 0 0)] 1 [(0, (.loc 0))]), none, none⟩,
 ⟨(.append 82 5 64 (.loc 4) (.loc 0)), none, none⟩,
 ⟨(.mov (.loc 0)), (some 5), none⟩]
def c46_16 : List CO := [⟨(.bin .add (.var 10) (.k (.int .i64 1))), none, none⟩,
 ⟨(.mov (.loc 0)), (some 10), none⟩]
def c46_17 : CC := (.seq (.region [] [] c46_4) (.seq (.cond (.var 11) .skip (.exit 0)) (.seq (.block 1 (.seq (.region [] [] c46_5) (.seq (.region [] [] c46_6) (.block 2 (.seq (.region [] [] c46_7) (.cond (.var 13) (.region [] [] c46_8) (.seq (.region [] [] c46_9) (.cond (.var 14) (.region [] [] c46_10) (.seq (.region [] [] c46_11) (.cond (.var 15) (.region [] [] c46_12) (.seq (.region [] [] c46_13) (.seq (.region [] [] c46_14) (.region [] [] c46_15))))))))))))) (.region [] [] c46_16))))
def c46_18 : List CO := [⟨(.mov (.var 5)), none, none⟩,
 ⟨(.mov (.loc 0)), (some 4), none⟩]
def c46 : CFun := ⟨3, 16, (.seq (.region [] [] c46_0) (.seq (.region [] [] c46_1) (.seq (.region [] [] c46_2) (.seq (.seq (.region [] [] c46_3) (.block 0 (.loop [true, false, false, false, false, true, false, false, true, true, true, false, false, false, false, false] [] c46_17))) (.seq (.region [] [] c46_18) .ret))))), [.var 4]⟩
theorem ok46 : CodeOk Tryd.prog T 46 c46 := ⟨⟨Tryd.f46, Hints.of [] [] [(0, [true, false, false, false, false, true, false, false, true, true, true, false, false, false, false, false], [])], [0, 1, 2, 5, 6, 7, 9, 10, 21, 22, 23, 24, 28, 41, 46, 53], Tryd.func46, by kernel_rfl, by kernel_rfl⟩⟩

def c47_0 : List CO := [⟨(.box 32 (.var 2)), (some 3), none⟩]
def c47_1 : List CO := [⟨(.mov (.k (.slice none 0 0))), (some 4), none⟩]
def c47_2 : List CO := [⟨(.fa 3 (.var 3)), none, none⟩,
 ⟨(.load false 1 (.loc 0)), (some 9), none⟩,
 ⟨(.len .slice (.var 9)), (some 10), none⟩,
 ⟨(.mov (.k (.int .i64 0))), (some 11), none⟩]
def c47_3 : List CO := [⟨(.bin .lss (.var 11) (.var 10)), (some 12), none⟩]
def c47_4 : List CO := [⟨(.ia 4 (.var 9) (.var 11)), none, none⟩,
 ⟨(.load true 4 (.loc 0)), none, none⟩,
 ⟨(.box 32 (.k (.agg #[(.int .i64 0), (.string ⟨#[]⟩), (.int .i64 0), (.slice none 0 0)]))), (some 5), none⟩,
 ⟨(.store 4 (.var 5) (.loc 1)), none, none⟩]
def c47_5 : List CO := [⟨(.mov (.k (.int .i64 0))), (some 6), none⟩]
def c47_6 : List CO := [⟨(.fa 0 (.var 5)), none, none⟩,
 ⟨(.load false 1 (.loc 0)), none, none⟩,
 ⟨(.bin .eql (.loc 0) (.k (.int .i64 4))), (some 13), none⟩]
def c47_7 : List CO := [⟨(.mov (.var 0)), none, none⟩,
 ⟨(.call false 49 [(.loc 0)]), none, none⟩,
 ⟨(.mov (.loc 0)), (some 6), none⟩]
def c47_8 : List CO := [⟨(.mov (.var 0)), none, none⟩,
 ⟨(.mov (.var 6)), none, none⟩,
 ⟨(.load true 4 (.var 5)), none, none⟩,
 ⟨(.call false 47 [(.loc 2), (.loc 1), (.loc 0)]), none, none⟩]
def c47_9 : List CO := [⟨(.mov (.var 4)), none, none⟩,
 ⟨(.mov (.var 6)), none, none⟩,
 ⟨(.bslice 1 [(.int .i64 0)] 1 [(0, (.loc 0))]), none, none⟩,
 ⟨(.append 3 1 8 (.loc 2) (.loc 0)), none, none⟩,
 ⟨(.mov (.loc 0)), (some 4), none⟩]
def c47_10 : List CO := [⟨(.bin .add (.var 11) (.k (.int .i64 1))), none, none⟩,
 ⟨(.mov (.loc 0)), (some 11), none⟩]
def c47_11 : CC := (.seq (.region [] [] c47_3) (.seq (.cond (.var 12) .skip (.exit 0)) (.seq (.block 1 (.seq (.region [] [] c47_4) (.seq (.region [] [] c47_5) (.seq (.seq (.region [] [] c47_6) (.cond (.var 13) (.seq (.region [] [] c47_7) (.region [] [] c47_8)) .skip)) (.region [] [] c47_9))))) (.region [] [] c47_10))))
def c47_12 : List CO := [⟨(.mov (.var 0)), none, none⟩,
 ⟨(.mov (.var 1)), none, none⟩,
 ⟨(.fa 1 (.var 3)), none, none⟩,
 ⟨(.load false 1 (.loc 0)), none, none⟩,
 ⟨(.fa 3 (.var 3)), none, none⟩,
 ⟨(.load false 1 (.loc 0)), none, none⟩,
 ⟨(.len .slice (.loc 0)), none, none⟩,
 ⟨(.build [(.int .i64 0), (.int .i64 0), (.int .i64 0), (.string ⟨#[]⟩), (.int .i64 0)] [(0, 1, (.k (.int .i64 15))), (1, 1, (.loc 5)), (3, 1, (.loc 3)), (4, 1, (.loc 0))]), none, none⟩,
 ⟨(.call false 30 [(.loc 7), (.loc 0)]), none, none⟩]
def c47_13 : List CO := [⟨(.fa 3 (.var 3)), none, none⟩,
 ⟨(.load false 1 (.loc 0)), (some 14), none⟩,
 ⟨(.len .slice (.var 14)), (some 15), none⟩,
 ⟨(.mov (.k (.int .i64 0))), (some 16), none⟩]
def c47_14 : List CO := [⟨(.bin .lss (.var 16) (.var 15)), (some 17), none⟩]
def c47_15 : List CO := [⟨(.mov (.var 16)), none, none⟩,
 ⟨(.ia 4 (.var 14) (.var 16)), none, none⟩,
 ⟨(.load true 4 (.loc 0)), none, none⟩,
 ⟨(.box 32 (.k (.agg #[(.int .i64 0), (.string ⟨#[]⟩), (.int .i64 0), (.slice none 0 0)]))), (some 8), none⟩,
 ⟨(.mov (.loc 3)), (some 7), none⟩,
 ⟨(.store 4 (.var 8) (.loc 2)), none, none⟩]
def c47_16 : List CO := [⟨(.fa 0 (.var 8)), none, none⟩,
 ⟨(.load false 1 (.loc 0)), (some 18), none⟩]
def c47_17 : List CO := [⟨(.bin .eql (.var 18) (.k (.int .i64 1))), none, none⟩,
 ⟨(.mov (.loc 0)), (some 19), none⟩]
def c47_18 : List CO := [⟨(.mov (.var 0)), none, none⟩,
 ⟨(.load true 4 (.var 8)), none, none⟩,
 ⟨(.call false 45 [(.loc 1), (.k (.int .i64 16)), (.k (.int .i64 17)), (.k (.int .i64 0)), (.loc 0)]), none, none⟩]
def c47_19 : List CO := [⟨(.bin .eql (.var 18) (.k (.int .i64 2))), none, none⟩,
 ⟨(.mov (.loc 0)), (some 20), none⟩]
def c47_20 : List CO := [⟨(.mov (.var 0)), none, none⟩,
 ⟨(.fa 1 (.var 8)), none, none⟩,
 ⟨(.load false 1 (.loc 0)), none, none⟩,
 ⟨(.build [(.int .i64 0), (.int .i64 0), (.int .i64 0), (.string ⟨#[]⟩), (.int .i64 0)] [(0, 1, (.k (.int .i64 18))), (3, 1, (.loc 0))]), none, none⟩,
 ⟨(.call false 30 [(.loc 3), (.loc 0)]), none, none⟩]
def c47_21 : List CO := [⟨(.bin .eql (.var 18) (.k (.int .i64 3))), none, none⟩,
 ⟨(.mov (.loc 0)), (some 21), none⟩]
def c47_22 : List CO := [⟨(.mov (.var 0)), none, none⟩,
 ⟨(.fa 2 (.var 8)), none, none⟩,
 ⟨(.load false 1 (.loc 0)), none, none⟩,
 ⟨(.build [(.int .i64 0), (.int .i64 0), (.int .i64 0), (.string ⟨#[]⟩), (.int .i64 0)] [(0, 1, (.k (.int .i64 19))), (4, 1, (.loc 0))]), none, none⟩,
 ⟨(.call false 30 [(.loc 3), (.loc 0)]), none, none⟩]
def c47_23 : List CO := [⟨(.mov (.var 0)), none, none⟩,
 ⟨(.mov (.var 4)), none, none⟩,
 ⟨(.mov (.var 7)), none, none⟩,
 ⟨(.ia 1 (.loc 1) (.loc 0)), none, none⟩,
 ⟨(.load false 1 (.loc 0)), none, none⟩,
 ⟨(.build [(.int .i64 0), (.int .i64 0), (.int .i64 0), (.string ⟨#[]⟩), (.int .i64 0)] [(0, 1, (.k (.int .i64 20))), (2, 1, (.loc 0))]), none, none⟩,
 ⟨(.call false 30 [(.loc 5), (.loc 0)]), none, none⟩]
def c47_24 : List CO := [⟨(.bin .add (.var 16) (.k (.int .i64 1))), none, none⟩,
 ⟨(.mov (.loc 0)), (some 16), none⟩]
def c47_25 : CC := (.seq (.region [] [] c47_14) (.seq (.cond (.var 17) .skip (.exit 2)) (.seq (.block 3 (.seq (.region [] [] c47_15) (.seq (.region [] [] c47_16) (.block 4 (.seq (.region [] [] c47_17) (.cond (.var 19) (.region [] [] c47_18) (.seq (.region [] [] c47_19) (.cond (.var 20) (.region [] [] c47_20) (.seq (.region [] [] c47_21) (.cond (.var 21) (.region [] [] c47_22) (.region [] [] c47_23))))))))))) (.region [] [] c47_24))))
def c47 : CFun := ⟨3, 22, (.seq (.region [] [] c47_0) (.seq (.region [] [] c47_1) (.seq (.seq (.region [] [] c47_2) (.block 0 (.loop [true, true, false, true, true, false, false, false, false, true, true, true, false, false, false, false, false, false, false, false, false, false] [] c47_11))) (.seq (.region [] [] c47_12) (.seq (.region [] [] c47_13) (.block 2 (.loop [true, false, false, false, true, false, false, false, false, false, false, false, false, false, true, true, true, false, false, false, false, false] [] c47_25))))))), []⟩
theorem ok47 : CodeOk Tryd.prog T 47 c47 := ⟨⟨Tryd.f47, Hints.of [] [] [(0, [true, true, false, true, true, false, false, false, false, true, true, true, false, false, false, false, false, false, false, false, false, false], []), (2, [true, false, false, false, true, false, false, false, false, false, false, false, false, false, true, true, true, false, false, false, false, false], [])], [0, 1, 2, 5, 6, 8, 9, 10, 11, 13, 14, 15, 16, 21, 43, 44, 45, 46, 51, 59, 64, 71], Tryd.func47, by kernel_rfl, by kernel_rfl⟩⟩

def c49_0 : List CO := [⟨(.mov (.k (.int .i64 0))), (some 1), none⟩]
def c49_1 : List CO := [⟨(.mov (.var 0)), none, none⟩,
 ⟨(.nilchk (.loc 0)), none, none⟩,
 ⟨(.fa 2 (.loc 0)), none, none⟩,
 ⟨(.load false 1 (.loc 0)), none, none⟩,
 ⟨(.bin .add (.loc 0) (.k (.int .i64 1))), none, none⟩,
 ⟨(.nilchk (.loc 4)), none, none⟩,
 ⟨(.fa 2 (.loc 0)), none, none⟩,
 ⟨(.store 1 (.loc 0) (.loc 2)), none, none⟩]
def c49_2 : List CO := [⟨(.mov (.var 0)), none, none⟩,
 ⟨(.nilchk (.loc 0)), none, none⟩,
 ⟨(.fa 2 (.loc 0)), none, none⟩,
 ⟨(.load false 1 (.loc 0)), none, none⟩,
 ⟨(.bin .sub (.loc 0) (.k (.int .i64 1))), none, none⟩,
 ⟨(.mov (.loc 0)), (some 1), none⟩]
def c49 : CFun := ⟨1, 2, (.seq (.region [] [] c49_0) (.seq (.region [] [] c49_1) (.seq (.region [] [] c49_2) .ret))), [.var 1]⟩
theorem ok49 : CodeOk Tryd.prog T 49 c49 := ⟨⟨Tryd.f49, Hints.of [] [] [], [0, 2], Tryd.func49, by kernel_rfl, by kernel_rfl⟩⟩

def Fl : List (FuncId × FEntry) := [(3, .code c3), (4, .code c4), (5, .code c5), (6, .code c6), (7, .code c7), (8, .code c8), (9, .code c9), (10, .code c10), (11, .code c11), (12, .code c12), (13, .code c13), (14, .code c14), (15, .code c15), (16, .code c16), (17, .code c17), (18, .code c18), (19, .code c19), (20, .keep c20), (21, .code c21), (22, .code c22), (23, .code c23), (24, .code c24), (25, .code c25), (26, .code c26), (27, .code c27), (28, .code c28), (29, .code c29), (30, .code c30), (31, .code c31), (33, .code c33), (34, .code c34), (35, .code c35), (36, .code c36), (37, .code c37), (38, .code c38), (39, .code c39), (40, .code c40), (41, .code c41), (42, .pkeep c42), (43, .code c43), (44, .code c44), (45, .code c45), (46, .code c46), (47, .code c47), (49, .code c49)] ++ [(32, .oracle validG)]
def F (f : FuncId) : Option FEntry := Fl.lookup f
theorem hF : ∀ (B : Nat) (w0 : World), K B w0 → ∀ f e, F f = some e → EntryOk Tryd.prog T B w0 f e := fun B w0 hK => entries_of (fun p hp => by
 simp only [Fl, List.cons_append, List.nil_append, List.mem_cons, List.not_mem_nil, or_false] at hp
 rcases hp with rfl | rfl | rfl | rfl | rfl | rfl | rfl | rfl | rfl | rfl | rfl | rfl | rfl | rfl | rfl | rfl | rfl | rfl | rfl | rfl | rfl | rfl | rfl | rfl | rfl | rfl | rfl | rfl | rfl | rfl | rfl | rfl | rfl | rfl | rfl | rfl | rfl | rfl | rfl | rfl | rfl | rfl | rfl | rfl | rfl | rfl
 ·exact ok3
 ·exact ok4
 ·exact ok5
 ·exact ok6
 ·exact ok7
 ·exact ok8
 ·exact ok9
 ·exact ok10
 ·exact ok11
 ·exact ok12
 ·exact ok13
 ·exact ok14
 ·exact ok15
 ·exact ok16
 ·exact ok17
 ·exact ok18
 ·exact ok19
 ·exact ok20
 ·exact ok21
 ·exact ok22
 ·exact ok23
 ·exact ok24
 ·exact ok25
 ·exact ok26
 ·exact ok27
 ·exact ok28
 ·exact ok29
 ·exact ok30
 ·exact ok31
 ·exact ok33
 ·exact ok34
 ·exact ok35
 ·exact ok36
 ·exact ok37
 ·exact ok38
 ·exact ok39
 ·exact ok40
 ·exact ok41
 ·exact ok42
 ·exact ok43
 ·exact ok44
 ·exact ok45
 ·exact ok46
 ·exact ok47
 ·exact ok49
 ·exact valid_ok hK)
end Go.Proofs.YtghgbbiklkpbnaaDoor
end

section
namespace Go.AE.YtghgbbiklkpbnaaDoor
open Go Go.AE Go.Proofs.YtghgbbiklkpbnaaDoor

def Rs (ix : List Nat) (h h' : List AO) : Prop := h'.length = h.length ∧ ∀ j, j ∉ ix → h'[j]? = h[j]?
theorem Rs.refl {ix : List Nat} (h : List AO) : Rs ix h h := ⟨rfl, fun _ _ => rfl⟩
theorem Rs.trans {ix : List Nat} {h h' h'' : List AO} (a : Rs ix h h') (b : Rs ix h' h'') : Rs ix h h'' := ⟨b.1.trans a.1, fun j hj => (b.2 j hj).trans (a.2 j hj)⟩
theorem Rs.set {ix : List Nat} {h : List AO} {j : Nat} {x : AO} (hj : j ∈ ix) : Rs ix h (h.set j x) := by
 refine ⟨by simp, fun k hk => ?_⟩
 rw [List.getElem?_set_ne]
 rintro rfl; exact hk hj
theorem Rs.sub {ix iy : List Nat} {h h' : List AO} (a : Rs ix h h') (hs : ∀ j ∈ ix, j ∈ iy) : Rs iy h h' := ⟨a.1, fun j hj => a.2 j (fun e => hj (hs j e))⟩
theorem Rs.below {ix : List Nat} {h h' : List AO} (a : Rs ix h h') (hb : h.all (AO.below h.length) = true) (hx : ∀ j ∈ ix, ∀ o, h'[j]? = some o → o.below h'.length = true) : h'.all (AO.below h'.length) = true := by
 rw [List.all_eq_true] at hb ⊢
 intro o ho
 obtain ⟨j, hj⟩ := List.getElem?_of_mem ho
 by_cases e : j ∈ ix
 ·exact hx j e o hj
 ·rw [a.2 j e] at hj
  rw [a.1]
  exact hb o (List.mem_of_getElem? hj)
def Gr (ix : List Nat) (h h' : List AO) : Prop := h.length ≤ h'.length ∧ ∀ j, j < h.length → j ∉ ix → h'[j]? = h[j]?
theorem Gr.trans {ix : List Nat} {h h' h'' : List AO} (a : Gr ix h h') (b : Gr ix h' h'') : Gr ix h h'' := ⟨Nat.le_trans a.1 b.1, fun j hl hj => (b.2 j (Nat.lt_of_lt_of_le hl a.1) hj).trans (a.2 j hl hj)⟩
theorem Gr.app {ix : List Nat} (h l : List AO) : Gr ix h (h ++ l) := ⟨by simp, fun j hl _ => List.getElem?_append_left hl⟩
theorem Gr.refl {ix : List Nat} (h : List AO) : Gr ix h h := ⟨Nat.le_refl _, fun _ _ _ => rfl⟩

structure Ob (h : List AO) (b rl : Nat) (bt : TypeId) (X : AV) (rest : List AV) (code : List Op5) (nx : Nat) : Prop where
 ex : ∃ ver, h[b]? = some (.box bt (.own 5 rl ver 0 code.length :: X :: .v (.int .i64 nx) :: rest)) ∧ h[rl]? = some (.row 41 5 ver (code.map o5) 0)
section
variable {h H : List AO} {b rl : Nat} {bt : TypeId} {X : AV} {rest : List AV} {code : List Op5} {nx : Nat} {l : List AO}
theorem Ob.ne (o : Ob h b rl bt X rest code nx) : b ≠ rl := by
 obtain ⟨ver, h1, h2⟩ := o.ex
 rintro rfl
 rw [h1] at h2; cases h2
theorem Ob.app (o : Ob h b rl bt X rest code nx) (l : List AO) : Ob (h ++ l) b rl bt X rest code nx := by
 obtain ⟨ver, h1, h2⟩ := o.ex
 exact ⟨ver, his_get h1, his_get h2⟩
theorem Ob.of {h' : List AO} (o : Ob h b rl bt X rest code nx) (h1 : h'[b]? = h[b]?) (h2 : h'[rl]? = h[rl]?) : Ob h' b rl bt X rest code nx := by
 obtain ⟨ver, e1, e2⟩ := o.ex
 exact ⟨ver, h1.trans e1, h2.trans e2⟩
theorem Ob.ltb (o : Ob h b rl bt X rest code nx) : b < h.length := by
 obtain ⟨ver, h1, h2⟩ := o.ex
 exact (List.getElem?_eq_some_iff.1 h1).1
theorem Ob.ltr (o : Ob h b rl bt X rest code nx) : rl < h.length := by
 obtain ⟨ver, h1, h2⟩ := o.ex
 exact (List.getElem?_eq_some_iff.1 h2).1
theorem set_app {j : Nat} {x : AO} (hj : j < h.length) : (h ++ l).set j x = h.set j x ++ l := by
 rw [List.set_append_left _ _ hj]
end
end Go.AE.YtghgbbiklkpbnaaDoor
end

section
namespace Go.AE.YtghgbbiklkpbnaaDoor
open Go Go.AE Go.Proofs.YtghgbbiklkpbnaaDoor

section
variable {H : List AO} {l : List AO}
end

def ents (l : List Int) : List (Value × AV) := l.map fun n => (.int .i64 n, .v (.int .i64 1))
theorem ents_look : ∀ (l : List Int) (n : Int), look (.int .i64 n) (ents l) = if n ∈ l then some (.v (.int .i64 1)) else none
 | [], n => by simp [ents, look]
 | k :: l, n => by
  have ih := ents_look l n
  simp only [ents, List.map_cons, look, keyEq_int] at ih ⊢
  by_cases h : n = k
  ·subst h; simp
  ·have h1 : (n == k) = false := by simpa using h
   rw [h1, ih]
   by_cases h2 : n ∈ l <;> simp [h, h2]
theorem ents_upd : ∀ (l : List Int) (n : Int), upd (.int .i64 n) (.v (.int .i64 1)) (ents l) = ents (if n ∈ l then l else l ++ [n])
 | [], n => by simp [ents, upd]
 | k :: l, n => by
  have ih := ents_upd l n
  simp only [ents, List.map_cons, upd, keyEq_int] at ih ⊢
  by_cases h : n = k
  ·subst h; simp
  ·have h1 : (n == k) = false := by simpa using h
   rw [h1]
   simp only [Bool.false_eq_true, if_false]
   rw [ih]
   by_cases h2 : n ∈ l <;> simp [h, h2]
structure Cp (h : List AO) (b rl m : Nat) (code : List Op5) (g : Sg) (Q : AV) : Prop where
 ob : Ob h b rl 92 (.mp m) [Q] code g.next
 mp : ∃ c, h[m]? = some (.map (.int .i64) c (ents g.met))
 bel : h.all (AO.below h.length) = true
theorem Cp.mb {h : List AO} {b rl m : Nat} {code : List Op5} {g : Sg} {Q : AV} (c : Cp h b rl m code g Q) : m ≠ b ∧ m ≠ rl ∧ m < h.length := by
 obtain ⟨x, hx⟩ := c.mp
 obtain ⟨ver, h1, h2⟩ := c.ob.ex
 refine ⟨?_, ?_, (List.getElem?_eq_some_iff.1 hx).1⟩
 ·rintro rfl; rw [h1] at hx; cases hx
 ·rintro rfl; rw [h2] at hx; cases hx
theorem Cp.app {h : List AO} {b rl m : Nat} {code : List Op5} {g : Sg} {Q : AV} (c : Cp h b rl m code g Q) {l : List AO} (hl : l.all (AO.below (h ++ l).length) = true) : Cp (h ++ l) b rl m code g Q := by
 obtain ⟨x, hx⟩ := c.mp
 refine ⟨c.ob.app l, ⟨x, his_get hx⟩, ?_⟩
 rw [List.all_append, Bool.and_eq_true]
 exact ⟨all_below_mono (by simp) c.bel, hl⟩
theorem Cp.name {h : List AO} {b rl m : Nat} {code : List Op5} {g : Sg} {Q : AV} (c : Cp h b rl m code g Q) (n : Int) :
  ∃ h', (∀ l : List AO, evUpd (h ++ l) (.int .i64) (.mp m) (.v (.int .i64 n)) (.v (.int .i64 1)) = some (h' ++ l)) ∧ Cp h' b rl m code { g with met := if n ∈ g.met then g.met else g.met ++ [n] } Q ∧ Rs [b, rl, m] h h' := by
 obtain ⟨m1, m2, m3⟩ := c.mb
 obtain ⟨x, hx⟩ := c.mp
 have hrs : Rs [b, rl, m] h (h.set m (.map (.int .i64) x (ents (if n ∈ g.met then g.met else g.met ++ [n])))) := Rs.set (by simp)
 have hmm : (h.set m (.map (.int .i64) x (ents (if n ∈ g.met then g.met else g.met ++ [n]))))[m]? = some (.map (.int .i64) x (ents (if n ∈ g.met then g.met else g.met ++ [n]))) := by simp [m3]
 refine ⟨_, fun l => ?_, ⟨c.ob.of (List.getElem?_set_ne m1) (List.getElem?_set_ne m2), ⟨x, hmm⟩, ?_⟩, hrs⟩
 ·have s : (AV.v (.int .i64 1)).snap1 (h ++ l) = some (.v (.int .i64 1)) := rfl
  simp only [evUpd, his_get hx, s, KK.ok, decide_true, and_self, if_true, ents_upd]
  rw [set_app m3]
 ·have hb := c.bel
  rw [List.all_eq_true] at hb ⊢
  intro o ho
  rw [List.length_set]
  rcases List.mem_or_eq_of_mem_set ho with h' | rfl
  ·exact hb o h'
  ·rfl
theorem Cp.met {h : List AO} {b rl m : Nat} {code : List Op5} {g : Sg} {Q : AV} (c : Cp h b rl m code g Q) (n : Int) (l : List AO) : evLook (h ++ l) (.int .i64) (.int .i64 0) false (.mp m) (.v (.int .i64 n)) = some (.v (.int .i64 (if n ∈ g.met then 1 else 0))) := by
 obtain ⟨x, hx⟩ := c.mp
 simp only [evLook, his_get hx, KK.ok, decide_true, and_self, if_true, ents_look]
 by_cases h : n ∈ g.met <;> simp [h]
theorem Cp.part {h l h2 : List AO} {b rl m : Nat} {code code' : List Op5} {g g' : Sg} {Q : AV} (cp1 : Cp h b rl m code g Q) (cp2 : Cp h2 b rl m code' g' Q) (rs : Rs [b, rl, m] (h ++ l) h2) :
  ∃ h3, h2 = h3 ++ l ∧ Cp h3 b rl m code' g' Q ∧ Rs [b, rl, m] h h3 := by
 have hlt := cp1.mb.2.2
 have hlb := cp1.ob.ltb
 have hlr := cp1.ob.ltr
 have hsz : h2.length = h.length + l.length := by rw [rs.1]; simp
 have hdrop : h2.drop h.length = l := by
  apply List.ext_getElem?
  intro j
  rw [List.getElem?_drop]
  have hj : h.length + j ∉ [b, rl, m] := by simp; omega
  rw [rs.2 _ hj, List.getElem?_append_right (by omega), Nat.add_sub_cancel_left]
 have get : ∀ j, j < h.length → (h2.take h.length)[j]? = h2[j]? := fun j hj => by rw [List.getElem?_take_of_lt hj]
 have hl : (h2.take h.length).length = h.length := by simp [hsz]
 have rs3 : Rs [b, rl, m] h (h2.take h.length) := by
  refine ⟨hl, fun j hj => ?_⟩
  by_cases hjl : j < h.length
  ·rw [get j hjl, rs.2 j hj, List.getElem?_append_left hjl]
  ·rw [List.getElem?_eq_none (by omega), List.getElem?_eq_none (by omega)]
 refine ⟨h2.take h.length, by rw [← hdrop, List.take_append_drop], ?_, rs3⟩
 obtain ⟨x, hx⟩ := cp2.mp
 refine ⟨cp2.ob.of (get b hlb) (get rl hlr), ⟨x, (get m hlt).trans hx⟩, ?_⟩
 refine rs3.below cp1.bel fun j hj o ho => ?_
 simp only [List.mem_cons, List.not_mem_nil, or_false] at hj
 rcases hj with rfl | rfl | rfl
 ·obtain ⟨ver, e1, e2⟩ := (cp2.ob.of (get j hlb) (get rl hlr)).ex
  obtain ⟨ver1, f1, f2⟩ := cp1.ob.ex
  have hX : (AO.box 92 (.own 5 rl ver1 0 code.length :: AV.mp m :: .v (.int .i64 g.next) :: [Q])).below h.length = true := (List.all_eq_true.1 cp1.bel) _ (List.mem_of_getElem? f1)
  rw [e1] at ho; cases ho
  simp only [AO.below, List.all_cons, AV.below1, AV.below0, Bool.and_eq_true] at hX ⊢
  rw [hl]; exact hX
 ·obtain ⟨ver, e1, e2⟩ := (cp2.ob.of (get b hlb) (get j hlr)).ex
  rw [e2] at ho; cases ho; rfl
 ·rw [(get j hlt).trans hx] at ho; cases ho; rfl
theorem leave1 {c : CFun} {vars : List AV} {H l : List AO} {B : Nat} (hB : H.length = B) (hb : H.all (AO.below B) = true) {i : Nat} {x : Value} (hc : c.res = [.var i]) (hr : vars.getD i .junk = .v x) : leave B c (some (.ret, vars, H ++ l)) = some (.v x, H) := by
 rw [leave_own hB hb, hc]
 have : [CRes.var i].mapM (resOf vars (H ++ l)) = some [.v x] := by
  simp only [List.mapM_cons, List.mapM_nil, resOf, hr, Option.pure_def, Option.bind_eq_bind, Option.bind_some]
 rw [this]
 exact lvo_one rfl
end Go.AE.YtghgbbiklkpbnaaDoor
end

section
namespace Go.AE.YtghgbbiklkpbnaaDoor
open Go Go.AE Go.Proofs.YtghgbbiklkpbnaaDoor

end Go.AE.YtghgbbiklkpbnaaDoor
end

section
namespace Go.AE.YtghgbbiklkpbnaaDoor
open Go Go.AE Go.Proofs.YtghgbbiklkpbnaaDoor

mutual
def depI : Tm → Int
 | .mk _ _ _ l => IntKind.i64.wrap (depL l 0 + 1)
def depL : List Tm → Int → Int
 | [], m => m
 | a :: l, m => depL l (max m (depI a))
end
def Vfold (c : AV) (m n i : Int) (x4 x8 : AV) : List AV := [.junk, .junk, .junk, .v (.int .i64 m), x4, c, .v (.int .i64 n), .v (.int .i64 i), x8]
theorem rdeep_ok : ∀ (N : Nat) (t : Tm) (a : AV), SizeOf.sizeOf t < N → IsT a t → callW F 37 [a] [] = some (.v (.int .i64 (depI t)), []) := by
 intro N
 induction N with
 | zero => intro t a h; omega
 | succ N ih =>
  intro t a hN ha
  cases ha with
  | mk k s n c l hc =>
  obtain ⟨es, hs, hes, hm⟩ := hc.sl
  have hll := hes.length
  refine callW_pure (c := c37) rfl rfl (l.length + 1) ?_
  have q1 := fun h : List AO => hs.len h
  obtain ⟨e, v', h', g1, g2, g3⟩ := loop_rule0 (call := callW F) (K := l.length + 1) (b := c37_7) (keep := [false, false, false, true, false, true, true, true, false])
   (fun i v h => ∃ m', v = Vfold c m' es.length i .junk .junk ∧ depL (l.drop i) m' = depL l 0)
   (fun e v h => e = .exit 0 ∧ ∃ x4, v = Vfold c (depL l 0) es.length es.length x4 (.v (.bool false)))
   l.length (m := l.length + 1) (v := [.agg [.v (.int .i64 k), .v (.string s), .v (.int .i64 n), c], .ptr 0 0, .v (.int .i64 0), .v (.int .i64 0), .v undef, c, .v (.int .i64 es.length), .v (.int .i64 0), .v undef]) (h := [.box 32 [.v (.int .i64 k), .v (.string s), .v (.int .i64 n), c]])
   (by omega) ⟨_, rfl, rfl⟩ (by
    rintro i v h hi ⟨m', rfl, hR⟩
    by_cases hil : i < es.length
    ·have hil' : i < l.length := by omega
     have hT := hes.at hil hil'
     have hlt := lt_t hil
     have he : es[i]? = some es[i] := List.getElem?_eq_getElem hil
     have q2 := fun h : List AO => hs.ia he h
     have hf := hT.facts
     have hd : l.drop i = l[i] :: l.drop (i + 1) := List.drop_eq_getElem_cons hil'
     have hw := wrap_succ hil hm
     rw [hd, depL] at hR
     have hc := ih l[i] es[i] (by have := IsL.mem_size (k := k) (n := n) (s := s) (List.getElem_mem hil'); omega) hT
     refine ⟨.normal, [.junk, .junk, .junk, .v (.int .i64 (max m' (depI l[i]))), .ptr h.length 0, c, .v (.int .i64 es.length), .v (.int .i64 ((i + 1 : Nat) : Int)), .v (.bool true)], h ++ [.box 32 es[i].cells], ?_, by omega, _, rfl, hR⟩
     simp only [Vfold, c37_7, c37_3, c37_4, c37_5, c37_6, hlt, q1, q2, hf, hc, hw, q9z, Q96, Q97, Q0, Q1, Q2, Q3, Q4, Q5, Q6, Q7, Q8, Q9, Q10, Q11, Q12, Q13, Q14, Q15, Q16, Q17, Q18, Q19, Q20, Q21, Q22, Q23, Q24, Q25, Q26, Q27, Q28, Q29, Q30, Q31, Q32, Q33, Q35, Q36, Q37, Q38, Q39, Q40, Q41, Q42, Q43, Q44, Q45, Q46, Q47, Q48, Q49, Q50, Q51, Q52, Q53, Q54, Q55, Q56, Q57, Q58, Q59, Q60, Q61, Q62, Q63, Q64, Q65, Q66, Q67, Q68, Q69, Q70, Q71, Q72, Q73, Q99, Q100, Q101, Q102, Q103, Q74, Q75, Q77, Q78, Q79, Q80, Q81, Q82, Q83, Q84, clr, List.length_nil, List.length_cons, List.getElem?_cons_zero, List.getElem?_cons_succ, Nat.reduceAdd, Nat.zero_add, Nat.add_zero, Nat.reduceLeDiff, Nat.reduceSub, ↓reduceIte, List.drop_succ_cons, List.drop_zero, List.take_succ_cons, List.take_zero, Bool.false_eq_true, List.nil_append, List.cons_append, Bool.not_true, Bool.not_false, cond_true, cond_false, bne, Q85, Q86, Q87, Q88, Q89, Q90, Q91, Q92, Q93, Q94, Q95, Q96, Q97, Q98, Q110, Q111, Q116, Q117, Q118, Q119, Q120, Q121, Q122, Q123, Option.map_some, Option.map_none, Q34]
    ·have hie : i = es.length := by omega
     subst hie
     have hlt := lt_f (n := es.length)
     rw [List.drop_of_length_le (by omega), depL] at hR
     refine ⟨.exit 0, Vfold c m' es.length es.length .junk (.v (.bool false)), h, ?_, rfl, _, by rw [hR]⟩
     simp only [Vfold, c37_7, c37_3, hlt, Q0, Q1, Q2, Q3, Q4, Q5, Q6, Q7, Q8, Q9, Q10, Q11, Q12, Q13, Q14, Q15, Q16, Q17, Q18, Q19, Q20, Q21, Q22, Q23, Q24, Q25, Q26, Q27, Q28, Q29, Q30, Q31, Q32, Q33, Q35, Q36, Q37, Q38, Q39, Q40, Q41, Q42, Q43, Q44, Q45, Q46, Q47, Q48, Q49, Q50, Q51, Q52, Q53, Q54, Q55, Q56, Q57, Q58, Q59, Q60, Q61, Q62, Q63, Q64, Q65, Q66, Q67, Q68, Q69, Q70, Q71, Q72, Q73, Q99, Q100, Q101, Q102, Q103, Q74, Q75, Q77, Q78, Q79, Q80, Q81, Q82, Q83, Q84, clr, List.length_nil, List.length_cons, List.getElem?_cons_zero, List.getElem?_cons_succ, Nat.reduceAdd, Nat.zero_add, Nat.add_zero, Nat.reduceLeDiff, Nat.reduceSub, ↓reduceIte, List.drop_succ_cons, List.drop_zero, List.take_succ_cons, List.take_zero, Bool.false_eq_true, List.nil_append, List.cons_append, Bool.not_true, Bool.not_false, cond_true, cond_false, bne, Q85, Q86, Q87, Q88, Q89, Q90, Q91, Q92, Q93, Q94, Q95, Q96, Q97, Q98, Q110, Q111, Q116, Q117, Q118, Q119, Q120, Q121, Q122, Q123, Option.map_some, Option.map_none, Q34])
  have e5 : Q76 [.box 32 [.v (.int .i64 k), .v (.string s), .v (.int .i64 n), c]] false 1 (.ptr 0 3) = some c := rfl
  rw [depI]
  rw [show c37.body = (.seq (.region [] [] c37_0) (.seq (.region [] [] c37_1) (.seq (.seq (.region [] [] c37_2) (.block 0 (.loop [false, false, false, true, false, true, true, true, false] [] c37_7))) (.seq (.region [] [] c37_8) .ret)))) from rfl, show c37.res = [.var 2] from rfl]
  rw [show start c37 [.agg [.v (.int .i64 k), .v (.string s), .v (.int .i64 n), c]] = [.agg [.v (.int .i64 k), .v (.string s), .v (.int .i64 n), c], .v undef, .v undef, .v undef, .v undef, .v undef, .v undef, .v undef, .v undef] from rfl]
  obtain ⟨rfl, x4, rfl⟩ := g3
  generalize c37_7 = bb at g1 ⊢
  simp only [Vfold, c37_0, c37_1, c37_2, c37_8, e5, q1, g1, Q0, Q1, Q2, Q3, Q4, Q5, Q6, Q7, Q8, Q9, Q10, Q11, Q12, Q13, Q14, Q15, Q16, Q17, Q18, Q19, Q20, Q21, Q22, Q23, Q24, Q25, Q26, Q27, Q28, Q29, Q30, Q31, Q32, Q33, Q35, Q36, Q37, Q38, Q39, Q40, Q41, Q42, Q43, Q44, Q45, Q46, Q47, Q48, Q49, Q50, Q51, Q52, Q53, Q54, Q55, Q56, Q57, Q58, Q59, Q60, Q61, Q62, Q63, Q64, Q65, Q66, Q67, Q68, Q69, Q70, Q71, Q72, Q73, Q99, Q100, Q101, Q102, Q103, Q74, Q75, Q77, Q78, Q79, Q80, Q81, Q82, Q83, Q84, clr, List.length_nil, List.length_cons, List.getElem?_cons_zero, List.getElem?_cons_succ, Nat.reduceAdd, Nat.zero_add, Nat.add_zero, Nat.reduceLeDiff, Nat.reduceSub, ↓reduceIte, List.drop_succ_cons, List.drop_zero, List.take_succ_cons, List.take_zero, Bool.false_eq_true, List.nil_append, List.cons_append, Bool.not_true, Bool.not_false, cond_true, cond_false, bne, Q85, Q86, Q87, Q88, Q89, Q90, Q91, Q92, Q93, Q94, Q95, Q96, Q97, Q98, Q110, Q111, Q116, Q117, Q118, Q119, Q120, Q121, Q122, Q123, Option.map_some, Option.map_none, Q34]
end Go.AE.YtghgbbiklkpbnaaDoor
end

section
namespace Go.AE.YtghgbbiklkpbnaaDoor
open Go Go.AE Go.Proofs.YtghgbbiklkpbnaaDoor

def chkS (s : ByteArray) : Bool := decide ((s.size : Int) ≤ 255) && Lib.validD s.data.toList
def noS (s : ByteArray) : Bool := s.toList == (⟨#[]⟩ : ByteArray).toList
mutual
def mayT : Tm → Bool
 | .mk k s n l =>
  if (k == 1) = true then ((l.length : Int) == 0) && (noS s && decide (n ≥ 0))
  else if (k == 2) = true then ((l.length : Int) == 0) && ((n == 0) && chkS s)
  else if (k == 3) = true then ((l.length : Int) == 0) && noS s
  else if (k == 4) = true then !((l.length : Int) == 0) && ((n == 0) && (decide ((l.length : Int) ≤ 16) && (chkS s && mayL l)))
  else false
def mayL : List Tm → Bool
 | [] => true
 | a :: l => mayT a && mayL l
end
theorem valid_call (s : ByteArray) (h : s.size ≤ 9223372036854775807) : callW F 32 [.v (.string s)] [] = some (.v (.bool (Lib.validD s.data.toList)), []) := by
 refine callW_oracle (g := validG) rfl ?_
 simp only [validG, h, if_true]
theorem rchk_ok (s : ByteArray) : callW F 17 [.v (.string s)] [] = some (.v (.bool (chkS s)), []) := by
 refine callW_pure (c := c17) rfl rfl 0 ?_
 unfold chkS
 cases h1 : decide ((s.size : Int) ≤ 255) with
 | true =>
  have hc := valid_call s (by simp at h1; omega)
  simp only [c17, start, List.replicate, c17_0, c17_1, h1, hc, snap_str, Bool.true_and, Q0, Q1, Q2, Q3, Q4, Q5, Q6, Q7, Q8, Q9, Q10, Q11, Q12, Q13, Q14, Q15, Q16, Q17, Q18, Q19, Q20, Q21, Q22, Q23, Q24, Q25, Q26, Q27, Q28, Q29, Q30, Q31, Q32, Q33, Q35, Q36, Q37, Q38, Q39, Q40, Q41, Q42, Q43, Q44, Q45, Q46, Q47, Q48, Q49, Q50, Q51, Q52, Q53, Q54, Q55, Q56, Q57, Q58, Q59, Q60, Q61, Q62, Q63, Q64, Q65, Q66, Q67, Q68, Q69, Q70, Q71, Q72, Q73, Q99, Q100, Q101, Q102, Q103, Q74, Q75, Q77, Q78, Q79, Q80, Q81, Q82, Q83, Q84, clr, List.length_nil, List.length_cons, List.getElem?_cons_zero, List.getElem?_cons_succ, Nat.reduceAdd, Nat.zero_add, Nat.add_zero, Nat.reduceLeDiff, Nat.reduceSub, ↓reduceIte, List.drop_succ_cons, List.drop_zero, List.take_succ_cons, List.take_zero, Bool.false_eq_true, List.nil_append, List.cons_append, Bool.not_true, Bool.not_false, cond_true, cond_false, bne, Q85, Q86, Q87, Q88, Q89, Q90, Q91, Q92, Q93, Q94, Q95, Q96, Q97, Q98, Q110, Q111, Q116, Q117, Q118, Q119, Q120, Q121, Q122, Q123, Option.map_some, Option.map_none, Q34]
 | false => simp only [c17, start, List.replicate, c17_0, c17_1, h1, Bool.false_and, Q0, Q1, Q2, Q3, Q4, Q5, Q6, Q7, Q8, Q9, Q10, Q11, Q12, Q13, Q14, Q15, Q16, Q17, Q18, Q19, Q20, Q21, Q22, Q23, Q24, Q25, Q26, Q27, Q28, Q29, Q30, Q31, Q32, Q33, Q35, Q36, Q37, Q38, Q39, Q40, Q41, Q42, Q43, Q44, Q45, Q46, Q47, Q48, Q49, Q50, Q51, Q52, Q53, Q54, Q55, Q56, Q57, Q58, Q59, Q60, Q61, Q62, Q63, Q64, Q65, Q66, Q67, Q68, Q69, Q70, Q71, Q72, Q73, Q99, Q100, Q101, Q102, Q103, Q74, Q75, Q77, Q78, Q79, Q80, Q81, Q82, Q83, Q84, clr, List.length_nil, List.length_cons, List.getElem?_cons_zero, List.getElem?_cons_succ, Nat.reduceAdd, Nat.zero_add, Nat.add_zero, Nat.reduceLeDiff, Nat.reduceSub, ↓reduceIte, List.drop_succ_cons, List.drop_zero, List.take_succ_cons, List.take_zero, Bool.false_eq_true, List.nil_append, List.cons_append, Bool.not_true, Bool.not_false, cond_true, cond_false, bne, Q85, Q86, Q87, Q88, Q89, Q90, Q91, Q92, Q93, Q94, Q95, Q96, Q97, Q98, Q110, Q111, Q116, Q117, Q118, Q119, Q120, Q121, Q122, Q123, Option.map_some, Option.map_none, Q34]

def tb (k n : Int) (s : ByteArray) (c : AV) : AO := .box 32 [.v (.int .i64 k), .v (.string s), .v (.int .i64 n), c]
section
variable {k n : Int} {s : ByteArray} {c : AV} {G : List AO}
theorem tb0 : Q76 (tb k n s c :: G) false 1 (.ptr 0 0) = some (.v (.int .i64 k)) := rfl
theorem tb1 : Q76 (tb k n s c :: G) false 1 (.ptr 0 1) = some (.v (.string s)) := rfl
theorem tb2 : Q76 (tb k n s c :: G) false 1 (.ptr 0 2) = some (.v (.int .i64 n)) := rfl
theorem tb3 : Q76 (tb k n s c :: G) false 1 (.ptr 0 3) = some c := rfl
theorem tbx : bx [] 32 (some [.v (.int .i64 k), .v (.string s), .v (.int .i64 n), c]) = some (.ptr 0 0, [tb k n s c]) := rfl
end

end Go.AE.YtghgbbiklkpbnaaDoor
end

section
namespace Go.AE.YtghgbbiklkpbnaaDoor
open Go Go.AE Go.Proofs.YtghgbbiklkpbnaaDoor

def V43 (c : AV) (n i : Int) (x3 x13 x14 : AV) : List AV := [.junk, .junk, .junk, x3, .junk, .junk, .junk, .junk, .junk, .junk, c, .v (.int .i64 n), .v (.int .i64 i), x13, x14]
def K43 : List Bool := [false, false, false, false, false, false, false, false, false, false, true, true, true, false, false]
theorem rmay_ok : ∀ (N : Nat) (t : Tm) (a : AV), SizeOf.sizeOf t < N → IsT a t → callW F 36 [a] [] = some (.v (.bool (mayT t)), []) := by
 intro N
 induction N with
 | zero => intro t a h; omega
 | succ N ih =>
  intro t a hN ha
  cases ha with
  | mk k s n c l hc =>
  obtain ⟨es, hs, hes, hm⟩ := hc.sl
  have hll := hes.length
  refine callW_pure (c := c36) rfl rfl (l.length + 1) ?_
  have q1 := fun h : List AO => hs.len h
  rw [hll] at q1
  have hchk := rchk_ok s
  have loop : ∀ (v : List AV), clr K43 v = V43 c l.length 0 .junk .junk .junk → (mayL l = true ∧ ∃ x3 x14 h, loopN (exec (callW F) (l.length + 1) c36_17) K43 (l.length + 1) v [tb k n s c] = some (.exit 1, V43 c l.length l.length x3 (.v (.bool false)) x14, h)) ∨
    (mayL l = false ∧ ∃ v' h, loopN (exec (callW F) (l.length + 1) c36_17) K43 (l.length + 1) v [tb k n s c] = some (.ret, v', h) ∧ getO v' [] (.var 2) = .v (.bool false)) := by
   intro v hv
   obtain ⟨e, v', h', g1, g2, g3⟩ := loop_rule0 (call := callW F) (K := l.length + 1) (b := c36_17) (keep := K43)
    (fun i v h => v = V43 c l.length i .junk .junk .junk ∧ mayL (l.drop i) = mayL l)
    (fun e v h => (e = .exit 1 ∧ mayL l = true ∧ ∃ x3 x14, v = V43 c l.length l.length x3 (.v (.bool false)) x14) ∨ (e = .ret ∧ mayL l = false ∧ getO v [] (.var 2) = .v (.bool false)))
    l.length (m := l.length + 1) (v := v) (h := [tb k n s c]) (by omega) ⟨hv, rfl⟩ (by
     rintro i v h hi ⟨rfl, hR⟩
     by_cases hil' : i < l.length
     ·have hil : i < es.length := by omega
      have hT := hes.at hil hil'
      have hlt := lt_t hil'
      have he : es[i]? = some es[i] := List.getElem?_eq_getElem hil
      have q2 := fun h : List AO => hs.ia he h
      have hf := hT.facts
      have hd : l.drop i = l[i] :: l.drop (i + 1) := List.drop_eq_getElem_cons hil'
      have hw := wrap_succ hil hm
      have hc := ih l[i] es[i] (by have := IsL.mem_size (k := k) (n := n) (s := s) (List.getElem_mem hil'); omega) hT
      rw [hd, mayL] at hR
      cases hb : mayT l[i] with
      | true =>
       rw [hb] at hc hR
       rw [Bool.true_and] at hR
       refine ⟨.normal, V43 c l.length ((i + 1 : Nat) : Int) (.ptr h.length 0) (.v (.bool true)) (.v (.bool false)), h ++ [.box 32 es[i].cells], ?_, hil', rfl, hR⟩
       simp only [V43, c36_17, c36_12, c36_13, c36_14, c36_16, hlt, q2, hf, hc, hw, q9z, Q0, Q1, Q2, Q3, Q4, Q5, Q6, Q7, Q8, Q9, Q10, Q11, Q12, Q13, Q14, Q15, Q16, Q17, Q18, Q19, Q20, Q21, Q22, Q23, Q24, Q25, Q26, Q27, Q28, Q29, Q30, Q31, Q32, Q33, Q35, Q36, Q37, Q38, Q39, Q40, Q41, Q42, Q43, Q44, Q45, Q46, Q47, Q48, Q49, Q50, Q51, Q52, Q53, Q54, Q55, Q56, Q57, Q58, Q59, Q60, Q61, Q62, Q63, Q64, Q65, Q66, Q67, Q68, Q69, Q70, Q71, Q72, Q73, Q99, Q100, Q101, Q102, Q103, Q74, Q75, Q77, Q78, Q79, Q80, Q81, Q82, Q83, Q84, clr, List.length_nil, List.length_cons, List.getElem?_cons_zero, List.getElem?_cons_succ, Nat.reduceAdd, Nat.zero_add, Nat.add_zero, Nat.reduceLeDiff, Nat.reduceSub, ↓reduceIte, List.drop_succ_cons, List.drop_zero, List.take_succ_cons, List.take_zero, Bool.false_eq_true, List.nil_append, List.cons_append, Bool.not_true, Bool.not_false, cond_true, cond_false, bne, Q85, Q86, Q87, Q88, Q89, Q90, Q91, Q92, Q93, Q94, Q95, Q96, Q97, Q98, Q110, Q111, Q116, Q117, Q118, Q119, Q120, Q121, Q122, Q123, Option.map_some, Option.map_none, Q34]
      | false =>
       rw [hb] at hc hR
       rw [Bool.false_and] at hR
       refine ⟨.ret, [.junk, .junk, .v (.bool false), .ptr h.length 0, .junk, .junk, .junk, .junk, .junk, .junk, c, .v (.int .i64 l.length), .v (.int .i64 i), .v (.bool true), .v (.bool true)], h ++ [.box 32 es[i].cells], ?_, .inr ⟨rfl, hR.symm, rfl⟩⟩
       simp only [V43, c36_17, c36_12, c36_13, c36_14, c36_15, hlt, q2, hf, hc, hw, q9z, Q0, Q1, Q2, Q3, Q4, Q5, Q6, Q7, Q8, Q9, Q10, Q11, Q12, Q13, Q14, Q15, Q16, Q17, Q18, Q19, Q20, Q21, Q22, Q23, Q24, Q25, Q26, Q27, Q28, Q29, Q30, Q31, Q32, Q33, Q35, Q36, Q37, Q38, Q39, Q40, Q41, Q42, Q43, Q44, Q45, Q46, Q47, Q48, Q49, Q50, Q51, Q52, Q53, Q54, Q55, Q56, Q57, Q58, Q59, Q60, Q61, Q62, Q63, Q64, Q65, Q66, Q67, Q68, Q69, Q70, Q71, Q72, Q73, Q99, Q100, Q101, Q102, Q103, Q74, Q75, Q77, Q78, Q79, Q80, Q81, Q82, Q83, Q84, clr, List.length_nil, List.length_cons, List.getElem?_cons_zero, List.getElem?_cons_succ, Nat.reduceAdd, Nat.zero_add, Nat.add_zero, Nat.reduceLeDiff, Nat.reduceSub, ↓reduceIte, List.drop_succ_cons, List.drop_zero, List.take_succ_cons, List.take_zero, Bool.false_eq_true, List.nil_append, List.cons_append, Bool.not_true, Bool.not_false, cond_true, cond_false, bne, Q85, Q86, Q87, Q88, Q89, Q90, Q91, Q92, Q93, Q94, Q95, Q96, Q97, Q98, Q110, Q111, Q116, Q117, Q118, Q119, Q120, Q121, Q122, Q123, Option.map_some, Option.map_none, Q34]
     ·have hie : i = l.length := by omega
      subst hie
      have hlt := lt_f (n := l.length)
      rw [List.drop_of_length_le (Nat.le_refl _), mayL] at hR
      refine ⟨.exit 1, V43 c l.length l.length .junk (.v (.bool false)) .junk, h, ?_, .inl ⟨rfl, hR.symm, _, _, rfl⟩⟩
      simp only [V43, c36_17, c36_12, hlt, Q0, Q1, Q2, Q3, Q4, Q5, Q6, Q7, Q8, Q9, Q10, Q11, Q12, Q13, Q14, Q15, Q16, Q17, Q18, Q19, Q20, Q21, Q22, Q23, Q24, Q25, Q26, Q27, Q28, Q29, Q30, Q31, Q32, Q33, Q35, Q36, Q37, Q38, Q39, Q40, Q41, Q42, Q43, Q44, Q45, Q46, Q47, Q48, Q49, Q50, Q51, Q52, Q53, Q54, Q55, Q56, Q57, Q58, Q59, Q60, Q61, Q62, Q63, Q64, Q65, Q66, Q67, Q68, Q69, Q70, Q71, Q72, Q73, Q99, Q100, Q101, Q102, Q103, Q74, Q75, Q77, Q78, Q79, Q80, Q81, Q82, Q83, Q84, clr, List.length_nil, List.length_cons, List.getElem?_cons_zero, List.getElem?_cons_succ, Nat.reduceAdd, Nat.zero_add, Nat.add_zero, Nat.reduceLeDiff, Nat.reduceSub, ↓reduceIte, List.drop_succ_cons, List.drop_zero, List.take_succ_cons, List.take_zero, Bool.false_eq_true, List.nil_append, List.cons_append, Bool.not_true, Bool.not_false, cond_true, cond_false, bne, Q85, Q86, Q87, Q88, Q89, Q90, Q91, Q92, Q93, Q94, Q95, Q96, Q97, Q98, Q110, Q111, Q116, Q117, Q118, Q119, Q120, Q121, Q122, Q123, Option.map_some, Option.map_none, Q34])
   rcases g3 with ⟨rfl, h1, x3, x14, rfl⟩ | ⟨rfl, h1, h2⟩
   ·exact .inl ⟨h1, x3, x14, h', g1⟩
   ·exact .inr ⟨h1, v', h', g1, h2⟩
  rw [mayT]
  rw [show c36.body = (.seq (.region [] [] c36_0) (.seq (.seq (.region [] [] c36_1) (.block 0 (.seq (.region [] [] c36_2) (.cond (.var 5) (.seq (.region [] [] c36_3) .ret) (.seq (.region [] [] c36_4) (.cond (.var 6) (.seq (.region [] [] c36_5) .ret) (.seq (.region [] [] c36_6) (.cond (.var 7) (.seq (.region [] [] c36_7) .ret) (.seq (.region [] [] c36_8) (.cond (.var 8) (.seq (.seq (.region [] [] c36_9) (.cond (.var 9) (.seq (.region [] [] c36_10) .ret) .skip)) (.seq (.seq (.region [] [] c36_11) (.block 1 (.loop K43 [] c36_17))) (.seq (.region [] [] c36_18) .ret))) .skip)))))))))) (.seq (.region [] [] c36_19) .ret))) from rfl, show c36.res = [.var 2] from rfl]
  rw [show start c36 [.agg [.v (.int .i64 k), .v (.string s), .v (.int .i64 n), c]] = [.agg [.v (.int .i64 k), .v (.string s), .v (.int .i64 n), c], .v undef, .v undef, .v undef, .v undef, .v undef, .v undef, .v undef, .v undef, .v undef, .v undef, .v undef, .v undef, .v undef, .v undef] from rfl]
  generalize c36_17 = bb at loop ⊢
  have hA2 : decide ((l.length : Int) < 1) = ((l.length : Int) == 0) := by
   by_cases e : l.length = 0
   ·rw [e]; rfl
   ·rw [decide_eq_false (by omega)]; symm; simp only [beq_eq_false_iff_ne]; omega
  have hE2 : decide ((l.length : Int) > 16) = !decide ((l.length : Int) ≤ 16) := by
   by_cases e : (l.length : Int) ≤ 16
   ·rw [decide_eq_true e, decide_eq_false (by omega)]; rfl
   ·rw [decide_eq_false e, decide_eq_true (by omega)]; rfl
  generalize hA : ((l.length : Int) == 0) = A at hA2 ⊢
  generalize hB : noS s = B
  unfold noS at hB
  generalize hC : decide (n ≥ 0) = C
  generalize hD : (n == 0) = D
  generalize hE : decide ((l.length : Int) ≤ 16) = E at hE2 ⊢
  generalize chkS s = G at hchk ⊢
  cases h1 : (k == 1) with
  | true => cases A <;> cases B <;> cases C <;> simp only [c36_0, c36_1, c36_2, c36_3, tbx, tb0, tb1, tb2, tb3, q1, h1, hA, hB, hC, Bool.true_and, Bool.false_and, Bool.and_self, Q0, Q1, Q2, Q3, Q4, Q5, Q6, Q7, Q8, Q9, Q10, Q11, Q12, Q13, Q14, Q15, Q16, Q17, Q18, Q19, Q20, Q21, Q22, Q23, Q24, Q25, Q26, Q27, Q28, Q29, Q30, Q31, Q32, Q33, Q35, Q36, Q37, Q38, Q39, Q40, Q41, Q42, Q43, Q44, Q45, Q46, Q47, Q48, Q49, Q50, Q51, Q52, Q53, Q54, Q55, Q56, Q57, Q58, Q59, Q60, Q61, Q62, Q63, Q64, Q65, Q66, Q67, Q68, Q69, Q70, Q71, Q72, Q73, Q99, Q100, Q101, Q102, Q103, Q74, Q75, Q77, Q78, Q79, Q80, Q81, Q82, Q83, Q84, clr, List.length_nil, List.length_cons, List.getElem?_cons_zero, List.getElem?_cons_succ, Nat.reduceAdd, Nat.zero_add, Nat.add_zero, Nat.reduceLeDiff, Nat.reduceSub, ↓reduceIte, List.drop_succ_cons, List.drop_zero, List.take_succ_cons, List.take_zero, Bool.false_eq_true, List.nil_append, List.cons_append, Bool.not_true, Bool.not_false, cond_true, cond_false, bne, Q85, Q86, Q87, Q88, Q89, Q90, Q91, Q92, Q93, Q94, Q95, Q96, Q97, Q98, Q110, Q111, Q116, Q117, Q118, Q119, Q120, Q121, Q122, Q123, Option.map_some, Option.map_none]
  | false =>
  cases h2 : (k == 2) with
  | true => cases A <;> cases D <;> cases G <;> simp only [c36_0, c36_1, c36_2, c36_3, c36_4, c36_5, tbx, tb0, tb1, tb2, tb3, q1, h1, h2, hA, hD, hchk, snap_str, Bool.true_and, Bool.false_and, Q0, Q1, Q2, Q3, Q4, Q5, Q6, Q7, Q8, Q9, Q10, Q11, Q12, Q13, Q14, Q15, Q16, Q17, Q18, Q19, Q20, Q21, Q22, Q23, Q24, Q25, Q26, Q27, Q28, Q29, Q30, Q31, Q32, Q33, Q35, Q36, Q37, Q38, Q39, Q40, Q41, Q42, Q43, Q44, Q45, Q46, Q47, Q48, Q49, Q50, Q51, Q52, Q53, Q54, Q55, Q56, Q57, Q58, Q59, Q60, Q61, Q62, Q63, Q64, Q65, Q66, Q67, Q68, Q69, Q70, Q71, Q72, Q73, Q99, Q100, Q101, Q102, Q103, Q74, Q75, Q77, Q78, Q79, Q80, Q81, Q82, Q83, Q84, clr, List.length_nil, List.length_cons, List.getElem?_cons_zero, List.getElem?_cons_succ, Nat.reduceAdd, Nat.zero_add, Nat.add_zero, Nat.reduceLeDiff, Nat.reduceSub, ↓reduceIte, List.drop_succ_cons, List.drop_zero, List.take_succ_cons, List.take_zero, Bool.false_eq_true, List.nil_append, List.cons_append, Bool.not_true, Bool.not_false, cond_true, cond_false, bne, Q85, Q86, Q87, Q88, Q89, Q90, Q91, Q92, Q93, Q94, Q95, Q96, Q97, Q98, Q110, Q111, Q116, Q117, Q118, Q119, Q120, Q121, Q122, Q123, Option.map_some, Option.map_none]
  | false =>
  cases h3 : (k == 3) with
  | true => cases A <;> cases B <;> simp only [c36_0, c36_1, c36_2, c36_3, c36_4, c36_5, c36_6, c36_7, tbx, tb0, tb1, tb2, tb3, q1, h1, h2, h3, hA, hB, Bool.true_and, Bool.false_and, Q0, Q1, Q2, Q3, Q4, Q5, Q6, Q7, Q8, Q9, Q10, Q11, Q12, Q13, Q14, Q15, Q16, Q17, Q18, Q19, Q20, Q21, Q22, Q23, Q24, Q25, Q26, Q27, Q28, Q29, Q30, Q31, Q32, Q33, Q35, Q36, Q37, Q38, Q39, Q40, Q41, Q42, Q43, Q44, Q45, Q46, Q47, Q48, Q49, Q50, Q51, Q52, Q53, Q54, Q55, Q56, Q57, Q58, Q59, Q60, Q61, Q62, Q63, Q64, Q65, Q66, Q67, Q68, Q69, Q70, Q71, Q72, Q73, Q99, Q100, Q101, Q102, Q103, Q74, Q75, Q77, Q78, Q79, Q80, Q81, Q82, Q83, Q84, clr, List.length_nil, List.length_cons, List.getElem?_cons_zero, List.getElem?_cons_succ, Nat.reduceAdd, Nat.zero_add, Nat.add_zero, Nat.reduceLeDiff, Nat.reduceSub, ↓reduceIte, List.drop_succ_cons, List.drop_zero, List.take_succ_cons, List.take_zero, Bool.false_eq_true, List.nil_append, List.cons_append, Bool.not_true, Bool.not_false, cond_true, cond_false, bne, Q85, Q86, Q87, Q88, Q89, Q90, Q91, Q92, Q93, Q94, Q95, Q96, Q97, Q98, Q110, Q111, Q116, Q117, Q118, Q119, Q120, Q121, Q122, Q123, Option.map_some, Option.map_none]
  | false =>
  cases h4 : (k == 4) with
  | false => simp only [c36_0, c36_1, c36_2, c36_3, c36_4, c36_5, c36_6, c36_7, c36_8, c36_19, tbx, tb0, tb1, tb2, tb3, q1, h1, h2, h3, h4, Q0, Q1, Q2, Q3, Q4, Q5, Q6, Q7, Q8, Q9, Q10, Q11, Q12, Q13, Q14, Q15, Q16, Q17, Q18, Q19, Q20, Q21, Q22, Q23, Q24, Q25, Q26, Q27, Q28, Q29, Q30, Q31, Q32, Q33, Q35, Q36, Q37, Q38, Q39, Q40, Q41, Q42, Q43, Q44, Q45, Q46, Q47, Q48, Q49, Q50, Q51, Q52, Q53, Q54, Q55, Q56, Q57, Q58, Q59, Q60, Q61, Q62, Q63, Q64, Q65, Q66, Q67, Q68, Q69, Q70, Q71, Q72, Q73, Q99, Q100, Q101, Q102, Q103, Q74, Q75, Q77, Q78, Q79, Q80, Q81, Q82, Q83, Q84, clr, List.length_nil, List.length_cons, List.getElem?_cons_zero, List.getElem?_cons_succ, Nat.reduceAdd, Nat.zero_add, Nat.add_zero, Nat.reduceLeDiff, Nat.reduceSub, ↓reduceIte, List.drop_succ_cons, List.drop_zero, List.take_succ_cons, List.take_zero, Bool.false_eq_true, List.nil_append, List.cons_append, Bool.not_true, Bool.not_false, cond_true, cond_false, bne, Q85, Q86, Q87, Q88, Q89, Q90, Q91, Q92, Q93, Q94, Q95, Q96, Q97, Q98, Q110, Q111, Q116, Q117, Q118, Q119, Q120, Q121, Q122, Q123, Option.map_some, Option.map_none]
  | true =>
   have lp := loop [.agg [.v (.int .i64 k), .v (.string s), .v (.int .i64 n), c], .ptr 0 0, .v (.bool false), .v undef, .v (.int .i64 k), .v (.bool false), .v (.bool false), .v (.bool false), .v (.bool true), .v (.bool false), c, .v (.int .i64 l.length), .v (.int .i64 0), .v undef, .v undef] rfl
   rcases lp with ⟨p0, x3, x14, h', p1⟩ | ⟨p0, v', h', p1, p2⟩
   ·rw [p0]
    cases A <;> cases D <;> cases E <;> cases G <;> simp only [c36_0, c36_1, c36_2, c36_3, c36_4, c36_5, c36_6, c36_7, c36_8, c36_9, c36_10, c36_11, c36_18, V43, tbx, tb0, tb1, tb2, tb3, q1, h1, h2, h3, h4, hA2, hD, hE2, hchk, p1, snap_str, Bool.true_and, Bool.false_and, Q0, Q1, Q2, Q3, Q4, Q5, Q6, Q7, Q8, Q9, Q10, Q11, Q12, Q13, Q14, Q15, Q16, Q17, Q18, Q19, Q20, Q21, Q22, Q23, Q24, Q25, Q26, Q27, Q28, Q29, Q30, Q31, Q32, Q33, Q35, Q36, Q37, Q38, Q39, Q40, Q41, Q42, Q43, Q44, Q45, Q46, Q47, Q48, Q49, Q50, Q51, Q52, Q53, Q54, Q55, Q56, Q57, Q58, Q59, Q60, Q61, Q62, Q63, Q64, Q65, Q66, Q67, Q68, Q69, Q70, Q71, Q72, Q73, Q99, Q100, Q101, Q102, Q103, Q74, Q75, Q77, Q78, Q79, Q80, Q81, Q82, Q83, Q84, clr, List.length_nil, List.length_cons, List.getElem?_cons_zero, List.getElem?_cons_succ, Nat.reduceAdd, Nat.zero_add, Nat.add_zero, Nat.reduceLeDiff, Nat.reduceSub, ↓reduceIte, List.drop_succ_cons, List.drop_zero, List.take_succ_cons, List.take_zero, Bool.false_eq_true, List.nil_append, List.cons_append, Bool.not_true, Bool.not_false, cond_true, cond_false, bne, Q85, Q86, Q87, Q88, Q89, Q90, Q91, Q92, Q93, Q94, Q95, Q96, Q97, Q98, Q110, Q111, Q116, Q117, Q118, Q119, Q120, Q121, Q122, Q123, Option.map_some, Option.map_none]
   ·rw [p0]
    cases A <;> cases D <;> cases E <;> cases G <;> simp only [c36_0, c36_1, c36_2, c36_3, c36_4, c36_5, c36_6, c36_7, c36_8, c36_9, c36_10, c36_11, c36_18, V43, tbx, tb0, tb1, tb2, tb3, q1, h1, h2, h3, h4, hA2, hD, hE2, hchk, p1, p2, snap_str, Bool.true_and, Bool.false_and, Q0, Q1, Q2, Q3, Q4, Q5, Q6, Q7, Q8, Q9, Q10, Q11, Q12, Q13, Q14, Q15, Q16, Q17, Q18, Q19, Q20, Q21, Q22, Q23, Q24, Q25, Q26, Q27, Q28, Q29, Q30, Q31, Q32, Q33, Q35, Q36, Q37, Q38, Q39, Q40, Q41, Q42, Q43, Q44, Q45, Q46, Q47, Q48, Q49, Q50, Q51, Q52, Q53, Q54, Q55, Q56, Q57, Q58, Q59, Q60, Q61, Q62, Q63, Q64, Q65, Q66, Q67, Q68, Q69, Q70, Q71, Q72, Q73, Q99, Q100, Q101, Q102, Q103, Q74, Q75, Q77, Q78, Q79, Q80, Q81, Q82, Q83, Q84, clr, List.length_nil, List.length_cons, List.getElem?_cons_zero, List.getElem?_cons_succ, Nat.reduceAdd, Nat.zero_add, Nat.add_zero, Nat.reduceLeDiff, Nat.reduceSub, ↓reduceIte, List.drop_succ_cons, List.drop_zero, List.take_succ_cons, List.take_zero, Bool.false_eq_true, List.nil_append, List.cons_append, Bool.not_true, Bool.not_false, cond_true, cond_false, bne, Q85, Q86, Q87, Q88, Q89, Q90, Q91, Q92, Q93, Q94, Q95, Q96, Q97, Q98, Q110, Q111, Q116, Q117, Q118, Q119, Q120, Q121, Q122, Q123, Option.map_some, Option.map_none]

def checkT (t : Tm) : Int := if mayT t = true then (if decide (depI t > 60) = true then 3 else 0) else 30
theorem rcheck_ok (t : Tm) (a : AV) (ha : IsT a t) : callW F 22 [a] [] = some (.v (.int .i64 (checkT t)), []) := by
 refine callW_pure (c := c22) rfl rfl 0 ?_
 have hf := ha.facts
 have h1 := rmay_ok _ t a (Nat.lt_succ_self _) ha
 have h2 := rdeep_ok _ t a (Nat.lt_succ_self _) ha
 have e1 : Q76 [.box 32 a.cells] true 4 (.ptr 0 0) = some a := hf.2.2.2.1 [] 32
 unfold checkT
 cases h3 : mayT t with
 | false => rw [h3] at h1; simp only [c22, start, List.replicate, c22_0, c22_1, c22_2, hf, e1, h1, Q0, Q1, Q2, Q3, Q4, Q5, Q6, Q7, Q8, Q9, Q10, Q11, Q12, Q13, Q14, Q15, Q16, Q17, Q18, Q19, Q20, Q21, Q22, Q23, Q24, Q25, Q26, Q27, Q28, Q29, Q30, Q31, Q32, Q33, Q35, Q36, Q37, Q38, Q39, Q40, Q41, Q42, Q43, Q44, Q45, Q46, Q47, Q48, Q49, Q50, Q51, Q52, Q53, Q54, Q55, Q56, Q57, Q58, Q59, Q60, Q61, Q62, Q63, Q64, Q65, Q66, Q67, Q68, Q69, Q70, Q71, Q72, Q73, Q99, Q100, Q101, Q102, Q103, Q74, Q75, Q77, Q78, Q79, Q80, Q81, Q82, Q83, Q84, clr, List.length_nil, List.length_cons, List.getElem?_cons_zero, List.getElem?_cons_succ, Nat.reduceAdd, Nat.zero_add, Nat.add_zero, Nat.reduceLeDiff, Nat.reduceSub, ↓reduceIte, List.drop_succ_cons, List.drop_zero, List.take_succ_cons, List.take_zero, Bool.false_eq_true, List.nil_append, List.cons_append, Bool.not_true, Bool.not_false, cond_true, cond_false, bne, Q85, Q86, Q87, Q88, Q89, Q90, Q91, Q92, Q93, Q94, Q95, Q96, Q97, Q98, Q110, Q111, Q116, Q117, Q118, Q119, Q120, Q121, Q122, Q123, Option.map_some, Option.map_none, Q34]
 | true =>
  rw [h3] at h1
  cases h4 : decide (depI t > 60) <;> simp only [c22, start, List.replicate, c22_0, c22_1, c22_3, c22_4, c22_5, hf, e1, h1, h2, h4, Q0, Q1, Q2, Q3, Q4, Q5, Q6, Q7, Q8, Q9, Q10, Q11, Q12, Q13, Q14, Q15, Q16, Q17, Q18, Q19, Q20, Q21, Q22, Q23, Q24, Q25, Q26, Q27, Q28, Q29, Q30, Q31, Q32, Q33, Q35, Q36, Q37, Q38, Q39, Q40, Q41, Q42, Q43, Q44, Q45, Q46, Q47, Q48, Q49, Q50, Q51, Q52, Q53, Q54, Q55, Q56, Q57, Q58, Q59, Q60, Q61, Q62, Q63, Q64, Q65, Q66, Q67, Q68, Q69, Q70, Q71, Q72, Q73, Q99, Q100, Q101, Q102, Q103, Q74, Q75, Q77, Q78, Q79, Q80, Q81, Q82, Q83, Q84, clr, List.length_nil, List.length_cons, List.getElem?_cons_zero, List.getElem?_cons_succ, Nat.reduceAdd, Nat.zero_add, Nat.add_zero, Nat.reduceLeDiff, Nat.reduceSub, ↓reduceIte, List.drop_succ_cons, List.drop_zero, List.take_succ_cons, List.take_zero, Bool.false_eq_true, List.nil_append, List.cons_append, Bool.not_true, Bool.not_false, cond_true, cond_false, bne, Q85, Q86, Q87, Q88, Q89, Q90, Q91, Q92, Q93, Q94, Q95, Q96, Q97, Q98, Q110, Q111, Q116, Q117, Q118, Q119, Q120, Q121, Q122, Q123, Option.map_some, Option.map_none, Q34]
end Go.AE.YtghgbbiklkpbnaaDoor
end

section
namespace Go.AE.YtghgbbiklkpbnaaDoor
open Go Go.AE Go.Proofs.YtghgbbiklkpbnaaDoor

section
variable {k n k' n' : Int} {s s' : ByteArray} {c c' : AV} {G : List AO}
end
def headS (k : Int) (s : ByteArray) (n : Int) (l : List Tm) (k' : Int) (s' : ByteArray) (n' : Int) (l' : List Tm) : Bool := (k == k') && ((n == n') && ((s.toList == s'.toList) && ((l.length : Int) == (l'.length : Int))))
mutual
def sameT : Tm → Tm → Bool
 | .mk k s n l, .mk k' s' n' l' => headS k s n l k' s' n' l' && sameL l l'
def sameL : List Tm → List Tm → Bool
 | [], _ => true
 | _, [] => true
 | a :: l, b :: l' => sameT a b && sameL l l'
end
end Go.AE.YtghgbbiklkpbnaaDoor
end

section
namespace Go.AE.YtghgbbiklkpbnaaDoor
open Go Go.AE Go.Proofs.YtghgbbiklkpbnaaDoor

theorem small_maxM {n m : Nat} (h : n ≤ m) (hm : m ≤ 1000000 := by decide) : n ≤ maxLen := by
 have : maxLen = 9223372036854775807 := rfl
 omega
def iv (n : Int) : AV := .v (.int .i64 n)
mutual
def placesT : Tm → List Int
 | .mk k _ n l => (if k = 1 then [n] else []) ++ placesL l
def placesL : List Tm → List Int
 | [] => []
 | t :: l => placesT t ++ placesL l
end
mutual
theorem places_len : ∀ t : Tm, (placesT t).length ≤ size t
 | .mk k s n l => by
  have := placesL_len l
  simp only [placesT, size, List.length_append]
  split <;> simp <;> omega
theorem placesL_len : ∀ l : List Tm, (placesL l).length ≤ sizeL l
 | [] => by simp [placesL, sizeL]
 | t :: l => by
  have := places_len t
  have := placesL_len l
  simp only [placesL, sizeL, List.length_append]; omega
end

def K38 : List Bool := [false, true, false, false, true, true, true, false, false]
def L38 (n : Int) (c : AV) (len i : Int) : List AV := [.junk, .v (.int .i64 n), .junk, .junk, c, .v (.int .i64 len), .v (.int .i64 i), .junk, .junk]
theorem has_loop {K : Nat} {c : AV} {es : List AV} (hs : Sl 1 c es) (hm : es.length ≤ 1000000) (n : Int) :
  ∀ (l : List Int) (i : Nat) (h : List AO) (vars : List AV), i + l.length = es.length → es.drop i = l.map iv → clr K38 vars = L38 n c es.length i →
   (l.contains n = true ∧ ∃ vs, loopN (exec (callW F) K c39_7) K38 (l.length + 1) vars h = some (.ret, vs, h) ∧ getO vs [] (.var 2) = .v (.bool true)) ∨ (l.contains n = false ∧ ∃ vs, loopN (exec (callW F) K c39_7) K38 (l.length + 1) vars h = some (.exit 0, vs, h) ∧ vs.length = 9) := by
 intro l
 induction l with
 | nil =>
  intro i h vars hi _ hv
  have hil : i = es.length := by simpa using hi
  subst hil
  have hlt : decide ((es.length : Int) < (es.length : Int)) = false := by simp
  refine .inr ⟨rfl, [.junk, .v (.int .i64 n), .junk, .junk, c, .v (.int .i64 es.length), .v (.int .i64 es.length), .v (.bool false), .junk], loop_exit ?_, rfl⟩
  rw [hv]
  simp only [L38, c39_7, c39_2, hlt, Q104, Q105, bs1, bs2, Q106, Q107, Q108, Q109, bd1, Q110, Q111, toL, List.map_cons, List.map_nil, Q112, List.set_cons_zero, List.set_cons_succ, and_self, Nat.le_refl, Q114, Q115, Q116, Q0, Q1, Q2, Q3, Q4, Q5, Q6, Q7, Q8, Q9, Q10, Q11, Q12, Q13, Q14, Q15, Q16, Q17, Q18, Q19, Q20, Q21, Q22, Q23, Q24, Q25, Q26, Q27, Q28, Q29, Q30, Q31, Q32, Q33, Q34, Q35, Q36, Q37, Q38, Q39, Q40, Q41, Q42, Q43, Q44, Q45, Q46, Q47, Q48, Q49, Q50, Q51, Q52, Q53, Q54, Q55, Q56, Q57, Q58, Q59, Q60, Q61, Q62, Q63, Q64, Q65, Q66, Q67, Q68, Q69, Q70, Q71, Q72, Q73, AV.cl, Q74, Q75, Q76, Q77, Q78, Q79, Q80, Q81, Q82, Q83, Q84, clr, List.length_nil, List.length_cons, List.getElem?_cons_zero, List.getElem?_cons_succ, Nat.reduceAdd, Nat.zero_add, Nat.add_zero, Nat.reduceLeDiff, Nat.reduceSub, ↓reduceIte, List.drop_succ_cons, List.drop_zero, List.take_succ_cons, List.take_zero, Bool.false_eq_true, List.nil_append, List.cons_append, Bool.not_true, Bool.not_false, cond_true, cond_false, bne, Q85, Q86, Q87, Q88, Q89, Q90, Q91, Q92, Q93, Q94, Q95, Q96, Q97, Q98]
 | cons k l ih =>
  intro i h vars hi hes hv
  have hil : i < es.length := by simp at hi; omega
  have he : es[i]? = some (iv k) := by
   have : (es.drop i)[0]? = some (iv k) := by rw [hes]; rfl
   simpa using this
  have hd : es.drop (i + 1) = l.map iv := by
   have h2 := congrArg List.tail hes
   simpa using h2
  have hlt : (decide ((i : Int) < (es.length : Int))) = true := by simp; omega
  have q1 := hs.ia he
  by_cases hk : n = k
  ·left
   subst hk
   have he : ((n == n) : Bool) = true := by simp
   refine ⟨by simp, [.junk, .v (.int .i64 n), .v (.bool true), .v (.int .i64 n), c, .v (.int .i64 es.length), .v (.int .i64 i), .v (.bool true), .v (.bool true)], loop_ret ?_, rfl⟩
   rw [hv]
   simp only [L38, iv, AV.cells, c39_7, c39_2, c39_3, c39_4, c39_5, hlt, he, q1, Q104, Q105, bs1, bs2, Q106, Q107, Q108, Q109, bd1, Q110, Q111, toL, List.map_cons, List.map_nil, Q112, List.set_cons_zero, List.set_cons_succ, and_self, Nat.le_refl, Q114, Q115, Q116, Q0, Q1, Q2, Q3, Q4, Q5, Q6, Q7, Q8, Q9, Q10, Q11, Q12, Q13, Q14, Q15, Q16, Q17, Q18, Q19, Q20, Q21, Q22, Q23, Q24, Q25, Q26, Q27, Q28, Q29, Q30, Q31, Q32, Q33, Q34, Q35, Q36, Q37, Q38, Q39, Q40, Q41, Q42, Q43, Q44, Q45, Q46, Q47, Q48, Q49, Q50, Q51, Q52, Q53, Q54, Q55, Q56, Q57, Q58, Q59, Q60, Q61, Q62, Q63, Q64, Q65, Q66, Q67, Q68, Q69, Q70, Q71, Q72, Q73, AV.cl, Q74, Q75, Q76, Q77, Q78, Q79, Q80, Q81, Q82, Q83, Q84, clr, List.length_nil, List.length_cons, List.getElem?_cons_zero, List.getElem?_cons_succ, Nat.reduceAdd, Nat.zero_add, Nat.add_zero, Nat.reduceLeDiff, Nat.reduceSub, ↓reduceIte, List.drop_succ_cons, List.drop_zero, List.take_succ_cons, List.take_zero, Bool.false_eq_true, List.nil_append, List.cons_append, Bool.not_true, Bool.not_false, cond_true, cond_false, bne, Q85, Q86, Q87, Q88, Q89, Q90, Q91, Q92, Q93, Q94, Q95, Q96, Q97, Q98]
  ·have he : ((k == n) : Bool) = false := by simpa using fun e => hk e.symm
   have st : exec (callW F) K c39_7 (L38 n c es.length i) h = some (.normal, [.junk, .v (.int .i64 n), .junk, .v (.int .i64 k), c, .v (.int .i64 es.length), .v (.int .i64 ((i + 1 : Nat) : Int)), .v (.bool true), .v (.bool false)], h) := by
    have : maxLen = 9223372036854775807 := rfl
    simp only [L38, iv, AV.cells, c39_7, c39_2, c39_3, c39_4, c39_6, hlt, he, wrap_succ hil (by omega), q1, Q104, Q105, bs1, bs2, Q106, Q107, Q108, Q109, bd1, Q110, Q111, toL, List.map_cons, List.map_nil, Q112, List.set_cons_zero, List.set_cons_succ, and_self, Nat.le_refl, Q114, Q115, Q116, Q0, Q1, Q2, Q3, Q4, Q5, Q6, Q7, Q8, Q9, Q10, Q11, Q12, Q13, Q14, Q15, Q16, Q17, Q18, Q19, Q20, Q21, Q22, Q23, Q24, Q25, Q26, Q27, Q28, Q29, Q30, Q31, Q32, Q33, Q34, Q35, Q36, Q37, Q38, Q39, Q40, Q41, Q42, Q43, Q44, Q45, Q46, Q47, Q48, Q49, Q50, Q51, Q52, Q53, Q54, Q55, Q56, Q57, Q58, Q59, Q60, Q61, Q62, Q63, Q64, Q65, Q66, Q67, Q68, Q69, Q70, Q71, Q72, Q73, AV.cl, Q74, Q75, Q76, Q77, Q78, Q79, Q80, Q81, Q82, Q83, Q84, clr, List.length_nil, List.length_cons, List.getElem?_cons_zero, List.getElem?_cons_succ, Nat.reduceAdd, Nat.zero_add, Nat.add_zero, Nat.reduceLeDiff, Nat.reduceSub, ↓reduceIte, List.drop_succ_cons, List.drop_zero, List.take_succ_cons, List.take_zero, Bool.false_eq_true, List.nil_append, List.cons_append, Bool.not_true, Bool.not_false, cond_true, cond_false, bne, Q85, Q86, Q87, Q88, Q89, Q90, Q91, Q92, Q93, Q94, Q95, Q96, Q97, Q98]
   rw [show (k :: l).length + 1 = (l.length + 1) + 1 from rfl, loop_normal (by rw [hv]; exact st)]
   have hc : (k :: l).contains n = l.contains n := by
    have : (n == k) = false := by simpa using hk
    rw [List.contains_cons, this, Bool.false_or]
   rw [hc]
   exact ih (i + 1) h _ (by simp at hi; omega) hd rfl
theorem has_ok {c : AV} {ns : List Int} (hs : Sl 1 c (ns.map iv)) (hm : ns.length ≤ 1000000) (n : Int) : callW F 39 [c, .v (.int .i64 n)] [] = some (.v (.bool (ns.contains n)), []) := by
 refine callW_pure (c := c39) rfl rfl (ns.length + 1) ?_
 have key := has_loop (K := ns.length + 1) hs (by simpa using hm) n ns 0 [] (L38 n c (ns.map iv).length (0 : Nat)) (by simp) rfl rfl
 show lv [.var 2] (exec (callW F) (ns.length + 1) (.seq (.region [] [] c39_0) (.seq (.seq (.region [] [] c39_1) (.block 0 (.loop K38 [] c39_7))) (.seq (.region [] [] c39_8) .ret))) _ _) = _
 generalize hrest : (CC.seq (.region [] [] c39_8) .ret) = rest
 simp only [c39, start, List.replicate, c39_0, c39_1, hs.len, Q104, Q105, bs1, bs2, Q106, Q107, Q108, Q109, bd1, Q110, Q111, toL, List.map_cons, List.map_nil, Q112, List.set_cons_zero, List.set_cons_succ, and_self, Nat.le_refl, Q114, Q115, Q116, Q0, Q1, Q2, Q3, Q4, Q5, Q6, Q7, Q8, Q9, Q10, Q11, Q12, Q13, Q14, Q15, Q16, Q17, Q18, Q19, Q20, Q21, Q22, Q23, Q24, Q25, Q26, Q27, Q28, Q29, Q30, Q31, Q32, Q33, Q34, Q35, Q36, Q37, Q38, Q39, Q40, Q41, Q42, Q43, Q44, Q45, Q46, Q47, Q48, Q49, Q50, Q51, Q52, Q53, Q54, Q55, Q56, Q57, Q58, Q59, Q60, Q61, Q62, Q63, Q64, Q65, Q66, Q67, Q68, Q69, Q70, Q71, Q72, Q73, AV.cl, Q74, Q75, Q76, Q77, Q78, Q79, Q80, Q81, Q82, Q83, Q84, clr, List.length_nil, List.length_cons, List.getElem?_cons_zero, List.getElem?_cons_succ, Nat.reduceAdd, Nat.zero_add, Nat.add_zero, Nat.reduceLeDiff, Nat.reduceSub, ↓reduceIte, List.drop_succ_cons, List.drop_zero, List.take_succ_cons, List.take_zero, Bool.false_eq_true, List.nil_append, List.cons_append, Bool.not_true, Bool.not_false, cond_true, cond_false, bne, Q85, Q86, Q87, Q88, Q89, Q90, Q91, Q92, Q93, Q94, Q95, Q96, Q97, Q98]
 rw [loop_cong (v2 := L38 n c (ns.map iv).length ((0 : Nat) : Int)) (by rfl)]
 rcases key with ⟨h0, vs, h1, h2⟩ | ⟨h0, vs, h1, h2⟩
 ·rw [h1, h0]
  simp only [Q18, Q14, h2, Q0, Q1, Q2, Q3, Q4, Q5, Q6, Q7, Q8, Q9, Q10, Q11, Q12, Q13, Q14, Q15, Q16, Q17, Q18, Q19, Q20, Q21, Q22, Q23, Q24, Q25, Q26, Q27, Q28, Q29, Q30, Q31, Q32, Q33, Q34, Q35, Q36, Q37, Q38, Q39, Q40, Q41, Q42, Q43, Q44, Q45, Q46, Q47, Q48, Q49, Q50, Q51, Q52, Q53, Q54, Q55, Q56, Q57, Q58, Q59, Q60, Q61, Q62, Q63, Q64, Q65, Q66, Q67, Q68, Q69, Q70, Q71, Q72, Q73, AV.cl, Q74, Q75, Q76, Q77, Q78, Q79, Q80, Q81, Q82, Q83, Q84, clr, List.length_nil, List.length_cons, List.getElem?_cons_zero, List.getElem?_cons_succ, Nat.reduceAdd, Nat.zero_add, Nat.add_zero, Nat.reduceLeDiff, Nat.reduceSub, ↓reduceIte, List.drop_succ_cons, List.drop_zero, List.take_succ_cons, List.take_zero, Bool.false_eq_true, List.nil_append, List.cons_append, Bool.not_true, Bool.not_false, cond_true, cond_false, bne, Q85, Q86, Q87, Q88, Q89, Q90, Q91, Q92, Q93, Q94, Q95, Q96, Q97, Q98]
 ·rw [h1, h0, ← hrest]
  match vs, h2 with
  | [a0, a1, a2, a3, a4, a5, a6, a7, a8], _ => simp only [c39_8, Q0, Q1, Q2, Q3, Q4, Q5, Q6, Q7, Q8, Q9, Q10, Q11, Q12, Q13, Q14, Q15, Q16, Q17, Q18, Q19, Q20, Q21, Q22, Q23, Q24, Q25, Q26, Q27, Q28, Q29, Q30, Q31, Q32, Q33, Q34, Q35, Q36, Q37, Q38, Q39, Q40, Q41, Q42, Q43, Q44, Q45, Q46, Q47, Q48, Q49, Q50, Q51, Q52, Q53, Q54, Q55, Q56, Q57, Q58, Q59, Q60, Q61, Q62, Q63, Q64, Q65, Q66, Q67, Q68, Q69, Q70, Q71, Q72, Q73, AV.cl, Q74, Q75, Q76, Q77, Q78, Q79, Q80, Q81, Q82, Q83, Q84, clr, List.length_nil, List.length_cons, List.getElem?_cons_zero, List.getElem?_cons_succ, Nat.reduceAdd, Nat.zero_add, Nat.add_zero, Nat.reduceLeDiff, Nat.reduceSub, ↓reduceIte, List.drop_succ_cons, List.drop_zero, List.take_succ_cons, List.take_zero, Bool.false_eq_true, List.nil_append, List.cons_append, Bool.not_true, Bool.not_false, cond_true, cond_false, bne, Q85, Q86, Q87, Q88, Q89, Q90, Q91, Q92, Q93, Q94, Q95, Q96, Q97, Q98]

def K37 : List Bool := [false, false, false, true, false, false, true, true, true, false]
def L37 (acc c : AV) (len i : Int) : List AV := [.junk, .junk, .junk, acc, .junk, .junk, c, .v (.int .i64 len), .v (.int .i64 i), .junk]
theorem places_loop {K : Nat} {c : AV} {es : List AV} (hs : Sl 4 c es) (hm : es.length ≤ 450000) :
  ∀ (l : List Tm) (i : Nat) (acc : AV) (p : List Int) (h : List AO) (vars : List AV), i + l.length = es.length → p.length + sizeL l ≤ 1000000 → All2 (es.drop i) l → (∀ t ∈ l, ∀ (e : AV), IsT e t → ∃ r, Sl 1 r ((placesT t).map iv) ∧ callW F 38 [e] [] = some (r, [])) →
   Acc 2 1 h acc (p.map iv) → clr K37 vars = L37 acc c es.length i →
   ∃ acc' h' x4 x5 x9, loopN (exec (callW F) K c38_9) K37 (l.length + 1) vars h = some (.exit 0, [.junk, .junk, .junk, acc', x4, x5, c, .v (.int .i64 es.length), .v (.int .i64 es.length), x9], h') ∧ Acc 2 1 h' acc' ((p ++ placesL l).map iv) := by
 intro l
 induction l with
 | nil =>
  intro i acc p h vars hi hp _ _ ha hv
  have hil : i = es.length := by simpa using hi
  subst hil
  have hlt : decide ((es.length : Int) < (es.length : Int)) = false := by simp
  refine ⟨acc, h, .junk, .junk, .v (.bool false), loop_exit ?_, by simpa [placesL] using ha⟩
  rw [hv]
  simp only [L37, c38_9, c38_5, hlt, Q104, Q105, bs1, bs2, Q106, Q107, Q108, Q109, bd1, Q110, Q111, toL, List.map_cons, List.map_nil, Q112, List.set_cons_zero, List.set_cons_succ, and_self, Nat.le_refl, Q114, Q115, Q116, Q0, Q1, Q2, Q3, Q4, Q5, Q6, Q7, Q8, Q9, Q10, Q11, Q12, Q13, Q14, Q15, Q16, Q17, Q18, Q19, Q20, Q21, Q22, Q23, Q24, Q25, Q26, Q27, Q28, Q29, Q30, Q31, Q32, Q33, Q34, Q35, Q36, Q37, Q38, Q39, Q40, Q41, Q42, Q43, Q44, Q45, Q46, Q47, Q48, Q49, Q50, Q51, Q52, Q53, Q54, Q55, Q56, Q57, Q58, Q59, Q60, Q61, Q62, Q63, Q64, Q65, Q66, Q67, Q68, Q69, Q70, Q71, Q72, Q73, Q99, Q100, Q101, Q102, Q103, Q74, Q75, Q77, Q78, Q79, Q80, Q81, Q82, Q83, Q84, clr, List.length_nil, List.length_cons, List.getElem?_cons_zero, List.getElem?_cons_succ, Nat.reduceAdd, Nat.zero_add, Nat.add_zero, Nat.reduceLeDiff, Nat.reduceSub, ↓reduceIte, List.drop_succ_cons, List.drop_zero, List.take_succ_cons, List.take_zero, Bool.false_eq_true, List.nil_append, List.cons_append, Bool.not_true, Bool.not_false, cond_true, cond_false, bne, Q85, Q86, Q87, Q88, Q89, Q90, Q91, Q92, Q93, Q94, Q95, Q96, Q97, Q98]
 | cons t l ih =>
  intro i acc p h vars hi hp hes hcall ha hv
  have hil : i < es.length := by simp at hi; omega
  have he : es[i]? = some (es[i]'hil) := List.getElem?_eq_getElem _
  have hd : es.drop i = es[i] :: es.drop (i + 1) := List.drop_eq_getElem_cons hil
  rw [hd] at hes
  generalize es[i]'hil = e at hes he
  cases hes with
  | cons _ _ _ _ hT hs' =>
  obtain ⟨r, hr, hc⟩ := hcall t (by simp) _ hT
  have hpl := places_len t
  simp only [sizeL] at hp
  obtain ⟨acc', h2, h3, h4, h5⟩ := (ha.app (.box 32 e.cells)).add (x := r) (bytes := 8) (hr.elems _) (by
   have : room = 140737488355328 := rfl
   simp only [fits, List.length_map, decide_eq_true_eq]; omega)
  have hlt : (decide ((i : Int) < (es.length : Int))) = true := by simp; omega
  have q1 := hs.ia he
  have q3 : ∀ h : List AO, Q76 h true 4 (.ip e.cells) = some e := fun h => hT.load
  have q5 : ∀ h : List AO, e.snap1 h = some e := fun h => hT.snap
  have st : exec (callW F) K c38_9 (L37 acc c es.length i) h = some (.normal, [.junk, .junk, .junk, acc', .ptr h.length 0, .junk, c, .v (.int .i64 es.length), .v (.int .i64 ((i + 1 : Nat) : Int)), .v (.bool true)], h2) := by
   have hz : ([.v (.int .i64 0), .v (.string ⟨#[]⟩), .v (.int .i64 0), .v (.slice none 0 0)] : List AV).length = 4 := rfl
   simp only [L37, c38_9, c38_5, c38_6, c38_7, c38_8, hlt, wrap_succ hil (small_maxM hm), q1, q3, q5, hc, h3, hT.st _ _ hz, hT.ld, q9z, e_append, Q104, Q105, bs1, bs2, Q106, Q107, Q108, Q109, bd1, Q110, Q111, toL, List.map_cons, List.map_nil, Q112, List.set_cons_zero, List.set_cons_succ, and_self, Nat.le_refl, Q114, Q115, Q116, Q0, Q1, Q2, Q3, Q4, Q5, Q6, Q7, Q8, Q9, Q10, Q11, Q12, Q13, Q14, Q15, Q16, Q17, Q18, Q19, Q20, Q21, Q22, Q23, Q24, Q25, Q26, Q27, Q28, Q29, Q30, Q31, Q32, Q33, Q34, Q35, Q36, Q37, Q38, Q39, Q40, Q41, Q42, Q43, Q44, Q45, Q46, Q47, Q48, Q49, Q50, Q51, Q52, Q53, Q54, Q55, Q56, Q57, Q58, Q59, Q60, Q61, Q62, Q63, Q64, Q65, Q66, Q67, Q68, Q69, Q70, Q71, Q72, Q73, Q99, Q100, Q101, Q102, Q103, Q74, Q75, Q77, Q78, Q79, Q80, Q81, Q82, Q83, Q84, clr, List.length_nil, List.length_cons, List.getElem?_cons_zero, List.getElem?_cons_succ, Nat.reduceAdd, Nat.zero_add, Nat.add_zero, Nat.reduceLeDiff, Nat.reduceSub, ↓reduceIte, List.drop_succ_cons, List.drop_zero, List.take_succ_cons, List.take_zero, Bool.false_eq_true, List.nil_append, List.cons_append, Bool.not_true, Bool.not_false, cond_true, cond_false, bne, Q85, Q86, Q87, Q88, Q89, Q90, Q91, Q92, Q93, Q94, Q95, Q96, Q97, Q98]
  rw [show (t :: l).length + 1 = (l.length + 1) + 1 from rfl, loop_normal (by rw [hv]; exact st)]
  rw [← List.map_append] at h4
  obtain ⟨acc'', h', x4, x5, x9, g1, g2⟩ := ih (i + 1) acc' (p ++ placesT t) h2 [.junk, .junk, .junk, acc', .ptr h.length 0, .junk, c, .v (.int .i64 es.length), .v (.int .i64 ((i + 1 : Nat) : Int)), .v (.bool true)] (by simp at hi; omega) (by rw [List.length_append]; omega) hs' (fun t ht => hcall t (by simp [ht])) h4 rfl
  refine ⟨acc'', h', x4, x5, x9, g1, ?_⟩
  rw [placesL, ← List.append_assoc]
  exact g2

theorem places_ok : ∀ (N : Nat) (t : Tm) (a : AV), SizeOf.sizeOf t < N → size t ≤ 450000 → IsT a t → ∃ r, Sl 1 r ((placesT t).map iv) ∧ callW F 38 [a] [] = some (r, []) := by
 intro N
 induction N with
 | zero => intro t a h; omega
 | succ N ih =>
  intro t a hN hsz ha
  cases ha with
  | mk k s n c l hc =>
  have h5 := Tm.mk.sizeOf_spec k s n l
  simp only [size] at hsz
  have hll := sizeL_len l
  have hcall : ∀ t ∈ l, ∀ (e : AV), IsT e t → ∃ r, Sl 1 r ((placesT t).map iv) ∧ callW F 38 [e] [] = some (r, []) := by
   intro t ht e hT
   have h6 := List.sizeOf_lt_of_mem ht
   have h7 := size_mem ht
   exact ih t e (by omega) (by omega) hT
  obtain ⟨es, hs, hes, hm⟩ := hc.sl
  have e1 := hes.length
  have key : ∀ (p : List Int) (acc : AV) (h : List AO), p.length ≤ 10 → Acc 2 1 h acc (p.map iv) → ∃ acc' h' x4 x5 x9, loopN (exec (callW F) (l.length + 1) c38_9) K37 (l.length + 1) (L37 acc c es.length (0 : Nat)) h = some (.exit 0, [.junk, .junk, .junk, acc', x4, x5, c, .v (.int .i64 es.length), .v (.int .i64 es.length), x9], h') ∧ Acc 2 1 h' acc' ((p ++ placesL l).map iv) :=
   fun p acc h hp ha => places_loop (K := l.length + 1) hs (by omega) l 0 acc p h (L37 acc c es.length (0 : Nat)) (by omega) (by omega) (by simpa using hes) hcall ha rfl
  by_cases hk : k = 1
  ·have h1 : (k == 1) = true := by simpa using hk
   have hap : evAppend [.box 32 [.v (.int .i64 k), .v (.string s), .v (.int .i64 n), c]] 2 1 8 (.v (.slice none 0 0)) (.slc 1 true true [.v (.int .i64 n)]) = some (.own 1 1 0 0 1, [.box 32 [.v (.int .i64 k), .v (.string s), .v (.int .i64 n), c], .row 2 1 0 [.v (.int .i64 n)] 0]) := ap_new (h := [.box 32 [.v (.int .i64 k), .v (.string s), .v (.int .i64 n), c]]) (by simp) (by simp only [List.length_cons, List.length_nil]; decide)
   obtain ⟨acc', h', x4, x5, x9, g1, g2⟩ := key [n] (.own 1 1 0 0 1) [.box 32 [.v (.int .i64 k), .v (.string s), .v (.int .i64 n), c], .row 2 1 0 [.v (.int .i64 n)] 0] (by simp) (.own 1 0 0 [.v (.int .i64 n)] rfl (by simp) (by simp))
   obtain ⟨r, g3, g4⟩ := g2.lvf
   refine ⟨r, by rw [placesT, if_pos hk]; exact g4, callW_pure (c := c38) rfl rfl (l.length + 1) ?_⟩
   show lv [.var 2] (exec (callW F) (l.length + 1) (.seq (.region [] [] c38_0) (.seq (.region [] [] c38_1) (.seq (.seq (.region [] [] c38_2) (.cond (.var 5) (.region [] [] c38_3) .skip)) (.seq (.seq (.region [] [] c38_4) (.block 0 (.loop K37 [] c38_9))) (.seq (.region [] [] c38_10) .ret))))) _ _) = _
   generalize hrest : (CC.seq (.region [] [] c38_10) .ret) = rest
   simp only [c38, start, List.replicate, c38_0, c38_1, c38_2, c38_3, c38_4, h1, hs.len, hap, snap_int, bs1_some (y := .v (.int .i64 n)) (sz := 1) Q111 rfl, e_append, q9z, Q113, Q104, Q105, bs1, bs2, Q106, Q107, Q108, Q109, bd1, Q110, Q111, toL, List.map_cons, List.map_nil, Q112, List.set_cons_zero, List.set_cons_succ, and_self, Nat.le_refl, Q113, Q114, Q115, Q116, Q0, Q1, Q2, Q3, Q4, Q5, Q6, Q7, Q8, Q9, Q10, Q11, Q12, Q13, Q14, Q15, Q16, Q17, Q18, Q19, Q20, Q21, Q22, Q23, Q24, Q25, Q26, Q27, Q28, Q29, Q30, Q31, Q32, Q33, Q34, Q35, Q36, Q37, Q38, Q39, Q40, Q41, Q42, Q43, Q44, Q45, Q46, Q47, Q48, Q49, Q50, Q51, Q52, Q53, Q54, Q55, Q56, Q57, Q58, Q59, Q60, Q61, Q62, Q63, Q64, Q65, Q66, Q67, Q68, Q69, Q70, Q71, Q72, Q73, Q99, Q100, Q101, Q102, Q103, Q74, Q75, Q76, Q77, Q78, Q79, Q80, Q81, Q82, Q83, Q84, clr, List.length_nil, List.length_cons, List.getElem?_cons_zero, List.getElem?_cons_succ, Nat.reduceAdd, Nat.zero_add, Nat.add_zero, Nat.reduceLeDiff, Nat.reduceSub, ↓reduceIte, List.drop_succ_cons, List.drop_zero, List.take_succ_cons, List.take_zero, Bool.false_eq_true, List.nil_append, List.cons_append, Bool.not_true, Bool.not_false, cond_true, cond_false, bne, Q85, Q86, Q87, Q88, Q89, Q90, Q91, Q92, Q93, Q94, Q95, Q96, Q97, Q98]
   rw [loop_cong (v2 := L37 (.own 1 1 0 0 1) c es.length ((0 : Nat) : Int)) (by rfl), g1, ← hrest]
   simp only [Q19, Q12, c38_10, g3, Q0, Q1, Q2, Q3, Q4, Q5, Q6, Q7, Q8, Q9, Q10, Q11, Q12, Q13, Q14, Q15, Q16, Q17, Q18, Q19, Q20, Q21, Q22, Q23, Q24, Q25, Q26, Q27, Q28, Q29, Q30, Q31, Q32, Q33, Q34, Q35, Q36, Q37, Q38, Q39, Q40, Q41, Q42, Q43, Q44, Q45, Q46, Q47, Q48, Q49, Q50, Q51, Q52, Q53, Q54, Q55, Q56, Q57, Q58, Q59, Q60, Q61, Q62, Q63, Q64, Q65, Q66, Q67, Q68, Q69, Q70, Q71, Q72, Q73, Q99, Q100, Q101, Q102, Q103, Q74, Q75, Q77, Q78, Q79, Q80, Q81, Q82, Q83, Q84, clr, List.length_nil, List.length_cons, List.getElem?_cons_zero, List.getElem?_cons_succ, Nat.reduceAdd, Nat.zero_add, Nat.add_zero, Nat.reduceLeDiff, Nat.reduceSub, ↓reduceIte, List.drop_succ_cons, List.drop_zero, List.take_succ_cons, List.take_zero, Bool.false_eq_true, List.nil_append, List.cons_append, Bool.not_true, Bool.not_false, cond_true, cond_false, bne, Q85, Q86, Q87, Q88, Q89, Q90, Q91, Q92, Q93, Q94, Q95, Q96, Q97, Q98]
  ·have h1 : (k == 1) = false := by simpa using hk
   obtain ⟨acc', h', x4, x5, x9, g1, g2⟩ := key [] (.v (.slice none 0 0)) [.box 32 [.v (.int .i64 k), .v (.string s), .v (.int .i64 n), c]] (by simp) .nil
   obtain ⟨r, g3, g4⟩ := g2.lvf
   refine ⟨r, by rw [placesT, if_neg hk]; exact g4, callW_pure (c := c38) rfl rfl (l.length + 1) ?_⟩
   show lv [.var 2] (exec (callW F) (l.length + 1) (.seq (.region [] [] c38_0) (.seq (.region [] [] c38_1) (.seq (.seq (.region [] [] c38_2) (.cond (.var 5) (.region [] [] c38_3) .skip)) (.seq (.seq (.region [] [] c38_4) (.block 0 (.loop K37 [] c38_9))) (.seq (.region [] [] c38_10) .ret))))) _ _) = _
   generalize hrest : (CC.seq (.region [] [] c38_10) .ret) = rest
   simp only [c38, start, List.replicate, c38_0, c38_1, c38_2, c38_4, h1, hs.len, Q113, Q104, Q105, bs1, bs2, Q106, Q107, Q108, Q109, bd1, Q110, Q111, toL, List.map_cons, List.map_nil, Q112, List.set_cons_zero, List.set_cons_succ, and_self, Nat.le_refl, Q113, Q114, Q115, Q116, Q0, Q1, Q2, Q3, Q4, Q5, Q6, Q7, Q8, Q9, Q10, Q11, Q12, Q13, Q14, Q15, Q16, Q17, Q18, Q19, Q20, Q21, Q22, Q23, Q24, Q25, Q26, Q27, Q28, Q29, Q30, Q31, Q32, Q33, Q34, Q35, Q36, Q37, Q38, Q39, Q40, Q41, Q42, Q43, Q44, Q45, Q46, Q47, Q48, Q49, Q50, Q51, Q52, Q53, Q54, Q55, Q56, Q57, Q58, Q59, Q60, Q61, Q62, Q63, Q64, Q65, Q66, Q67, Q68, Q69, Q70, Q71, Q72, Q73, Q99, Q100, Q101, Q102, Q103, Q74, Q75, Q76, Q77, Q78, Q79, Q80, Q81, Q82, Q83, Q84, clr, List.length_nil, List.length_cons, List.getElem?_cons_zero, List.getElem?_cons_succ, Nat.reduceAdd, Nat.zero_add, Nat.add_zero, Nat.reduceLeDiff, Nat.reduceSub, ↓reduceIte, List.drop_succ_cons, List.drop_zero, List.take_succ_cons, List.take_zero, Bool.false_eq_true, List.nil_append, List.cons_append, Bool.not_true, Bool.not_false, cond_true, cond_false, bne, Q85, Q86, Q87, Q88, Q89, Q90, Q91, Q92, Q93, Q94, Q95, Q96, Q97, Q98]
   rw [loop_cong (v2 := L37 (.v (.slice none 0 0)) c es.length ((0 : Nat) : Int)) (by rfl), g1, ← hrest]
   simp only [Q19, Q12, c38_10, g3, Q0, Q1, Q2, Q3, Q4, Q5, Q6, Q7, Q8, Q9, Q10, Q11, Q12, Q13, Q14, Q15, Q16, Q17, Q18, Q19, Q20, Q21, Q22, Q23, Q24, Q25, Q26, Q27, Q28, Q29, Q30, Q31, Q32, Q33, Q34, Q35, Q36, Q37, Q38, Q39, Q40, Q41, Q42, Q43, Q44, Q45, Q46, Q47, Q48, Q49, Q50, Q51, Q52, Q53, Q54, Q55, Q56, Q57, Q58, Q59, Q60, Q61, Q62, Q63, Q64, Q65, Q66, Q67, Q68, Q69, Q70, Q71, Q72, Q73, Q99, Q100, Q101, Q102, Q103, Q74, Q75, Q77, Q78, Q79, Q80, Q81, Q82, Q83, Q84, clr, List.length_nil, List.length_cons, List.getElem?_cons_zero, List.getElem?_cons_succ, Nat.reduceAdd, Nat.zero_add, Nat.add_zero, Nat.reduceLeDiff, Nat.reduceSub, ↓reduceIte, List.drop_succ_cons, List.drop_zero, List.take_succ_cons, List.take_zero, Bool.false_eq_true, List.nil_append, List.cons_append, Bool.not_true, Bool.not_false, cond_true, cond_false, bne, Q85, Q86, Q87, Q88, Q89, Q90, Q91, Q92, Q93, Q94, Q95, Q96, Q97, Q98]

end Go.AE.YtghgbbiklkpbnaaDoor
end

section
namespace Go.AE.YtghgbbiklkpbnaaDoor
open Go Go.AE Go.Proofs.YtghgbbiklkpbnaaDoor

end Go.AE.YtghgbbiklkpbnaaDoor
end

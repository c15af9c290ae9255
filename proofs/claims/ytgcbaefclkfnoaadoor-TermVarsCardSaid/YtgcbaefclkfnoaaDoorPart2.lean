/- Texts of this claim, put together. -/
import Derived.Test.YtgcbaefclkfnoaaDoorEval3
import Derived.Test.YtgcbaefclkfnoaaDoorPart1
import Derived.KernelRfl
/-! The functions of the program that the laws of layer 3 reach, as the evaluator carries them out, each checked against the loaded program. -/
section
set_option linter.unusedVariables false
set_option maxRecDepth 100000
namespace Go.Proofs.YtgcbaefclkfnoaaDoor
open Go Go.AE Go.Proofs
def ti2 : TI := ⟨1, 8, (.int .i64 0), (.int .i64)⟩
theorem tiOk2 : TIok Tryd.prog 2 ti2 := tiok_of (by kernel_rfl) (by kernel_rfl)
def ti3 : TI := ⟨1, 8, (.int .i64 0), (.int .i64)⟩
theorem tiOk3 : TIok Tryd.prog 3 ti3 := tiok_of (by kernel_rfl) (by kernel_rfl)
def ti4 : TI := ⟨1, 1, (.bool false), .bool⟩
theorem tiOk4 : TIok Tryd.prog 4 ti4 := tiok_of (by kernel_rfl) (by kernel_rfl)
def ti5 : TI := ⟨1, 1, (.int .u8 0), (.int .u8)⟩
theorem tiOk5 : TIok Tryd.prog 5 ti5 := tiok_of (by kernel_rfl) (by kernel_rfl)
def ti9 : TI := ⟨1, 16, (.string ⟨#[]⟩), .string⟩
theorem tiOk9 : TIok Tryd.prog 9 ti9 := tiok_of (by kernel_rfl) (by kernel_rfl)
def ti21 : TI := ⟨1, 4, (.int .i32 0), (.int .i32)⟩
theorem tiOk21 : TIok Tryd.prog 21 ti21 := tiok_of (by kernel_rfl) (by kernel_rfl)
def ti22 : TI := ⟨1, 24, (.slice none 0 0), (.slice 24)⟩
theorem tiOk22 : TIok Tryd.prog 22 ti22 := tiok_of (by kernel_rfl) (by kernel_rfl)
def ti24 : TI := ⟨4, 56, (.agg #[(.int .i64 0), (.string ⟨#[]⟩), (.int .i64 0), (.slice none 0 0)]), (.struct #[⟨"Kind", 3, 0, false, "", "", 0⟩, ⟨"Name", 9, 1, false, "", "", 8⟩, ⟨"N", 2, 2, false, "", "", 24⟩, ⟨"Args", 22, 3, false, "", "", 32⟩])⟩
theorem tiOk24 : TIok Tryd.prog 24 ti24 := tiok_of (by kernel_rfl) (by kernel_rfl)
def ti28 : TI := ⟨1, 8, (.int .i64 0), (.int .i64)⟩
theorem tiOk28 : TIok Tryd.prog 28 ti28 := tiok_of (by kernel_rfl) (by kernel_rfl)
def ti42 : TI := ⟨1, 24, (.slice none 0 0), (.slice 2)⟩
theorem tiOk42 : TIok Tryd.prog 42 ti42 := tiok_of (by kernel_rfl) (by kernel_rfl)
def ti48 : TI := ⟨1, 8, (.pointer none), (.pointer 51)⟩
theorem tiOk48 : TIok Tryd.prog 48 ti48 := tiok_of (by kernel_rfl) (by kernel_rfl)
def ti49 : TI := ⟨1, 8, (.map none), (.map 2 2)⟩
theorem tiOk49 : TIok Tryd.prog 49 ti49 := tiok_of (by kernel_rfl) (by kernel_rfl)
def ti51 : TI := ⟨2, 16, (.agg #[(.map none), (.map none)]), (.struct #[⟨"there", 49, 0, false, "", "spinney/term", 0⟩, ⟨"back", 49, 1, false, "", "spinney/term", 8⟩])⟩
theorem tiOk51 : TIok Tryd.prog 51 ti51 := tiok_of (by kernel_rfl) (by kernel_rfl)
def ti58 : TI := ⟨1, 8, (.pointer none), (.pointer 61)⟩
theorem tiOk58 : TIok Tryd.prog 58 ti58 := tiok_of (by kernel_rfl) (by kernel_rfl)
def ti59 : TI := ⟨1, 24, (.slice none 0 0), (.slice 5)⟩
theorem tiOk59 : TIok Tryd.prog 59 ti59 := tiok_of (by kernel_rfl) (by kernel_rfl)
def ti61 : TI := ⟨2, 32, (.agg #[(.pointer none), (.slice none 0 0)]), (.struct #[⟨"addr", 58, 0, false, "", "strings", 0⟩, ⟨"buf", 59, 1, false, "", "strings", 8⟩])⟩
theorem tiOk61 : TIok Tryd.prog 61 ti61 := tiok_of (by kernel_rfl) (by kernel_rfl)
def ti65 : TI := ⟨1, 8, .nilFunc, (.func #[2] #[2] false)⟩
theorem tiOk65 : TIok Tryd.prog 65 ti65 := tiok_of (by kernel_rfl) (by kernel_rfl)
def ti75 : TI := ⟨1, 24, (.slice none 0 0), (.slice 3)⟩
theorem tiOk75 : TIok Tryd.prog 75 ti75 := tiok_of (by kernel_rfl) (by kernel_rfl)
def ti87 : TI := ⟨20, 20, (.agg #[(.int .u8 0), (.int .u8 0), (.int .u8 0), (.int .u8 0), (.int .u8 0), (.int .u8 0), (.int .u8 0), (.int .u8 0), (.int .u8 0), (.int .u8 0), (.int .u8 0), (.int .u8 0), (.int .u8 0), (.int .u8 0), (.int .u8 0), (.int .u8 0), (.int .u8 0), (.int .u8 0), (.int .u8 0), (.int .u8 0)]), (.array 20 5)⟩
theorem tiOk87 : TIok Tryd.prog 87 ti87 := tiok_of (by kernel_rfl) (by kernel_rfl)
def ti88 : TI := ⟨1, 8, (.int .u64 0), (.int .u64)⟩
theorem tiOk88 : TIok Tryd.prog 88 ti88 := tiok_of (by kernel_rfl) (by kernel_rfl)
def ti92 : TI := ⟨1, 24, (.slice none 0 0), (.slice 21)⟩
theorem tiOk92 : TIok Tryd.prog 92 ti92 := tiok_of (by kernel_rfl) (by kernel_rfl)
def ti100 : TI := ⟨1, 8, (.int .u64 0), (.int .u64)⟩
theorem tiOk100 : TIok Tryd.prog 100 ti100 := tiok_of (by kernel_rfl) (by kernel_rfl)
def ti108 : TI := ⟨1, 4, (.int .u32 0), (.int .u32)⟩
theorem tiOk108 : TIok Tryd.prog 108 ti108 := tiok_of (by kernel_rfl) (by kernel_rfl)
def ti110 : TI := ⟨24, 24, (.agg #[(.int .u8 0), (.int .u8 0), (.int .u8 0), (.int .u8 0), (.int .u8 0), (.int .u8 0), (.int .u8 0), (.int .u8 0), (.int .u8 0), (.int .u8 0), (.int .u8 0), (.int .u8 0), (.int .u8 0), (.int .u8 0), (.int .u8 0), (.int .u8 0), (.int .u8 0), (.int .u8 0), (.int .u8 0), (.int .u8 0), (.int .u8 0), (.int .u8 0), (.int .u8 0), (.int .u8 0)]), (.array 24 5)⟩
theorem tiOk110 : TIok Tryd.prog 110 ti110 := tiok_of (by kernel_rfl) (by kernel_rfl)
def ti118 : TI := ⟨65, 65, (.agg #[(.int .u8 0), (.int .u8 0), (.int .u8 0), (.int .u8 0), (.int .u8 0), (.int .u8 0), (.int .u8 0), (.int .u8 0), (.int .u8 0), (.int .u8 0), (.int .u8 0), (.int .u8 0), (.int .u8 0), (.int .u8 0), (.int .u8 0), (.int .u8 0), (.int .u8 0), (.int .u8 0), (.int .u8 0), (.int .u8 0), (.int .u8 0), (.int .u8 0), (.int .u8 0), (.int .u8 0), (.int .u8 0), (.int .u8 0), (.int .u8 0), (.int .u8 0), (.int .u8 0), (.int .u8 0), (.int .u8 0), (.int .u8 0), (.int .u8 0), (.int .u8 0), (.int .u8 0), (.int .u8 0), (.int .u8 0), (.int .u8 0), (.int .u8 0), (.int .u8 0), (.int .u8 0), (.int .u8 0), (.int .u8 0), (.int .u8 0), (.int .u8 0), (.int .u8 0), (.int .u8 0), (.int .u8 0), (.int .u8 0), (.int .u8 0), (.int .u8 0), (.int .u8 0), (.int .u8 0), (.int .u8 0), (.int .u8 0), (.int .u8 0), (.int .u8 0), (.int .u8 0), (.int .u8 0), (.int .u8 0), (.int .u8 0), (.int .u8 0), (.int .u8 0), (.int .u8 0), (.int .u8 0)]), (.array 65 5)⟩
theorem tiOk118 : TIok Tryd.prog 118 ti118 := tiok_of (by kernel_rfl) (by kernel_rfl)
def tys : List (TypeId × TI) := [(2, ti2), (3, ti3), (4, ti4), (5, ti5), (9, ti9), (21, ti21), (22, ti22), (24, ti24), (28, ti28), (42, ti42), (48, ti48), (49, ti49), (51, ti51), (58, ti58), (59, ti59), (61, ti61), (65, ti65), (75, ti75), (87, ti87), (88, ti88), (92, ti92), (100, ti100), (108, ti108), (110, ti110), (118, ti118)]
def pures : List FuncId := [0, 1, 2, 3, 4, 5, 6, 7, 8, 9, 10, 11, 12, 13, 14, 15, 16, 17, 18, 19, 20, 21, 22, 23, 24, 25, 26, 27, 28, 29, 30, 31, 32, 33, 34, 35, 36, 37, 38, 39, 41, 42, 43, 44, 45, 46, 47, 48, 49, 50, 51, 54, 57, 59, 60, 61, 62, 63, 64, 65, 68, 69, 70, 73, 74, 75, 76, 78, 79, 81, 82, 83, 84, 85, 86, 87, 88, 89, 91, 92, 93, 94, 96, 97, 98, 99, 100, 101, 102, 103, 104, 105, 106, 107, 108, 109, 110, 111, 112, 113, 114, 115, 116, 122, 123, 125, 126, 127, 128, 129, 130, 131, 132, 133]
def lits : List TypeId := []
def frz : List FuncId := [59]
def pushes : List FuncId := []
def T : Tb := ⟨fun t => tys.lookup t, fun f => pures.contains f, fun t => lits.contains t, fun f => frz.contains f, fun f => pushes.contains f⟩
theorem hT : TbOk Tryd.prog T := tbok_of (fun p hp => by
  simp only [tys, List.mem_cons, List.not_mem_nil, or_false] at hp
  rcases hp with rfl | rfl | rfl | rfl | rfl | rfl | rfl | rfl | rfl | rfl | rfl | rfl | rfl | rfl | rfl | rfl | rfl | rfl | rfl | rfl | rfl | rfl | rfl | rfl | rfl
  · exact tiOk2
  · exact tiOk3
  · exact tiOk4
  · exact tiOk5
  · exact tiOk9
  · exact tiOk21
  · exact tiOk22
  · exact tiOk24
  · exact tiOk28
  · exact tiOk42
  · exact tiOk48
  · exact tiOk49
  · exact tiOk51
  · exact tiOk58
  · exact tiOk59
  · exact tiOk61
  · exact tiOk65
  · exact tiOk75
  · exact tiOk87
  · exact tiOk88
  · exact tiOk92
  · exact tiOk100
  · exact tiOk108
  · exact tiOk110
  · exact tiOk118)
/-! spinney/spinneylaw03.TermSames -/
def c3_0 : List CO := [⟨(.box 24 (.var 0)), (some 2), none⟩,
  ⟨(.box 24 (.var 1)), (some 3), none⟩,
  ⟨(.mov (.k (.bool false))), (some 4), none⟩]
def c3_1 : List CO := [⟨(.call true 12 []), none, none⟩,
  ⟨(.mov (.loc 0)), (some 5), none⟩]
def c3_2 : List CO := [⟨(.load true 4 (.var 2)), none, none⟩,
  ⟨(.load true 4 (.var 3)), none, none⟩,
  ⟨(.bslice 4 [(.int .i64 0), (.string ⟨#[]⟩), (.int .i64 0), (.slice none 0 0)] 2 [(0, (.loc 1)), (1, (.loc 0))]), none, none⟩,
  ⟨(.call true 13 [(.loc 0)]), (some 7), none⟩]
def c3_3 : List CO := [⟨(.mov (.var 5)), none, none⟩,
  ⟨(.mov (.loc 0)), (some 4), none⟩]
def c3_4 : List CO := [⟨(.load true 4 (.var 2)), none, none⟩,
  ⟨(.load true 4 (.var 3)), none, none⟩,
  ⟨(.call true 14 [(.loc 1), (.loc 0)]), none, none⟩,
  ⟨(.load true 4 (.var 2)), none, none⟩,
  ⟨(.load true 4 (.var 3)), none, none⟩,
  ⟨(.call true 15 [(.loc 1), (.loc 0)]), none, none⟩,
  ⟨(.eqv .bool false (.loc 3) (.loc 0)), none, none⟩,
  ⟨(.mov (.loc 0)), none, none⟩,
  ⟨(.load true 4 (.var 2)), none, (some ((.loc 0), true))⟩,
  ⟨(.load true 4 (.var 3)), none, (some ((.loc 1), true))⟩,
  ⟨(.call true 16 [(.loc 1), (.loc 0)]), none, (some ((.loc 2), true))⟩,
  ⟨(.load true 4 (.var 2)), none, (some ((.loc 3), true))⟩,
  ⟨(.load true 4 (.var 3)), none, (some ((.loc 4), true))⟩,
  ⟨(.call true 17 [(.loc 1), (.loc 0)]), none, (some ((.loc 5), true))⟩,
  ⟨(.eqv .bool false (.loc 3) (.loc 0)), none, (some ((.loc 6), true))⟩,
  ⟨(.pick (.loc 7) (.loc 0) (.k (.bool false))), none, none⟩,
  ⟨(.mov (.loc 0)), (some 6), none⟩]
def c3_5 : List CO := [⟨(.load true 4 (.var 2)), none, none⟩,
  ⟨(.call true 18 [(.loc 0)]), none, none⟩,
  ⟨(.bin .eql (.loc 0) (.k (.int .i64 0))), none, none⟩,
  ⟨(.mov (.loc 0)), none, none⟩,
  ⟨(.load true 4 (.var 3)), none, (some ((.loc 0), true))⟩,
  ⟨(.call true 18 [(.loc 0)]), none, (some ((.loc 1), true))⟩,
  ⟨(.bin .eql (.loc 0) (.k (.int .i64 0))), none, (some ((.loc 2), true))⟩,
  ⟨(.pick (.loc 3) (.loc 0) (.k (.bool false))), (some 8), none⟩]
def c3_6 : List CO := [⟨(.mov (.var 6)), none, none⟩,
  ⟨(.mov (.loc 0)), none, none⟩,
  ⟨(.load true 4 (.var 2)), none, (some ((.loc 0), true))⟩,
  ⟨(.load true 4 (.var 3)), none, (some ((.loc 1), true))⟩,
  ⟨(.call true 19 [(.loc 1), (.loc 0)]), none, (some ((.loc 2), true))⟩,
  ⟨(.load true 4 (.var 2)), none, (some ((.loc 3), true))⟩,
  ⟨(.load true 4 (.var 3)), none, (some ((.loc 4), true))⟩,
  ⟨(.call true 20 [(.loc 1), (.loc 0)]), none, (some ((.loc 5), true))⟩,
  ⟨(.bin .eql (.loc 3) (.loc 0)), none, (some ((.loc 6), true))⟩,
  ⟨(.pick (.loc 7) (.loc 0) (.k (.bool false))), none, none⟩,
  ⟨(.mov (.loc 0)), (some 6), none⟩]
def c3_7 : List CO := [⟨(.load true 4 (.var 2)), none, none⟩,
  ⟨(.load true 4 (.var 3)), none, none⟩,
  ⟨(.call true 19 [(.loc 1), (.loc 0)]), none, none⟩]
def c3_8 : List CO := [⟨(.mov (.var 5)), none, none⟩,
  ⟨(.mov (.loc 0)), none, none⟩,
  ⟨(.mov (.var 6)), none, (some ((.loc 0), true))⟩,
  ⟨(.pick (.loc 1) (.loc 0) (.k (.bool false))), none, none⟩,
  ⟨(.mov (.loc 0)), (some 4), none⟩]
def c3 : CFun := ⟨2, 9, (.seq (.region [] [] c3_0) (.seq (.region [] [] c3_1) (.seq (.seq (.region [] [] c3_2) (.cond (.var 7) (.seq (.region [] [] c3_3) .ret) .skip)) (.seq (.region [] [] c3_4) (.seq (.seq (.region [] [] c3_5) (.cond (.var 8) (.region [] [] c3_6) (.region [] [] c3_7))) (.seq (.region [] [] c3_8) .ret)))))), [.var 4]⟩
theorem ok3 : CodeOk Tryd.prog T 3 c3 := ⟨⟨Tryd.f3, Hints.of [] [] [], [0, 1, 2, 3, 4, 5, 6, 11, 36], Tryd.func3, by kernel_rfl, by kernel_rfl⟩⟩

/-! spinney/spinneylaw03.TermApart -/
def c4_0 : List CO := [⟨(.box 24 (.var 0)), (some 2), none⟩,
  ⟨(.box 24 (.var 1)), (some 3), none⟩,
  ⟨(.mov (.k (.bool false))), (some 4), none⟩]
def c4_1 : List CO := [⟨(.call true 12 []), none, none⟩,
  ⟨(.mov (.loc 0)), (some 5), none⟩]
def c4_2 : List CO := [⟨(.load true 4 (.var 2)), none, none⟩,
  ⟨(.load true 4 (.var 3)), none, none⟩,
  ⟨(.bslice 4 [(.int .i64 0), (.string ⟨#[]⟩), (.int .i64 0), (.slice none 0 0)] 2 [(0, (.loc 1)), (1, (.loc 0))]), none, none⟩,
  ⟨(.call true 13 [(.loc 0)]), (some 11), none⟩]
def c4_3 : List CO := [⟨(.mov (.var 5)), none, none⟩,
  ⟨(.mov (.loc 0)), (some 4), none⟩]
def c4_4 : List CO := [⟨(.load true 4 (.var 2)), none, none⟩,
  ⟨(.call true 21 [(.loc 0)]), none, none⟩,
  ⟨(.mov (.loc 0)), none, none⟩,
  ⟨(.extract (.loc 0) 0), none, none⟩,
  ⟨(.extract (.loc 1) 1), none, none⟩,
  ⟨(.mov (.loc 1)), (some 6), none⟩,
  ⟨(.mov (.loc 1)), (some 7), none⟩]
def c4_5 : List CO := [⟨(.load true 4 (.var 3)), none, none⟩,
  ⟨(.call true 21 [(.loc 0)]), none, none⟩,
  ⟨(.mov (.loc 0)), none, none⟩,
  ⟨(.extract (.loc 0) 0), none, none⟩,
  ⟨(.extract (.loc 1) 1), none, none⟩,
  ⟨(.mov (.loc 1)), (some 8), none⟩,
  ⟨(.mov (.loc 1)), (some 9), none⟩]
def c4_6 : List CO := [⟨(.mov (.var 7)), none, none⟩,
  ⟨(.bin .neq (.loc 0) (.k (.int .i64 0))), none, none⟩,
  ⟨(.mov (.loc 0)), none, none⟩,
  ⟨(.mov (.var 9)), none, (some ((.loc 0), false))⟩,
  ⟨(.bin .neq (.loc 0) (.k (.int .i64 0))), none, (some ((.loc 1), false))⟩,
  ⟨(.pick (.loc 2) (.k (.bool true)) (.loc 0)), (some 12), none⟩]
def c4_7 : List CO := [⟨(.mov (.var 5)), none, none⟩,
  ⟨(.mov (.loc 0)), (some 4), none⟩]
def c4_8 : List CO := [⟨(.load true 4 (.var 2)), none, none⟩,
  ⟨(.load true 4 (.var 3)), none, none⟩,
  ⟨(.call true 19 [(.loc 1), (.loc 0)]), none, none⟩,
  ⟨(.mov (.loc 0)), (some 10), none⟩]
def c4_9 : List CO := [⟨(.mov (.var 5)), none, none⟩,
  ⟨(.mov (.loc 0)), none, none⟩,
  ⟨(.mov (.var 6)), none, (some ((.loc 0), true))⟩,
  ⟨(.mov (.var 8)), none, (some ((.loc 1), true))⟩,
  ⟨(.bin .eql (.loc 1) (.loc 0)), none, (some ((.loc 2), true))⟩,
  ⟨(.load true 4 (.var 2)), none, (some ((.loc 3), true))⟩,
  ⟨(.load true 4 (.var 3)), none, (some ((.loc 4), true))⟩,
  ⟨(.call true 14 [(.loc 1), (.loc 0)]), none, (some ((.loc 5), true))⟩,
  ⟨(.eqv .bool false (.loc 3) (.loc 0)), none, (some ((.loc 6), true))⟩,
  ⟨(.pick (.loc 7) (.loc 0) (.k (.bool false))), none, none⟩,
  ⟨(.mov (.loc 0)), none, none⟩,
  ⟨(.mov (.var 10)), none, (some ((.loc 0), true))⟩,
  ⟨(.bin .eql (.loc 0) (.k (.int .i64 0))), none, (some ((.loc 1), true))⟩,
  ⟨(.mov (.var 6)), none, (some ((.loc 2), true))⟩,
  ⟨(.mov (.var 8)), none, (some ((.loc 3), true))⟩,
  ⟨(.bin .eql (.loc 1) (.loc 0)), none, (some ((.loc 4), true))⟩,
  ⟨(.eqv .bool false (.loc 3) (.loc 0)), none, (some ((.loc 5), true))⟩,
  ⟨(.pick (.loc 6) (.loc 0) (.k (.bool false))), none, none⟩,
  ⟨(.mov (.loc 0)), none, none⟩,
  ⟨(.load true 4 (.var 3)), none, (some ((.loc 0), true))⟩,
  ⟨(.load true 4 (.var 2)), none, (some ((.loc 1), true))⟩,
  ⟨(.call true 19 [(.loc 1), (.loc 0)]), none, (some ((.loc 2), true))⟩,
  ⟨(.mov (.var 10)), none, (some ((.loc 3), true))⟩,
  ⟨(.un .neg (.loc 0)), none, (some ((.loc 4), true))⟩,
  ⟨(.bin .eql (.loc 2) (.loc 0)), none, (some ((.loc 5), true))⟩,
  ⟨(.pick (.loc 6) (.loc 0) (.k (.bool false))), none, none⟩,
  ⟨(.mov (.loc 0)), none, none⟩,
  ⟨(.mov (.var 10)), none, (some ((.loc 0), true))⟩,
  ⟨(.bin .geq (.loc 0) (.k (.int .i64 (-1)))), none, (some ((.loc 1), true))⟩,
  ⟨(.pick (.loc 2) (.loc 0) (.k (.bool false))), none, none⟩,
  ⟨(.mov (.loc 0)), none, none⟩,
  ⟨(.mov (.var 10)), none, (some ((.loc 0), true))⟩,
  ⟨(.bin .leq (.loc 0) (.k (.int .i64 1))), none, (some ((.loc 1), true))⟩,
  ⟨(.pick (.loc 2) (.loc 0) (.k (.bool false))), none, none⟩,
  ⟨(.mov (.loc 0)), (some 4), none⟩]
def c4 : CFun := ⟨2, 13, (.seq (.region [] [] c4_0) (.seq (.region [] [] c4_1) (.seq (.seq (.region [] [] c4_2) (.cond (.var 11) (.seq (.region [] [] c4_3) .ret) .skip)) (.seq (.region [] [] c4_4) (.seq (.region [] [] c4_5) (.seq (.seq (.region [] [] c4_6) (.cond (.var 12) (.seq (.region [] [] c4_7) .ret) .skip)) (.seq (.region [] [] c4_8) (.seq (.region [] [] c4_9) .ret)))))))), [.var 4]⟩
theorem ok4 : CodeOk Tryd.prog T 4 c4 := ⟨⟨Tryd.f4, Hints.of [] [] [], [0, 1, 2, 3, 4, 5, 6, 7, 8, 9, 10, 15, 32], Tryd.func4, by kernel_rfl, by kernel_rfl⟩⟩

/-! spinney/spinneylaw03.TermOrders -/
def c5_0 : List CO := [⟨(.box 24 (.var 0)), (some 3), none⟩,
  ⟨(.box 24 (.var 1)), (some 4), none⟩,
  ⟨(.box 24 (.var 2)), (some 5), none⟩,
  ⟨(.mov (.k (.bool false))), (some 6), none⟩]
def c5_1 : List CO := [⟨(.call true 12 []), none, none⟩,
  ⟨(.mov (.loc 0)), (some 7), none⟩]
def c5_2 : List CO := [⟨(.load true 4 (.var 3)), none, none⟩,
  ⟨(.load true 4 (.var 4)), none, none⟩,
  ⟨(.load true 4 (.var 5)), none, none⟩,
  ⟨(.bslice 4 [(.int .i64 0), (.string ⟨#[]⟩), (.int .i64 0), (.slice none 0 0)] 3 [(0, (.loc 2)), (1, (.loc 1)), (2, (.loc 0))]), none, none⟩,
  ⟨(.call true 13 [(.loc 0)]), none, none⟩,
  ⟨(.mov (.loc 0)), none, none⟩,
  ⟨(.load true 4 (.var 3)), none, (some ((.loc 0), false))⟩,
  ⟨(.call true 22 [(.loc 0)]), none, (some ((.loc 1), false))⟩,
  ⟨(.bin .neq (.loc 0) (.k (.int .i64 0))), none, (some ((.loc 2), false))⟩,
  ⟨(.pick (.loc 3) (.k (.bool true)) (.loc 0)), none, none⟩,
  ⟨(.mov (.loc 0)), none, none⟩,
  ⟨(.load true 4 (.var 4)), none, (some ((.loc 0), false))⟩,
  ⟨(.call true 22 [(.loc 0)]), none, (some ((.loc 1), false))⟩,
  ⟨(.bin .neq (.loc 0) (.k (.int .i64 0))), none, (some ((.loc 2), false))⟩,
  ⟨(.pick (.loc 3) (.k (.bool true)) (.loc 0)), none, none⟩,
  ⟨(.mov (.loc 0)), none, none⟩,
  ⟨(.load true 4 (.var 5)), none, (some ((.loc 0), false))⟩,
  ⟨(.call true 22 [(.loc 0)]), none, (some ((.loc 1), false))⟩,
  ⟨(.bin .neq (.loc 0) (.k (.int .i64 0))), none, (some ((.loc 2), false))⟩,
  ⟨(.pick (.loc 3) (.k (.bool true)) (.loc 0)), (some 8), none⟩]
def c5_3 : List CO := [⟨(.mov (.var 7)), none, none⟩,
  ⟨(.mov (.loc 0)), (some 6), none⟩]
def c5_4 : List CO := [⟨(.mov (.var 7)), none, none⟩,
  ⟨(.mov (.loc 0)), none, none⟩,
  ⟨(.load true 4 (.var 3)), none, (some ((.loc 0), true))⟩,
  ⟨(.load true 4 (.var 4)), none, (some ((.loc 1), true))⟩,
  ⟨(.call true 19 [(.loc 1), (.loc 0)]), none, (some ((.loc 2), true))⟩,
  ⟨(.bin .gtr (.loc 0) (.k (.int .i64 0))), none, (some ((.loc 3), true))⟩,
  ⟨(.mov (.loc 0)), none, (some ((.loc 4), true))⟩,
  ⟨(.load true 4 (.var 4)), none, (some ((.loc 0), false))⟩,
  ⟨(.load true 4 (.var 5)), none, (some ((.loc 1), false))⟩,
  ⟨(.call true 19 [(.loc 1), (.loc 0)]), none, (some ((.loc 2), false))⟩,
  ⟨(.bin .gtr (.loc 0) (.k (.int .i64 0))), none, (some ((.loc 3), false))⟩,
  ⟨(.pick (.loc 4) (.k (.bool true)) (.loc 0)), none, (some ((.loc 9), true))⟩,
  ⟨(.mov (.loc 0)), none, (some ((.loc 10), true))⟩,
  ⟨(.load true 4 (.var 3)), none, (some ((.loc 0), false))⟩,
  ⟨(.load true 4 (.var 5)), none, (some ((.loc 1), false))⟩,
  ⟨(.call true 19 [(.loc 1), (.loc 0)]), none, (some ((.loc 2), false))⟩,
  ⟨(.bin .leq (.loc 0) (.k (.int .i64 0))), none, (some ((.loc 3), false))⟩,
  ⟨(.pick (.loc 4) (.k (.bool true)) (.loc 0)), none, (some ((.loc 15), true))⟩,
  ⟨(.pick (.loc 16) (.loc 0) (.k (.bool false))), none, none⟩,
  ⟨(.mov (.loc 0)), (some 6), none⟩]
def c5 : CFun := ⟨3, 9, (.seq (.region [] [] c5_0) (.seq (.region [] [] c5_1) (.seq (.seq (.region [] [] c5_2) (.cond (.var 8) (.seq (.region [] [] c5_3) .ret) .skip)) (.seq (.region [] [] c5_4) .ret)))), [.var 6]⟩
theorem ok5 : CodeOk Tryd.prog T 5 c5 := ⟨⟨Tryd.f5, Hints.of [] [] [], [0, 1, 2, 3, 4, 5, 6, 7, 28], Tryd.func5, by kernel_rfl, by kernel_rfl⟩⟩

/-! spinney/spinneylaw03.TermTurns -/
def c6_0 : List CO := [⟨(.box 24 (.var 0)), (some 4), none⟩,
  ⟨(.box 24 (.var 1)), (some 5), none⟩,
  ⟨(.box 24 (.var 2)), (some 6), none⟩,
  ⟨(.mov (.k (.bool false))), (some 7), none⟩]
def c6_1 : List CO := [⟨(.call true 12 []), none, none⟩,
  ⟨(.mov (.loc 0)), (some 8), none⟩]
def c6_2 : List CO := [⟨(.load true 4 (.var 4)), none, none⟩,
  ⟨(.load true 4 (.var 5)), none, none⟩,
  ⟨(.load true 4 (.var 6)), none, none⟩,
  ⟨(.bslice 4 [(.int .i64 0), (.string ⟨#[]⟩), (.int .i64 0), (.slice none 0 0)] 3 [(0, (.loc 2)), (1, (.loc 1)), (2, (.loc 0))]), none, none⟩,
  ⟨(.call true 13 [(.loc 0)]), (some 10), none⟩]
def c6_3 : List CO := [⟨(.mov (.var 8)), none, none⟩,
  ⟨(.mov (.loc 0)), (some 7), none⟩]
def c6_4 : List CO := [⟨(.load true 4 (.var 4)), none, none⟩,
  ⟨(.mov (.var 3)), none, none⟩,
  ⟨(.call true 23 [(.loc 1), (.loc 0)]), none, none⟩,
  ⟨(.box 24 (.k (.agg #[(.int .i64 0), (.string ⟨#[]⟩), (.int .i64 0), (.slice none 0 0)]))), (some 9), none⟩,
  ⟨(.store 4 (.var 9) (.loc 1)), none, none⟩]
def c6_5 : List CO := [⟨(.load true 4 (.var 4)), none, none⟩,
  ⟨(.load true 4 (.var 9)), none, none⟩,
  ⟨(.call true 16 [(.loc 1), (.loc 0)]), none, none⟩,
  ⟨(.un .not (.loc 0)), none, none⟩,
  ⟨(.mov (.loc 0)), none, none⟩,
  ⟨(.load true 4 (.var 9)), none, (some ((.loc 0), false))⟩,
  ⟨(.mov (.var 3)), none, (some ((.loc 1), false))⟩,
  ⟨(.un .neg (.loc 0)), none, (some ((.loc 2), false))⟩,
  ⟨(.call true 23 [(.loc 2), (.loc 0)]), none, (some ((.loc 3), false))⟩,
  ⟨(.load true 4 (.var 4)), none, (some ((.loc 4), false))⟩,
  ⟨(.call true 24 [(.loc 0)]), none, (some ((.loc 5), false))⟩,
  ⟨(.call true 14 [(.loc 2), (.loc 0)]), none, (some ((.loc 6), false))⟩,
  ⟨(.un .not (.loc 0)), none, (some ((.loc 7), false))⟩,
  ⟨(.pick (.loc 8) (.k (.bool true)) (.loc 0)), none, none⟩,
  ⟨(.mov (.loc 0)), none, none⟩,
  ⟨(.load true 4 (.var 4)), none, (some ((.loc 0), false))⟩,
  ⟨(.load true 4 (.var 5)), none, (some ((.loc 1), false))⟩,
  ⟨(.call true 16 [(.loc 1), (.loc 0)]), none, (some ((.loc 2), false))⟩,
  ⟨(.load true 4 (.var 5)), none, (some ((.loc 3), false))⟩,
  ⟨(.load true 4 (.var 4)), none, (some ((.loc 4), false))⟩,
  ⟨(.call true 16 [(.loc 1), (.loc 0)]), none, (some ((.loc 5), false))⟩,
  ⟨(.eqv .bool true (.loc 3) (.loc 0)), none, (some ((.loc 6), false))⟩,
  ⟨(.pick (.loc 7) (.k (.bool true)) (.loc 0)), (some 11), none⟩]
def c6_6 : List CO := [⟨(.mov (.k (.bool false))), (some 7), none⟩]
def c6_7 : List CO := [⟨(.mov (.var 8)), none, none⟩,
  ⟨(.mov (.loc 0)), none, none⟩,
  ⟨(.load true 4 (.var 4)), none, (some ((.loc 0), true))⟩,
  ⟨(.load true 4 (.var 5)), none, (some ((.loc 1), true))⟩,
  ⟨(.call true 16 [(.loc 1), (.loc 0)]), none, (some ((.loc 2), true))⟩,
  ⟨(.un .not (.loc 0)), none, (some ((.loc 3), true))⟩,
  ⟨(.mov (.loc 0)), none, (some ((.loc 4), true))⟩,
  ⟨(.load true 4 (.var 5)), none, (some ((.loc 0), false))⟩,
  ⟨(.load true 4 (.var 6)), none, (some ((.loc 1), false))⟩,
  ⟨(.call true 16 [(.loc 1), (.loc 0)]), none, (some ((.loc 2), false))⟩,
  ⟨(.un .not (.loc 0)), none, (some ((.loc 3), false))⟩,
  ⟨(.pick (.loc 4) (.k (.bool true)) (.loc 0)), none, (some ((.loc 9), true))⟩,
  ⟨(.mov (.loc 0)), none, (some ((.loc 10), true))⟩,
  ⟨(.load true 4 (.var 4)), none, (some ((.loc 0), false))⟩,
  ⟨(.load true 4 (.var 6)), none, (some ((.loc 1), false))⟩,
  ⟨(.call true 16 [(.loc 1), (.loc 0)]), none, (some ((.loc 2), false))⟩,
  ⟨(.pick (.loc 3) (.k (.bool true)) (.loc 0)), none, (some ((.loc 14), true))⟩,
  ⟨(.pick (.loc 15) (.loc 0) (.k (.bool false))), none, none⟩,
  ⟨(.mov (.loc 0)), (some 7), none⟩]
def c6 : CFun := ⟨4, 12, (.seq (.region [] [] c6_0) (.seq (.region [] [] c6_1) (.seq (.seq (.region [] [] c6_2) (.cond (.var 10) (.seq (.region [] [] c6_3) .ret) .skip)) (.seq (.region [] [] c6_4) (.seq (.seq (.region [] [] c6_5) (.cond (.var 11) (.seq (.region [] [] c6_6) .ret) .skip)) (.seq (.region [] [] c6_7) .ret)))))), [.var 7]⟩
theorem ok6 : CodeOk Tryd.prog T 6 c6 := ⟨⟨Tryd.f6, Hints.of [] [] [], [0, 1, 2, 3, 4, 5, 6, 8, 9, 10, 16, 43], Tryd.func6, by kernel_rfl, by kernel_rfl⟩⟩





/-! spinney/spinneylaw03.live -/
def c12_0 : List CO := [⟨(.mov (.k (.bool false))), (some 0), none⟩]
def c12_1 : List CO := [⟨(.call true 36 [(.k (.int .i64 0))]), none, none⟩,
  ⟨(.box 24 (.k (.agg #[(.int .i64 0), (.string ⟨#[]⟩), (.int .i64 0), (.slice none 0 0)]))), (some 1), none⟩,
  ⟨(.store 4 (.var 1) (.loc 1)), none, none⟩]
def c12_2 : List CO := [⟨(.call true 36 [(.k (.int .i64 1))]), none, none⟩,
  ⟨(.box 24 (.k (.agg #[(.int .i64 0), (.string ⟨#[]⟩), (.int .i64 0), (.slice none 0 0)]))), (some 2), none⟩,
  ⟨(.store 4 (.var 2) (.loc 1)), none, none⟩]
def c12_3 : List CO := [⟨(.load true 4 (.var 1)), none, none⟩,
  ⟨(.call true 37 [(.k (.string ⟨#[65, 32, 98]⟩))]), none, none⟩,
  ⟨(.call true 38 [(.k (.int .i64 (-1)))]), none, none⟩,
  ⟨(.bslice 4 [(.int .i64 0), (.string ⟨#[]⟩), (.int .i64 0), (.slice none 0 0)] 3 [(0, (.loc 2)), (1, (.loc 1)), (2, (.loc 0))]), none, none⟩,
  ⟨(.call true 29 [(.k (.string ⟨#[102]⟩)), (.loc 0)]), none, none⟩,
  ⟨(.call true 21 [(.loc 0)]), none, none⟩,
  ⟨(.mov (.loc 0)), none, none⟩,
  ⟨(.extract (.loc 0) 0), none, none⟩,
  ⟨(.extract (.loc 1) 1), none, none⟩,
  ⟨(.mov (.loc 1)), (some 3), none⟩,
  ⟨(.mov (.loc 1)), (some 4), none⟩]
def c12_4 : List CO := [⟨(.mov (.var 3)), none, none⟩,
  ⟨(.bin .eql (.loc 0) (.k (.string ⟨#[102, 40, 95, 48, 44, 39, 65, 32, 98, 39, 44, 45, 49, 41]⟩))), none, none⟩,
  ⟨(.mov (.loc 0)), none, none⟩,
  ⟨(.mov (.var 4)), none, (some ((.loc 0), true))⟩,
  ⟨(.bin .eql (.loc 0) (.k (.int .i64 0))), none, (some ((.loc 1), true))⟩,
  ⟨(.pick (.loc 2) (.loc 0) (.k (.bool false))), none, none⟩,
  ⟨(.mov (.loc 0)), none, none⟩,
  ⟨(.load true 4 (.var 1)), none, (some ((.loc 0), true))⟩,
  ⟨(.load true 4 (.var 2)), none, (some ((.loc 1), true))⟩,
  ⟨(.load true 4 (.var 1)), none, (some ((.loc 2), true))⟩,
  ⟨(.bslice 4 [(.int .i64 0), (.string ⟨#[]⟩), (.int .i64 0), (.slice none 0 0)] 3 [(0, (.loc 2)), (1, (.loc 1)), (2, (.loc 0))]), none, (some ((.loc 3), true))⟩,
  ⟨(.call true 29 [(.k (.string ⟨#[102]⟩)), (.loc 0)]), none, (some ((.loc 4), true))⟩,
  ⟨(.load true 4 (.var 2)), none, (some ((.loc 5), true))⟩,
  ⟨(.load true 4 (.var 1)), none, (some ((.loc 6), true))⟩,
  ⟨(.load true 4 (.var 2)), none, (some ((.loc 7), true))⟩,
  ⟨(.bslice 4 [(.int .i64 0), (.string ⟨#[]⟩), (.int .i64 0), (.slice none 0 0)] 3 [(0, (.loc 2)), (1, (.loc 1)), (2, (.loc 0))]), none, (some ((.loc 8), true))⟩,
  ⟨(.call true 29 [(.k (.string ⟨#[102]⟩)), (.loc 0)]), none, (some ((.loc 9), true))⟩,
  ⟨(.call true 16 [(.loc 5), (.loc 0)]), none, (some ((.loc 10), true))⟩,
  ⟨(.pick (.loc 11) (.loc 0) (.k (.bool false))), none, none⟩,
  ⟨(.mov (.loc 0)), none, none⟩,
  ⟨(.load true 4 (.var 1)), none, (some ((.loc 0), true))⟩,
  ⟨(.load true 4 (.var 2)), none, (some ((.loc 1), true))⟩,
  ⟨(.load true 4 (.var 1)), none, (some ((.loc 2), true))⟩,
  ⟨(.bslice 4 [(.int .i64 0), (.string ⟨#[]⟩), (.int .i64 0), (.slice none 0 0)] 3 [(0, (.loc 2)), (1, (.loc 1)), (2, (.loc 0))]), none, (some ((.loc 3), true))⟩,
  ⟨(.call true 29 [(.k (.string ⟨#[102]⟩)), (.loc 0)]), none, (some ((.loc 4), true))⟩,
  ⟨(.load true 4 (.var 1)), none, (some ((.loc 5), true))⟩,
  ⟨(.load true 4 (.var 2)), none, (some ((.loc 6), true))⟩,
  ⟨(.load true 4 (.var 2)), none, (some ((.loc 7), true))⟩,
  ⟨(.bslice 4 [(.int .i64 0), (.string ⟨#[]⟩), (.int .i64 0), (.slice none 0 0)] 3 [(0, (.loc 2)), (1, (.loc 1)), (2, (.loc 0))]), none, (some ((.loc 8), true))⟩,
  ⟨(.call true 29 [(.k (.string ⟨#[102]⟩)), (.loc 0)]), none, (some ((.loc 9), true))⟩,
  ⟨(.call true 16 [(.loc 5), (.loc 0)]), none, (some ((.loc 10), true))⟩,
  ⟨(.un .not (.loc 0)), none, (some ((.loc 11), true))⟩,
  ⟨(.pick (.loc 12) (.loc 0) (.k (.bool false))), none, none⟩,
  ⟨(.mov (.loc 0)), none, none⟩,
  ⟨(.call true 38 [(.k (.int .i64 1))]), none, (some ((.loc 0), true))⟩,
  ⟨(.call true 37 [(.k (.string ⟨#[97]⟩))]), none, (some ((.loc 1), true))⟩,
  ⟨(.call true 19 [(.loc 1), (.loc 0)]), none, (some ((.loc 2), true))⟩,
  ⟨(.bin .eql (.loc 0) (.k (.int .i64 (-1)))), none, (some ((.loc 3), true))⟩,
  ⟨(.pick (.loc 4) (.loc 0) (.k (.bool false))), none, none⟩,
  ⟨(.mov (.loc 0)), none, none⟩,
  ⟨(.load true 4 (.var 1)), none, (some ((.loc 0), true))⟩,
  ⟨(.call true 24 [(.loc 0)]), none, (some ((.loc 1), true))⟩,
  ⟨(.load true 4 (.var 1)), none, (some ((.loc 2), true))⟩,
  ⟨(.call true 14 [(.loc 1), (.loc 0)]), none, (some ((.loc 3), true))⟩,
  ⟨(.pick (.loc 4) (.loc 0) (.k (.bool false))), none, none⟩,
  ⟨(.mov (.loc 0)), (some 0), none⟩]
def c12 : CFun := ⟨0, 5, (.seq (.region [] [] c12_0) (.seq (.region [] [] c12_1) (.seq (.region [] [] c12_2) (.seq (.region [] [] c12_3) (.seq (.region [] [] c12_4) .ret))))), [.var 0]⟩
theorem ok12 : CodeOk Tryd.prog T 12 c12 := ⟨⟨Tryd.f12, Hints.of [] [] [], [0, 1, 2, 3, 4], Tryd.func12, by kernel_rfl, by kernel_rfl⟩⟩

/-! spinney/spinneylaw03.big -/
def c13_0 : List CO := [⟨(.mov (.k (.bool false))), (some 1), none⟩]
def c13_1 : List CO := [⟨(.mov (.var 0)), (some 3), none⟩,
  ⟨(.len .slice (.var 3)), (some 4), none⟩,
  ⟨(.mov (.k (.int .i64 0))), (some 5), none⟩]
def c13_2 : List CO := [⟨(.bin .lss (.var 5) (.var 4)), (some 6), none⟩]
def c13_3 : List CO := [⟨(.ia 4 (.var 3) (.var 5)), none, none⟩,
  ⟨(.load true 4 (.loc 0)), none, none⟩,
  ⟨(.box 24 (.k (.agg #[(.int .i64 0), (.string ⟨#[]⟩), (.int .i64 0), (.slice none 0 0)]))), (some 2), none⟩,
  ⟨(.store 4 (.var 2) (.loc 1)), none, none⟩]
def c13_4 : List CO := [⟨(.load true 4 (.var 2)), none, none⟩,
  ⟨(.call true 39 [(.loc 0), (.k (.int .i64 3000))]), none, none⟩,
  ⟨(.un .not (.loc 0)), (some 7), none⟩]
def c13_5 : List CO := [⟨(.mov (.k (.bool true))), (some 1), none⟩]
def c13_6 : List CO := [⟨(.bin .add (.var 5) (.k (.int .i64 1))), none, none⟩,
  ⟨(.mov (.loc 0)), (some 5), none⟩]
def c13_7 : CC := (.seq (.region [] [] c13_2) (.seq (.cond (.var 6) .skip (.exit 0)) (.seq (.block 1 (.seq (.region [] [] c13_3) (.seq (.region [] [] c13_4) (.cond (.var 7) (.seq (.region [] [] c13_5) .ret) .skip)))) (.region [] [] c13_6))))
def c13_8 : List CO := [⟨(.mov (.k (.bool false))), (some 1), none⟩]
def c13 : CFun := ⟨1, 8, (.seq (.region [] [] c13_0) (.seq (.seq (.region [] [] c13_1) (.block 0 (.loop [false, false, false, true, true, true, false, false] [] c13_7))) (.seq (.region [] [] c13_8) .ret))), [.var 1]⟩
theorem ok13 : CodeOk Tryd.prog T 13 c13 := ⟨⟨Tryd.f13, Hints.of [] [] [(0, [false, false, false, true, true, true, false, false], [])], [0, 2, 4, 5, 6, 7, 8, 13], Tryd.func13, by kernel_rfl, by kernel_rfl⟩⟩

/-! spinney/term.Same -/
def c14_0 : List CO := [⟨(.box 24 (.var 0)), (some 2), none⟩,
  ⟨(.box 24 (.var 1)), (some 3), none⟩,
  ⟨(.mov (.k (.bool false))), (some 4), none⟩]
def c14_1 : List CO := [⟨(.fa 0 (.var 2)), none, none⟩,
  ⟨(.load false 1 (.loc 0)), none, none⟩,
  ⟨(.fa 0 (.var 3)), none, none⟩,
  ⟨(.load false 1 (.loc 0)), none, none⟩,
  ⟨(.bin .eql (.loc 2) (.loc 0)), none, none⟩,
  ⟨(.mov (.loc 0)), none, none⟩,
  ⟨(.fa 2 (.var 2)), none, (some ((.loc 0), true))⟩,
  ⟨(.load false 1 (.loc 0)), none, (some ((.loc 1), true))⟩,
  ⟨(.fa 2 (.var 3)), none, (some ((.loc 2), true))⟩,
  ⟨(.load false 1 (.loc 0)), none, (some ((.loc 3), true))⟩,
  ⟨(.bin .eql (.loc 2) (.loc 0)), none, (some ((.loc 4), true))⟩,
  ⟨(.pick (.loc 5) (.loc 0) (.k (.bool false))), none, none⟩,
  ⟨(.mov (.loc 0)), none, none⟩,
  ⟨(.fa 1 (.var 2)), none, (some ((.loc 0), true))⟩,
  ⟨(.load false 1 (.loc 0)), none, (some ((.loc 1), true))⟩,
  ⟨(.fa 1 (.var 3)), none, (some ((.loc 2), true))⟩,
  ⟨(.load false 1 (.loc 0)), none, (some ((.loc 3), true))⟩,
  ⟨(.bin .eql (.loc 2) (.loc 0)), none, (some ((.loc 4), true))⟩,
  ⟨(.pick (.loc 5) (.loc 0) (.k (.bool false))), none, none⟩,
  ⟨(.mov (.loc 0)), none, none⟩,
  ⟨(.fa 3 (.var 2)), none, (some ((.loc 0), true))⟩,
  ⟨(.load false 1 (.loc 0)), none, (some ((.loc 1), true))⟩,
  ⟨(.len .slice (.loc 0)), none, (some ((.loc 2), true))⟩,
  ⟨(.fa 3 (.var 3)), none, (some ((.loc 3), true))⟩,
  ⟨(.load false 1 (.loc 0)), none, (some ((.loc 4), true))⟩,
  ⟨(.len .slice (.loc 0)), none, (some ((.loc 5), true))⟩,
  ⟨(.bin .eql (.loc 3) (.loc 0)), none, (some ((.loc 6), true))⟩,
  ⟨(.pick (.loc 7) (.loc 0) (.k (.bool false))), none, none⟩,
  ⟨(.mov (.loc 0)), (some 5), none⟩]
def c14_2 : List CO := [⟨(.mov (.k (.int .i64 0))), (some 6), none⟩]
def c14_3 : List CO := [⟨(.mov (.var 5)), none, none⟩,
  ⟨(.mov (.loc 0)), none, none⟩,
  ⟨(.mov (.var 6)), none, (some ((.loc 0), true))⟩,
  ⟨(.fa 3 (.var 2)), none, (some ((.loc 1), true))⟩,
  ⟨(.load false 1 (.loc 0)), none, (some ((.loc 2), true))⟩,
  ⟨(.len .slice (.loc 0)), none, (some ((.loc 3), true))⟩,
  ⟨(.bin .lss (.loc 3) (.loc 0)), none, (some ((.loc 4), true))⟩,
  ⟨(.pick (.loc 5) (.loc 0) (.k (.bool false))), (some 7), none⟩]
def c14_4 : List CO := [⟨(.fa 3 (.var 2)), none, none⟩,
  ⟨(.load false 1 (.loc 0)), none, none⟩,
  ⟨(.mov (.var 6)), none, none⟩,
  ⟨(.ia 4 (.loc 1) (.loc 0)), none, none⟩,
  ⟨(.load true 4 (.loc 0)), none, none⟩,
  ⟨(.fa 3 (.var 3)), none, none⟩,
  ⟨(.load false 1 (.loc 0)), none, none⟩,
  ⟨(.mov (.var 6)), none, none⟩,
  ⟨(.ia 4 (.loc 1) (.loc 0)), none, none⟩,
  ⟨(.load true 4 (.loc 0)), none, none⟩,
  ⟨(.call true 14 [(.loc 5), (.loc 0)]), none, none⟩,
  ⟨(.mov (.loc 0)), (some 5), none⟩]
def c14_5 : List CO := [⟨(.mov (.var 6)), none, none⟩,
  ⟨(.bin .add (.loc 0) (.k (.int .i64 1))), none, none⟩,
  ⟨(.mov (.loc 0)), (some 6), none⟩]
def c14_6 : CC := (.seq (.seq (.region [] [] c14_3) (.cond (.var 7) .skip (.exit 0))) (.seq (.block 1 (.region [] [] c14_4)) (.region [] [] c14_5)))
def c14_7 : List CO := [⟨(.mov (.var 5)), none, none⟩,
  ⟨(.mov (.loc 0)), (some 4), none⟩]
def c14 : CFun := ⟨2, 8, (.seq (.region [] [] c14_0) (.seq (.region [] [] c14_1) (.seq (.seq (.region [] [] c14_2) (.block 0 (.loop [false, false, true, true, false, true, true, false] [] c14_6))) (.seq (.region [] [] c14_7) .ret)))), [.var 4]⟩
theorem ok14 : CodeOk Tryd.prog T 14 c14 := ⟨⟨Tryd.f14, Hints.of [] [] [(0, [false, false, true, true, false, true, true, false], [])], [0, 1, 2, 3, 4, 5, 6, 42], Tryd.func14, by kernel_rfl, by kernel_rfl⟩⟩

/-! spinney/spinneyref03.Same -/
def c15_0 : List CO := [⟨(.box 24 (.var 0)), (some 2), none⟩,
  ⟨(.box 24 (.var 1)), (some 3), none⟩,
  ⟨(.mov (.k (.bool false))), (some 4), none⟩]
def c15_1 : List CO := [⟨(.fa 0 (.var 2)), none, none⟩,
  ⟨(.load false 1 (.loc 0)), none, none⟩,
  ⟨(.fa 0 (.var 3)), none, none⟩,
  ⟨(.load false 1 (.loc 0)), none, none⟩,
  ⟨(.bin .neq (.loc 2) (.loc 0)), none, none⟩,
  ⟨(.mov (.loc 0)), none, none⟩,
  ⟨(.fa 1 (.var 2)), none, (some ((.loc 0), false))⟩,
  ⟨(.load false 1 (.loc 0)), none, (some ((.loc 1), false))⟩,
  ⟨(.fa 1 (.var 3)), none, (some ((.loc 2), false))⟩,
  ⟨(.load false 1 (.loc 0)), none, (some ((.loc 3), false))⟩,
  ⟨(.bin .neq (.loc 2) (.loc 0)), none, (some ((.loc 4), false))⟩,
  ⟨(.pick (.loc 5) (.k (.bool true)) (.loc 0)), none, none⟩,
  ⟨(.mov (.loc 0)), none, none⟩,
  ⟨(.fa 2 (.var 2)), none, (some ((.loc 0), false))⟩,
  ⟨(.load false 1 (.loc 0)), none, (some ((.loc 1), false))⟩,
  ⟨(.fa 2 (.var 3)), none, (some ((.loc 2), false))⟩,
  ⟨(.load false 1 (.loc 0)), none, (some ((.loc 3), false))⟩,
  ⟨(.bin .neq (.loc 2) (.loc 0)), none, (some ((.loc 4), false))⟩,
  ⟨(.pick (.loc 5) (.k (.bool true)) (.loc 0)), none, none⟩,
  ⟨(.mov (.loc 0)), none, none⟩,
  ⟨(.fa 3 (.var 2)), none, (some ((.loc 0), false))⟩,
  ⟨(.load false 1 (.loc 0)), none, (some ((.loc 1), false))⟩,
  ⟨(.len .slice (.loc 0)), none, (some ((.loc 2), false))⟩,
  ⟨(.fa 3 (.var 3)), none, (some ((.loc 3), false))⟩,
  ⟨(.load false 1 (.loc 0)), none, (some ((.loc 4), false))⟩,
  ⟨(.len .slice (.loc 0)), none, (some ((.loc 5), false))⟩,
  ⟨(.bin .neq (.loc 3) (.loc 0)), none, (some ((.loc 6), false))⟩,
  ⟨(.pick (.loc 7) (.k (.bool true)) (.loc 0)), (some 6), none⟩]
def c15_2 : List CO := [⟨(.mov (.k (.bool false))), (some 4), none⟩]
def c15_3 : List CO := [⟨(.fa 3 (.var 2)), none, none⟩,
  ⟨(.load false 1 (.loc 0)), none, none⟩,
  ⟨(.len .slice (.loc 0)), (some 7), none⟩,
  ⟨(.mov (.k (.int .i64 0))), (some 8), none⟩]
def c15_4 : List CO := [⟨(.bin .lss (.var 8) (.var 7)), (some 9), none⟩]
def c15_5 : List CO := [⟨(.mov (.var 8)), none, none⟩,
  ⟨(.mov (.loc 0)), (some 5), none⟩]
def c15_6 : List CO := [⟨(.fa 3 (.var 2)), none, none⟩,
  ⟨(.load false 1 (.loc 0)), none, none⟩,
  ⟨(.mov (.var 5)), none, none⟩,
  ⟨(.ia 4 (.loc 1) (.loc 0)), none, none⟩,
  ⟨(.load true 4 (.loc 0)), none, none⟩,
  ⟨(.fa 3 (.var 3)), none, none⟩,
  ⟨(.load false 1 (.loc 0)), none, none⟩,
  ⟨(.mov (.var 5)), none, none⟩,
  ⟨(.ia 4 (.loc 1) (.loc 0)), none, none⟩,
  ⟨(.load true 4 (.loc 0)), none, none⟩,
  ⟨(.call true 15 [(.loc 5), (.loc 0)]), none, none⟩,
  ⟨(.un .not (.loc 0)), (some 10), none⟩]
def c15_7 : List CO := [⟨(.mov (.k (.bool false))), (some 4), none⟩]
def c15_8 : List CO := [⟨(.bin .add (.var 8) (.k (.int .i64 1))), none, none⟩,
  ⟨(.mov (.loc 0)), (some 8), none⟩]
def c15_9 : CC := (.seq (.region [] [] c15_4) (.seq (.cond (.var 9) .skip (.exit 0)) (.seq (.block 1 (.seq (.region [] [] c15_5) (.seq (.region [] [] c15_6) (.cond (.var 10) (.seq (.region [] [] c15_7) .ret) .skip)))) (.region [] [] c15_8))))
def c15_10 : List CO := [⟨(.mov (.k (.bool true))), (some 4), none⟩]
def c15 : CFun := ⟨2, 11, (.seq (.region [] [] c15_0) (.seq (.seq (.region [] [] c15_1) (.cond (.var 6) (.seq (.region [] [] c15_2) .ret) .skip)) (.seq (.seq (.region [] [] c15_3) (.block 0 (.loop [false, false, true, true, false, false, false, true, true, false, false] [] c15_9))) (.seq (.region [] [] c15_10) .ret)))), [.var 4]⟩
theorem ok15 : CodeOk Tryd.prog T 15 c15 := ⟨⟨Tryd.f15, Hints.of [] [] [(0, [false, false, true, true, false, false, false, true, true, false, false], [])], [0, 1, 2, 3, 4, 5, 33, 36, 37, 38, 51], Tryd.func15, by kernel_rfl, by kernel_rfl⟩⟩

/-! spinney/term.Variant -/
def c16_0 : List CO := [⟨(.box 24 (.var 0)), (some 2), none⟩,
  ⟨(.box 24 (.var 1)), (some 3), none⟩,
  ⟨(.mov (.k (.bool false))), (some 4), none⟩]
def c16_1 : List CO := [⟨(.mkmap (.int .i64)), none, none⟩,
  ⟨(.mkmap (.int .i64)), none, none⟩,
  ⟨(.build [(.map none), (.map none)] [(0, 1, (.loc 1)), (1, 1, (.loc 0))]), none, none⟩,
  ⟨(.box 51 (.loc 0)), none, none⟩,
  ⟨(.mov (.loc 0)), (some 5), none⟩]
def c16_2 : List CO := [⟨(.mov (.var 5)), none, none⟩,
  ⟨(.load true 4 (.var 2)), none, none⟩,
  ⟨(.load true 4 (.var 3)), none, none⟩,
  ⟨(.call false 40 [(.loc 2), (.loc 1), (.loc 0)]), none, none⟩,
  ⟨(.mov (.loc 0)), (some 4), none⟩]
def c16 : CFun := ⟨2, 6, (.seq (.region [] [] c16_0) (.seq (.region [] [] c16_1) (.seq (.region [] [] c16_2) .ret))), [.var 4]⟩
theorem ok16 : CodeOk Tryd.prog T 16 c16 := ⟨⟨Tryd.f16, Hints.of [] [] [], [0, 1, 2, 3, 4, 5], Tryd.func16, by kernel_rfl, by kernel_rfl⟩⟩

/-! spinney/spinneyref03.Variant -/
def c17_0 : List CO := [⟨(.box 24 (.var 0)), (some 2), none⟩,
  ⟨(.box 24 (.var 1)), (some 3), none⟩,
  ⟨(.mov (.k (.bool false))), (some 4), none⟩]
def c17_1 : List CO := [⟨(.load true 4 (.var 2)), none, none⟩,
  ⟨(.call true 41 [(.loc 0)]), none, none⟩,
  ⟨(.load true 4 (.var 3)), none, none⟩,
  ⟨(.call true 41 [(.loc 0)]), none, none⟩,
  ⟨(.call true 15 [(.loc 2), (.loc 0)]), none, none⟩,
  ⟨(.un .not (.loc 0)), (some 9), none⟩]
def c17_2 : List CO := [⟨(.mov (.k (.bool false))), (some 4), none⟩]
def c17_3 : List CO := [⟨(.load true 4 (.var 2)), none, none⟩,
  ⟨(.call true 42 [(.loc 0)]), none, none⟩,
  ⟨(.mov (.loc 0)), (some 5), none⟩]
def c17_4 : List CO := [⟨(.load true 4 (.var 3)), none, none⟩,
  ⟨(.call true 42 [(.loc 0)]), none, none⟩,
  ⟨(.mov (.loc 0)), (some 6), none⟩]
def c17_5 : List CO := [⟨(.mov (.var 5)), none, none⟩,
  ⟨(.len .slice (.loc 0)), (some 10), none⟩,
  ⟨(.mov (.k (.int .i64 0))), (some 11), none⟩]
def c17_6 : List CO := [⟨(.bin .lss (.var 11) (.var 10)), (some 12), none⟩]
def c17_7 : List CO := [⟨(.mov (.var 11)), none, none⟩,
  ⟨(.mov (.loc 0)), (some 7), none⟩]
def c17_8 : List CO := [⟨(.mov (.var 5)), none, none⟩,
  ⟨(.mov (.var 7)), none, none⟩,
  ⟨(.slice 1 (.loc 1) none (some (.loc 0)) none), none, none⟩,
  ⟨(.len .slice (.loc 0)), (some 13), none⟩,
  ⟨(.mov (.k (.int .i64 0))), (some 14), none⟩]
def c17_9 : List CO := [⟨(.bin .lss (.var 14) (.var 13)), (some 15), none⟩]
def c17_10 : List CO := [⟨(.mov (.var 14)), none, none⟩,
  ⟨(.mov (.loc 0)), (some 8), none⟩]
def c17_11 : List CO := [⟨(.mov (.var 5)), none, none⟩,
  ⟨(.mov (.var 7)), none, none⟩,
  ⟨(.ia 1 (.loc 1) (.loc 0)), none, none⟩,
  ⟨(.load false 1 (.loc 0)), none, none⟩,
  ⟨(.mov (.var 5)), none, none⟩,
  ⟨(.mov (.var 8)), none, none⟩,
  ⟨(.ia 1 (.loc 1) (.loc 0)), none, none⟩,
  ⟨(.load false 1 (.loc 0)), none, none⟩,
  ⟨(.bin .eql (.loc 4) (.loc 0)), none, none⟩,
  ⟨(.mov (.var 6)), none, none⟩,
  ⟨(.mov (.var 7)), none, none⟩,
  ⟨(.ia 1 (.loc 1) (.loc 0)), none, none⟩,
  ⟨(.load false 1 (.loc 0)), none, none⟩,
  ⟨(.mov (.var 6)), none, none⟩,
  ⟨(.mov (.var 8)), none, none⟩,
  ⟨(.ia 1 (.loc 1) (.loc 0)), none, none⟩,
  ⟨(.load false 1 (.loc 0)), none, none⟩,
  ⟨(.bin .eql (.loc 4) (.loc 0)), none, none⟩,
  ⟨(.eqv .bool true (.loc 9) (.loc 0)), (some 16), none⟩]
def c17_12 : List CO := [⟨(.mov (.k (.bool false))), (some 4), none⟩]
def c17_13 : List CO := [⟨(.bin .add (.var 14) (.k (.int .i64 1))), none, none⟩,
  ⟨(.mov (.loc 0)), (some 14), none⟩]
def c17_14 : CC := (.seq (.region [] [] c17_9) (.seq (.cond (.var 15) .skip (.exit 2)) (.seq (.block 3 (.seq (.region [] [] c17_10) (.seq (.region [] [] c17_11) (.cond (.var 16) (.seq (.region [] [] c17_12) .ret) .skip)))) (.region [] [] c17_13))))
def c17_15 : List CO := [⟨(.bin .add (.var 11) (.k (.int .i64 1))), none, none⟩,
  ⟨(.mov (.loc 0)), (some 11), none⟩]
def c17_16 : CC := (.seq (.region [] [] c17_6) (.seq (.cond (.var 12) .skip (.exit 0)) (.seq (.block 1 (.seq (.region [] [] c17_7) (.seq (.region [] [] c17_8) (.block 2 (.loop [false, false, false, false, false, true, true, true, false, false, true, true, false, true, true, false, false] [] c17_14))))) (.region [] [] c17_15))))
def c17_17 : List CO := [⟨(.mov (.k (.bool true))), (some 4), none⟩]
def c17 : CFun := ⟨2, 17, (.seq (.region [] [] c17_0) (.seq (.seq (.region [] [] c17_1) (.cond (.var 9) (.seq (.region [] [] c17_2) .ret) .skip)) (.seq (.region [] [] c17_3) (.seq (.region [] [] c17_4) (.seq (.seq (.region [] [] c17_5) (.block 0 (.loop [false, false, false, false, false, true, true, false, false, false, true, true, false, false, false, false, false] [] c17_16))) (.seq (.region [] [] c17_17) .ret)))))), [.var 4]⟩
theorem ok17 : CodeOk Tryd.prog T 17 c17 := ⟨⟨Tryd.f17, Hints.of [] [] [(0, [false, false, false, false, false, true, true, false, false, false, true, true, false, false, false, false, false], []), (2, [false, false, false, false, false, true, true, true, false, false, true, true, false, true, true, false, false], [])], [0, 1, 2, 3, 4, 5, 6, 7, 8, 14, 20, 21, 22, 27, 28, 29, 49], Tryd.func17, by kernel_rfl, by kernel_rfl⟩⟩

/-! spinney/spinneyref03.Check -/
def c18_0 : List CO := [⟨(.box 24 (.var 0)), (some 1), none⟩,
  ⟨(.mov (.k (.int .i64 0))), (some 2), none⟩]
def c18_1 : List CO := [⟨(.load true 4 (.var 1)), none, none⟩,
  ⟨(.call true 43 [(.loc 0)]), none, none⟩,
  ⟨(.un .not (.loc 0)), (some 3), none⟩]
def c18_2 : List CO := [⟨(.mov (.k (.int .i64 30))), (some 2), none⟩]
def c18_3 : List CO := [⟨(.load true 4 (.var 1)), none, none⟩,
  ⟨(.call true 26 [(.loc 0)]), none, none⟩,
  ⟨(.bin .gtr (.loc 0) (.k (.int .i64 60))), (some 4), none⟩]
def c18_4 : List CO := [⟨(.mov (.k (.int .i64 3))), (some 2), none⟩]
def c18_5 : List CO := [⟨(.mov (.k (.int .i64 0))), (some 2), none⟩]
def c18 : CFun := ⟨1, 5, (.seq (.region [] [] c18_0) (.seq (.seq (.region [] [] c18_1) (.cond (.var 3) (.seq (.region [] [] c18_2) .ret) .skip)) (.seq (.seq (.region [] [] c18_3) (.cond (.var 4) (.seq (.region [] [] c18_4) .ret) .skip)) (.seq (.region [] [] c18_5) .ret)))), [.var 2]⟩
theorem ok18 : CodeOk Tryd.prog T 18 c18 := ⟨⟨Tryd.f18, Hints.of [] [] [], [0, 1, 2, 5, 8], Tryd.func18, by kernel_rfl, by kernel_rfl⟩⟩

/-! spinney/term.Compare -/
def c19_0 : List CO := [⟨(.box 24 (.var 0)), (some 2), none⟩,
  ⟨(.box 24 (.var 1)), (some 3), none⟩,
  ⟨(.mov (.k (.int .i64 0))), (some 4), none⟩]
def c19_1 : List CO := [⟨(.fa 0 (.var 2)), none, none⟩,
  ⟨(.load false 1 (.loc 0)), none, none⟩,
  ⟨(.call true 46 [(.loc 0)]), none, none⟩,
  ⟨(.fa 0 (.var 3)), none, none⟩,
  ⟨(.load false 1 (.loc 0)), none, none⟩,
  ⟨(.call true 46 [(.loc 0)]), none, none⟩,
  ⟨(.call true 45 [(.loc 3), (.loc 0)]), none, none⟩,
  ⟨(.fa 3 (.var 2)), none, none⟩,
  ⟨(.load false 1 (.loc 0)), none, none⟩,
  ⟨(.len .slice (.loc 0)), none, none⟩,
  ⟨(.fa 3 (.var 3)), none, none⟩,
  ⟨(.load false 1 (.loc 0)), none, none⟩,
  ⟨(.len .slice (.loc 0)), none, none⟩,
  ⟨(.call true 45 [(.loc 3), (.loc 0)]), none, none⟩,
  ⟨(.fa 1 (.var 2)), none, none⟩,
  ⟨(.load false 1 (.loc 0)), none, none⟩,
  ⟨(.fa 1 (.var 3)), none, none⟩,
  ⟨(.load false 1 (.loc 0)), none, none⟩,
  ⟨(.call true 47 [(.loc 2), (.loc 0)]), none, none⟩,
  ⟨(.fa 2 (.var 2)), none, none⟩,
  ⟨(.load false 1 (.loc 0)), none, none⟩,
  ⟨(.fa 2 (.var 3)), none, none⟩,
  ⟨(.load false 1 (.loc 0)), none, none⟩,
  ⟨(.call true 48 [(.loc 2), (.loc 0)]), none, none⟩,
  ⟨(.bslice 1 [(.int .i64 0)] 4 [(0, (.loc 17)), (1, (.loc 10)), (2, (.loc 5)), (3, (.loc 0))]), none, none⟩,
  ⟨(.call true 44 [(.loc 0)]), none, none⟩,
  ⟨(.mov (.loc 0)), (some 5), none⟩]
def c19_2 : List CO := [⟨(.mov (.k (.int .i64 0))), (some 6), none⟩]
def c19_3 : List CO := [⟨(.mov (.var 5)), none, none⟩,
  ⟨(.bin .eql (.loc 0) (.k (.int .i64 0))), none, none⟩,
  ⟨(.mov (.loc 0)), none, none⟩,
  ⟨(.mov (.var 6)), none, (some ((.loc 0), true))⟩,
  ⟨(.fa 3 (.var 2)), none, (some ((.loc 1), true))⟩,
  ⟨(.load false 1 (.loc 0)), none, (some ((.loc 2), true))⟩,
  ⟨(.len .slice (.loc 0)), none, (some ((.loc 3), true))⟩,
  ⟨(.bin .lss (.loc 3) (.loc 0)), none, (some ((.loc 4), true))⟩,
  ⟨(.pick (.loc 5) (.loc 0) (.k (.bool false))), (some 7), none⟩]
def c19_4 : List CO := [⟨(.fa 3 (.var 2)), none, none⟩,
  ⟨(.load false 1 (.loc 0)), none, none⟩,
  ⟨(.mov (.var 6)), none, none⟩,
  ⟨(.ia 4 (.loc 1) (.loc 0)), none, none⟩,
  ⟨(.load true 4 (.loc 0)), none, none⟩,
  ⟨(.fa 3 (.var 3)), none, none⟩,
  ⟨(.load false 1 (.loc 0)), none, none⟩,
  ⟨(.mov (.var 6)), none, none⟩,
  ⟨(.ia 4 (.loc 1) (.loc 0)), none, none⟩,
  ⟨(.load true 4 (.loc 0)), none, none⟩,
  ⟨(.call true 19 [(.loc 5), (.loc 0)]), none, none⟩,
  ⟨(.mov (.loc 0)), (some 5), none⟩]
def c19_5 : List CO := [⟨(.mov (.var 6)), none, none⟩,
  ⟨(.bin .add (.loc 0) (.k (.int .i64 1))), none, none⟩,
  ⟨(.mov (.loc 0)), (some 6), none⟩]
def c19_6 : CC := (.seq (.seq (.region [] [] c19_3) (.cond (.var 7) .skip (.exit 0))) (.seq (.block 1 (.region [] [] c19_4)) (.region [] [] c19_5)))
def c19_7 : List CO := [⟨(.mov (.var 5)), none, none⟩,
  ⟨(.mov (.loc 0)), (some 4), none⟩]
def c19 : CFun := ⟨2, 8, (.seq (.region [] [] c19_0) (.seq (.region [] [] c19_1) (.seq (.seq (.region [] [] c19_2) (.block 0 (.loop [false, false, true, true, false, true, true, false] [] c19_6))) (.seq (.region [] [] c19_7) .ret)))), [.var 4]⟩
theorem ok19 : CodeOk Tryd.prog T 19 c19 := ⟨⟨Tryd.f19, Hints.of [] [] [(0, [false, false, true, true, false, true, true, false], [])], [0, 1, 2, 3, 4, 5, 6, 41], Tryd.func19, by kernel_rfl, by kernel_rfl⟩⟩

/-! spinney/spinneyref03.Compare -/
def c20_0 : List CO := [⟨(.box 24 (.var 0)), (some 2), none⟩,
  ⟨(.box 24 (.var 1)), (some 3), none⟩,
  ⟨(.mov (.k (.int .i64 0))), (some 4), none⟩]
def c20_1 : List CO := [⟨(.fa 0 (.var 2)), none, none⟩,
  ⟨(.load false 1 (.loc 0)), none, none⟩,
  ⟨(.fa 0 (.var 3)), none, none⟩,
  ⟨(.load false 1 (.loc 0)), none, none⟩,
  ⟨(.bin .neq (.loc 2) (.loc 0)), (some 8), none⟩]
def c20_2 : List CO := [⟨(.fa 0 (.var 2)), none, none⟩,
  ⟨(.load false 1 (.loc 0)), none, none⟩,
  ⟨(.call true 50 [(.loc 0)]), none, none⟩,
  ⟨(.fa 0 (.var 3)), none, none⟩,
  ⟨(.load false 1 (.loc 0)), none, none⟩,
  ⟨(.call true 50 [(.loc 0)]), none, none⟩,
  ⟨(.call true 49 [(.loc 3), (.loc 0)]), none, none⟩,
  ⟨(.mov (.loc 0)), (some 4), none⟩]
def c20_3 : List CO := [⟨(.fa 0 (.var 2)), none, none⟩,
  ⟨(.load false 1 (.loc 0)), (some 9), none⟩]
def c20_4 : List CO := [⟨(.bin .eql (.var 9) (.k (.int .i64 1))), none, none⟩,
  ⟨(.mov (.loc 0)), (some 10), none⟩]
def c20_5 : List CO := [⟨(.bin .eql (.var 9) (.k (.int .i64 3))), none, none⟩,
  ⟨(.mov (.loc 0)), (some 10), none⟩]
def c20_6 : List CO := [⟨(.fa 2 (.var 2)), none, none⟩,
  ⟨(.load false 1 (.loc 0)), none, none⟩,
  ⟨(.fa 2 (.var 3)), none, none⟩,
  ⟨(.load false 1 (.loc 0)), none, none⟩,
  ⟨(.call true 49 [(.loc 2), (.loc 0)]), none, none⟩,
  ⟨(.mov (.loc 0)), (some 4), none⟩]
def c20_7 : List CO := [⟨(.bin .eql (.var 9) (.k (.int .i64 2))), none, none⟩,
  ⟨(.mov (.loc 0)), (some 11), none⟩]
def c20_8 : List CO := [⟨(.fa 1 (.var 2)), none, none⟩,
  ⟨(.load false 1 (.loc 0)), none, none⟩,
  ⟨(.fa 1 (.var 3)), none, none⟩,
  ⟨(.load false 1 (.loc 0)), none, none⟩,
  ⟨(.call true 51 [(.loc 2), (.loc 0)]), none, none⟩,
  ⟨(.mov (.loc 0)), (some 4), none⟩]
def c20_9 : List CO := [⟨(.fa 3 (.var 2)), none, none⟩,
  ⟨(.load false 1 (.loc 0)), none, none⟩,
  ⟨(.len .slice (.loc 0)), none, none⟩,
  ⟨(.fa 3 (.var 3)), none, none⟩,
  ⟨(.load false 1 (.loc 0)), none, none⟩,
  ⟨(.len .slice (.loc 0)), none, none⟩,
  ⟨(.bin .neq (.loc 3) (.loc 0)), (some 12), none⟩]
def c20_10 : List CO := [⟨(.fa 3 (.var 2)), none, none⟩,
  ⟨(.load false 1 (.loc 0)), none, none⟩,
  ⟨(.len .slice (.loc 0)), none, none⟩,
  ⟨(.fa 3 (.var 3)), none, none⟩,
  ⟨(.load false 1 (.loc 0)), none, none⟩,
  ⟨(.len .slice (.loc 0)), none, none⟩,
  ⟨(.call true 49 [(.loc 3), (.loc 0)]), none, none⟩,
  ⟨(.mov (.loc 0)), (some 4), none⟩]
def c20_11 : List CO := [⟨(.fa 1 (.var 2)), none, none⟩,
  ⟨(.load false 1 (.loc 0)), none, none⟩,
  ⟨(.fa 1 (.var 3)), none, none⟩,
  ⟨(.load false 1 (.loc 0)), none, none⟩,
  ⟨(.call true 51 [(.loc 2), (.loc 0)]), none, none⟩,
  ⟨(.mov (.loc 0)), (some 5), none⟩]
def c20_12 : List CO := [⟨(.mov (.var 5)), none, none⟩,
  ⟨(.bin .neq (.loc 0) (.k (.int .i64 0))), (some 13), none⟩]
def c20_13 : List CO := [⟨(.mov (.var 5)), none, none⟩,
  ⟨(.mov (.loc 0)), (some 4), none⟩]
def c20_14 : List CO := [⟨(.fa 3 (.var 2)), none, none⟩,
  ⟨(.load false 1 (.loc 0)), none, none⟩,
  ⟨(.len .slice (.loc 0)), (some 14), none⟩,
  ⟨(.mov (.k (.int .i64 0))), (some 15), none⟩]
def c20_15 : List CO := [⟨(.bin .lss (.var 15) (.var 14)), (some 16), none⟩]
def c20_16 : List CO := [⟨(.mov (.var 15)), none, none⟩,
  ⟨(.mov (.loc 0)), (some 6), none⟩]
def c20_17 : List CO := [⟨(.fa 3 (.var 2)), none, none⟩,
  ⟨(.load false 1 (.loc 0)), none, none⟩,
  ⟨(.mov (.var 6)), none, none⟩,
  ⟨(.ia 4 (.loc 1) (.loc 0)), none, none⟩,
  ⟨(.load true 4 (.loc 0)), none, none⟩,
  ⟨(.fa 3 (.var 3)), none, none⟩,
  ⟨(.load false 1 (.loc 0)), none, none⟩,
  ⟨(.mov (.var 6)), none, none⟩,
  ⟨(.ia 4 (.loc 1) (.loc 0)), none, none⟩,
  ⟨(.load true 4 (.loc 0)), none, none⟩,
  ⟨(.call true 20 [(.loc 5), (.loc 0)]), none, none⟩,
  ⟨(.mov (.loc 0)), (some 7), none⟩]
def c20_18 : List CO := [⟨(.mov (.var 7)), none, none⟩,
  ⟨(.bin .neq (.loc 0) (.k (.int .i64 0))), (some 17), none⟩]
def c20_19 : List CO := [⟨(.mov (.var 7)), none, none⟩,
  ⟨(.mov (.loc 0)), (some 4), none⟩]
def c20_20 : List CO := [⟨(.bin .add (.var 15) (.k (.int .i64 1))), none, none⟩,
  ⟨(.mov (.loc 0)), (some 15), none⟩]
def c20_21 : CC := (.seq (.region [] [] c20_15) (.seq (.cond (.var 16) .skip (.exit 1)) (.seq (.block 2 (.seq (.region [] [] c20_16) (.seq (.region [] [] c20_17) (.seq (.region [] [] c20_18) (.cond (.var 17) (.seq (.region [] [] c20_19) .ret) .skip))))) (.region [] [] c20_20))))
def c20_22 : List CO := [⟨(.mov (.k (.int .i64 0))), (some 4), none⟩]
def c20 : CFun := ⟨2, 18, (.seq (.region [] [] c20_0) (.seq (.seq (.region [] [] c20_1) (.cond (.var 8) (.seq (.region [] [] c20_2) .ret) .skip)) (.seq (.seq (.region [] [] c20_3) (.block 0 (.seq (.seq (.region [] [] c20_4) (.cond (.var 10) .skip (.region [] [] c20_5))) (.cond (.var 10) (.seq (.region [] [] c20_6) .ret) (.seq (.region [] [] c20_7) (.cond (.var 11) (.seq (.region [] [] c20_8) .ret) .skip)))))) (.seq (.seq (.region [] [] c20_9) (.cond (.var 12) (.seq (.region [] [] c20_10) .ret) .skip)) (.seq (.seq (.region [] [] c20_11) (.seq (.region [] [] c20_12) (.cond (.var 13) (.seq (.region [] [] c20_13) .ret) .skip))) (.seq (.seq (.region [] [] c20_14) (.block 1 (.loop [false, false, true, true, false, false, false, false, false, false, false, false, false, false, true, true, false, false] [] c20_21))) (.seq (.region [] [] c20_22) .ret))))))), [.var 4]⟩
theorem ok20 : CodeOk Tryd.prog T 20 c20 := ⟨⟨Tryd.f20, Hints.of [] [] [(1, [false, false, true, true, false, false, false, false, false, false, false, false, false, false, true, true, false, false], [])], [0, 1, 2, 3, 4, 5, 6, 7, 12, 21, 22, 30, 43, 57, 61, 62, 63, 77], Tryd.func20, by kernel_rfl, by kernel_rfl⟩⟩

/-! spinney/term.Text -/
def c21_0 : List CO := [⟨(.box 24 (.var 0)), (some 1), none⟩,
  ⟨(.mov (.k (.string ⟨#[]⟩))), (some 2), none⟩,
  ⟨(.mov (.k (.int .i64 0))), (some 3), none⟩]
def c21_1 : List CO := [⟨(.load true 4 (.var 1)), none, none⟩,
  ⟨(.call true 22 [(.loc 0)]), none, none⟩,
  ⟨(.mov (.loc 0)), (some 4), none⟩]
def c21_2 : List CO := [⟨(.mov (.var 4)), none, none⟩,
  ⟨(.bin .neq (.loc 0) (.k (.int .i64 0))), (some 6), none⟩]
def c21_3 : List CO := [⟨(.mov (.var 4)), none, none⟩,
  ⟨(.mov (.k (.string ⟨#[]⟩))), (some 2), none⟩,
  ⟨(.mov (.loc 1)), (some 3), none⟩]
def c21_4 : List CO := [⟨(.box 61 (.k (.agg #[(.pointer none), (.slice none 0 0)]))), (some 5), none⟩]
def c21_5 : List CO := [⟨(.load true 4 (.var 1)), none, none⟩,
  ⟨(.call false 52 [(.var 5), (.loc 0)]), none, none⟩]
def c21_6 : List CO := [⟨(.call false 53 [(.var 5)]), none, none⟩,
  ⟨(.mov (.loc 0)), (some 2), none⟩,
  ⟨(.mov (.k (.int .i64 0))), (some 3), none⟩]
def c21 : CFun := ⟨1, 7, (.seq (.region [] [] c21_0) (.seq (.seq (.region [] [] c21_1) (.seq (.region [] [] c21_2) (.cond (.var 6) (.seq (.region [] [] c21_3) .ret) .skip))) (.seq (.region [] [] c21_4) (.seq (.region [.ap 5 1 5 1] [] c21_5) (.seq (.region [] [] c21_6) .ret))))), [.var 2, .var 3]⟩
theorem ok21 : CodeOk Tryd.prog T 21 c21 := ⟨⟨Tryd.f21, Hints.of [(5, [.ap 5 1 5 1])] [] [], [0, 1, 2, 3, 4, 5, 9], Tryd.func21, by kernel_rfl, by kernel_rfl⟩⟩

/-! spinney/term.Check -/
def c22_0 : List CO := [⟨(.box 24 (.var 0)), (some 1), none⟩,
  ⟨(.mov (.k (.int .i64 0))), (some 2), none⟩]
def c22_1 : List CO := [⟨(.load true 4 (.var 1)), none, none⟩,
  ⟨(.call true 54 [(.loc 0)]), none, none⟩,
  ⟨(.un .not (.loc 0)), (some 3), none⟩]
def c22_2 : List CO := [⟨(.mov (.k (.int .i64 30))), (some 2), none⟩]
def c22_3 : List CO := [⟨(.load true 4 (.var 1)), none, none⟩,
  ⟨(.call true 25 [(.loc 0)]), none, none⟩,
  ⟨(.bin .gtr (.loc 0) (.k (.int .i64 60))), (some 4), none⟩]
def c22_4 : List CO := [⟨(.mov (.k (.int .i64 3))), (some 2), none⟩]
def c22_5 : List CO := [⟨(.mov (.k (.int .i64 0))), (some 2), none⟩]
def c22 : CFun := ⟨1, 5, (.seq (.region [] [] c22_0) (.seq (.seq (.region [] [] c22_1) (.cond (.var 3) (.seq (.region [] [] c22_2) .ret) .skip)) (.seq (.seq (.region [] [] c22_3) (.cond (.var 4) (.seq (.region [] [] c22_4) .ret) .skip)) (.seq (.region [] [] c22_5) .ret)))), [.var 2]⟩
theorem ok22 : CodeOk Tryd.prog T 22 c22 := ⟨⟨Tryd.f22, Hints.of [] [] [], [0, 1, 2, 5, 8], Tryd.func22, by kernel_rfl, by kernel_rfl⟩⟩

/-! spinney/term.Shift -/
def c23_0 : List CO := [⟨(.box 24 (.var 0)), (some 2), none⟩,
  ⟨(.box 2 (.var 1)), (some 3), none⟩,
  ⟨(.box 24 (.k (.agg #[(.int .i64 0), (.string ⟨#[]⟩), (.int .i64 0), (.slice none 0 0)]))), (some 4), none⟩]
def c23_1 : List CO := [⟨(.load true 4 (.var 2)), none, none⟩,
  ⟨(.mkfn (.func 56) [] [(.var 3)]), none, none⟩,
  ⟨(.call false 55 [(.loc 1), (.loc 0)]), none, none⟩,
  ⟨(.store 4 (.var 4) (.loc 0)), none, none⟩]
def c23 : CFun := ⟨2, 5, (.seq (.region [] [] c23_0) (.seq (.region [] [] c23_1) .ret)), [.cell 4 true 4]⟩
theorem ok23 : CodeOk Tryd.prog T 23 c23 := ⟨⟨Tryd.f23, Hints.of [] [] [], [0, 1, 2, 3, 4], Tryd.func23, by kernel_rfl, by kernel_rfl⟩⟩

/-! spinney/term.Copy -/
def c24_0 : List CO := [⟨(.box 24 (.var 0)), (some 1), none⟩,
  ⟨(.box 24 (.k (.agg #[(.int .i64 0), (.string ⟨#[]⟩), (.int .i64 0), (.slice none 0 0)]))), (some 2), none⟩]
def c24_1 : List CO := [⟨(.load true 4 (.var 1)), none, none⟩,
  ⟨(.call false 55 [(.loc 0), (.fn 57)]), none, none⟩,
  ⟨(.store 4 (.var 2) (.loc 0)), none, none⟩]
def c24 : CFun := ⟨1, 3, (.seq (.region [] [] c24_0) (.seq (.region [] [] c24_1) .ret)), [.cell 2 true 4]⟩
theorem ok24 : CodeOk Tryd.prog T 24 c24 := ⟨⟨Tryd.f24, Hints.of [] [] [], [0, 1, 2], Tryd.func24, by kernel_rfl, by kernel_rfl⟩⟩

/-! spinney/term.Deep -/
def c25_0 : List CO := [⟨(.box 24 (.var 0)), (some 1), none⟩,
  ⟨(.mov (.k (.int .i64 0))), (some 2), none⟩]
def c25_1 : List CO := [⟨(.mov (.k (.int .i64 0))), (some 3), none⟩]
def c25_2 : List CO := [⟨(.fa 3 (.var 1)), none, none⟩,
  ⟨(.load false 1 (.loc 0)), (some 5), none⟩,
  ⟨(.len .slice (.var 5)), (some 6), none⟩,
  ⟨(.mov (.k (.int .i64 0))), (some 7), none⟩]
def c25_3 : List CO := [⟨(.bin .lss (.var 7) (.var 6)), (some 8), none⟩]
def c25_4 : List CO := [⟨(.ia 4 (.var 5) (.var 7)), none, none⟩,
  ⟨(.load true 4 (.loc 0)), none, none⟩,
  ⟨(.box 24 (.k (.agg #[(.int .i64 0), (.string ⟨#[]⟩), (.int .i64 0), (.slice none 0 0)]))), (some 4), none⟩,
  ⟨(.store 4 (.var 4) (.loc 1)), none, none⟩]
def c25_5 : List CO := [⟨(.mov (.var 3)), none, none⟩,
  ⟨(.load true 4 (.var 4)), none, none⟩,
  ⟨(.call true 25 [(.loc 0)]), none, none⟩,
  ⟨(.mm true (.loc 2) (.loc 0)), none, none⟩,
  ⟨(.mov (.loc 0)), (some 3), none⟩]
def c25_6 : List CO := [⟨(.bin .add (.var 7) (.k (.int .i64 1))), none, none⟩,
  ⟨(.mov (.loc 0)), (some 7), none⟩]
def c25_7 : CC := (.seq (.region [] [] c25_3) (.seq (.cond (.var 8) .skip (.exit 0)) (.seq (.block 1 (.seq (.region [] [] c25_4) (.region [] [] c25_5))) (.region [] [] c25_6))))
def c25_8 : List CO := [⟨(.mov (.var 3)), none, none⟩,
  ⟨(.bin .add (.k (.int .i64 1)) (.loc 0)), none, none⟩,
  ⟨(.mov (.loc 0)), (some 2), none⟩]
def c25 : CFun := ⟨1, 9, (.seq (.region [] [] c25_0) (.seq (.region [] [] c25_1) (.seq (.seq (.region [] [] c25_2) (.block 0 (.loop [false, false, false, true, false, true, true, true, false] [] c25_7))) (.seq (.region [] [] c25_8) .ret)))), [.var 2]⟩
theorem ok25 : CodeOk Tryd.prog T 25 c25 := ⟨⟨Tryd.f25, Hints.of [] [] [(0, [false, false, false, true, false, true, true, true, false], [])], [0, 1, 2, 3, 5, 7, 8, 9, 10], Tryd.func25, by kernel_rfl, by kernel_rfl⟩⟩

/-! spinney/spinneyref03.Deep -/
def c26_0 : List CO := [⟨(.box 24 (.var 0)), (some 1), none⟩,
  ⟨(.mov (.k (.int .i64 0))), (some 2), none⟩]
def c26_1 : List CO := [⟨(.mov (.k (.int .i64 0))), (some 3), none⟩]
def c26_2 : List CO := [⟨(.fa 3 (.var 1)), none, none⟩,
  ⟨(.load false 1 (.loc 0)), (some 5), none⟩,
  ⟨(.len .slice (.var 5)), (some 6), none⟩,
  ⟨(.mov (.k (.int .i64 0))), (some 7), none⟩]
def c26_3 : List CO := [⟨(.bin .lss (.var 7) (.var 6)), (some 8), none⟩]
def c26_4 : List CO := [⟨(.ia 4 (.var 5) (.var 7)), none, none⟩,
  ⟨(.load true 4 (.loc 0)), none, none⟩,
  ⟨(.box 24 (.k (.agg #[(.int .i64 0), (.string ⟨#[]⟩), (.int .i64 0), (.slice none 0 0)]))), (some 4), none⟩,
  ⟨(.store 4 (.var 4) (.loc 1)), none, none⟩]
def c26_5 : List CO := [⟨(.mov (.var 3)), none, none⟩,
  ⟨(.load true 4 (.var 4)), none, none⟩,
  ⟨(.call true 26 [(.loc 0)]), none, none⟩,
  ⟨(.mm true (.loc 2) (.loc 0)), none, none⟩,
  ⟨(.mov (.loc 0)), (some 3), none⟩]
def c26_6 : List CO := [⟨(.bin .add (.var 7) (.k (.int .i64 1))), none, none⟩,
  ⟨(.mov (.loc 0)), (some 7), none⟩]
def c26_7 : CC := (.seq (.region [] [] c26_3) (.seq (.cond (.var 8) .skip (.exit 0)) (.seq (.block 1 (.seq (.region [] [] c26_4) (.region [] [] c26_5))) (.region [] [] c26_6))))
def c26_8 : List CO := [⟨(.mov (.var 3)), none, none⟩,
  ⟨(.bin .add (.loc 0) (.k (.int .i64 1))), none, none⟩,
  ⟨(.mov (.loc 0)), (some 2), none⟩]
def c26 : CFun := ⟨1, 9, (.seq (.region [] [] c26_0) (.seq (.region [] [] c26_1) (.seq (.seq (.region [] [] c26_2) (.block 0 (.loop [false, false, false, true, false, true, true, true, false] [] c26_7))) (.seq (.region [] [] c26_8) .ret)))), [.var 2]⟩
theorem ok26 : CodeOk Tryd.prog T 26 c26 := ⟨⟨Tryd.f26, Hints.of [] [] [(0, [false, false, false, true, false, true, true, true, false], [])], [0, 1, 2, 3, 5, 7, 8, 9, 10], Tryd.func26, by kernel_rfl, by kernel_rfl⟩⟩

/-! spinney/term.Size -/
def c27_0 : List CO := [⟨(.box 24 (.var 0)), (some 1), none⟩,
  ⟨(.mov (.k (.int .i64 0))), (some 2), none⟩]
def c27_1 : List CO := [⟨(.mov (.k (.int .i64 1))), (some 3), none⟩]
def c27_2 : List CO := [⟨(.fa 3 (.var 1)), none, none⟩,
  ⟨(.load false 1 (.loc 0)), (some 5), none⟩,
  ⟨(.len .slice (.var 5)), (some 6), none⟩,
  ⟨(.mov (.k (.int .i64 0))), (some 7), none⟩]
def c27_3 : List CO := [⟨(.bin .lss (.var 7) (.var 6)), (some 8), none⟩]
def c27_4 : List CO := [⟨(.ia 4 (.var 5) (.var 7)), none, none⟩,
  ⟨(.load true 4 (.loc 0)), none, none⟩,
  ⟨(.box 24 (.k (.agg #[(.int .i64 0), (.string ⟨#[]⟩), (.int .i64 0), (.slice none 0 0)]))), (some 4), none⟩,
  ⟨(.store 4 (.var 4) (.loc 1)), none, none⟩]
def c27_5 : List CO := [⟨(.mov (.var 3)), none, none⟩,
  ⟨(.load true 4 (.var 4)), none, none⟩,
  ⟨(.call true 27 [(.loc 0)]), none, none⟩,
  ⟨(.bin .add (.loc 2) (.loc 0)), none, none⟩,
  ⟨(.mov (.loc 0)), (some 3), none⟩]
def c27_6 : List CO := [⟨(.bin .add (.var 7) (.k (.int .i64 1))), none, none⟩,
  ⟨(.mov (.loc 0)), (some 7), none⟩]
def c27_7 : CC := (.seq (.region [] [] c27_3) (.seq (.cond (.var 8) .skip (.exit 0)) (.seq (.block 1 (.seq (.region [] [] c27_4) (.region [] [] c27_5))) (.region [] [] c27_6))))
def c27_8 : List CO := [⟨(.mov (.var 3)), none, none⟩,
  ⟨(.mov (.loc 0)), (some 2), none⟩]
def c27 : CFun := ⟨1, 9, (.seq (.region [] [] c27_0) (.seq (.region [] [] c27_1) (.seq (.seq (.region [] [] c27_2) (.block 0 (.loop [false, false, false, true, false, true, true, true, false] [] c27_7))) (.seq (.region [] [] c27_8) .ret)))), [.var 2]⟩
theorem ok27 : CodeOk Tryd.prog T 27 c27 := ⟨⟨Tryd.f27, Hints.of [] [] [(0, [false, false, false, true, false, true, true, true, false], [])], [0, 1, 2, 3, 5, 7, 8, 9, 10], Tryd.func27, by kernel_rfl, by kernel_rfl⟩⟩

/-! spinney/spinneyref03.Size -/
def c28_0 : List CO := [⟨(.box 24 (.var 0)), (some 1), none⟩,
  ⟨(.mov (.k (.int .i64 0))), (some 2), none⟩]
def c28_1 : List CO := [⟨(.mov (.k (.int .i64 1))), (some 3), none⟩]
def c28_2 : List CO := [⟨(.fa 3 (.var 1)), none, none⟩,
  ⟨(.load false 1 (.loc 0)), (some 5), none⟩,
  ⟨(.len .slice (.var 5)), (some 6), none⟩,
  ⟨(.mov (.k (.int .i64 0))), (some 7), none⟩]
def c28_3 : List CO := [⟨(.bin .lss (.var 7) (.var 6)), (some 8), none⟩]
def c28_4 : List CO := [⟨(.ia 4 (.var 5) (.var 7)), none, none⟩,
  ⟨(.load true 4 (.loc 0)), none, none⟩,
  ⟨(.box 24 (.k (.agg #[(.int .i64 0), (.string ⟨#[]⟩), (.int .i64 0), (.slice none 0 0)]))), (some 4), none⟩,
  ⟨(.store 4 (.var 4) (.loc 1)), none, none⟩]
def c28_5 : List CO := [⟨(.mov (.var 3)), none, none⟩,
  ⟨(.load true 4 (.var 4)), none, none⟩,
  ⟨(.call true 28 [(.loc 0)]), none, none⟩,
  ⟨(.bin .add (.loc 2) (.loc 0)), none, none⟩,
  ⟨(.mov (.loc 0)), (some 3), none⟩]
def c28_6 : List CO := [⟨(.bin .add (.var 7) (.k (.int .i64 1))), none, none⟩,
  ⟨(.mov (.loc 0)), (some 7), none⟩]
def c28_7 : CC := (.seq (.region [] [] c28_3) (.seq (.cond (.var 8) .skip (.exit 0)) (.seq (.block 1 (.seq (.region [] [] c28_4) (.region [] [] c28_5))) (.region [] [] c28_6))))
def c28_8 : List CO := [⟨(.mov (.var 3)), none, none⟩,
  ⟨(.mov (.loc 0)), (some 2), none⟩]
def c28 : CFun := ⟨1, 9, (.seq (.region [] [] c28_0) (.seq (.region [] [] c28_1) (.seq (.seq (.region [] [] c28_2) (.block 0 (.loop [false, false, false, true, false, true, true, true, false] [] c28_7))) (.seq (.region [] [] c28_8) .ret)))), [.var 2]⟩
theorem ok28 : CodeOk Tryd.prog T 28 c28 := ⟨⟨Tryd.f28, Hints.of [] [] [(0, [false, false, false, true, false, true, true, true, false], [])], [0, 1, 2, 3, 5, 7, 8, 9, 10], Tryd.func28, by kernel_rfl, by kernel_rfl⟩⟩

/-! spinney/spinneyref03.Comp1 -/
def c29_0 : List CO := [⟨(.box 24 (.k (.agg #[(.int .i64 0), (.string ⟨#[]⟩), (.int .i64 0), (.slice none 0 0)]))), (some 2), none⟩]
def c29_1 : List CO := [⟨(.mov (.var 0)), none, none⟩,
  ⟨(.mov (.var 1)), none, none⟩,
  ⟨(.build [(.int .i64 0), (.string ⟨#[]⟩), (.int .i64 0), (.slice none 0 0)] [(0, 1, (.k (.int .i64 4))), (1, 1, (.loc 1)), (3, 1, (.loc 0))]), none, none⟩,
  ⟨(.store 4 (.var 2) (.loc 0)), none, none⟩]
def c29 : CFun := ⟨2, 3, (.seq (.region [] [] c29_0) (.seq (.region [] [] c29_1) .ret)), [.cell 2 true 4]⟩
theorem ok29 : CodeOk Tryd.prog T 29 c29 := ⟨⟨Tryd.f29, Hints.of [] [] [], [0, 1, 4], Tryd.func29, by kernel_rfl, by kernel_rfl⟩⟩

/-! spinney/spinneyref03.Shift -/
def c30_0 : List CO := [⟨(.box 24 (.var 0)), (some 2), none⟩,
  ⟨(.box 24 (.k (.agg #[(.int .i64 0), (.string ⟨#[]⟩), (.int .i64 0), (.slice none 0 0)]))), (some 3), none⟩]
def c30_1 : List CO := [⟨(.fa 0 (.var 2)), none, none⟩,
  ⟨(.load false 1 (.loc 0)), none, none⟩,
  ⟨(.bin .eql (.loc 0) (.k (.int .i64 1))), (some 6), none⟩]
def c30_2 : List CO := [⟨(.fa 2 (.var 2)), none, none⟩,
  ⟨(.load false 1 (.loc 0)), none, none⟩,
  ⟨(.mov (.var 1)), none, none⟩,
  ⟨(.bin .add (.loc 1) (.loc 0)), none, none⟩,
  ⟨(.fa 2 (.var 2)), none, none⟩,
  ⟨(.store 1 (.loc 0) (.loc 1)), none, none⟩]
def c30_3 : List CO := [⟨(.mov (.k (.slice none 0 0))), (some 4), none⟩]
def c30_4 : List CO := [⟨(.fa 3 (.var 2)), none, none⟩,
  ⟨(.load false 1 (.loc 0)), (some 7), none⟩,
  ⟨(.len .slice (.var 7)), (some 8), none⟩,
  ⟨(.mov (.k (.int .i64 0))), (some 9), none⟩]
def c30_5 : List CO := [⟨(.bin .lss (.var 9) (.var 8)), (some 10), none⟩]
def c30_6 : List CO := [⟨(.ia 4 (.var 7) (.var 9)), none, none⟩,
  ⟨(.load true 4 (.loc 0)), none, none⟩,
  ⟨(.box 24 (.k (.agg #[(.int .i64 0), (.string ⟨#[]⟩), (.int .i64 0), (.slice none 0 0)]))), (some 5), none⟩,
  ⟨(.store 4 (.var 5) (.loc 1)), none, none⟩]
def c30_7 : List CO := [⟨(.mov (.var 4)), none, none⟩,
  ⟨(.load true 4 (.var 5)), none, none⟩,
  ⟨(.mov (.var 1)), none, none⟩,
  ⟨(.call true 30 [(.loc 1), (.loc 0)]), none, none⟩,
  ⟨(.bslice 4 [(.int .i64 0), (.string ⟨#[]⟩), (.int .i64 0), (.slice none 0 0)] 1 [(0, (.loc 0))]), none, none⟩,
  ⟨(.append 24 4 56 (.loc 4) (.loc 0)), none, none⟩,
  ⟨(.mov (.loc 0)), (some 4), none⟩]
def c30_8 : List CO := [⟨(.bin .add (.var 9) (.k (.int .i64 1))), none, none⟩,
  ⟨(.mov (.loc 0)), (some 9), none⟩]
def c30_9 : CC := (.seq (.region [] [] c30_5) (.seq (.cond (.var 10) .skip (.exit 0)) (.seq (.block 1 (.seq (.region [] [] c30_6) (.region [] [] c30_7))) (.region [] [] c30_8))))
def c30_10 : List CO := [⟨(.mov (.var 4)), none, none⟩,
  ⟨(.fa 3 (.var 2)), none, none⟩,
  ⟨(.store 1 (.loc 0) (.loc 1)), none, none⟩]
def c30_11 : List CO := [⟨(.load true 4 (.var 2)), none, none⟩,
  ⟨(.store 4 (.var 3) (.loc 0)), none, none⟩]
def c30 : CFun := ⟨2, 11, (.seq (.region [] [] c30_0) (.seq (.seq (.region [] [] c30_1) (.cond (.var 6) (.region [] [] c30_2) .skip)) (.seq (.region [] [] c30_3) (.seq (.seq (.region [] [] c30_4) (.block 0 (.loop [false, true, true, true, true, false, false, true, true, true, false] [] c30_9))) (.seq (.region [] [] c30_10) (.seq (.region [] [] c30_11) .ret)))))), [.cell 3 true 4]⟩
theorem ok30 : CodeOk Tryd.prog T 30 c30 := ⟨⟨Tryd.f30, Hints.of [] [] [(0, [false, true, true, true, true, false, false, true, true, true, false], [])], [0, 1, 2, 4, 5, 7, 10, 17, 18, 19, 20], Tryd.func30, by kernel_rfl, by kernel_rfl⟩⟩

/-! spinney/spinneyref03.SameNums -/
def c31_0 : List CO := [⟨(.mov (.k (.bool false))), (some 2), none⟩]
def c31_1 : List CO := [⟨(.mov (.var 0)), none, none⟩,
  ⟨(.len .slice (.loc 0)), none, none⟩,
  ⟨(.mov (.var 1)), none, none⟩,
  ⟨(.len .slice (.loc 0)), none, none⟩,
  ⟨(.bin .neq (.loc 2) (.loc 0)), (some 4), none⟩]
def c31_2 : List CO := [⟨(.mov (.k (.bool false))), (some 2), none⟩]
def c31_3 : List CO := [⟨(.mov (.var 0)), none, none⟩,
  ⟨(.len .slice (.loc 0)), (some 5), none⟩,
  ⟨(.mov (.k (.int .i64 0))), (some 6), none⟩]
def c31_4 : List CO := [⟨(.bin .lss (.var 6) (.var 5)), (some 7), none⟩]
def c31_5 : List CO := [⟨(.mov (.var 6)), none, none⟩,
  ⟨(.mov (.loc 0)), (some 3), none⟩]
def c31_6 : List CO := [⟨(.mov (.var 0)), none, none⟩,
  ⟨(.mov (.var 3)), none, none⟩,
  ⟨(.ia 1 (.loc 1) (.loc 0)), none, none⟩,
  ⟨(.load false 1 (.loc 0)), none, none⟩,
  ⟨(.mov (.var 1)), none, none⟩,
  ⟨(.mov (.var 3)), none, none⟩,
  ⟨(.ia 1 (.loc 1) (.loc 0)), none, none⟩,
  ⟨(.load false 1 (.loc 0)), none, none⟩,
  ⟨(.bin .neq (.loc 4) (.loc 0)), (some 8), none⟩]
def c31_7 : List CO := [⟨(.mov (.k (.bool false))), (some 2), none⟩]
def c31_8 : List CO := [⟨(.bin .add (.var 6) (.k (.int .i64 1))), none, none⟩,
  ⟨(.mov (.loc 0)), (some 6), none⟩]
def c31_9 : CC := (.seq (.region [] [] c31_4) (.seq (.cond (.var 7) .skip (.exit 0)) (.seq (.block 1 (.seq (.region [] [] c31_5) (.seq (.region [] [] c31_6) (.cond (.var 8) (.seq (.region [] [] c31_7) .ret) .skip)))) (.region [] [] c31_8))))
def c31_10 : List CO := [⟨(.mov (.k (.bool true))), (some 2), none⟩]
def c31 : CFun := ⟨2, 9, (.seq (.region [] [] c31_0) (.seq (.seq (.region [] [] c31_1) (.cond (.var 4) (.seq (.region [] [] c31_2) .ret) .skip)) (.seq (.seq (.region [] [] c31_3) (.block 0 (.loop [true, true, false, false, false, true, true, false, false] [] c31_9))) (.seq (.region [] [] c31_10) .ret)))), [.var 2]⟩
theorem ok31 : CodeOk Tryd.prog T 31 c31 := ⟨⟨Tryd.f31, Hints.of [] [] [(0, [true, true, false, false, false, true, true, false, false], [])], [0, 1, 4, 5, 10, 12, 13, 14, 24], Tryd.func31, by kernel_rfl, by kernel_rfl⟩⟩

/-! spinney/spinneyref03.Vars -/
def c33_0 : List CO := [⟨(.box 24 (.var 0)), (some 1), none⟩,
  ⟨(.mov (.k (.slice none 0 0))), (some 2), none⟩]
def c33_1 : List CO := [⟨(.mov (.k (.slice none 0 0))), (some 3), none⟩]
def c33_2 : List CO := [⟨(.load true 4 (.var 1)), none, none⟩,
  ⟨(.call true 42 [(.loc 0)]), (some 5), none⟩,
  ⟨(.len .slice (.var 5)), (some 6), none⟩,
  ⟨(.mov (.k (.int .i64 0))), (some 7), none⟩]
def c33_3 : List CO := [⟨(.bin .lss (.var 7) (.var 6)), (some 8), none⟩]
def c33_4 : List CO := [⟨(.ia 1 (.var 5) (.var 7)), none, none⟩,
  ⟨(.load false 1 (.loc 0)), none, none⟩,
  ⟨(.mov (.loc 0)), (some 4), none⟩]
def c33_5 : List CO := [⟨(.mov (.var 3)), none, none⟩,
  ⟨(.mov (.var 4)), none, none⟩,
  ⟨(.callf 59 [(.loc 1), (.loc 0)]), none, none⟩,
  ⟨(.un .not (.loc 0)), (some 9), none⟩]
def c33_6 : List CO := [⟨(.mov (.var 3)), none, none⟩,
  ⟨(.mov (.var 4)), none, none⟩,
  ⟨(.bslice 1 [(.int .i64 0)] 1 [(0, (.loc 0))]), none, none⟩,
  ⟨(.append 2 1 8 (.loc 2) (.loc 0)), none, none⟩,
  ⟨(.mov (.loc 0)), (some 3), none⟩]
def c33_7 : List CO := [⟨(.bin .add (.var 7) (.k (.int .i64 1))), none, none⟩,
  ⟨(.mov (.loc 0)), (some 7), none⟩]
def c33_8 : CC := (.seq (.region [] [] c33_3) (.seq (.cond (.var 8) .skip (.exit 0)) (.seq (.block 1 (.seq (.region [] [] c33_4) (.seq (.region [] [] c33_5) (.cond (.var 9) (.region [] [] c33_6) .skip)))) (.region [] [] c33_7))))
def c33_9 : List CO := [⟨(.mov (.var 3)), none, none⟩,
  ⟨(.mov (.loc 0)), (some 2), none⟩]
def c33 : CFun := ⟨1, 10, (.seq (.region [] [] c33_0) (.seq (.region [] [] c33_1) (.seq (.seq (.region [] [] c33_2) (.block 0 (.loop [false, false, false, true, false, true, true, true, false, false] [] c33_8))) (.seq (.region [] [] c33_9) .ret)))), [.var 2]⟩
theorem ok33 : CodeOk Tryd.prog T 33 c33 := ⟨⟨Tryd.f33, Hints.of [] [] [(0, [false, false, false, true, false, true, true, true, false, false], [])], [0, 1, 2, 3, 5, 7, 8, 9, 10, 16], Tryd.func33, by kernel_rfl, by kernel_rfl⟩⟩

/-! spinney/spinneyref03.Copy -/
def c34_0 : List CO := [⟨(.box 24 (.var 0)), (some 1), none⟩,
  ⟨(.box 24 (.k (.agg #[(.int .i64 0), (.string ⟨#[]⟩), (.int .i64 0), (.slice none 0 0)]))), (some 2), none⟩]
def c34_1 : List CO := [⟨(.load true 4 (.var 1)), none, none⟩,
  ⟨(.call true 30 [(.loc 0), (.k (.int .i64 0))]), none, none⟩,
  ⟨(.store 4 (.var 2) (.loc 0)), none, none⟩]
def c34 : CFun := ⟨1, 3, (.seq (.region [] [] c34_0) (.seq (.region [] [] c34_1) .ret)), [.cell 2 true 4]⟩
theorem ok34 : CodeOk Tryd.prog T 34 c34 := ⟨⟨Tryd.f34, Hints.of [] [] [], [0, 1, 2], Tryd.func34, by kernel_rfl, by kernel_rfl⟩⟩


/-! spinney/spinneyref03.Var1 -/
def c36_0 : List CO := [⟨(.box 24 (.k (.agg #[(.int .i64 0), (.string ⟨#[]⟩), (.int .i64 0), (.slice none 0 0)]))), (some 1), none⟩]
def c36_1 : List CO := [⟨(.mov (.var 0)), none, none⟩,
  ⟨(.build [(.int .i64 0), (.string ⟨#[]⟩), (.int .i64 0), (.slice none 0 0)] [(0, 1, (.k (.int .i64 1))), (2, 1, (.loc 0))]), none, none⟩,
  ⟨(.store 4 (.var 1) (.loc 0)), none, none⟩]
def c36 : CFun := ⟨1, 2, (.seq (.region [] [] c36_0) (.seq (.region [] [] c36_1) .ret)), [.cell 1 true 4]⟩
theorem ok36 : CodeOk Tryd.prog T 36 c36 := ⟨⟨Tryd.f36, Hints.of [] [] [], [0, 2], Tryd.func36, by kernel_rfl, by kernel_rfl⟩⟩

/-! spinney/spinneyref03.Atom1 -/
def c37_0 : List CO := [⟨(.box 24 (.k (.agg #[(.int .i64 0), (.string ⟨#[]⟩), (.int .i64 0), (.slice none 0 0)]))), (some 1), none⟩]
def c37_1 : List CO := [⟨(.mov (.var 0)), none, none⟩,
  ⟨(.build [(.int .i64 0), (.string ⟨#[]⟩), (.int .i64 0), (.slice none 0 0)] [(0, 1, (.k (.int .i64 2))), (1, 1, (.loc 0))]), none, none⟩,
  ⟨(.store 4 (.var 1) (.loc 0)), none, none⟩]
def c37 : CFun := ⟨1, 2, (.seq (.region [] [] c37_0) (.seq (.region [] [] c37_1) .ret)), [.cell 1 true 4]⟩
theorem ok37 : CodeOk Tryd.prog T 37 c37 := ⟨⟨Tryd.f37, Hints.of [] [] [], [0, 2], Tryd.func37, by kernel_rfl, by kernel_rfl⟩⟩

/-! spinney/spinneyref03.Int1 -/
def c38_0 : List CO := [⟨(.box 24 (.k (.agg #[(.int .i64 0), (.string ⟨#[]⟩), (.int .i64 0), (.slice none 0 0)]))), (some 1), none⟩]
def c38_1 : List CO := [⟨(.mov (.var 0)), none, none⟩,
  ⟨(.build [(.int .i64 0), (.string ⟨#[]⟩), (.int .i64 0), (.slice none 0 0)] [(0, 1, (.k (.int .i64 3))), (2, 1, (.loc 0))]), none, none⟩,
  ⟨(.store 4 (.var 1) (.loc 0)), none, none⟩]
def c38 : CFun := ⟨1, 2, (.seq (.region [] [] c38_0) (.seq (.region [] [] c38_1) .ret)), [.cell 1 true 4]⟩
theorem ok38 : CodeOk Tryd.prog T 38 c38 := ⟨⟨Tryd.f38, Hints.of [] [] [], [0, 2], Tryd.func38, by kernel_rfl, by kernel_rfl⟩⟩

/-! spinney/spinneyref03.Few -/
def c39_0 : List CO := [⟨(.box 24 (.var 0)), (some 2), none⟩,
  ⟨(.mov (.k (.bool false))), (some 3), none⟩]
def c39_1 : List CO := [⟨(.load true 4 (.var 2)), none, none⟩,
  ⟨(.mov (.var 1)), none, none⟩,
  ⟨(.call true 61 [(.loc 1), (.loc 0)]), none, none⟩,
  ⟨(.bin .geq (.loc 0) (.k (.int .i64 0))), none, none⟩,
  ⟨(.mov (.loc 0)), (some 3), none⟩]
def c39 : CFun := ⟨2, 4, (.seq (.region [] [] c39_0) (.seq (.region [] [] c39_1) .ret)), [.var 3]⟩
theorem ok39 : CodeOk Tryd.prog T 39 c39 := ⟨⟨Tryd.f39, Hints.of [] [] [], [0, 1, 2, 4], Tryd.func39, by kernel_rfl, by kernel_rfl⟩⟩

/-! (*spinney/term.pairs).variant -/
def c40_0 : List CO := [⟨(.box 24 (.var 1)), (some 3), none⟩,
  ⟨(.box 24 (.var 2)), (some 4), none⟩,
  ⟨(.mov (.k (.bool false))), (some 5), none⟩]
def c40_1 : List CO := [⟨(.fa 0 (.var 3)), none, none⟩,
  ⟨(.load false 1 (.loc 0)), none, none⟩,
  ⟨(.fa 0 (.var 4)), none, none⟩,
  ⟨(.load false 1 (.loc 0)), none, none⟩,
  ⟨(.bin .neq (.loc 2) (.loc 0)), none, none⟩,
  ⟨(.mov (.loc 0)), none, none⟩,
  ⟨(.fa 1 (.var 3)), none, (some ((.loc 0), false))⟩,
  ⟨(.load false 1 (.loc 0)), none, (some ((.loc 1), false))⟩,
  ⟨(.fa 1 (.var 4)), none, (some ((.loc 2), false))⟩,
  ⟨(.load false 1 (.loc 0)), none, (some ((.loc 3), false))⟩,
  ⟨(.bin .neq (.loc 2) (.loc 0)), none, (some ((.loc 4), false))⟩,
  ⟨(.pick (.loc 5) (.k (.bool true)) (.loc 0)), none, none⟩,
  ⟨(.mov (.loc 0)), none, none⟩,
  ⟨(.fa 3 (.var 3)), none, (some ((.loc 0), false))⟩,
  ⟨(.load false 1 (.loc 0)), none, (some ((.loc 1), false))⟩,
  ⟨(.len .slice (.loc 0)), none, (some ((.loc 2), false))⟩,
  ⟨(.fa 3 (.var 4)), none, (some ((.loc 3), false))⟩,
  ⟨(.load false 1 (.loc 0)), none, (some ((.loc 4), false))⟩,
  ⟨(.len .slice (.loc 0)), none, (some ((.loc 5), false))⟩,
  ⟨(.bin .neq (.loc 3) (.loc 0)), none, (some ((.loc 6), false))⟩,
  ⟨(.pick (.loc 7) (.k (.bool true)) (.loc 0)), (some 12), none⟩]
def c40_2 : List CO := [⟨(.mov (.k (.bool false))), (some 5), none⟩]
def c40_3 : List CO := [⟨(.fa 0 (.var 3)), none, none⟩,
  ⟨(.load false 1 (.loc 0)), none, none⟩,
  ⟨(.bin .eql (.loc 0) (.k (.int .i64 1))), (some 13), none⟩]
def c40_4 : List CO := [⟨(.mov (.var 0)), none, none⟩,
  ⟨(.nilchk (.loc 0)), none, none⟩,
  ⟨(.fa 0 (.loc 0)), none, none⟩,
  ⟨(.load false 1 (.loc 0)), none, none⟩,
  ⟨(.fa 2 (.var 3)), none, none⟩,
  ⟨(.load false 1 (.loc 0)), none, none⟩,
  ⟨(.lookup (.int .i64) (.int .i64 0) true (.loc 2) (.loc 0)), none, none⟩,
  ⟨(.mov (.loc 0)), none, none⟩,
  ⟨(.extract (.loc 0) 0), none, none⟩,
  ⟨(.extract (.loc 1) 1), none, none⟩,
  ⟨(.mov (.loc 1)), (some 6), none⟩,
  ⟨(.mov (.loc 1)), (some 7), none⟩]
def c40_5 : List CO := [⟨(.mov (.var 0)), none, none⟩,
  ⟨(.nilchk (.loc 0)), none, none⟩,
  ⟨(.fa 1 (.loc 0)), none, none⟩,
  ⟨(.load false 1 (.loc 0)), none, none⟩,
  ⟨(.fa 2 (.var 4)), none, none⟩,
  ⟨(.load false 1 (.loc 0)), none, none⟩,
  ⟨(.lookup (.int .i64) (.int .i64 0) true (.loc 2) (.loc 0)), none, none⟩,
  ⟨(.mov (.loc 0)), none, none⟩,
  ⟨(.extract (.loc 0) 0), none, none⟩,
  ⟨(.extract (.loc 1) 1), none, none⟩,
  ⟨(.mov (.loc 1)), (some 8), none⟩,
  ⟨(.mov (.loc 1)), (some 9), none⟩]
def c40_6 : List CO := [⟨(.mov (.var 7)), none, none⟩,
  ⟨(.un .not (.loc 0)), none, none⟩,
  ⟨(.mov (.loc 0)), none, none⟩,
  ⟨(.mov (.var 9)), none, (some ((.loc 0), true))⟩,
  ⟨(.un .not (.loc 0)), none, (some ((.loc 1), true))⟩,
  ⟨(.pick (.loc 2) (.loc 0) (.k (.bool false))), (some 14), none⟩]
def c40_7 : List CO := [⟨(.mov (.var 0)), none, none⟩,
  ⟨(.nilchk (.loc 0)), none, none⟩,
  ⟨(.fa 0 (.loc 0)), none, none⟩,
  ⟨(.load false 1 (.loc 0)), none, none⟩,
  ⟨(.fa 2 (.var 3)), none, none⟩,
  ⟨(.load false 1 (.loc 0)), none, none⟩,
  ⟨(.mov (.var 0)), none, none⟩,
  ⟨(.nilchk (.loc 0)), none, none⟩,
  ⟨(.fa 1 (.loc 0)), none, none⟩,
  ⟨(.load false 1 (.loc 0)), none, none⟩,
  ⟨(.fa 2 (.var 4)), none, none⟩,
  ⟨(.load false 1 (.loc 0)), none, none⟩,
  ⟨(.fa 2 (.var 4)), none, none⟩,
  ⟨(.load false 1 (.loc 0)), none, none⟩,
  ⟨(.fa 2 (.var 3)), none, none⟩,
  ⟨(.load false 1 (.loc 0)), none, none⟩,
  ⟨(.mentry (.int .i64) (.int .i64 0) (.loc 12) (.loc 10)), none, none⟩,
  ⟨(.extract (.loc 0) 1), none, none⟩,
  ⟨(.estore (.loc 14) (.loc 0) (.loc 4)), none, none⟩,
  ⟨(.mentry (.int .i64) (.int .i64 0) (.loc 9) (.loc 7)), none, none⟩,
  ⟨(.extract (.loc 0) 1), none, none⟩,
  ⟨(.estore (.loc 11) (.loc 0) (.loc 5)), none, none⟩]
def c40_8 : List CO := [⟨(.mov (.var 7)), none, none⟩,
  ⟨(.mov (.var 9)), none, none⟩,
  ⟨(.eqv .bool true (.loc 1) (.loc 0)), none, none⟩,
  ⟨(.mov (.loc 0)), none, none⟩,
  ⟨(.mov (.var 6)), none, (some ((.loc 0), false))⟩,
  ⟨(.fa 2 (.var 4)), none, (some ((.loc 1), false))⟩,
  ⟨(.load false 1 (.loc 0)), none, (some ((.loc 2), false))⟩,
  ⟨(.bin .neq (.loc 2) (.loc 0)), none, (some ((.loc 3), false))⟩,
  ⟨(.pick (.loc 4) (.k (.bool true)) (.loc 0)), none, none⟩,
  ⟨(.mov (.loc 0)), none, none⟩,
  ⟨(.mov (.var 8)), none, (some ((.loc 0), false))⟩,
  ⟨(.fa 2 (.var 3)), none, (some ((.loc 1), false))⟩,
  ⟨(.load false 1 (.loc 0)), none, (some ((.loc 2), false))⟩,
  ⟨(.bin .neq (.loc 2) (.loc 0)), none, (some ((.loc 3), false))⟩,
  ⟨(.pick (.loc 4) (.k (.bool true)) (.loc 0)), (some 15), none⟩]
def c40_9 : List CO := [⟨(.mov (.k (.bool false))), (some 5), none⟩]
def c40_10 : List CO := [⟨(.fa 2 (.var 3)), none, none⟩,
  ⟨(.load false 1 (.loc 0)), none, none⟩,
  ⟨(.fa 2 (.var 4)), none, none⟩,
  ⟨(.load false 1 (.loc 0)), none, none⟩,
  ⟨(.bin .neq (.loc 2) (.loc 0)), (some 16), none⟩]
def c40_11 : List CO := [⟨(.mov (.k (.bool false))), (some 5), none⟩]
def c40_12 : List CO := [⟨(.fa 3 (.var 3)), none, none⟩,
  ⟨(.load false 1 (.loc 0)), (some 17), none⟩,
  ⟨(.len .slice (.var 17)), (some 18), none⟩,
  ⟨(.mov (.k (.int .i64 0))), (some 19), none⟩]
def c40_13 : List CO := [⟨(.bin .lss (.var 19) (.var 18)), (some 20), none⟩]
def c40_14 : List CO := [⟨(.mov (.var 19)), none, none⟩,
  ⟨(.ia 4 (.var 17) (.var 19)), none, none⟩,
  ⟨(.load true 4 (.loc 0)), none, none⟩,
  ⟨(.box 24 (.k (.agg #[(.int .i64 0), (.string ⟨#[]⟩), (.int .i64 0), (.slice none 0 0)]))), (some 11), none⟩,
  ⟨(.mov (.loc 3)), (some 10), none⟩,
  ⟨(.store 4 (.var 11) (.loc 2)), none, none⟩]
def c40_15 : List CO := [⟨(.mov (.var 0)), none, none⟩,
  ⟨(.load true 4 (.var 11)), none, none⟩,
  ⟨(.fa 3 (.var 4)), none, none⟩,
  ⟨(.load false 1 (.loc 0)), none, none⟩,
  ⟨(.mov (.var 10)), none, none⟩,
  ⟨(.ia 4 (.loc 1) (.loc 0)), none, none⟩,
  ⟨(.load true 4 (.loc 0)), none, none⟩,
  ⟨(.call false 40 [(.loc 6), (.loc 5), (.loc 0)]), none, none⟩,
  ⟨(.un .not (.loc 0)), (some 21), none⟩]
def c40_16 : List CO := [⟨(.mov (.k (.bool false))), (some 5), none⟩]
def c40_17 : List CO := [⟨(.bin .add (.var 19) (.k (.int .i64 1))), none, none⟩,
  ⟨(.mov (.loc 0)), (some 19), none⟩]
def c40_18 : CC := (.seq (.region [] [] c40_13) (.seq (.cond (.var 20) .skip (.exit 0)) (.seq (.block 1 (.seq (.region [] [] c40_14) (.seq (.region [] [] c40_15) (.cond (.var 21) (.seq (.region [] [] c40_16) .ret) .skip)))) (.region [] [] c40_17))))
def c40_19 : List CO := [⟨(.mov (.k (.bool true))), (some 5), none⟩]
def c40 : CFun := ⟨3, 22, (.seq (.region [] [] c40_0) (.seq (.seq (.region [] [] c40_1) (.cond (.var 12) (.seq (.region [] [] c40_2) .ret) .skip)) (.seq (.seq (.region [] [] c40_3) (.cond (.var 13) (.seq (.region [] [] c40_4) (.seq (.region [] [] c40_5) (.seq (.region [] [] c40_6) (.cond (.var 14) (.region [] [] c40_7) (.seq (.region [] [] c40_8) (.cond (.var 15) (.seq (.region [] [] c40_9) .ret) .skip)))))) (.seq (.region [] [] c40_10) (.cond (.var 16) (.seq (.region [] [] c40_11) .ret) .skip)))) (.seq (.seq (.region [] [] c40_12) (.block 0 (.loop [true, false, false, false, true, false, false, false, false, false, false, false, false, false, false, false, false, true, true, true, false, false] [] c40_18))) (.seq (.region [] [] c40_19) .ret))))), [.var 5]⟩
theorem ok40 : CodeOk Tryd.prog T 40 c40 := ⟨⟨Tryd.f40, Hints.of [] [] [(0, [true, false, false, false, true, false, false, false, false, false, false, false, false, false, false, false, false, true, true, true, false, false], [])], [0, 1, 2, 4, 5, 6, 7, 8, 9, 10, 11, 12, 33, 36, 62, 97, 102, 104, 105, 106, 107, 119], Tryd.func40, by kernel_rfl, by kernel_rfl⟩⟩

/-! spinney/spinneyref03.bare -/
def c41_0 : List CO := [⟨(.box 24 (.var 0)), (some 1), none⟩,
  ⟨(.box 24 (.k (.agg #[(.int .i64 0), (.string ⟨#[]⟩), (.int .i64 0), (.slice none 0 0)]))), (some 2), none⟩]
def c41_1 : List CO := [⟨(.fa 0 (.var 1)), none, none⟩,
  ⟨(.load false 1 (.loc 0)), none, none⟩,
  ⟨(.bin .eql (.loc 0) (.k (.int .i64 1))), (some 5), none⟩]
def c41_2 : List CO := [⟨(.fa 2 (.var 1)), none, none⟩,
  ⟨(.store 1 (.loc 0) (.k (.int .i64 0))), none, none⟩]
def c41_3 : List CO := [⟨(.mov (.k (.slice none 0 0))), (some 3), none⟩]
def c41_4 : List CO := [⟨(.fa 3 (.var 1)), none, none⟩,
  ⟨(.load false 1 (.loc 0)), (some 6), none⟩,
  ⟨(.len .slice (.var 6)), (some 7), none⟩,
  ⟨(.mov (.k (.int .i64 0))), (some 8), none⟩]
def c41_5 : List CO := [⟨(.bin .lss (.var 8) (.var 7)), (some 9), none⟩]
def c41_6 : List CO := [⟨(.ia 4 (.var 6) (.var 8)), none, none⟩,
  ⟨(.load true 4 (.loc 0)), none, none⟩,
  ⟨(.box 24 (.k (.agg #[(.int .i64 0), (.string ⟨#[]⟩), (.int .i64 0), (.slice none 0 0)]))), (some 4), none⟩,
  ⟨(.store 4 (.var 4) (.loc 1)), none, none⟩]
def c41_7 : List CO := [⟨(.mov (.var 3)), none, none⟩,
  ⟨(.load true 4 (.var 4)), none, none⟩,
  ⟨(.call true 41 [(.loc 0)]), none, none⟩,
  ⟨(.bslice 4 [(.int .i64 0), (.string ⟨#[]⟩), (.int .i64 0), (.slice none 0 0)] 1 [(0, (.loc 0))]), none, none⟩,
  ⟨(.append 24 4 56 (.loc 3) (.loc 0)), none, none⟩,
  ⟨(.mov (.loc 0)), (some 3), none⟩]
def c41_8 : List CO := [⟨(.bin .add (.var 8) (.k (.int .i64 1))), none, none⟩,
  ⟨(.mov (.loc 0)), (some 8), none⟩]
def c41_9 : CC := (.seq (.region [] [] c41_5) (.seq (.cond (.var 9) .skip (.exit 0)) (.seq (.block 1 (.seq (.region [] [] c41_6) (.region [] [] c41_7))) (.region [] [] c41_8))))
def c41_10 : List CO := [⟨(.mov (.var 3)), none, none⟩,
  ⟨(.fa 3 (.var 1)), none, none⟩,
  ⟨(.store 1 (.loc 0) (.loc 1)), none, none⟩]
def c41_11 : List CO := [⟨(.load true 4 (.var 1)), none, none⟩,
  ⟨(.store 4 (.var 2) (.loc 0)), none, none⟩]
def c41 : CFun := ⟨1, 10, (.seq (.region [] [] c41_0) (.seq (.seq (.region [] [] c41_1) (.cond (.var 5) (.region [] [] c41_2) .skip)) (.seq (.region [] [] c41_3) (.seq (.seq (.region [] [] c41_4) (.block 0 (.loop [false, true, true, true, false, false, true, true, true, false] [] c41_9))) (.seq (.region [] [] c41_10) (.seq (.region [] [] c41_11) .ret)))))), [.cell 2 true 4]⟩
theorem ok41 : CodeOk Tryd.prog T 41 c41 := ⟨⟨Tryd.f41, Hints.of [] [] [(0, [false, true, true, true, false, false, true, true, true, false], [])], [0, 1, 2, 3, 5, 8, 11, 12, 13, 14], Tryd.func41, by kernel_rfl, by kernel_rfl⟩⟩

/-! spinney/spinneyref03.places -/
def c42_0 : List CO := [⟨(.box 24 (.var 0)), (some 1), none⟩,
  ⟨(.mov (.k (.slice none 0 0))), (some 2), none⟩]
def c42_1 : List CO := [⟨(.mov (.k (.slice none 0 0))), (some 3), none⟩]
def c42_2 : List CO := [⟨(.fa 0 (.var 1)), none, none⟩,
  ⟨(.load false 1 (.loc 0)), none, none⟩,
  ⟨(.bin .eql (.loc 0) (.k (.int .i64 1))), (some 5), none⟩]
def c42_3 : List CO := [⟨(.mov (.var 3)), none, none⟩,
  ⟨(.fa 2 (.var 1)), none, none⟩,
  ⟨(.load false 1 (.loc 0)), none, none⟩,
  ⟨(.bslice 1 [(.int .i64 0)] 1 [(0, (.loc 0))]), none, none⟩,
  ⟨(.append 2 1 8 (.loc 3) (.loc 0)), none, none⟩,
  ⟨(.mov (.loc 0)), (some 3), none⟩]
def c42_4 : List CO := [⟨(.fa 3 (.var 1)), none, none⟩,
  ⟨(.load false 1 (.loc 0)), (some 6), none⟩,
  ⟨(.len .slice (.var 6)), (some 7), none⟩,
  ⟨(.mov (.k (.int .i64 0))), (some 8), none⟩]
def c42_5 : List CO := [⟨(.bin .lss (.var 8) (.var 7)), (some 9), none⟩]
def c42_6 : List CO := [⟨(.ia 4 (.var 6) (.var 8)), none, none⟩,
  ⟨(.load true 4 (.loc 0)), none, none⟩,
  ⟨(.box 24 (.k (.agg #[(.int .i64 0), (.string ⟨#[]⟩), (.int .i64 0), (.slice none 0 0)]))), (some 4), none⟩,
  ⟨(.store 4 (.var 4) (.loc 1)), none, none⟩]
def c42_7 : List CO := [⟨(.mov (.var 3)), none, none⟩,
  ⟨(.load true 4 (.var 4)), none, none⟩,
  ⟨(.call true 42 [(.loc 0)]), none, none⟩,
  ⟨(.append 2 1 8 (.loc 2) (.loc 0)), none, none⟩,
  ⟨(.mov (.loc 0)), (some 3), none⟩]
def c42_8 : List CO := [⟨(.bin .add (.var 8) (.k (.int .i64 1))), none, none⟩,
  ⟨(.mov (.loc 0)), (some 8), none⟩]
def c42_9 : CC := (.seq (.region [] [] c42_5) (.seq (.cond (.var 9) .skip (.exit 0)) (.seq (.block 1 (.seq (.region [] [] c42_6) (.region [] [] c42_7))) (.region [] [] c42_8))))
def c42_10 : List CO := [⟨(.mov (.var 3)), none, none⟩,
  ⟨(.mov (.loc 0)), (some 2), none⟩]
def c42 : CFun := ⟨1, 10, (.seq (.region [] [] c42_0) (.seq (.region [] [] c42_1) (.seq (.seq (.region [] [] c42_2) (.cond (.var 5) (.region [] [] c42_3) .skip)) (.seq (.seq (.region [] [] c42_4) (.block 0 (.loop [false, false, false, true, false, false, true, true, true, false] [] c42_9))) (.seq (.region [] [] c42_10) .ret))))), [.var 2]⟩
theorem ok42 : CodeOk Tryd.prog T 42 c42 := ⟨⟨Tryd.f42, Hints.of [] [] [(0, [false, false, false, true, false, false, true, true, true, false], [])], [0, 1, 2, 3, 5, 8, 15, 16, 17, 18], Tryd.func42, by kernel_rfl, by kernel_rfl⟩⟩

/-! spinney/spinneyref03.may -/
def c43_0 : List CO := [⟨(.box 24 (.var 0)), (some 1), none⟩,
  ⟨(.mov (.k (.bool false))), (some 2), none⟩]
def c43_1 : List CO := [⟨(.fa 0 (.var 1)), none, none⟩,
  ⟨(.load false 1 (.loc 0)), (some 4), none⟩]
def c43_2 : List CO := [⟨(.bin .eql (.var 4) (.k (.int .i64 1))), none, none⟩,
  ⟨(.mov (.loc 0)), (some 5), none⟩]
def c43_3 : List CO := [⟨(.fa 2 (.var 1)), none, none⟩,
  ⟨(.load false 1 (.loc 0)), none, none⟩,
  ⟨(.bin .geq (.loc 0) (.k (.int .i64 0))), none, none⟩,
  ⟨(.mov (.loc 0)), none, none⟩,
  ⟨(.fa 1 (.var 1)), none, (some ((.loc 0), true))⟩,
  ⟨(.load false 1 (.loc 0)), none, (some ((.loc 1), true))⟩,
  ⟨(.bin .eql (.loc 0) (.k (.string ⟨#[]⟩))), none, (some ((.loc 2), true))⟩,
  ⟨(.pick (.loc 3) (.loc 0) (.k (.bool false))), none, none⟩,
  ⟨(.mov (.loc 0)), none, none⟩,
  ⟨(.fa 3 (.var 1)), none, (some ((.loc 0), true))⟩,
  ⟨(.load false 1 (.loc 0)), none, (some ((.loc 1), true))⟩,
  ⟨(.len .slice (.loc 0)), none, (some ((.loc 2), true))⟩,
  ⟨(.bin .eql (.loc 0) (.k (.int .i64 0))), none, (some ((.loc 3), true))⟩,
  ⟨(.pick (.loc 4) (.loc 0) (.k (.bool false))), none, none⟩,
  ⟨(.mov (.loc 0)), (some 2), none⟩]
def c43_4 : List CO := [⟨(.bin .eql (.var 4) (.k (.int .i64 2))), none, none⟩,
  ⟨(.mov (.loc 0)), (some 6), none⟩]
def c43_5 : List CO := [⟨(.fa 2 (.var 1)), none, none⟩,
  ⟨(.load false 1 (.loc 0)), none, none⟩,
  ⟨(.bin .eql (.loc 0) (.k (.int .i64 0))), none, none⟩,
  ⟨(.mov (.loc 0)), none, none⟩,
  ⟨(.fa 1 (.var 1)), none, (some ((.loc 0), true))⟩,
  ⟨(.load false 1 (.loc 0)), none, (some ((.loc 1), true))⟩,
  ⟨(.call true 62 [(.loc 0)]), none, (some ((.loc 2), true))⟩,
  ⟨(.pick (.loc 3) (.loc 0) (.k (.bool false))), none, none⟩,
  ⟨(.mov (.loc 0)), none, none⟩,
  ⟨(.fa 3 (.var 1)), none, (some ((.loc 0), true))⟩,
  ⟨(.load false 1 (.loc 0)), none, (some ((.loc 1), true))⟩,
  ⟨(.len .slice (.loc 0)), none, (some ((.loc 2), true))⟩,
  ⟨(.bin .eql (.loc 0) (.k (.int .i64 0))), none, (some ((.loc 3), true))⟩,
  ⟨(.pick (.loc 4) (.loc 0) (.k (.bool false))), none, none⟩,
  ⟨(.mov (.loc 0)), (some 2), none⟩]
def c43_6 : List CO := [⟨(.bin .eql (.var 4) (.k (.int .i64 3))), none, none⟩,
  ⟨(.mov (.loc 0)), (some 7), none⟩]
def c43_7 : List CO := [⟨(.fa 1 (.var 1)), none, none⟩,
  ⟨(.load false 1 (.loc 0)), none, none⟩,
  ⟨(.bin .eql (.loc 0) (.k (.string ⟨#[]⟩))), none, none⟩,
  ⟨(.mov (.loc 0)), none, none⟩,
  ⟨(.fa 3 (.var 1)), none, (some ((.loc 0), true))⟩,
  ⟨(.load false 1 (.loc 0)), none, (some ((.loc 1), true))⟩,
  ⟨(.len .slice (.loc 0)), none, (some ((.loc 2), true))⟩,
  ⟨(.bin .eql (.loc 0) (.k (.int .i64 0))), none, (some ((.loc 3), true))⟩,
  ⟨(.pick (.loc 4) (.loc 0) (.k (.bool false))), none, none⟩,
  ⟨(.mov (.loc 0)), (some 2), none⟩]
def c43_8 : List CO := [⟨(.bin .eql (.var 4) (.k (.int .i64 4))), none, none⟩,
  ⟨(.mov (.loc 0)), (some 8), none⟩]
def c43_9 : List CO := [⟨(.fa 2 (.var 1)), none, none⟩,
  ⟨(.load false 1 (.loc 0)), none, none⟩,
  ⟨(.bin .neq (.loc 0) (.k (.int .i64 0))), none, none⟩,
  ⟨(.mov (.loc 0)), none, none⟩,
  ⟨(.fa 1 (.var 1)), none, (some ((.loc 0), false))⟩,
  ⟨(.load false 1 (.loc 0)), none, (some ((.loc 1), false))⟩,
  ⟨(.call true 62 [(.loc 0)]), none, (some ((.loc 2), false))⟩,
  ⟨(.un .not (.loc 0)), none, (some ((.loc 3), false))⟩,
  ⟨(.pick (.loc 4) (.k (.bool true)) (.loc 0)), none, none⟩,
  ⟨(.mov (.loc 0)), none, none⟩,
  ⟨(.fa 3 (.var 1)), none, (some ((.loc 0), false))⟩,
  ⟨(.load false 1 (.loc 0)), none, (some ((.loc 1), false))⟩,
  ⟨(.len .slice (.loc 0)), none, (some ((.loc 2), false))⟩,
  ⟨(.bin .lss (.loc 0) (.k (.int .i64 1))), none, (some ((.loc 3), false))⟩,
  ⟨(.pick (.loc 4) (.k (.bool true)) (.loc 0)), none, none⟩,
  ⟨(.mov (.loc 0)), none, none⟩,
  ⟨(.fa 3 (.var 1)), none, (some ((.loc 0), false))⟩,
  ⟨(.load false 1 (.loc 0)), none, (some ((.loc 1), false))⟩,
  ⟨(.len .slice (.loc 0)), none, (some ((.loc 2), false))⟩,
  ⟨(.bin .gtr (.loc 0) (.k (.int .i64 16))), none, (some ((.loc 3), false))⟩,
  ⟨(.pick (.loc 4) (.k (.bool true)) (.loc 0)), (some 9), none⟩]
def c43_10 : List CO := [⟨(.mov (.k (.bool false))), (some 2), none⟩]
def c43_11 : List CO := [⟨(.fa 3 (.var 1)), none, none⟩,
  ⟨(.load false 1 (.loc 0)), (some 10), none⟩,
  ⟨(.len .slice (.var 10)), (some 11), none⟩,
  ⟨(.mov (.k (.int .i64 0))), (some 12), none⟩]
def c43_12 : List CO := [⟨(.bin .lss (.var 12) (.var 11)), (some 13), none⟩]
def c43_13 : List CO := [⟨(.ia 4 (.var 10) (.var 12)), none, none⟩,
  ⟨(.load true 4 (.loc 0)), none, none⟩,
  ⟨(.box 24 (.k (.agg #[(.int .i64 0), (.string ⟨#[]⟩), (.int .i64 0), (.slice none 0 0)]))), (some 3), none⟩,
  ⟨(.store 4 (.var 3) (.loc 1)), none, none⟩]
def c43_14 : List CO := [⟨(.load true 4 (.var 3)), none, none⟩,
  ⟨(.call true 43 [(.loc 0)]), none, none⟩,
  ⟨(.un .not (.loc 0)), (some 14), none⟩]
def c43_15 : List CO := [⟨(.mov (.k (.bool false))), (some 2), none⟩]
def c43_16 : List CO := [⟨(.bin .add (.var 12) (.k (.int .i64 1))), none, none⟩,
  ⟨(.mov (.loc 0)), (some 12), none⟩]
def c43_17 : CC := (.seq (.region [] [] c43_12) (.seq (.cond (.var 13) .skip (.exit 1)) (.seq (.block 2 (.seq (.region [] [] c43_13) (.seq (.region [] [] c43_14) (.cond (.var 14) (.seq (.region [] [] c43_15) .ret) .skip)))) (.region [] [] c43_16))))
def c43_18 : List CO := [⟨(.mov (.k (.bool true))), (some 2), none⟩]
def c43_19 : List CO := [⟨(.mov (.k (.bool false))), (some 2), none⟩]
def c43 : CFun := ⟨1, 15, (.seq (.region [] [] c43_0) (.seq (.seq (.region [] [] c43_1) (.block 0 (.seq (.region [] [] c43_2) (.cond (.var 5) (.seq (.region [] [] c43_3) .ret) (.seq (.region [] [] c43_4) (.cond (.var 6) (.seq (.region [] [] c43_5) .ret) (.seq (.region [] [] c43_6) (.cond (.var 7) (.seq (.region [] [] c43_7) .ret) (.seq (.region [] [] c43_8) (.cond (.var 8) (.seq (.seq (.region [] [] c43_9) (.cond (.var 9) (.seq (.region [] [] c43_10) .ret) .skip)) (.seq (.seq (.region [] [] c43_11) (.block 1 (.loop [false, false, false, false, false, false, false, false, false, false, true, true, true, false, false] [] c43_17))) (.seq (.region [] [] c43_18) .ret))) .skip)))))))))) (.seq (.region [] [] c43_19) .ret))), [.var 2]⟩
theorem ok43 : CodeOk Tryd.prog T 43 c43 := ⟨⟨Tryd.f43, Hints.of [] [] [(1, [false, false, false, false, false, false, false, false, false, false, true, true, true, false, false], [])], [0, 1, 2, 4, 6, 7, 23, 39, 50, 72, 74, 75, 76, 77, 82], Tryd.func43, by kernel_rfl, by kernel_rfl⟩⟩

/-! cmp.Or[int] -/
def c44_0 : List CO := [⟨(.mov (.k (.int .i64 0))), (some 1), none⟩]
def c44_1 : List CO := [⟨(.mov (.k (.int .i64 0))), (some 2), none⟩]
def c44_2 : List CO := [⟨(.mov (.var 0)), (some 4), none⟩,
  ⟨(.len .slice (.var 4)), (some 5), none⟩,
  ⟨(.mov (.k (.int .i64 0))), (some 6), none⟩]
def c44_3 : List CO := [⟨(.bin .lss (.var 6) (.var 5)), (some 7), none⟩]
def c44_4 : List CO := [⟨(.ia 1 (.var 4) (.var 6)), none, none⟩,
  ⟨(.load false 1 (.loc 0)), none, none⟩,
  ⟨(.mov (.loc 0)), (some 3), none⟩]
def c44_5 : List CO := [⟨(.mov (.var 3)), none, none⟩,
  ⟨(.mov (.var 2)), none, none⟩,
  ⟨(.bin .neq (.loc 1) (.loc 0)), (some 8), none⟩]
def c44_6 : List CO := [⟨(.mov (.var 3)), none, none⟩,
  ⟨(.mov (.loc 0)), (some 1), none⟩]
def c44_7 : List CO := [⟨(.bin .add (.var 6) (.k (.int .i64 1))), none, none⟩,
  ⟨(.mov (.loc 0)), (some 6), none⟩]
def c44_8 : CC := (.seq (.region [] [] c44_3) (.seq (.cond (.var 7) .skip (.exit 0)) (.seq (.block 1 (.seq (.region [] [] c44_4) (.seq (.region [] [] c44_5) (.cond (.var 8) (.seq (.region [] [] c44_6) .ret) .skip)))) (.region [] [] c44_7))))
def c44_9 : List CO := [⟨(.mov (.var 2)), none, none⟩,
  ⟨(.mov (.loc 0)), (some 1), none⟩]
def c44 : CFun := ⟨1, 9, (.seq (.region [] [] c44_0) (.seq (.region [] [] c44_1) (.seq (.seq (.region [] [] c44_2) (.block 0 (.loop [false, false, true, false, true, true, true, false, false] [] c44_8))) (.seq (.region [] [] c44_9) .ret)))), [.var 1]⟩
theorem ok44 : CodeOk Tryd.prog T 44 c44 := ⟨⟨Tryd.f44, Hints.of [] [] [(0, [false, false, true, false, true, true, true, false, false], [])], [0, 2, 3, 5, 6, 7, 8, 9, 14], Tryd.func44, by kernel_rfl, by kernel_rfl⟩⟩

/-! cmp.Compare[int] -/
def c45_0 : List CO := [⟨(.mov (.k (.int .i64 0))), (some 2), none⟩]
def c45_1 : List CO := [⟨(.mov (.var 0)), none, none⟩,
  ⟨(.call true 63 [(.loc 0)]), none, none⟩,
  ⟨(.mov (.loc 0)), (some 3), none⟩]
def c45_2 : List CO := [⟨(.mov (.var 1)), none, none⟩,
  ⟨(.call true 63 [(.loc 0)]), none, none⟩,
  ⟨(.mov (.loc 0)), (some 4), none⟩]
def c45_3 : List CO := [⟨(.mov (.var 3)), (some 5), none⟩]
def c45_4 : List CO := [⟨(.mov (.var 4)), (some 6), none⟩]
def c45_5 : List CO := [⟨(.mov (.k (.int .i64 0))), (some 2), none⟩]
def c45_6 : List CO := [⟨(.mov (.k (.int .i64 (-1)))), (some 2), none⟩]
def c45_7 : List CO := [⟨(.mov (.var 4)), (some 7), none⟩]
def c45_8 : List CO := [⟨(.mov (.k (.int .i64 1))), (some 2), none⟩]
def c45_9 : List CO := [⟨(.mov (.var 0)), none, none⟩,
  ⟨(.mov (.var 1)), none, none⟩,
  ⟨(.bin .lss (.loc 1) (.loc 0)), (some 8), none⟩]
def c45_10 : List CO := [⟨(.mov (.k (.int .i64 (-1)))), (some 2), none⟩]
def c45_11 : List CO := [⟨(.mov (.var 0)), none, none⟩,
  ⟨(.mov (.var 1)), none, none⟩,
  ⟨(.bin .gtr (.loc 1) (.loc 0)), (some 9), none⟩]
def c45_12 : List CO := [⟨(.mov (.k (.int .i64 1))), (some 2), none⟩]
def c45_13 : List CO := [⟨(.mov (.k (.int .i64 0))), (some 2), none⟩]
def c45 : CFun := ⟨2, 10, (.seq (.region [] [] c45_0) (.seq (.region [] [] c45_1) (.seq (.region [] [] c45_2) (.seq (.seq (.region [] [] c45_3) (.cond (.var 5) (.seq (.seq (.region [] [] c45_4) (.cond (.var 6) (.seq (.region [] [] c45_5) .ret) .skip)) (.seq (.region [] [] c45_6) .ret)) .skip)) (.seq (.seq (.region [] [] c45_7) (.cond (.var 7) (.seq (.region [] [] c45_8) .ret) .skip)) (.seq (.seq (.region [] [] c45_9) (.cond (.var 8) (.seq (.region [] [] c45_10) .ret) .skip)) (.seq (.seq (.region [] [] c45_11) (.cond (.var 9) (.seq (.region [] [] c45_12) .ret) .skip)) (.seq (.region [] [] c45_13) .ret)))))))), [.var 2]⟩
theorem ok45 : CodeOk Tryd.prog T 45 c45 := ⟨⟨Tryd.f45, Hints.of [] [] [], [0, 1, 4, 5, 6, 11, 12, 13, 16, 19], Tryd.func45, by kernel_rfl, by kernel_rfl⟩⟩

/-! spinney/term.order -/
def c46_0 : List CO := [⟨(.mov (.k (.int .i64 0))), (some 1), none⟩]
def c46_1 : List CO := [⟨(.mov (.var 0)), (some 2), none⟩]
def c46_2 : List CO := [⟨(.bin .eql (.var 2) (.k (.int .i64 1))), none, none⟩,
  ⟨(.mov (.loc 0)), (some 3), none⟩]
def c46_3 : List CO := [⟨(.mov (.k (.int .i64 (-2)))), (some 1), none⟩]
def c46_4 : List CO := [⟨(.bin .eql (.var 2) (.k (.int .i64 3))), none, none⟩,
  ⟨(.mov (.loc 0)), (some 4), none⟩]
def c46_5 : List CO := [⟨(.mov (.k (.int .i64 (-1)))), (some 1), none⟩]
def c46_6 : List CO := [⟨(.bin .eql (.var 2) (.k (.int .i64 2))), none, none⟩,
  ⟨(.mov (.loc 0)), (some 5), none⟩]
def c46_7 : List CO := [⟨(.mov (.k (.int .i64 0))), (some 1), none⟩]
def c46_8 : List CO := [⟨(.mov (.k (.int .i64 1))), (some 1), none⟩]
def c46 : CFun := ⟨1, 6, (.seq (.region [] [] c46_0) (.seq (.seq (.region [] [] c46_1) (.block 0 (.seq (.region [] [] c46_2) (.cond (.var 3) (.seq (.region [] [] c46_3) .ret) (.seq (.region [] [] c46_4) (.cond (.var 4) (.seq (.region [] [] c46_5) .ret) (.seq (.region [] [] c46_6) (.cond (.var 5) (.seq (.region [] [] c46_7) .ret) .skip)))))))) (.seq (.region [] [] c46_8) .ret))), [.var 1]⟩
theorem ok46 : CodeOk Tryd.prog T 46 c46 := ⟨⟨Tryd.f46, Hints.of [] [] [], [0, 2, 3, 4, 6, 8], Tryd.func46, by kernel_rfl, by kernel_rfl⟩⟩

/-! cmp.Compare[int64] -/
def c48_0 : List CO := [⟨(.mov (.k (.int .i64 0))), (some 2), none⟩]
def c48_1 : List CO := [⟨(.mov (.var 0)), none, none⟩,
  ⟨(.call true 65 [(.loc 0)]), none, none⟩,
  ⟨(.mov (.loc 0)), (some 3), none⟩]
def c48_2 : List CO := [⟨(.mov (.var 1)), none, none⟩,
  ⟨(.call true 65 [(.loc 0)]), none, none⟩,
  ⟨(.mov (.loc 0)), (some 4), none⟩]
def c48_3 : List CO := [⟨(.mov (.var 3)), (some 5), none⟩]
def c48_4 : List CO := [⟨(.mov (.var 4)), (some 6), none⟩]
def c48_5 : List CO := [⟨(.mov (.k (.int .i64 0))), (some 2), none⟩]
def c48_6 : List CO := [⟨(.mov (.k (.int .i64 (-1)))), (some 2), none⟩]
def c48_7 : List CO := [⟨(.mov (.var 4)), (some 7), none⟩]
def c48_8 : List CO := [⟨(.mov (.k (.int .i64 1))), (some 2), none⟩]
def c48_9 : List CO := [⟨(.mov (.var 0)), none, none⟩,
  ⟨(.mov (.var 1)), none, none⟩,
  ⟨(.bin .lss (.loc 1) (.loc 0)), (some 8), none⟩]
def c48_10 : List CO := [⟨(.mov (.k (.int .i64 (-1)))), (some 2), none⟩]
def c48_11 : List CO := [⟨(.mov (.var 0)), none, none⟩,
  ⟨(.mov (.var 1)), none, none⟩,
  ⟨(.bin .gtr (.loc 1) (.loc 0)), (some 9), none⟩]
def c48_12 : List CO := [⟨(.mov (.k (.int .i64 1))), (some 2), none⟩]
def c48_13 : List CO := [⟨(.mov (.k (.int .i64 0))), (some 2), none⟩]
def c48 : CFun := ⟨2, 10, (.seq (.region [] [] c48_0) (.seq (.region [] [] c48_1) (.seq (.region [] [] c48_2) (.seq (.seq (.region [] [] c48_3) (.cond (.var 5) (.seq (.seq (.region [] [] c48_4) (.cond (.var 6) (.seq (.region [] [] c48_5) .ret) .skip)) (.seq (.region [] [] c48_6) .ret)) .skip)) (.seq (.seq (.region [] [] c48_7) (.cond (.var 7) (.seq (.region [] [] c48_8) .ret) .skip)) (.seq (.seq (.region [] [] c48_9) (.cond (.var 8) (.seq (.region [] [] c48_10) .ret) .skip)) (.seq (.seq (.region [] [] c48_11) (.cond (.var 9) (.seq (.region [] [] c48_12) .ret) .skip)) (.seq (.region [] [] c48_13) .ret)))))))), [.var 2]⟩
theorem ok48 : CodeOk Tryd.prog T 48 c48 := ⟨⟨Tryd.f48, Hints.of [] [] [], [0, 1, 4, 5, 6, 11, 12, 13, 16, 19], Tryd.func48, by kernel_rfl, by kernel_rfl⟩⟩

/-! spinney/spinneyref01.Cmp -/
def c49_0 : List CO := [⟨(.mov (.k (.int .i64 0))), (some 2), none⟩]
def c49_1 : List CO := [⟨(.mov (.var 0)), none, none⟩,
  ⟨(.mov (.var 1)), none, none⟩,
  ⟨(.bin .lss (.loc 1) (.loc 0)), none, none⟩,
  ⟨(.mov (.loc 0)), (some 3), none⟩]
def c49_2 : List CO := [⟨(.mov (.k (.int .i64 (-1)))), (some 2), none⟩]
def c49_3 : List CO := [⟨(.mov (.var 0)), none, none⟩,
  ⟨(.mov (.var 1)), none, none⟩,
  ⟨(.bin .gtr (.loc 1) (.loc 0)), none, none⟩,
  ⟨(.mov (.loc 0)), (some 4), none⟩]
def c49_4 : List CO := [⟨(.mov (.k (.int .i64 1))), (some 2), none⟩]
def c49_5 : List CO := [⟨(.mov (.k (.int .i64 0))), (some 2), none⟩]
def c49 : CFun := ⟨2, 5, (.seq (.region [] [] c49_0) (.seq (.block 0 (.seq (.region [] [] c49_1) (.cond (.var 3) (.seq (.region [] [] c49_2) .ret) (.seq (.region [] [] c49_3) (.cond (.var 4) (.seq (.region [] [] c49_4) .ret) .skip))))) (.seq (.region [] [] c49_5) .ret))), [.var 2]⟩
theorem ok49 : CodeOk Tryd.prog T 49 c49 := ⟨⟨Tryd.f49, Hints.of [] [] [], [0, 1, 4, 5, 9], Tryd.func49, by kernel_rfl, by kernel_rfl⟩⟩

/-! spinney/spinneyref03.rank -/
def c50_0 : List CO := [⟨(.mov (.k (.int .i64 0))), (some 1), none⟩]
def c50_1 : List CO := [⟨(.mov (.var 0)), (some 2), none⟩]
def c50_2 : List CO := [⟨(.bin .eql (.var 2) (.k (.int .i64 1))), none, none⟩,
  ⟨(.mov (.loc 0)), (some 3), none⟩]
def c50_3 : List CO := [⟨(.mov (.k (.int .i64 0))), (some 1), none⟩]
def c50_4 : List CO := [⟨(.bin .eql (.var 2) (.k (.int .i64 3))), none, none⟩,
  ⟨(.mov (.loc 0)), (some 4), none⟩]
def c50_5 : List CO := [⟨(.mov (.k (.int .i64 1))), (some 1), none⟩]
def c50_6 : List CO := [⟨(.bin .eql (.var 2) (.k (.int .i64 2))), none, none⟩,
  ⟨(.mov (.loc 0)), (some 5), none⟩]
def c50_7 : List CO := [⟨(.mov (.k (.int .i64 2))), (some 1), none⟩]
def c50_8 : List CO := [⟨(.mov (.k (.int .i64 3))), (some 1), none⟩]
def c50 : CFun := ⟨1, 6, (.seq (.region [] [] c50_0) (.seq (.seq (.region [] [] c50_1) (.block 0 (.seq (.region [] [] c50_2) (.cond (.var 3) (.seq (.region [] [] c50_3) .ret) (.seq (.region [] [] c50_4) (.cond (.var 4) (.seq (.region [] [] c50_5) .ret) (.seq (.region [] [] c50_6) (.cond (.var 5) (.seq (.region [] [] c50_7) .ret) .skip)))))))) (.seq (.region [] [] c50_8) .ret))), [.var 1]⟩
theorem ok50 : CodeOk Tryd.prog T 50 c50 := ⟨⟨Tryd.f50, Hints.of [] [] [], [0, 2, 3, 4, 6, 8], Tryd.func50, by kernel_rfl, by kernel_rfl⟩⟩

/-! spinney/spinneyref03.text -/
def c51_0 : List CO := [⟨(.mov (.k (.int .i64 0))), (some 2), none⟩]
def c51_1 : List CO := [⟨(.mov (.var 0)), none, none⟩,
  ⟨(.mov (.var 1)), none, none⟩,
  ⟨(.bin .lss (.loc 1) (.loc 0)), none, none⟩,
  ⟨(.mov (.loc 0)), (some 3), none⟩]
def c51_2 : List CO := [⟨(.mov (.k (.int .i64 (-1)))), (some 2), none⟩]
def c51_3 : List CO := [⟨(.mov (.var 0)), none, none⟩,
  ⟨(.mov (.var 1)), none, none⟩,
  ⟨(.bin .gtr (.loc 1) (.loc 0)), none, none⟩,
  ⟨(.mov (.loc 0)), (some 4), none⟩]
def c51_4 : List CO := [⟨(.mov (.k (.int .i64 1))), (some 2), none⟩]
def c51_5 : List CO := [⟨(.mov (.k (.int .i64 0))), (some 2), none⟩]
def c51 : CFun := ⟨2, 5, (.seq (.region [] [] c51_0) (.seq (.block 0 (.seq (.region [] [] c51_1) (.cond (.var 3) (.seq (.region [] [] c51_2) .ret) (.seq (.region [] [] c51_3) (.cond (.var 4) (.seq (.region [] [] c51_4) .ret) .skip))))) (.seq (.region [] [] c51_5) .ret))), [.var 2]⟩
theorem ok51 : CodeOk Tryd.prog T 51 c51 := ⟨⟨Tryd.f51, Hints.of [] [] [], [0, 1, 4, 5, 9], Tryd.func51, by kernel_rfl, by kernel_rfl⟩⟩

/-! spinney/term.write -/
def c52_0 : List CO := [⟨(.box 24 (.var 1)), (some 2), none⟩]
def c52_1 : List CO := [⟨(.fa 0 (.var 2)), none, none⟩,
  ⟨(.load false 1 (.loc 0)), (some 5), none⟩]
def c52_2 : List CO := [⟨(.bin .eql (.var 5) (.k (.int .i64 1))), none, none⟩,
  ⟨(.mov (.loc 0)), (some 6), none⟩]
def c52_3 : List CO := [⟨(.mov (.var 0)), none, none⟩,
  ⟨(.call false 66 [(.loc 0), (.k (.int .u8 95))]), none, none⟩]
def c52_4 : List CO := [⟨(.mov (.var 0)), none, none⟩,
  ⟨(.fa 2 (.var 2)), none, none⟩,
  ⟨(.load false 1 (.loc 0)), none, none⟩,
  ⟨(.call true 68 [(.loc 0)]), none, none⟩,
  ⟨(.call false 67 [(.loc 3), (.loc 0)]), none, none⟩]
def c52_5 : List CO := [⟨(.bin .eql (.var 5) (.k (.int .i64 3))), none, none⟩,
  ⟨(.mov (.loc 0)), (some 7), none⟩]
def c52_6 : List CO := [⟨(.mov (.var 0)), none, none⟩,
  ⟨(.fa 2 (.var 2)), none, none⟩,
  ⟨(.load false 1 (.loc 0)), none, none⟩,
  ⟨(.call true 68 [(.loc 0)]), none, none⟩,
  ⟨(.call false 67 [(.loc 3), (.loc 0)]), none, none⟩]
def c52_7 : List CO := [⟨(.mov (.var 0)), none, none⟩,
  ⟨(.fa 1 (.var 2)), none, none⟩,
  ⟨(.load false 1 (.loc 0)), none, none⟩,
  ⟨(.call true 69 [(.loc 0)]), none, none⟩,
  ⟨(.call false 67 [(.loc 3), (.loc 0)]), none, none⟩]
def c52_8 : List CO := [⟨(.fa 3 (.var 2)), none, none⟩,
  ⟨(.load false 1 (.loc 0)), (some 8), none⟩,
  ⟨(.len .slice (.var 8)), (some 9), none⟩,
  ⟨(.mov (.k (.int .i64 0))), (some 10), none⟩]
def c52_9 : List CO := [⟨(.bin .lss (.var 10) (.var 9)), (some 11), none⟩]
def c52_10 : List CO := [⟨(.mov (.var 10)), none, none⟩,
  ⟨(.ia 4 (.var 8) (.var 10)), none, none⟩,
  ⟨(.load true 4 (.loc 0)), none, none⟩,
  ⟨(.box 24 (.k (.agg #[(.int .i64 0), (.string ⟨#[]⟩), (.int .i64 0), (.slice none 0 0)]))), (some 4), none⟩,
  ⟨(.mov (.loc 3)), (some 3), none⟩,
  ⟨(.store 4 (.var 4) (.loc 2)), none, none⟩]
def c52_11 : List CO := [⟨(.mov (.var 3)), none, none⟩,
  ⟨(.bin .eql (.loc 0) (.k (.int .i64 0))), (some 12), none⟩]
def c52_12 : List CO := [⟨(.mov (.var 0)), none, none⟩,
  ⟨(.call false 66 [(.loc 0), (.k (.int .u8 40))]), none, none⟩]
def c52_13 : List CO := [⟨(.mov (.var 0)), none, none⟩,
  ⟨(.call false 66 [(.loc 0), (.k (.int .u8 44))]), none, none⟩]
def c52_14 : List CO := [⟨(.mov (.var 0)), none, none⟩,
  ⟨(.load true 4 (.var 4)), none, none⟩,
  ⟨(.call false 52 [(.loc 1), (.loc 0)]), none, none⟩]
def c52_15 : List CO := [⟨(.bin .add (.var 10) (.k (.int .i64 1))), none, none⟩,
  ⟨(.mov (.loc 0)), (some 10), none⟩]
def c52_16 : CC := (.seq (.region [] [] c52_9) (.seq (.cond (.var 11) .skip (.exit 1)) (.seq (.block 2 (.seq (.region [] [] c52_10) (.seq (.seq (.region [] [] c52_11) (.cond (.var 12) (.region [] [] c52_12) (.region [] [] c52_13))) (.region [] [] c52_14)))) (.region [] [] c52_15))))
def c52_17 : List CO := [⟨(.fa 3 (.var 2)), none, none⟩,
  ⟨(.load false 1 (.loc 0)), none, none⟩,
  ⟨(.len .slice (.loc 0)), none, none⟩,
  ⟨(.bin .gtr (.loc 0) (.k (.int .i64 0))), (some 13), none⟩]
def c52_18 : List CO := [⟨(.mov (.var 0)), none, none⟩,
  ⟨(.call false 66 [(.loc 0), (.k (.int .u8 41))]), none, none⟩]
def c52 : CFun := ⟨2, 14, (.seq (.region [] [] c52_0) (.seq (.seq (.region [] [] c52_1) (.block 0 (.seq (.region [] [] c52_2) (.cond (.var 6) (.seq (.region [] [] c52_3) (.region [] [] c52_4)) (.seq (.region [] [] c52_5) (.cond (.var 7) (.region [] [] c52_6) (.region [] [] c52_7))))))) (.seq (.seq (.region [] [] c52_8) (.block 1 (.loop [true, false, true, false, false, false, false, false, true, true, true, false, false, false] [] c52_16))) (.seq (.region [] [] c52_17) (.cond (.var 13) (.region [] [] c52_18) .skip))))), []⟩
theorem ok52 : CodeOk Tryd.prog T 52 c52 := ⟨⟨Tryd.f52, Hints.of [] [] [(1, [true, false, true, false, false, false, false, false, true, true, true, false, false, false], [])], [0, 1, 3, 4, 5, 7, 13, 22, 30, 31, 32, 33, 38, 50], Tryd.func52, by kernel_rfl, by kernel_rfl⟩⟩

/-! spinney/term.may -/
def c54_0 : List CO := [⟨(.box 24 (.var 0)), (some 1), none⟩,
  ⟨(.mov (.k (.bool false))), (some 2), none⟩]
def c54_1 : List CO := [⟨(.fa 3 (.var 1)), none, none⟩,
  ⟨(.load false 1 (.loc 0)), none, none⟩,
  ⟨(.len .slice (.loc 0)), none, none⟩,
  ⟨(.bin .eql (.loc 0) (.k (.int .i64 0))), none, none⟩,
  ⟨(.mov (.loc 0)), (some 3), none⟩]
def c54_2 : List CO := [⟨(.fa 0 (.var 1)), none, none⟩,
  ⟨(.load false 1 (.loc 0)), (some 6), none⟩]
def c54_3 : List CO := [⟨(.bin .eql (.var 6) (.k (.int .i64 1))), none, none⟩,
  ⟨(.mov (.loc 0)), (some 7), none⟩]
def c54_4 : List CO := [⟨(.mov (.var 3)), none, none⟩,
  ⟨(.mov (.loc 0)), none, none⟩,
  ⟨(.fa 1 (.var 1)), none, (some ((.loc 0), true))⟩,
  ⟨(.load false 1 (.loc 0)), none, (some ((.loc 1), true))⟩,
  ⟨(.bin .eql (.loc 0) (.k (.string ⟨#[]⟩))), none, (some ((.loc 2), true))⟩,
  ⟨(.pick (.loc 3) (.loc 0) (.k (.bool false))), none, none⟩,
  ⟨(.mov (.loc 0)), none, none⟩,
  ⟨(.fa 2 (.var 1)), none, (some ((.loc 0), true))⟩,
  ⟨(.load false 1 (.loc 0)), none, (some ((.loc 1), true))⟩,
  ⟨(.bin .geq (.loc 0) (.k (.int .i64 0))), none, (some ((.loc 2), true))⟩,
  ⟨(.pick (.loc 3) (.loc 0) (.k (.bool false))), none, none⟩,
  ⟨(.mov (.loc 0)), (some 2), none⟩]
def c54_5 : List CO := [⟨(.bin .eql (.var 6) (.k (.int .i64 3))), none, none⟩,
  ⟨(.mov (.loc 0)), (some 8), none⟩]
def c54_6 : List CO := [⟨(.mov (.var 3)), none, none⟩,
  ⟨(.mov (.loc 0)), none, none⟩,
  ⟨(.fa 1 (.var 1)), none, (some ((.loc 0), true))⟩,
  ⟨(.load false 1 (.loc 0)), none, (some ((.loc 1), true))⟩,
  ⟨(.bin .eql (.loc 0) (.k (.string ⟨#[]⟩))), none, (some ((.loc 2), true))⟩,
  ⟨(.pick (.loc 3) (.loc 0) (.k (.bool false))), none, none⟩,
  ⟨(.mov (.loc 0)), (some 2), none⟩]
def c54_7 : List CO := [⟨(.bin .eql (.var 6) (.k (.int .i64 2))), none, none⟩,
  ⟨(.mov (.loc 0)), (some 9), none⟩]
def c54_8 : List CO := [⟨(.mov (.var 3)), none, none⟩,
  ⟨(.mov (.loc 0)), none, none⟩,
  ⟨(.fa 2 (.var 1)), none, (some ((.loc 0), true))⟩,
  ⟨(.load false 1 (.loc 0)), none, (some ((.loc 1), true))⟩,
  ⟨(.bin .eql (.loc 0) (.k (.int .i64 0))), none, (some ((.loc 2), true))⟩,
  ⟨(.pick (.loc 3) (.loc 0) (.k (.bool false))), none, none⟩,
  ⟨(.mov (.loc 0)), none, none⟩,
  ⟨(.fa 1 (.var 1)), none, (some ((.loc 0), true))⟩,
  ⟨(.load false 1 (.loc 0)), none, (some ((.loc 1), true))⟩,
  ⟨(.call true 70 [(.loc 0)]), none, (some ((.loc 2), true))⟩,
  ⟨(.pick (.loc 3) (.loc 0) (.k (.bool false))), none, none⟩,
  ⟨(.mov (.loc 0)), (some 2), none⟩]
def c54_9 : List CO := [⟨(.bin .eql (.var 6) (.k (.int .i64 4))), none, none⟩,
  ⟨(.mov (.loc 0)), (some 10), none⟩]
def c54_10 : List CO := [⟨(.mov (.var 3)), none, none⟩,
  ⟨(.un .not (.loc 0)), none, none⟩,
  ⟨(.mov (.loc 0)), none, none⟩,
  ⟨(.fa 2 (.var 1)), none, (some ((.loc 0), true))⟩,
  ⟨(.load false 1 (.loc 0)), none, (some ((.loc 1), true))⟩,
  ⟨(.bin .eql (.loc 0) (.k (.int .i64 0))), none, (some ((.loc 2), true))⟩,
  ⟨(.pick (.loc 3) (.loc 0) (.k (.bool false))), none, none⟩,
  ⟨(.mov (.loc 0)), none, none⟩,
  ⟨(.fa 3 (.var 1)), none, (some ((.loc 0), true))⟩,
  ⟨(.load false 1 (.loc 0)), none, (some ((.loc 1), true))⟩,
  ⟨(.len .slice (.loc 0)), none, (some ((.loc 2), true))⟩,
  ⟨(.bin .leq (.loc 0) (.k (.int .i64 16))), none, (some ((.loc 3), true))⟩,
  ⟨(.pick (.loc 4) (.loc 0) (.k (.bool false))), none, none⟩,
  ⟨(.mov (.loc 0)), none, none⟩,
  ⟨(.fa 1 (.var 1)), none, (some ((.loc 0), true))⟩,
  ⟨(.load false 1 (.loc 0)), none, (some ((.loc 1), true))⟩,
  ⟨(.call true 70 [(.loc 0)]), none, (some ((.loc 2), true))⟩,
  ⟨(.pick (.loc 3) (.loc 0) (.k (.bool false))), none, none⟩,
  ⟨(.mov (.loc 0)), (some 4), none⟩]
def c54_11 : List CO := [⟨(.mov (.k (.int .i64 0))), (some 5), none⟩]
def c54_12 : List CO := [⟨(.mov (.var 4)), none, none⟩,
  ⟨(.mov (.loc 0)), none, none⟩,
  ⟨(.mov (.var 5)), none, (some ((.loc 0), true))⟩,
  ⟨(.fa 3 (.var 1)), none, (some ((.loc 1), true))⟩,
  ⟨(.load false 1 (.loc 0)), none, (some ((.loc 2), true))⟩,
  ⟨(.len .slice (.loc 0)), none, (some ((.loc 3), true))⟩,
  ⟨(.bin .lss (.loc 3) (.loc 0)), none, (some ((.loc 4), true))⟩,
  ⟨(.pick (.loc 5) (.loc 0) (.k (.bool false))), (some 11), none⟩]
def c54_13 : List CO := [⟨(.fa 3 (.var 1)), none, none⟩,
  ⟨(.load false 1 (.loc 0)), none, none⟩,
  ⟨(.mov (.var 5)), none, none⟩,
  ⟨(.ia 4 (.loc 1) (.loc 0)), none, none⟩,
  ⟨(.load true 4 (.loc 0)), none, none⟩,
  ⟨(.call true 54 [(.loc 0)]), none, none⟩,
  ⟨(.mov (.loc 0)), (some 4), none⟩]
def c54_14 : List CO := [⟨(.mov (.var 5)), none, none⟩,
  ⟨(.bin .add (.loc 0) (.k (.int .i64 1))), none, none⟩,
  ⟨(.mov (.loc 0)), (some 5), none⟩]
def c54_15 : CC := (.seq (.seq (.region [] [] c54_12) (.cond (.var 11) .skip (.exit 1))) (.seq (.block 2 (.region [] [] c54_13)) (.region [] [] c54_14)))
def c54_16 : List CO := [⟨(.mov (.var 4)), none, none⟩,
  ⟨(.mov (.loc 0)), (some 2), none⟩]
def c54_17 : List CO := [⟨(.mov (.k (.bool false))), (some 2), none⟩]
def c54 : CFun := ⟨1, 12, (.seq (.region [] [] c54_0) (.seq (.region [] [] c54_1) (.seq (.seq (.region [] [] c54_2) (.block 0 (.seq (.region [] [] c54_3) (.cond (.var 7) (.seq (.region [] [] c54_4) .ret) (.seq (.region [] [] c54_5) (.cond (.var 8) (.seq (.region [] [] c54_6) .ret) (.seq (.region [] [] c54_7) (.cond (.var 9) (.seq (.region [] [] c54_8) .ret) (.seq (.region [] [] c54_9) (.cond (.var 10) (.seq (.region [] [] c54_10) (.seq (.seq (.region [] [] c54_11) (.block 1 (.loop [false, true, false, false, true, true, false, false, false, false, false, false] [] c54_15))) (.seq (.region [] [] c54_16) .ret))) .skip)))))))))) (.seq (.region [] [] c54_17) .ret)))), [.var 2]⟩
theorem ok54 : CodeOk Tryd.prog T 54 c54 := ⟨⟨Tryd.f54, Hints.of [] [] [(1, [false, true, false, false, true, true, false, false, false, false, false, false], [])], [0, 1, 2, 3, 4, 5, 11, 12, 25, 33, 46, 73], Tryd.func54, by kernel_rfl, by kernel_rfl⟩⟩

/-! spinney/term.each -/
def c55_0 : List CO := [⟨(.box 24 (.var 0)), (some 2), none⟩,
  ⟨(.box 24 (.k (.agg #[(.int .i64 0), (.string ⟨#[]⟩), (.int .i64 0), (.slice none 0 0)]))), (some 3), none⟩]
def c55_1 : List CO := [⟨(.fa 0 (.var 2)), none, none⟩,
  ⟨(.load false 1 (.loc 0)), none, none⟩,
  ⟨(.bin .eql (.loc 0) (.k (.int .i64 1))), (some 7), none⟩]
def c55_2 : List CO := [⟨(.mov (.var 1)), none, none⟩,
  ⟨(.fa 2 (.var 2)), none, none⟩,
  ⟨(.load false 1 (.loc 0)), none, none⟩,
  ⟨(.callv (.loc 2) [(.loc 0)]), none, none⟩,
  ⟨(.fa 2 (.var 2)), none, none⟩,
  ⟨(.store 1 (.loc 0) (.loc 1)), none, none⟩]
def c55_3 : List CO := [⟨(.fa 3 (.var 2)), none, none⟩,
  ⟨(.load false 1 (.loc 0)), none, none⟩,
  ⟨(.len .slice (.loc 0)), none, none⟩,
  ⟨(.bin .eql (.loc 0) (.k (.int .i64 0))), (some 8), none⟩]
def c55_4 : List CO := [⟨(.fa 3 (.var 2)), none, none⟩,
  ⟨(.store 1 (.loc 0) (.k (.slice none 0 0))), none, none⟩]
def c55_5 : List CO := [⟨(.load true 4 (.var 2)), none, none⟩,
  ⟨(.store 4 (.var 3) (.loc 0)), none, none⟩]
def c55_6 : List CO := [⟨(.fa 3 (.var 2)), none, none⟩,
  ⟨(.load false 1 (.loc 0)), none, none⟩,
  ⟨(.len .slice (.loc 0)), none, none⟩,
  ⟨(.mkslice 24 4 56 [(.int .i64 0), (.string ⟨#[]⟩), (.int .i64 0), (.slice none 0 0)] (.loc 0) (.loc 0)), none, none⟩,
  ⟨(.mov (.loc 0)), (some 4), none⟩]
def c55_7 : List CO := [⟨(.fa 3 (.var 2)), none, none⟩,
  ⟨(.load false 1 (.loc 0)), (some 9), none⟩,
  ⟨(.len .slice (.var 9)), (some 10), none⟩,
  ⟨(.mov (.k (.int .i64 0))), (some 11), none⟩]
def c55_8 : List CO := [⟨(.bin .lss (.var 11) (.var 10)), (some 12), none⟩]
def c55_9 : List CO := [⟨(.mov (.var 11)), none, none⟩,
  ⟨(.ia 4 (.var 9) (.var 11)), none, none⟩,
  ⟨(.load true 4 (.loc 0)), none, none⟩,
  ⟨(.box 24 (.k (.agg #[(.int .i64 0), (.string ⟨#[]⟩), (.int .i64 0), (.slice none 0 0)]))), (some 6), none⟩,
  ⟨(.mov (.loc 3)), (some 5), none⟩,
  ⟨(.store 4 (.var 6) (.loc 2)), none, none⟩]
def c55_10 : List CO := [⟨(.mov (.var 4)), none, none⟩,
  ⟨(.mov (.var 5)), none, none⟩,
  ⟨(.load true 4 (.var 6)), none, none⟩,
  ⟨(.mov (.var 1)), none, none⟩,
  ⟨(.call false 55 [(.loc 1), (.loc 0)]), none, none⟩,
  ⟨(.ia 4 (.loc 4) (.loc 3)), none, none⟩,
  ⟨(.store 4 (.loc 0) (.loc 1)), none, none⟩]
def c55_11 : List CO := [⟨(.bin .add (.var 11) (.k (.int .i64 1))), none, none⟩,
  ⟨(.mov (.loc 0)), (some 11), none⟩]
def c55_12 : CC := (.seq (.region [] [] c55_8) (.seq (.cond (.var 12) .skip (.exit 0)) (.seq (.block 1 (.seq (.region [] [] c55_9) (.region [] [] c55_10))) (.region [] [] c55_11))))
def c55_13 : List CO := [⟨(.mov (.var 4)), none, none⟩,
  ⟨(.fa 3 (.var 2)), none, none⟩,
  ⟨(.store 1 (.loc 0) (.loc 1)), none, none⟩]
def c55_14 : List CO := [⟨(.load true 4 (.var 2)), none, none⟩,
  ⟨(.store 4 (.var 3) (.loc 0)), none, none⟩]
def c55 : CFun := ⟨2, 13, (.seq (.region [] [] c55_0) (.seq (.seq (.region [] [] c55_1) (.cond (.var 7) (.region [] [] c55_2) .skip)) (.seq (.seq (.region [] [] c55_3) (.cond (.var 8) (.seq (.region [] [] c55_4) (.seq (.region [] [] c55_5) .ret)) .skip)) (.seq (.region [] [] c55_6) (.seq (.seq (.region [] [] c55_7) (.block 0 (.loop [false, true, true, true, true, false, false, false, false, true, true, true, false] [] c55_12))) (.seq (.region [] [] c55_13) (.seq (.region [] [] c55_14) .ret))))))), [.cell 3 true 4]⟩
theorem ok55 : CodeOk Tryd.prog T 55 c55 := ⟨⟨Tryd.f55, Hints.of [] [] [(0, [false, true, true, true, true, false, false, false, false, true, true, true, false], [])], [0, 1, 2, 4, 5, 6, 7, 10, 19, 27, 28, 29, 30], Tryd.func55, by kernel_rfl, by kernel_rfl⟩⟩

/-! spinney/term.Shift$1 -/
def c56_0 : List CO := [⟨(.mov (.k (.int .i64 0))), (some 2), none⟩]
def c56_1 : List CO := [⟨(.mov (.var 0)), none, none⟩,
  ⟨(.load false 1 (.var 1)), none, none⟩,
  ⟨(.bin .add (.loc 1) (.loc 0)), none, none⟩,
  ⟨(.mov (.loc 0)), (some 2), none⟩]
def c56 : CFun := ⟨2, 3, (.seq (.region [] [] c56_0) (.seq (.region [] [] c56_1) .ret)), [.var 2]⟩
theorem ok56 : CodeOk Tryd.prog T 56 c56 := ⟨⟨Tryd.f56, Hints.of [] [] [], [0, 1, 3], Tryd.func56, by kernel_rfl, by kernel_rfl⟩⟩

/-! spinney/term.Copy$1 -/
def c57_0 : List CO := [⟨(.mov (.k (.int .i64 0))), (some 1), none⟩]
def c57_1 : List CO := [⟨(.mov (.var 0)), none, none⟩,
  ⟨(.mov (.loc 0)), (some 1), none⟩]
def c57 : CFun := ⟨1, 2, (.seq (.region [] [] c57_0) (.seq (.region [] [] c57_1) .ret)), [.var 1]⟩
theorem ok57 : CodeOk Tryd.prog T 57 c57 := ⟨⟨Tryd.f57, Hints.of [] [] [], [0, 2], Tryd.func57, by kernel_rfl, by kernel_rfl⟩⟩

/-! spinney/spinneyref03.Has -/
def c59_0 : List CO := [⟨(.mov (.k (.bool false))), (some 2), none⟩]
def c59_1 : List CO := [⟨(.mov (.var 0)), (some 4), none⟩,
  ⟨(.len .slice (.var 4)), (some 5), none⟩,
  ⟨(.mov (.k (.int .i64 0))), (some 6), none⟩]
def c59_2 : List CO := [⟨(.bin .lss (.var 6) (.var 5)), (some 7), none⟩]
def c59_3 : List CO := [⟨(.ia 1 (.var 4) (.var 6)), none, none⟩,
  ⟨(.load false 1 (.loc 0)), none, none⟩,
  ⟨(.mov (.loc 0)), (some 3), none⟩]
def c59_4 : List CO := [⟨(.mov (.var 3)), none, none⟩,
  ⟨(.mov (.var 1)), none, none⟩,
  ⟨(.bin .eql (.loc 1) (.loc 0)), (some 8), none⟩]
def c59_5 : List CO := [⟨(.mov (.k (.bool true))), (some 2), none⟩]
def c59_6 : List CO := [⟨(.bin .add (.var 6) (.k (.int .i64 1))), none, none⟩,
  ⟨(.mov (.loc 0)), (some 6), none⟩]
def c59_7 : CC := (.seq (.region [] [] c59_2) (.seq (.cond (.var 7) .skip (.exit 0)) (.seq (.block 1 (.seq (.region [] [] c59_3) (.seq (.region [] [] c59_4) (.cond (.var 8) (.seq (.region [] [] c59_5) .ret) .skip)))) (.region [] [] c59_6))))
def c59_8 : List CO := [⟨(.mov (.k (.bool false))), (some 2), none⟩]
def c59 : CFun := ⟨2, 9, (.seq (.region [] [] c59_0) (.seq (.seq (.region [] [] c59_1) (.block 0 (.loop [false, true, false, false, true, true, true, false, false] [] c59_7))) (.seq (.region [] [] c59_8) .ret))), [.var 2]⟩
theorem ok59 : CodeOk Tryd.prog T 59 c59 := ⟨⟨Tryd.f59, Hints.of [] [] [(0, [false, true, false, false, true, true, true, false, false], [])], [0, 1, 4, 6, 7, 8, 9, 10, 15], Tryd.func59, by kernel_rfl, by kernel_rfl⟩⟩


/-! spinney/spinneyref03.left -/
def c61_0 : List CO := [⟨(.box 24 (.var 0)), (some 2), none⟩,
  ⟨(.mov (.k (.int .i64 0))), (some 3), none⟩]
def c61_1 : List CO := [⟨(.mov (.var 1)), none, none⟩,
  ⟨(.bin .sub (.loc 0) (.k (.int .i64 1))), none, none⟩,
  ⟨(.mov (.loc 0)), (some 1), none⟩]
def c61_2 : List CO := [⟨(.fa 3 (.var 2)), none, none⟩,
  ⟨(.load false 1 (.loc 0)), (some 5), none⟩,
  ⟨(.len .slice (.var 5)), (some 6), none⟩,
  ⟨(.mov (.k (.int .i64 0))), (some 7), none⟩]
def c61_3 : List CO := [⟨(.bin .lss (.var 7) (.var 6)), (some 8), none⟩]
def c61_4 : List CO := [⟨(.ia 4 (.var 5) (.var 7)), none, none⟩,
  ⟨(.load true 4 (.loc 0)), none, none⟩,
  ⟨(.box 24 (.k (.agg #[(.int .i64 0), (.string ⟨#[]⟩), (.int .i64 0), (.slice none 0 0)]))), (some 4), none⟩,
  ⟨(.store 4 (.var 4) (.loc 1)), none, none⟩]
def c61_5 : List CO := [⟨(.mov (.var 1)), none, none⟩,
  ⟨(.bin .lss (.loc 0) (.k (.int .i64 0))), (some 9), none⟩]
def c61_6 : List CO := [⟨(.mov (.var 1)), none, none⟩,
  ⟨(.mov (.loc 0)), (some 3), none⟩]
def c61_7 : List CO := [⟨(.load true 4 (.var 4)), none, none⟩,
  ⟨(.mov (.var 1)), none, none⟩,
  ⟨(.call true 61 [(.loc 1), (.loc 0)]), none, none⟩,
  ⟨(.mov (.loc 0)), (some 1), none⟩]
def c61_8 : List CO := [⟨(.bin .add (.var 7) (.k (.int .i64 1))), none, none⟩,
  ⟨(.mov (.loc 0)), (some 7), none⟩]
def c61_9 : CC := (.seq (.region [] [] c61_3) (.seq (.cond (.var 8) .skip (.exit 0)) (.seq (.block 1 (.seq (.region [] [] c61_4) (.seq (.seq (.region [] [] c61_5) (.cond (.var 9) (.seq (.region [] [] c61_6) .ret) .skip)) (.region [] [] c61_7)))) (.region [] [] c61_8))))
def c61_10 : List CO := [⟨(.mov (.var 1)), none, none⟩,
  ⟨(.mov (.loc 0)), (some 3), none⟩]
def c61 : CFun := ⟨2, 10, (.seq (.region [] [] c61_0) (.seq (.region [] [] c61_1) (.seq (.seq (.region [] [] c61_2) (.block 0 (.loop [false, true, false, false, false, true, true, true, false, false] [] c61_9))) (.seq (.region [] [] c61_10) .ret)))), [.var 3]⟩
theorem ok61 : CodeOk Tryd.prog T 61 c61 := ⟨⟨Tryd.f61, Hints.of [] [] [(0, [false, true, false, false, false, true, true, true, false, false], [])], [0, 1, 2, 4, 6, 10, 11, 12, 13, 17], Tryd.func61, by kernel_rfl, by kernel_rfl⟩⟩

/-! spinney/spinneyref02.Check -/
def c62_0 : List CO := [⟨(.mov (.k (.bool false))), (some 1), none⟩]
def c62_1 : List CO := [⟨(.mov (.var 0)), none, none⟩,
  ⟨(.len .string (.loc 0)), none, none⟩,
  ⟨(.bin .leq (.loc 0) (.k (.int .i64 255))), none, none⟩,
  ⟨(.mov (.loc 0)), none, none⟩,
  ⟨(.mov (.var 0)), none, (some ((.loc 0), true))⟩,
  ⟨(.call true 75 [(.loc 0)]), none, (some ((.loc 1), true))⟩,
  ⟨(.pick (.loc 2) (.loc 0) (.k (.bool false))), none, none⟩,
  ⟨(.mov (.loc 0)), (some 1), none⟩]
def c62 : CFun := ⟨1, 2, (.seq (.region [] [] c62_0) (.seq (.region [] [] c62_1) .ret)), [.var 1]⟩
theorem ok62 : CodeOk Tryd.prog T 62 c62 := ⟨⟨Tryd.f62, Hints.of [] [] [], [0, 2], Tryd.func62, by kernel_rfl, by kernel_rfl⟩⟩

/-! cmp.isNaN[int] -/
def c63_0 : List CO := [⟨(.mov (.k (.bool false))), (some 1), none⟩]
def c63_1 : List CO := [⟨(.mov (.var 0)), none, none⟩,
  ⟨(.mov (.var 0)), none, none⟩,
  ⟨(.bin .neq (.loc 1) (.loc 0)), none, none⟩,
  ⟨(.mov (.loc 0)), (some 1), none⟩]
def c63 : CFun := ⟨1, 2, (.seq (.region [] [] c63_0) (.seq (.region [] [] c63_1) .ret)), [.var 1]⟩
theorem ok63 : CodeOk Tryd.prog T 63 c63 := ⟨⟨Tryd.f63, Hints.of [] [] [], [0, 2], Tryd.func63, by kernel_rfl, by kernel_rfl⟩⟩

/-! cmp.isNaN[int64] -/
def c65_0 : List CO := [⟨(.mov (.k (.bool false))), (some 1), none⟩]
def c65_1 : List CO := [⟨(.mov (.var 0)), none, none⟩,
  ⟨(.mov (.var 0)), none, none⟩,
  ⟨(.bin .neq (.loc 1) (.loc 0)), none, none⟩,
  ⟨(.mov (.loc 0)), (some 1), none⟩]
def c65 : CFun := ⟨1, 2, (.seq (.region [] [] c65_0) (.seq (.region [] [] c65_1) .ret)), [.var 1]⟩
theorem ok65 : CodeOk Tryd.prog T 65 c65 := ⟨⟨Tryd.f65, Hints.of [] [] [], [0, 2], Tryd.func65, by kernel_rfl, by kernel_rfl⟩⟩

/-! (*strings.Builder).WriteByte -/
def c66_0 : List CO := [⟨(.mov (.k .nilIface)), (some 2), none⟩]
def c66_1 : List CO := [⟨(.mov (.var 0)), none, none⟩,
  ⟨(.call false 77 [(.loc 0)]), none, none⟩]
def c66_2 : List CO := [⟨(.mov (.var 0)), none, none⟩,
  ⟨(.mov (.var 0)), none, none⟩,
  ⟨(.nilchk (.loc 0)), none, none⟩,
  ⟨(.fa 1 (.loc 0)), none, none⟩,
  ⟨(.load false 1 (.loc 0)), none, none⟩,
  ⟨(.mov (.var 1)), none, none⟩,
  ⟨(.bslice 1 [(.int .u8 0)] 1 [(0, (.loc 0))]), none, none⟩,
  ⟨(.append 5 1 1 (.loc 2) (.loc 0)), none, none⟩,
  ⟨(.nilchk (.loc 7)), none, none⟩,
  ⟨(.fa 1 (.loc 0)), none, none⟩,
  ⟨(.store 1 (.loc 0) (.loc 2)), none, none⟩]
def c66_3 : List CO := [⟨(.mov (.k .nilIface)), (some 2), none⟩]
def c66 : CFun := ⟨2, 3, (.seq (.region [] [] c66_0) (.seq (.region [] [] c66_1) (.seq (.region [] [] c66_2) (.seq (.region [] [] c66_3) .ret)))), [.var 2]⟩
theorem ok66 : CodeOk Tryd.prog T 66 c66 := ⟨⟨Tryd.f66, Hints.of [] [] [], [0, 1, 4], Tryd.func66, by kernel_rfl, by kernel_rfl⟩⟩

/-! (*strings.Builder).WriteString -/
def c67_0 : List CO := [⟨(.mov (.k (.int .i64 0))), (some 2), none⟩,
  ⟨(.mov (.k .nilIface)), (some 3), none⟩]
def c67_1 : List CO := [⟨(.mov (.var 0)), none, none⟩,
  ⟨(.call false 77 [(.loc 0)]), none, none⟩]
def c67_2 : List CO := [⟨(.mov (.var 0)), none, none⟩,
  ⟨(.mov (.var 0)), none, none⟩,
  ⟨(.nilchk (.loc 0)), none, none⟩,
  ⟨(.fa 1 (.loc 0)), none, none⟩,
  ⟨(.load false 1 (.loc 0)), none, none⟩,
  ⟨(.mov (.var 1)), none, none⟩,
  ⟨(.apps 5 1 (.loc 1) (.loc 0)), none, none⟩,
  ⟨(.nilchk (.loc 6)), none, none⟩,
  ⟨(.fa 1 (.loc 0)), none, none⟩,
  ⟨(.store 1 (.loc 0) (.loc 2)), none, none⟩]
def c67_3 : List CO := [⟨(.mov (.var 1)), none, none⟩,
  ⟨(.len .string (.loc 0)), none, none⟩,
  ⟨(.mov (.loc 0)), (some 2), none⟩,
  ⟨(.mov (.k .nilIface)), (some 3), none⟩]
def c67 : CFun := ⟨2, 4, (.seq (.region [] [] c67_0) (.seq (.region [] [] c67_1) (.seq (.region [] [] c67_2) (.seq (.region [] [] c67_3) .ret)))), [.var 2, .var 3]⟩
theorem ok67 : CodeOk Tryd.prog T 67 c67 := ⟨⟨Tryd.f67, Hints.of [] [] [], [0, 1, 4, 5], Tryd.func67, by kernel_rfl, by kernel_rfl⟩⟩

/-! spinney/num.Text -/
def c68_0 : List CO := [⟨(.mov (.k (.string ⟨#[]⟩))), (some 1), none⟩]
def c68_1 : List CO := [⟨(.box 87 (.k (.agg #[(.int .u8 0), (.int .u8 0), (.int .u8 0), (.int .u8 0), (.int .u8 0), (.int .u8 0), (.int .u8 0), (.int .u8 0), (.int .u8 0), (.int .u8 0), (.int .u8 0), (.int .u8 0), (.int .u8 0), (.int .u8 0), (.int .u8 0), (.int .u8 0), (.int .u8 0), (.int .u8 0), (.int .u8 0), (.int .u8 0)]))), (some 2), none⟩]
def c68_2 : List CO := [⟨(.mov (.k (.int .i64 20))), (some 3), none⟩]
def c68_3 : List CO := [⟨(.mov (.var 0)), none, none⟩,
  ⟨(.call true 78 [(.loc 0)]), none, none⟩,
  ⟨(.mov (.loc 0)), (some 4), none⟩]
def c68_4 : List CO := [⟨(.mov (.var 3)), none, none⟩,
  ⟨(.bin .sub (.loc 0) (.k (.int .i64 1))), none, none⟩,
  ⟨(.mov (.loc 0)), (some 3), none⟩]
def c68_5 : List CO := [⟨(.mov (.var 3)), none, none⟩,
  ⟨(.mov (.var 4)), none, none⟩,
  ⟨(.bin .rem (.loc 0) (.k (.int .u64 10))), none, none⟩,
  ⟨(.bin .add (.k (.int .u64 48)) (.loc 0)), none, none⟩,
  ⟨(.conv .u8 (.loc 0)), none, none⟩,
  ⟨(.iaa 20 1 (.var 2) (.loc 4)), none, none⟩,
  ⟨(.store 1 (.loc 0) (.loc 1)), none, none⟩]
def c68_6 : List CO := [⟨(.mov (.var 4)), none, none⟩,
  ⟨(.bin .lss (.loc 0) (.k (.int .u64 10))), (some 5), none⟩]
def c68_7 : List CO := [⟨(.mov (.var 4)), none, none⟩,
  ⟨(.bin .quo (.loc 0) (.k (.int .u64 10))), none, none⟩,
  ⟨(.mov (.loc 0)), (some 4), none⟩]
def c68_8 : CC := (.seq (.block 1 (.seq (.region [] [] c68_4) (.seq (.region [] [] c68_5) (.seq (.region [] [] c68_6) (.cond (.var 5) (.exit 0) .skip))))) (.region [] [] c68_7))
def c68_9 : List CO := [⟨(.mov (.var 0)), none, none⟩,
  ⟨(.bin .lss (.loc 0) (.k (.int .i64 0))), (some 6), none⟩]
def c68_10 : List CO := [⟨(.mov (.var 3)), none, none⟩,
  ⟨(.bin .sub (.loc 0) (.k (.int .i64 1))), none, none⟩,
  ⟨(.mov (.loc 0)), (some 3), none⟩]
def c68_11 : List CO := [⟨(.mov (.var 3)), none, none⟩,
  ⟨(.iaa 20 1 (.var 2) (.loc 0)), none, none⟩,
  ⟨(.store 1 (.loc 0) (.k (.int .u8 45))), none, none⟩]
def c68_12 : List CO := [⟨(.mov (.var 3)), none, none⟩,
  ⟨(.aslice 20 1 (.var 2) (some (.loc 0)) none), none, none⟩,
  ⟨(.bstr (.loc 0)), none, none⟩,
  ⟨(.mov (.loc 0)), (some 1), none⟩]
def c68 : CFun := ⟨1, 7, (.seq (.region [] [] c68_0) (.seq (.region [] [] c68_1) (.seq (.region [] [] c68_2) (.seq (.seq (.region [] [] c68_3) (.block 0 (.loop [true, false, true, true, true, false, false] [] c68_8))) (.seq (.seq (.region [] [] c68_9) (.cond (.var 6) (.seq (.region [] [] c68_10) (.region [] [] c68_11)) .skip)) (.seq (.region [] [] c68_12) .ret)))))), [.var 1]⟩
theorem ok68 : CodeOk Tryd.prog T 68 c68 := ⟨⟨Tryd.f68, Hints.of [] [] [(0, [true, false, true, true, true, false, false], [])], [0, 2, 3, 4, 5, 19, 21], Tryd.func68, by kernel_rfl, by kernel_rfl⟩⟩

/-! spinney/char.Write -/
def c69_0 : List CO := [⟨(.mov (.k (.string ⟨#[]⟩))), (some 1), none⟩]
def c69_1 : List CO := [⟨(.mov (.var 0)), none, none⟩,
  ⟨(.call true 70 [(.loc 0)]), none, none⟩,
  ⟨(.un .not (.loc 0)), (some 4), none⟩]
def c69_2 : List CO := [⟨(.mov (.k (.string ⟨#[]⟩))), (some 1), none⟩]
def c69_3 : List CO := [⟨(.mov (.var 0)), none, none⟩,
  ⟨(.call true 79 [(.loc 0)]), (some 5), none⟩]
def c69_4 : List CO := [⟨(.mov (.var 0)), none, none⟩,
  ⟨(.mov (.loc 0)), (some 1), none⟩]
def c69_5 : List CO := [⟨(.box 61 (.k (.agg #[(.pointer none), (.slice none 0 0)]))), (some 2), none⟩]
def c69_6 : List CO := [⟨(.call false 66 [(.var 2), (.k (.int .u8 39))]), none, none⟩]
def c69_7 : List CO := [⟨(.mov (.var 0)), none, none⟩,
  ⟨(.range (.loc 0)), (some 6), none⟩]
def c69_8 : List CO := [⟨(.next (.var 6)), (some 7), none⟩,
  ⟨(.extract (.var 7) 0), (some 8), none⟩]
def c69_9 : List CO := [⟨(.extract (.var 7) 2), none, none⟩,
  ⟨(.mov (.loc 0)), (some 3), none⟩]
def c69_10 : List CO := [⟨(.mov (.var 3)), (some 9), none⟩]
def c69_11 : List CO := [⟨(.bin .eql (.var 9) (.k (.int .i32 39))), none, none⟩,
  ⟨(.mov (.loc 0)), (some 11), none⟩]
def c69_12 : List CO := [⟨(.bin .eql (.var 9) (.k (.int .i32 92))), none, none⟩,
  ⟨(.mov (.loc 0)), (some 11), none⟩]
def c69_13 : List CO := [⟨(.call false 66 [(.var 2), (.k (.int .u8 92))]), none, none⟩]
def c69_14 : List CO := [⟨(.mov (.var 3)), none, none⟩,
  ⟨(.call false 80 [(.var 2), (.loc 0)]), none, none⟩]
def c69_15 : List CO := [⟨(.bin .eql (.var 9) (.k (.int .i32 10))), none, none⟩,
  ⟨(.mov (.loc 0)), (some 12), none⟩]
def c69_16 : List CO := [⟨(.call false 67 [(.var 2), (.k (.string ⟨#[92, 110]⟩))]), none, none⟩]
def c69_17 : List CO := [⟨(.bin .eql (.var 9) (.k (.int .i32 9))), none, none⟩,
  ⟨(.mov (.loc 0)), (some 13), none⟩]
def c69_18 : List CO := [⟨(.call false 67 [(.var 2), (.k (.string ⟨#[92, 116]⟩))]), none, none⟩]
def c69_19 : List CO := [⟨(.mov (.var 3)), none, none⟩,
  ⟨(.bin .lss (.loc 0) (.k (.int .i32 32))), (some 10), none⟩]
def c69_20 : List CO := [⟨(.call false 67 [(.var 2), (.k (.string ⟨#[92, 120]⟩))]), none, none⟩]
def c69_21 : List CO := [⟨(.mov (.var 3)), none, none⟩,
  ⟨(.conv .i64 (.loc 0)), none, none⟩,
  ⟨(.call true 81 [(.loc 0), (.k (.int .i64 16))]), none, none⟩,
  ⟨(.call false 67 [(.var 2), (.loc 0)]), none, none⟩]
def c69_22 : List CO := [⟨(.call false 66 [(.var 2), (.k (.int .u8 92))]), none, none⟩]
def c69_23 : List CO := [⟨(.mov (.var 3)), none, none⟩,
  ⟨(.call false 80 [(.var 2), (.loc 0)]), none, none⟩]
def c69_24 : CC := (.seq (.region [] [] c69_8) (.seq (.cond (.var 8) .skip (.exit 0)) (.block 1 (.seq (.region [] [] c69_9) (.seq (.region [] [] c69_10) (.block 2 (.seq (.seq (.region [] [] c69_11) (.cond (.var 11) .skip (.region [] [] c69_12))) (.cond (.var 11) (.seq (.region [] [] c69_13) (.region [] [] c69_14)) (.seq (.region [] [] c69_15) (.cond (.var 12) (.region [] [] c69_16) (.seq (.region [] [] c69_17) (.cond (.var 13) (.region [] [] c69_18) (.seq (.seq (.region [] [] c69_19) (.cond (.var 10) (.seq (.region [] [] c69_20) (.seq (.region [] [] c69_21) (.seq (.region [] [] c69_22) (.exit 1)))) .skip)) (.region [] [] c69_23))))))))))))))
def c69_25 : List CO := [⟨(.call false 66 [(.var 2), (.k (.int .u8 39))]), none, none⟩]
def c69_26 : List CO := [⟨(.call false 53 [(.var 2)]), none, none⟩,
  ⟨(.mov (.loc 0)), (some 1), none⟩]
def c69 : CFun := ⟨1, 14, (.seq (.region [] [] c69_0) (.seq (.seq (.region [] [] c69_1) (.cond (.var 4) (.seq (.region [] [] c69_2) .ret) .skip)) (.seq (.seq (.region [] [] c69_3) (.cond (.var 5) (.seq (.region [] [] c69_4) .ret) .skip)) (.seq (.region [] [] c69_5) (.seq (.region [.ap 2 1 5 1] [] c69_6) (.seq (.seq (.region [] [] c69_7) (.block 0 (.loop [false, false, true, false, false, false, true, false, false, false, false, false, false, false] [] c69_24))) (.seq (.region [] [] c69_25) (.seq (.region [] [] c69_26) .ret)))))))), [.var 1]⟩
theorem ok69 : CodeOk Tryd.prog T 69 c69 := ⟨⟨Tryd.f69, Hints.of [(6, [.ap 2 1 5 1])] [] [(0, [false, false, true, false, false, false, true, false, false, false, false, false, false, false], [])], [0, 2, 3, 5, 8, 10, 14, 15, 16, 18, 20, 29, 35, 38], Tryd.func69, by kernel_rfl, by kernel_rfl⟩⟩

/-! spinney/char.Check -/
def c70_0 : List CO := [⟨(.mov (.k (.bool false))), (some 1), none⟩]
def c70_1 : List CO := [⟨(.mov (.var 0)), none, none⟩,
  ⟨(.len .string (.loc 0)), none, none⟩,
  ⟨(.bin .leq (.loc 0) (.k (.int .i64 255))), none, none⟩,
  ⟨(.mov (.loc 0)), none, none⟩,
  ⟨(.mov (.var 0)), none, (some ((.loc 0), true))⟩,
  ⟨(.call true 75 [(.loc 0)]), none, (some ((.loc 1), true))⟩,
  ⟨(.pick (.loc 2) (.loc 0) (.k (.bool false))), none, none⟩,
  ⟨(.mov (.loc 0)), (some 1), none⟩]
def c70 : CFun := ⟨1, 2, (.seq (.region [] [] c70_0) (.seq (.region [] [] c70_1) .ret)), [.var 1]⟩
theorem ok70 : CodeOk Tryd.prog T 70 c70 := ⟨⟨Tryd.f70, Hints.of [] [] [], [0, 2], Tryd.func70, by kernel_rfl, by kernel_rfl⟩⟩



/-! spinney/num.size -/
def c78_0 : List CO := [⟨(.mov (.k (.int .u64 0))), (some 1), none⟩]
def c78_1 : List CO := [⟨(.mov (.var 0)), none, none⟩,
  ⟨(.bin .lss (.loc 0) (.k (.int .i64 0))), (some 2), none⟩]
def c78_2 : List CO := [⟨(.mov (.var 0)), none, none⟩,
  ⟨(.conv .u64 (.loc 0)), none, none⟩,
  ⟨(.un .neg (.loc 0)), none, none⟩,
  ⟨(.mov (.loc 0)), (some 1), none⟩]
def c78_3 : List CO := [⟨(.mov (.var 0)), none, none⟩,
  ⟨(.conv .u64 (.loc 0)), none, none⟩,
  ⟨(.mov (.loc 0)), (some 1), none⟩]
def c78 : CFun := ⟨1, 3, (.seq (.region [] [] c78_0) (.seq (.seq (.region [] [] c78_1) (.cond (.var 2) (.seq (.region [] [] c78_2) .ret) .skip)) (.seq (.region [] [] c78_3) .ret))), [.var 1]⟩
theorem ok78 : CodeOk Tryd.prog T 78 c78 := ⟨⟨Tryd.f78, Hints.of [] [] [], [0, 2, 4], Tryd.func78, by kernel_rfl, by kernel_rfl⟩⟩

/-! spinney/char.Bare -/
def c79_0 : List CO := [⟨(.mov (.k (.bool false))), (some 1), none⟩]
def c79_1 : List CO := [⟨(.mov (.var 0)), (some 6), none⟩]
def c79_2 : List CO := [⟨(.bin .eql (.var 6) (.k (.string ⟨#[91, 93]⟩))), none, none⟩,
  ⟨(.mov (.loc 0)), (some 7), none⟩]
def c79_3 : List CO := [⟨(.bin .eql (.var 6) (.k (.string ⟨#[123, 125]⟩))), none, none⟩,
  ⟨(.mov (.loc 0)), (some 7), none⟩]
def c79_4 : List CO := [⟨(.bin .eql (.var 6) (.k (.string ⟨#[33]⟩))), none, none⟩,
  ⟨(.mov (.loc 0)), (some 7), none⟩]
def c79_5 : List CO := [⟨(.bin .eql (.var 6) (.k (.string ⟨#[59]⟩))), none, none⟩,
  ⟨(.mov (.loc 0)), (some 7), none⟩]
def c79_6 : List CO := [⟨(.mov (.k (.bool true))), (some 1), none⟩]
def c79_7 : List CO := [⟨(.bin .eql (.var 6) (.k (.string ⟨#[]⟩))), none, none⟩,
  ⟨(.mov (.loc 0)), (some 8), none⟩]
def c79_8 : List CO := [⟨(.bin .eql (.var 6) (.k (.string ⟨#[46]⟩))), none, none⟩,
  ⟨(.mov (.loc 0)), (some 8), none⟩]
def c79_9 : List CO := [⟨(.mov (.k (.bool false))), (some 1), none⟩]
def c79_10 : List CO := [⟨(.mov (.var 0)), none, none⟩,
  ⟨(.call true 88 [(.loc 0), (.k (.string ⟨#[47, 42]⟩))]), (some 9), none⟩]
def c79_11 : List CO := [⟨(.mov (.k (.bool false))), (some 1), none⟩]
def c79_12 : List CO := [⟨(.mov (.k (.int .i64 0))), (some 2), none⟩]
def c79_13 : List CO := [⟨(.mov (.var 0)), none, none⟩,
  ⟨(.range (.loc 0)), (some 10), none⟩]
def c79_14 : List CO := [⟨(.next (.var 10)), (some 11), none⟩,
  ⟨(.extract (.var 11) 0), (some 12), none⟩]
def c79_15 : List CO := [⟨(.extract (.var 11) 1), none, none⟩,
  ⟨(.extract (.var 11) 2), none, none⟩,
  ⟨(.mov (.loc 1)), (some 3), none⟩,
  ⟨(.mov (.loc 1)), (some 4), none⟩]
def c79_16 : List CO := [⟨(.mov (.var 4)), none, none⟩,
  ⟨(.call true 89 [(.loc 0)]), none, none⟩,
  ⟨(.mov (.loc 0)), (some 5), none⟩]
def c79_17 : List CO := [⟨(.mov (.var 3)), none, none⟩,
  ⟨(.bin .eql (.loc 0) (.k (.int .i64 0))), (some 13), none⟩]
def c79_18 : List CO := [⟨(.mov (.var 5)), none, none⟩,
  ⟨(.mov (.loc 0)), (some 2), none⟩]
def c79_19 : List CO := [⟨(.mov (.var 2)), (some 14), none⟩]
def c79_20 : List CO := [⟨(.bin .eql (.var 14) (.k (.int .i64 1))), none, none⟩,
  ⟨(.mov (.loc 0)), (some 15), none⟩]
def c79_21 : List CO := [⟨(.mov (.var 5)), none, none⟩,
  ⟨(.bin .lss (.loc 0) (.k (.int .i64 1))), none, none⟩,
  ⟨(.mov (.loc 0)), none, none⟩,
  ⟨(.mov (.var 5)), none, (some ((.loc 0), false))⟩,
  ⟨(.bin .gtr (.loc 0) (.k (.int .i64 3))), none, (some ((.loc 1), false))⟩,
  ⟨(.pick (.loc 2) (.k (.bool true)) (.loc 0)), (some 16), none⟩]
def c79_22 : List CO := [⟨(.mov (.k (.bool false))), (some 1), none⟩]
def c79_23 : List CO := [⟨(.bin .eql (.var 14) (.k (.int .i64 4))), none, none⟩,
  ⟨(.mov (.loc 0)), (some 17), none⟩]
def c79_24 : List CO := [⟨(.mov (.var 5)), none, none⟩,
  ⟨(.bin .neq (.loc 0) (.k (.int .i64 4))), (some 18), none⟩]
def c79_25 : List CO := [⟨(.mov (.k (.bool false))), (some 1), none⟩]
def c79_26 : List CO := [⟨(.mov (.k (.bool false))), (some 1), none⟩]
def c79_27 : CC := (.seq (.region [] [] c79_14) (.seq (.cond (.var 12) .skip (.exit 1)) (.block 2 (.seq (.region [] [] c79_15) (.seq (.region [] [] c79_16) (.seq (.seq (.region [] [] c79_17) (.cond (.var 13) (.region [] [] c79_18) .skip)) (.seq (.region [] [] c79_19) (.block 3 (.seq (.region [] [] c79_20) (.cond (.var 15) (.seq (.region [] [] c79_21) (.cond (.var 16) (.seq (.region [] [] c79_22) .ret) .skip)) (.seq (.region [] [] c79_23) (.cond (.var 17) (.seq (.region [] [] c79_24) (.cond (.var 18) (.seq (.region [] [] c79_25) .ret) .skip)) (.seq (.region [] [] c79_26) .ret)))))))))))))
def c79_28 : List CO := [⟨(.mov (.var 0)), none, none⟩,
  ⟨(.len .string (.loc 0)), none, none⟩,
  ⟨(.bin .leq (.loc 0) (.k (.int .i64 255))), none, none⟩,
  ⟨(.mov (.loc 0)), (some 1), none⟩]
def c79 : CFun := ⟨1, 19, (.seq (.region [] [] c79_0) (.seq (.seq (.region [] [] c79_1) (.block 0 (.seq (.seq (.region [] [] c79_2) (.cond (.var 7) .skip (.seq (.region [] [] c79_3) (.cond (.var 7) .skip (.seq (.region [] [] c79_4) (.cond (.var 7) .skip (.region [] [] c79_5))))))) (.cond (.var 7) (.seq (.region [] [] c79_6) .ret) (.seq (.seq (.region [] [] c79_7) (.cond (.var 8) .skip (.region [] [] c79_8))) (.cond (.var 8) (.seq (.region [] [] c79_9) .ret) .skip)))))) (.seq (.seq (.region [] [] c79_10) (.cond (.var 9) (.seq (.region [] [] c79_11) .ret) .skip)) (.seq (.region [] [] c79_12) (.seq (.seq (.region [] [] c79_13) (.block 1 (.loop [true, false, true, false, false, false, false, false, false, false, true, false, false, false, false, false, false, false, false] [] c79_27))) (.seq (.region [] [] c79_28) .ret)))))), [.var 1]⟩
theorem ok79 : CodeOk Tryd.prog T 79 c79 := ⟨⟨Tryd.f79, Hints.of [] [] [(1, [true, false, true, false, false, false, false, false, false, false, true, false, false, false, false, false, false, false, false], [])], [0, 2, 3, 4, 5, 6, 7, 8, 13, 17, 19, 20, 21, 27, 29, 30, 37, 38, 41], Tryd.func79, by kernel_rfl, by kernel_rfl⟩⟩

/-! (*strings.Builder).WriteRune -/
def c80_0 : List CO := [⟨(.mov (.k (.int .i64 0))), (some 2), none⟩,
  ⟨(.mov (.k .nilIface)), (some 3), none⟩]
def c80_1 : List CO := [⟨(.mov (.var 0)), none, none⟩,
  ⟨(.call false 77 [(.loc 0)]), none, none⟩]
def c80_2 : List CO := [⟨(.mov (.var 0)), none, none⟩,
  ⟨(.nilchk (.loc 0)), none, none⟩,
  ⟨(.fa 1 (.loc 0)), none, none⟩,
  ⟨(.load false 1 (.loc 0)), none, none⟩,
  ⟨(.len .slice (.loc 0)), none, none⟩,
  ⟨(.mov (.loc 0)), (some 4), none⟩]
def c80_3 : List CO := [⟨(.mov (.var 0)), none, none⟩,
  ⟨(.mov (.var 0)), none, none⟩,
  ⟨(.nilchk (.loc 0)), none, none⟩,
  ⟨(.fa 1 (.loc 0)), none, none⟩,
  ⟨(.load false 1 (.loc 0)), none, none⟩,
  ⟨(.mov (.var 1)), none, none⟩,
  ⟨(.call false 90 [(.loc 1), (.loc 0)]), none, none⟩,
  ⟨(.nilchk (.loc 6)), none, none⟩,
  ⟨(.fa 1 (.loc 0)), none, none⟩,
  ⟨(.store 1 (.loc 0) (.loc 2)), none, none⟩]
def c80_4 : List CO := [⟨(.mov (.var 0)), none, none⟩,
  ⟨(.nilchk (.loc 0)), none, none⟩,
  ⟨(.fa 1 (.loc 0)), none, none⟩,
  ⟨(.load false 1 (.loc 0)), none, none⟩,
  ⟨(.len .slice (.loc 0)), none, none⟩,
  ⟨(.mov (.var 4)), none, none⟩,
  ⟨(.bin .sub (.loc 1) (.loc 0)), none, none⟩,
  ⟨(.mov (.loc 0)), (some 2), none⟩,
  ⟨(.mov (.k .nilIface)), (some 3), none⟩]
def c80 : CFun := ⟨2, 5, (.seq (.region [] [] c80_0) (.seq (.region [] [] c80_1) (.seq (.region [] [] c80_2) (.seq (.region [] [] c80_3) (.seq (.region [] [] c80_4) .ret))))), [.var 2, .var 3]⟩
theorem ok80 : CodeOk Tryd.prog T 80 c80 := ⟨⟨Tryd.f80, Hints.of [] [] [], [0, 1, 4, 5, 6], Tryd.func80, by kernel_rfl, by kernel_rfl⟩⟩

/-! strconv.FormatInt -/
def c81_0 : List CO := [⟨(.mov (.k (.string ⟨#[]⟩))), (some 2), none⟩]
def c81_1 : List CO := [⟨(.mov (.var 0)), none, none⟩,
  ⟨(.mov (.var 1)), none, none⟩,
  ⟨(.call true 91 [(.loc 1), (.loc 0)]), none, none⟩,
  ⟨(.mov (.loc 0)), (some 2), none⟩]
def c81 : CFun := ⟨2, 3, (.seq (.region [] [] c81_0) (.seq (.region [] [] c81_1) .ret)), [.var 2]⟩
theorem ok81 : CodeOk Tryd.prog T 81 c81 := ⟨⟨Tryd.f81, Hints.of [] [] [], [0, 1, 4], Tryd.func81, by kernel_rfl, by kernel_rfl⟩⟩





/-! strings.HasPrefix -/
def c88_0 : List CO := [⟨(.mov (.k (.bool false))), (some 2), none⟩]
def c88_1 : List CO := [⟨(.mov (.var 0)), none, none⟩,
  ⟨(.mov (.var 1)), none, none⟩,
  ⟨(.call true 94 [(.loc 1), (.loc 0)]), none, none⟩,
  ⟨(.mov (.loc 0)), (some 2), none⟩]
def c88 : CFun := ⟨2, 3, (.seq (.region [] [] c88_0) (.seq (.region [] [] c88_1) .ret)), [.var 2]⟩
theorem ok88 : CodeOk Tryd.prog T 88 c88 := ⟨⟨Tryd.f88, Hints.of [] [] [], [0, 1, 4], Tryd.func88, by kernel_rfl, by kernel_rfl⟩⟩

/-! spinney/char.Class -/
def c89_0 : List CO := [⟨(.mov (.k (.int .i64 0))), (some 1), none⟩]
def c89_1 : List CO := [⟨(.mov (.var 0)), (some 2), none⟩]
def c89_2 : List CO := [⟨(.bin .eql (.var 2) (.k (.int .i32 43))), none, none⟩,
  ⟨(.mov (.loc 0)), (some 3), none⟩]
def c89_3 : List CO := [⟨(.bin .eql (.var 2) (.k (.int .i32 45))), none, none⟩,
  ⟨(.mov (.loc 0)), (some 3), none⟩]
def c89_4 : List CO := [⟨(.bin .eql (.var 2) (.k (.int .i32 42))), none, none⟩,
  ⟨(.mov (.loc 0)), (some 3), none⟩]
def c89_5 : List CO := [⟨(.bin .eql (.var 2) (.k (.int .i32 47))), none, none⟩,
  ⟨(.mov (.loc 0)), (some 3), none⟩]
def c89_6 : List CO := [⟨(.bin .eql (.var 2) (.k (.int .i32 92))), none, none⟩,
  ⟨(.mov (.loc 0)), (some 3), none⟩]
def c89_7 : List CO := [⟨(.bin .eql (.var 2) (.k (.int .i32 94))), none, none⟩,
  ⟨(.mov (.loc 0)), (some 3), none⟩]
def c89_8 : List CO := [⟨(.bin .eql (.var 2) (.k (.int .i32 60))), none, none⟩,
  ⟨(.mov (.loc 0)), (some 3), none⟩]
def c89_9 : List CO := [⟨(.bin .eql (.var 2) (.k (.int .i32 62))), none, none⟩,
  ⟨(.mov (.loc 0)), (some 3), none⟩]
def c89_10 : List CO := [⟨(.bin .eql (.var 2) (.k (.int .i32 61))), none, none⟩,
  ⟨(.mov (.loc 0)), (some 3), none⟩]
def c89_11 : List CO := [⟨(.bin .eql (.var 2) (.k (.int .i32 126))), none, none⟩,
  ⟨(.mov (.loc 0)), (some 3), none⟩]
def c89_12 : List CO := [⟨(.bin .eql (.var 2) (.k (.int .i32 58))), none, none⟩,
  ⟨(.mov (.loc 0)), (some 3), none⟩]
def c89_13 : List CO := [⟨(.bin .eql (.var 2) (.k (.int .i32 46))), none, none⟩,
  ⟨(.mov (.loc 0)), (some 3), none⟩]
def c89_14 : List CO := [⟨(.bin .eql (.var 2) (.k (.int .i32 63))), none, none⟩,
  ⟨(.mov (.loc 0)), (some 3), none⟩]
def c89_15 : List CO := [⟨(.bin .eql (.var 2) (.k (.int .i32 64))), none, none⟩,
  ⟨(.mov (.loc 0)), (some 3), none⟩]
def c89_16 : List CO := [⟨(.bin .eql (.var 2) (.k (.int .i32 35))), none, none⟩,
  ⟨(.mov (.loc 0)), (some 3), none⟩]
def c89_17 : List CO := [⟨(.bin .eql (.var 2) (.k (.int .i32 38))), none, none⟩,
  ⟨(.mov (.loc 0)), (some 3), none⟩]
def c89_18 : List CO := [⟨(.bin .eql (.var 2) (.k (.int .i32 36))), none, none⟩,
  ⟨(.mov (.loc 0)), (some 3), none⟩]
def c89_19 : List CO := [⟨(.mov (.k (.int .i64 4))), (some 1), none⟩]
def c89_20 : List CO := [⟨(.bin .eql (.var 2) (.k (.int .i32 9))), none, none⟩,
  ⟨(.mov (.loc 0)), (some 4), none⟩]
def c89_21 : List CO := [⟨(.bin .eql (.var 2) (.k (.int .i32 10))), none, none⟩,
  ⟨(.mov (.loc 0)), (some 4), none⟩]
def c89_22 : List CO := [⟨(.bin .eql (.var 2) (.k (.int .i32 13))), none, none⟩,
  ⟨(.mov (.loc 0)), (some 4), none⟩]
def c89_23 : List CO := [⟨(.bin .eql (.var 2) (.k (.int .i32 32))), none, none⟩,
  ⟨(.mov (.loc 0)), (some 4), none⟩]
def c89_24 : List CO := [⟨(.mov (.k (.int .i64 5))), (some 1), none⟩]
def c89_25 : List CO := [⟨(.bin .eql (.var 2) (.k (.int .i32 33))), none, none⟩,
  ⟨(.mov (.loc 0)), (some 5), none⟩]
def c89_26 : List CO := [⟨(.bin .eql (.var 2) (.k (.int .i32 59))), none, none⟩,
  ⟨(.mov (.loc 0)), (some 5), none⟩]
def c89_27 : List CO := [⟨(.bin .eql (.var 2) (.k (.int .i32 44))), none, none⟩,
  ⟨(.mov (.loc 0)), (some 5), none⟩]
def c89_28 : List CO := [⟨(.bin .eql (.var 2) (.k (.int .i32 124))), none, none⟩,
  ⟨(.mov (.loc 0)), (some 5), none⟩]
def c89_29 : List CO := [⟨(.mov (.k (.int .i64 6))), (some 1), none⟩]
def c89_30 : List CO := [⟨(.bin .eql (.var 2) (.k (.int .i32 40))), none, none⟩,
  ⟨(.mov (.loc 0)), (some 6), none⟩]
def c89_31 : List CO := [⟨(.bin .eql (.var 2) (.k (.int .i32 41))), none, none⟩,
  ⟨(.mov (.loc 0)), (some 6), none⟩]
def c89_32 : List CO := [⟨(.bin .eql (.var 2) (.k (.int .i32 91))), none, none⟩,
  ⟨(.mov (.loc 0)), (some 6), none⟩]
def c89_33 : List CO := [⟨(.bin .eql (.var 2) (.k (.int .i32 93))), none, none⟩,
  ⟨(.mov (.loc 0)), (some 6), none⟩]
def c89_34 : List CO := [⟨(.bin .eql (.var 2) (.k (.int .i32 123))), none, none⟩,
  ⟨(.mov (.loc 0)), (some 6), none⟩]
def c89_35 : List CO := [⟨(.bin .eql (.var 2) (.k (.int .i32 125))), none, none⟩,
  ⟨(.mov (.loc 0)), (some 6), none⟩]
def c89_36 : List CO := [⟨(.mov (.k (.int .i64 7))), (some 1), none⟩]
def c89_37 : List CO := [⟨(.bin .eql (.var 2) (.k (.int .i32 39))), none, none⟩,
  ⟨(.mov (.loc 0)), (some 7), none⟩]
def c89_38 : List CO := [⟨(.mov (.k (.int .i64 8))), (some 1), none⟩]
def c89_39 : List CO := [⟨(.bin .eql (.var 2) (.k (.int .i32 95))), none, none⟩,
  ⟨(.mov (.loc 0)), (some 8), none⟩]
def c89_40 : List CO := [⟨(.mov (.k (.int .i64 2))), (some 1), none⟩]
def c89_41 : List CO := [⟨(.mov (.var 0)), none, none⟩,
  ⟨(.bin .leq (.k (.int .i32 97)) (.loc 0)), none, none⟩,
  ⟨(.mov (.loc 0)), none, none⟩,
  ⟨(.mov (.var 0)), none, (some ((.loc 0), true))⟩,
  ⟨(.bin .leq (.loc 0) (.k (.int .i32 122))), none, (some ((.loc 1), true))⟩,
  ⟨(.pick (.loc 2) (.loc 0) (.k (.bool false))), none, none⟩,
  ⟨(.mov (.loc 0)), (some 9), none⟩]
def c89_42 : List CO := [⟨(.mov (.k (.int .i64 1))), (some 1), none⟩]
def c89_43 : List CO := [⟨(.mov (.var 0)), none, none⟩,
  ⟨(.bin .leq (.k (.int .i32 65)) (.loc 0)), none, none⟩,
  ⟨(.mov (.loc 0)), none, none⟩,
  ⟨(.mov (.var 0)), none, (some ((.loc 0), true))⟩,
  ⟨(.bin .leq (.loc 0) (.k (.int .i32 90))), none, (some ((.loc 1), true))⟩,
  ⟨(.pick (.loc 2) (.loc 0) (.k (.bool false))), none, none⟩,
  ⟨(.mov (.loc 0)), (some 10), none⟩]
def c89_44 : List CO := [⟨(.mov (.k (.int .i64 2))), (some 1), none⟩]
def c89_45 : List CO := [⟨(.mov (.var 0)), none, none⟩,
  ⟨(.bin .leq (.k (.int .i32 48)) (.loc 0)), none, none⟩,
  ⟨(.mov (.loc 0)), none, none⟩,
  ⟨(.mov (.var 0)), none, (some ((.loc 0), true))⟩,
  ⟨(.bin .leq (.loc 0) (.k (.int .i32 57))), none, (some ((.loc 1), true))⟩,
  ⟨(.pick (.loc 2) (.loc 0) (.k (.bool false))), none, none⟩,
  ⟨(.mov (.loc 0)), (some 11), none⟩]
def c89_46 : List CO := [⟨(.mov (.k (.int .i64 3))), (some 1), none⟩]
def c89_47 : List CO := [⟨(.mov (.k (.int .i64 0))), (some 1), none⟩]
def c89 : CFun := ⟨1, 12, (.seq (.region [] [] c89_0) (.seq (.seq (.region [] [] c89_1) (.block 0 (.seq (.seq (.region [] [] c89_2) (.cond (.var 3) .skip (.seq (.region [] [] c89_3) (.cond (.var 3) .skip (.seq (.region [] [] c89_4) (.cond (.var 3) .skip (.seq (.region [] [] c89_5) (.cond (.var 3) .skip (.seq (.region [] [] c89_6) (.cond (.var 3) .skip (.seq (.region [] [] c89_7) (.cond (.var 3) .skip (.seq (.region [] [] c89_8) (.cond (.var 3) .skip (.seq (.region [] [] c89_9) (.cond (.var 3) .skip (.seq (.region [] [] c89_10) (.cond (.var 3) .skip (.seq (.region [] [] c89_11) (.cond (.var 3) .skip (.seq (.region [] [] c89_12) (.cond (.var 3) .skip (.seq (.region [] [] c89_13) (.cond (.var 3) .skip (.seq (.region [] [] c89_14) (.cond (.var 3) .skip (.seq (.region [] [] c89_15) (.cond (.var 3) .skip (.seq (.region [] [] c89_16) (.cond (.var 3) .skip (.seq (.region [] [] c89_17) (.cond (.var 3) .skip (.region [] [] c89_18))))))))))))))))))))))))))))))))) (.cond (.var 3) (.seq (.region [] [] c89_19) .ret) (.seq (.seq (.region [] [] c89_20) (.cond (.var 4) .skip (.seq (.region [] [] c89_21) (.cond (.var 4) .skip (.seq (.region [] [] c89_22) (.cond (.var 4) .skip (.region [] [] c89_23))))))) (.cond (.var 4) (.seq (.region [] [] c89_24) .ret) (.seq (.seq (.region [] [] c89_25) (.cond (.var 5) .skip (.seq (.region [] [] c89_26) (.cond (.var 5) .skip (.seq (.region [] [] c89_27) (.cond (.var 5) .skip (.region [] [] c89_28))))))) (.cond (.var 5) (.seq (.region [] [] c89_29) .ret) (.seq (.seq (.region [] [] c89_30) (.cond (.var 6) .skip (.seq (.region [] [] c89_31) (.cond (.var 6) .skip (.seq (.region [] [] c89_32) (.cond (.var 6) .skip (.seq (.region [] [] c89_33) (.cond (.var 6) .skip (.seq (.region [] [] c89_34) (.cond (.var 6) .skip (.region [] [] c89_35))))))))))) (.cond (.var 6) (.seq (.region [] [] c89_36) .ret) (.seq (.region [] [] c89_37) (.cond (.var 7) (.seq (.region [] [] c89_38) .ret) (.seq (.region [] [] c89_39) (.cond (.var 8) (.seq (.region [] [] c89_40) .ret) .skip)))))))))))))) (.seq (.block 1 (.seq (.region [] [] c89_41) (.cond (.var 9) (.seq (.region [] [] c89_42) .ret) (.seq (.region [] [] c89_43) (.cond (.var 10) (.seq (.region [] [] c89_44) .ret) (.seq (.region [] [] c89_45) (.cond (.var 11) (.seq (.region [] [] c89_46) .ret) .skip))))))) (.seq (.region [] [] c89_47) .ret)))), [.var 1]⟩
theorem ok89 : CodeOk Tryd.prog T 89 c89 := ⟨⟨Tryd.f89, Hints.of [] [] [], [0, 2, 3, 4, 22, 27, 32, 39, 41, 43, 50, 57], Tryd.func89, by kernel_rfl, by kernel_rfl⟩⟩

/-! unicode/utf8.AppendRune -/
def c90_0 : List CO := [⟨(.mov (.k (.slice none 0 0))), (some 2), none⟩]
def c90_1 : List CO := [⟨(.mov (.var 1)), none, none⟩,
  ⟨(.conv .u32 (.loc 0)), none, none⟩,
  ⟨(.bin .leq (.loc 0) (.k (.int .u32 127))), (some 3), none⟩]
def c90_2 : List CO := [⟨(.mov (.var 0)), none, none⟩,
  ⟨(.mov (.var 1)), none, none⟩,
  ⟨(.conv .u8 (.loc 0)), none, none⟩,
  ⟨(.bslice 1 [(.int .u8 0)] 1 [(0, (.loc 0))]), none, none⟩,
  ⟨(.append 5 1 1 (.loc 3) (.loc 0)), none, none⟩,
  ⟨(.mov (.loc 0)), (some 2), none⟩]
def c90_3 : List CO := [⟨(.mov (.var 0)), none, none⟩,
  ⟨(.mov (.var 1)), none, none⟩,
  ⟨(.call false 95 [(.loc 1), (.loc 0)]), none, none⟩,
  ⟨(.mov (.loc 0)), (some 2), none⟩]
def c90 : CFun := ⟨2, 4, (.seq (.region [] [] c90_0) (.seq (.seq (.region [] [] c90_1) (.cond (.var 3) (.seq (.region [] [] c90_2) .ret) .skip)) (.seq (.region [] [] c90_3) .ret))), [.var 2]⟩
theorem ok90 : CodeOk Tryd.prog T 90 c90 := ⟨⟨Tryd.f90, Hints.of [] [] [], [0, 1, 4, 7], Tryd.func90, by kernel_rfl, by kernel_rfl⟩⟩

/-! internal/strconv.FormatInt -/
def c91_0 : List CO := [⟨(.mov (.k (.string ⟨#[]⟩))), (some 2), none⟩]
def c91_1 : List CO := [⟨(.mov (.var 1)), none, none⟩,
  ⟨(.bin .eql (.loc 0) (.k (.int .i64 10))), (some 7), none⟩]
def c91_2 : List CO := [⟨(.mov (.var 0)), none, none⟩,
  ⟨(.bin .leq (.k (.int .i64 0)) (.loc 0)), none, none⟩,
  ⟨(.mov (.loc 0)), none, none⟩,
  ⟨(.mov (.var 0)), none, (some ((.loc 0), true))⟩,
  ⟨(.bin .lss (.loc 0) (.k (.int .i64 100))), none, (some ((.loc 1), true))⟩,
  ⟨(.pick (.loc 2) (.loc 0) (.k (.bool false))), (some 8), none⟩]
def c91_3 : List CO := [⟨(.mov (.var 0)), none, none⟩,
  ⟨(.call true 96 [(.loc 0)]), none, none⟩,
  ⟨(.mov (.loc 0)), (some 2), none⟩]
def c91_4 : List CO := [⟨(.box 110 (.k (.agg #[(.int .u8 0), (.int .u8 0), (.int .u8 0), (.int .u8 0), (.int .u8 0), (.int .u8 0), (.int .u8 0), (.int .u8 0), (.int .u8 0), (.int .u8 0), (.int .u8 0), (.int .u8 0), (.int .u8 0), (.int .u8 0), (.int .u8 0), (.int .u8 0), (.int .u8 0), (.int .u8 0), (.int .u8 0), (.int .u8 0), (.int .u8 0), (.int .u8 0), (.int .u8 0), (.int .u8 0)]))), (some 3), none⟩]
def c91_5 : List CO := [⟨(.mov (.var 0)), none, none⟩,
  ⟨(.conv .u64 (.loc 0)), none, none⟩,
  ⟨(.mov (.loc 0)), (some 4), none⟩]
def c91_6 : List CO := [⟨(.mov (.var 0)), none, none⟩,
  ⟨(.bin .lss (.loc 0) (.k (.int .i64 0))), (some 9), none⟩]
def c91_7 : List CO := [⟨(.mov (.var 4)), none, none⟩,
  ⟨(.un .neg (.loc 0)), none, none⟩,
  ⟨(.mov (.loc 0)), (some 4), none⟩]
def c91_8 : List CO := [⟨(.mov (.var 4)), none, none⟩,
  ⟨(.call true 97 [(.loc 0)]), none, none⟩,
  ⟨(.mov (.loc 0)), (some 5), none⟩]
def c91_9 : List CO := [⟨(.mov (.var 5)), none, none⟩,
  ⟨(.bin .add (.k (.int .i64 1)) (.loc 0)), none, none⟩,
  ⟨(.aslice 24 1 (.var 3) (some (.k (.int .i64 1))) (some (.loc 0))), none, none⟩,
  ⟨(.mov (.var 4)), none, none⟩,
  ⟨(.call true 98 [(.loc 1), (.loc 0)]), none, none⟩]
def c91_10 : List CO := [⟨(.mov (.var 0)), none, none⟩,
  ⟨(.bin .lss (.loc 0) (.k (.int .i64 0))), (some 10), none⟩]
def c91_11 : List CO := [⟨(.iaa 24 1 (.var 3) (.k (.int .i64 0))), none, none⟩,
  ⟨(.store 1 (.loc 0) (.k (.int .u8 45))), none, none⟩]
def c91_12 : List CO := [⟨(.mov (.var 5)), none, none⟩,
  ⟨(.bin .add (.k (.int .i64 1)) (.loc 0)), none, none⟩,
  ⟨(.aslice 24 1 (.var 3) none (some (.loc 0))), none, none⟩,
  ⟨(.bstr (.loc 0)), none, none⟩,
  ⟨(.mov (.loc 0)), (some 2), none⟩]
def c91_13 : List CO := [⟨(.mov (.var 5)), none, none⟩,
  ⟨(.bin .add (.k (.int .i64 1)) (.loc 0)), none, none⟩,
  ⟨(.aslice 24 1 (.var 3) (some (.k (.int .i64 1))) (some (.loc 0))), none, none⟩,
  ⟨(.bstr (.loc 0)), none, none⟩,
  ⟨(.mov (.loc 0)), (some 2), none⟩]
def c91_14 : List CO := [⟨(.mov (.var 0)), none, none⟩,
  ⟨(.conv .u64 (.loc 0)), none, none⟩,
  ⟨(.mov (.var 1)), none, none⟩,
  ⟨(.mov (.var 0)), none, none⟩,
  ⟨(.bin .lss (.loc 0) (.k (.int .i64 0))), none, none⟩,
  ⟨(.call true 99 [(.k (.slice none 0 0)), (.loc 3), (.loc 2), (.loc 0), (.k (.bool false))]), none, none⟩,
  ⟨(.mov (.loc 0)), none, none⟩,
  ⟨(.extract (.loc 0) 0), none, none⟩,
  ⟨(.extract (.loc 1) 1), none, none⟩,
  ⟨(.mov (.loc 1)), none, none⟩,
  ⟨(.mov (.loc 1)), (some 6), none⟩]
def c91_15 : List CO := [⟨(.mov (.var 6)), none, none⟩,
  ⟨(.mov (.loc 0)), (some 2), none⟩]
def c91 : CFun := ⟨2, 11, (.seq (.region [] [] c91_0) (.seq (.seq (.region [] [] c91_1) (.cond (.var 7) (.seq (.seq (.region [] [] c91_2) (.cond (.var 8) (.seq (.region [] [] c91_3) .ret) .skip)) (.seq (.region [] [] c91_4) (.seq (.region [] [] c91_5) (.seq (.seq (.region [] [] c91_6) (.cond (.var 9) (.region [] [] c91_7) .skip)) (.seq (.region [] [] c91_8) (.seq (.region [] [] c91_9) (.seq (.seq (.region [] [] c91_10) (.cond (.var 10) (.seq (.region [] [] c91_11) (.seq (.region [] [] c91_12) .ret)) .skip)) (.seq (.region [] [] c91_13) .ret)))))))) .skip)) (.seq (.region [] [] c91_14) (.seq (.region [] [] c91_15) .ret)))), [.var 2]⟩
theorem ok91 : CodeOk Tryd.prog T 91 c91 := ⟨⟨Tryd.f91, Hints.of [] [] [], [0, 1, 4, 5, 6, 7, 9, 11, 17, 23, 34], Tryd.func91, by kernel_rfl, by kernel_rfl⟩⟩


/-! internal/stringslite.HasPrefix -/
def c94_0 : List CO := [⟨(.mov (.k (.bool false))), (some 2), none⟩]
def c94_1 : List CO := [⟨(.mov (.var 0)), none, none⟩,
  ⟨(.len .string (.loc 0)), none, none⟩,
  ⟨(.mov (.var 1)), none, none⟩,
  ⟨(.len .string (.loc 0)), none, none⟩,
  ⟨(.bin .geq (.loc 2) (.loc 0)), none, none⟩,
  ⟨(.mov (.loc 0)), none, none⟩,
  ⟨(.mov (.var 0)), none, (some ((.loc 0), true))⟩,
  ⟨(.mov (.var 1)), none, (some ((.loc 1), true))⟩,
  ⟨(.len .string (.loc 0)), none, (some ((.loc 2), true))⟩,
  ⟨(.sslice (.loc 2) none (some (.loc 0))), none, (some ((.loc 3), true))⟩,
  ⟨(.mov (.var 1)), none, (some ((.loc 4), true))⟩,
  ⟨(.bin .eql (.loc 1) (.loc 0)), none, (some ((.loc 5), true))⟩,
  ⟨(.pick (.loc 6) (.loc 0) (.k (.bool false))), none, none⟩,
  ⟨(.mov (.loc 0)), (some 2), none⟩]
def c94 : CFun := ⟨2, 3, (.seq (.region [] [] c94_0) (.seq (.region [] [] c94_1) .ret)), [.var 2]⟩
theorem ok94 : CodeOk Tryd.prog T 94 c94 := ⟨⟨Tryd.f94, Hints.of [] [] [], [0, 1, 4], Tryd.func94, by kernel_rfl, by kernel_rfl⟩⟩

/-! unicode/utf8.appendRuneNonASCII -/
def c95_0 : List CO := [⟨(.mov (.k (.slice none 0 0))), (some 2), none⟩]
def c95_1 : List CO := [⟨(.mov (.var 1)), none, none⟩,
  ⟨(.conv .u32 (.loc 0)), none, none⟩,
  ⟨(.mov (.loc 0)), (some 3), none⟩]
def c95_2 : List CO := [⟨(.mov (.var 3)), none, none⟩,
  ⟨(.bin .leq (.loc 0) (.k (.int .u32 2047))), none, none⟩,
  ⟨(.mov (.loc 0)), (some 4), none⟩]
def c95_3 : List CO := [⟨(.mov (.var 0)), none, none⟩,
  ⟨(.mov (.var 1)), none, none⟩,
  ⟨(.shf false (.loc 0) (.k (.int .u64 6))), none, none⟩,
  ⟨(.conv .u8 (.loc 0)), none, none⟩,
  ⟨(.bin .or (.k (.int .u8 192)) (.loc 0)), none, none⟩,
  ⟨(.mov (.var 1)), none, none⟩,
  ⟨(.conv .u8 (.loc 0)), none, none⟩,
  ⟨(.bin .and (.loc 0) (.k (.int .u8 63))), none, none⟩,
  ⟨(.bin .or (.k (.int .u8 128)) (.loc 0)), none, none⟩,
  ⟨(.bslice 1 [(.int .u8 0)] 2 [(0, (.loc 4)), (1, (.loc 0))]), none, none⟩,
  ⟨(.append 5 1 1 (.loc 9) (.loc 0)), none, none⟩,
  ⟨(.mov (.loc 0)), (some 2), none⟩]
def c95_4 : List CO := [⟨(.mov (.var 3)), none, none⟩,
  ⟨(.bin .lss (.loc 0) (.k (.int .u32 55296))), none, none⟩,
  ⟨(.mov (.loc 0)), (some 5), none⟩]
def c95_5 : List CO := [⟨(.mov (.var 3)), none, none⟩,
  ⟨(.bin .lss (.k (.int .u32 57343)) (.loc 0)), none, none⟩,
  ⟨(.mov (.loc 0)), none, none⟩,
  ⟨(.mov (.var 3)), none, (some ((.loc 0), true))⟩,
  ⟨(.bin .leq (.loc 0) (.k (.int .u32 65535))), none, (some ((.loc 1), true))⟩,
  ⟨(.pick (.loc 2) (.loc 0) (.k (.bool false))), none, none⟩,
  ⟨(.mov (.loc 0)), (some 5), none⟩]
def c95_6 : List CO := [⟨(.mov (.var 0)), none, none⟩,
  ⟨(.mov (.var 1)), none, none⟩,
  ⟨(.shf false (.loc 0) (.k (.int .u64 12))), none, none⟩,
  ⟨(.conv .u8 (.loc 0)), none, none⟩,
  ⟨(.bin .or (.k (.int .u8 224)) (.loc 0)), none, none⟩,
  ⟨(.mov (.var 1)), none, none⟩,
  ⟨(.shf false (.loc 0) (.k (.int .u64 6))), none, none⟩,
  ⟨(.conv .u8 (.loc 0)), none, none⟩,
  ⟨(.bin .and (.loc 0) (.k (.int .u8 63))), none, none⟩,
  ⟨(.bin .or (.k (.int .u8 128)) (.loc 0)), none, none⟩,
  ⟨(.mov (.var 1)), none, none⟩,
  ⟨(.conv .u8 (.loc 0)), none, none⟩,
  ⟨(.bin .and (.loc 0) (.k (.int .u8 63))), none, none⟩,
  ⟨(.bin .or (.k (.int .u8 128)) (.loc 0)), none, none⟩,
  ⟨(.bslice 1 [(.int .u8 0)] 3 [(0, (.loc 9)), (1, (.loc 4)), (2, (.loc 0))]), none, none⟩,
  ⟨(.append 5 1 1 (.loc 14) (.loc 0)), none, none⟩,
  ⟨(.mov (.loc 0)), (some 2), none⟩]
def c95_7 : List CO := [⟨(.mov (.var 3)), none, none⟩,
  ⟨(.bin .gtr (.loc 0) (.k (.int .u32 65535))), none, none⟩,
  ⟨(.mov (.loc 0)), none, none⟩,
  ⟨(.mov (.var 3)), none, (some ((.loc 0), true))⟩,
  ⟨(.bin .leq (.loc 0) (.k (.int .u32 1114111))), none, (some ((.loc 1), true))⟩,
  ⟨(.pick (.loc 2) (.loc 0) (.k (.bool false))), none, none⟩,
  ⟨(.mov (.loc 0)), (some 6), none⟩]
def c95_8 : List CO := [⟨(.mov (.var 0)), none, none⟩,
  ⟨(.mov (.var 1)), none, none⟩,
  ⟨(.shf false (.loc 0) (.k (.int .u64 18))), none, none⟩,
  ⟨(.conv .u8 (.loc 0)), none, none⟩,
  ⟨(.bin .or (.k (.int .u8 240)) (.loc 0)), none, none⟩,
  ⟨(.mov (.var 1)), none, none⟩,
  ⟨(.shf false (.loc 0) (.k (.int .u64 12))), none, none⟩,
  ⟨(.conv .u8 (.loc 0)), none, none⟩,
  ⟨(.bin .and (.loc 0) (.k (.int .u8 63))), none, none⟩,
  ⟨(.bin .or (.k (.int .u8 128)) (.loc 0)), none, none⟩,
  ⟨(.mov (.var 1)), none, none⟩,
  ⟨(.shf false (.loc 0) (.k (.int .u64 6))), none, none⟩,
  ⟨(.conv .u8 (.loc 0)), none, none⟩,
  ⟨(.bin .and (.loc 0) (.k (.int .u8 63))), none, none⟩,
  ⟨(.bin .or (.k (.int .u8 128)) (.loc 0)), none, none⟩,
  ⟨(.mov (.var 1)), none, none⟩,
  ⟨(.conv .u8 (.loc 0)), none, none⟩,
  ⟨(.bin .and (.loc 0) (.k (.int .u8 63))), none, none⟩,
  ⟨(.bin .or (.k (.int .u8 128)) (.loc 0)), none, none⟩,
  ⟨(.bslice 1 [(.int .u8 0)] 4 [(0, (.loc 14)), (1, (.loc 9)), (2, (.loc 4)), (3, (.loc 0))]), none, none⟩,
  ⟨(.append 5 1 1 (.loc 19) (.loc 0)), none, none⟩,
  ⟨(.mov (.loc 0)), (some 2), none⟩]
def c95_9 : List CO := [⟨(.mov (.var 0)), none, none⟩,
  ⟨(.bslice 1 [(.int .u8 0)] 3 [(0, (.k (.int .u8 239))), (1, (.k (.int .u8 191))), (2, (.k (.int .u8 189)))]), none, none⟩,
  ⟨(.append 5 1 1 (.loc 1) (.loc 0)), none, none⟩,
  ⟨(.mov (.loc 0)), (some 2), none⟩]
def c95 : CFun := ⟨2, 7, (.seq (.region [] [] c95_0) (.seq (.region [] [] c95_1) (.block 0 (.seq (.region [] [] c95_2) (.cond (.var 4) (.seq (.region [] [] c95_3) .ret) (.seq (.seq (.region [] [] c95_4) (.cond (.var 5) .skip (.region [] [] c95_5))) (.cond (.var 5) (.seq (.region [] [] c95_6) .ret) (.seq (.region [] [] c95_7) (.cond (.var 6) (.seq (.region [] [] c95_8) .ret) (.seq (.region [] [] c95_9) .ret)))))))))), [.var 2]⟩
theorem ok95 : CodeOk Tryd.prog T 95 c95 := ⟨⟨Tryd.f95, Hints.of [] [] [], [0, 1, 4, 5, 11, 25, 50], Tryd.func95, by kernel_rfl, by kernel_rfl⟩⟩

/-! internal/strconv.formatBits -/
def c99_0 : List CO := [⟨(.mov (.k (.slice none 0 0))), (some 5), none⟩,
  ⟨(.mov (.k (.string ⟨#[]⟩))), (some 6), none⟩]
def c99_1 : List CO := [⟨(.mov (.var 2)), none, none⟩,
  ⟨(.bin .lss (.loc 0) (.k (.int .i64 2))), none, none⟩,
  ⟨(.mov (.loc 0)), none, none⟩,
  ⟨(.mov (.var 2)), none, (some ((.loc 0), false))⟩,
  ⟨(.bin .eql (.loc 0) (.k (.int .i64 10))), none, (some ((.loc 1), false))⟩,
  ⟨(.pick (.loc 2) (.k (.bool true)) (.loc 0)), none, none⟩,
  ⟨(.mov (.loc 0)), none, none⟩,
  ⟨(.mov (.var 2)), none, (some ((.loc 0), false))⟩,
  ⟨(.bin .gtr (.loc 0) (.k (.int .i64 36))), none, (some ((.loc 1), false))⟩,
  ⟨(.pick (.loc 2) (.k (.bool true)) (.loc 0)), (some 14), none⟩]
def c99_2 : List CO := [⟨.bad, none, none⟩,
  ⟨.bad, none, none⟩]
def c99_3 : List CO := [⟨(.box 118 (.k (.agg #[(.int .u8 0), (.int .u8 0), (.int .u8 0), (.int .u8 0), (.int .u8 0), (.int .u8 0), (.int .u8 0), (.int .u8 0), (.int .u8 0), (.int .u8 0), (.int .u8 0), (.int .u8 0), (.int .u8 0), (.int .u8 0), (.int .u8 0), (.int .u8 0), (.int .u8 0), (.int .u8 0), (.int .u8 0), (.int .u8 0), (.int .u8 0), (.int .u8 0), (.int .u8 0), (.int .u8 0), (.int .u8 0), (.int .u8 0), (.int .u8 0), (.int .u8 0), (.int .u8 0), (.int .u8 0), (.int .u8 0), (.int .u8 0), (.int .u8 0), (.int .u8 0), (.int .u8 0), (.int .u8 0), (.int .u8 0), (.int .u8 0), (.int .u8 0), (.int .u8 0), (.int .u8 0), (.int .u8 0), (.int .u8 0), (.int .u8 0), (.int .u8 0), (.int .u8 0), (.int .u8 0), (.int .u8 0), (.int .u8 0), (.int .u8 0), (.int .u8 0), (.int .u8 0), (.int .u8 0), (.int .u8 0), (.int .u8 0), (.int .u8 0), (.int .u8 0), (.int .u8 0), (.int .u8 0), (.int .u8 0), (.int .u8 0), (.int .u8 0), (.int .u8 0), (.int .u8 0), (.int .u8 0)]))), (some 7), none⟩]
def c99_4 : List CO := [⟨(.mov (.k (.int .i64 65))), (some 8), none⟩]
def c99_5 : List CO := [⟨(.mov (.var 3)), (some 15), none⟩]
def c99_6 : List CO := [⟨(.mov (.var 1)), none, none⟩,
  ⟨(.un .neg (.loc 0)), none, none⟩,
  ⟨(.mov (.loc 0)), (some 1), none⟩]
def c99_7 : List CO := [⟨(.mov (.var 2)), none, none⟩,
  ⟨(.call true 105 [(.loc 0)]), (some 16), none⟩]
def c99_8 : List CO := [⟨(.mov (.var 2)), none, none⟩,
  ⟨(.conv .u64 (.loc 0)), none, none⟩,
  ⟨(.call true 106 [(.loc 0)]), none, none⟩,
  ⟨(.conv .u64 (.loc 0)), none, none⟩,
  ⟨(.mov (.loc 0)), (some 9), none⟩]
def c99_9 : List CO := [⟨(.mov (.var 2)), none, none⟩,
  ⟨(.conv .u64 (.loc 0)), none, none⟩,
  ⟨(.mov (.loc 0)), (some 10), none⟩]
def c99_10 : List CO := [⟨(.mov (.var 2)), none, none⟩,
  ⟨(.conv .u64 (.loc 0)), none, none⟩,
  ⟨(.bin .sub (.loc 0) (.k (.int .u64 1))), none, none⟩,
  ⟨(.mov (.loc 0)), (some 11), none⟩]
def c99_11 : List CO := [⟨(.mov (.var 1)), none, none⟩,
  ⟨(.mov (.var 10)), none, none⟩,
  ⟨(.bin .geq (.loc 1) (.loc 0)), (some 17), none⟩]
def c99_12 : List CO := [⟨(.mov (.var 8)), none, none⟩,
  ⟨(.bin .sub (.loc 0) (.k (.int .i64 1))), none, none⟩,
  ⟨(.mov (.loc 0)), (some 8), none⟩]
def c99_13 : List CO := [⟨(.mov (.var 8)), none, none⟩,
  ⟨(.mov (.var 1)), none, none⟩,
  ⟨(.mov (.var 11)), none, none⟩,
  ⟨(.bin .and (.loc 1) (.loc 0)), none, none⟩,
  ⟨(.ixs (.k (.string ⟨#[48, 49, 50, 51, 52, 53, 54, 55, 56, 57, 97, 98, 99, 100, 101, 102, 103, 104, 105, 106, 107, 108, 109, 110, 111, 112, 113, 114, 115, 116, 117, 118, 119, 120, 121, 122]⟩)) (.loc 0)), none, none⟩,
  ⟨(.iaa 65 1 (.var 7) (.loc 4)), none, none⟩,
  ⟨(.store 1 (.loc 0) (.loc 1)), none, none⟩]
def c99_14 : List CO := [⟨(.mov (.var 1)), none, none⟩,
  ⟨(.mov (.var 9)), none, none⟩,
  ⟨(.shf false (.loc 1) (.loc 0)), none, none⟩,
  ⟨(.mov (.loc 0)), (some 1), none⟩]
def c99_15 : CC := (.seq (.seq (.region [] [] c99_11) (.cond (.var 17) .skip (.exit 0))) (.block 1 (.seq (.region [] [] c99_12) (.seq (.region [] [] c99_13) (.region [] [] c99_14)))))
def c99_16 : List CO := [⟨(.mov (.var 8)), none, none⟩,
  ⟨(.bin .sub (.loc 0) (.k (.int .i64 1))), none, none⟩,
  ⟨(.mov (.loc 0)), (some 8), none⟩]
def c99_17 : List CO := [⟨(.mov (.var 8)), none, none⟩,
  ⟨(.mov (.var 1)), none, none⟩,
  ⟨(.ixs (.k (.string ⟨#[48, 49, 50, 51, 52, 53, 54, 55, 56, 57, 97, 98, 99, 100, 101, 102, 103, 104, 105, 106, 107, 108, 109, 110, 111, 112, 113, 114, 115, 116, 117, 118, 119, 120, 121, 122]⟩)) (.loc 0)), none, none⟩,
  ⟨(.iaa 65 1 (.var 7) (.loc 2)), none, none⟩,
  ⟨(.store 1 (.loc 0) (.loc 1)), none, none⟩]
def c99_18 : List CO := [⟨(.mov (.var 2)), none, none⟩,
  ⟨(.conv .u64 (.loc 0)), none, none⟩,
  ⟨(.mov (.loc 0)), (some 12), none⟩]
def c99_19 : List CO := [⟨(.mov (.var 1)), none, none⟩,
  ⟨(.mov (.var 12)), none, none⟩,
  ⟨(.bin .geq (.loc 1) (.loc 0)), (some 18), none⟩]
def c99_20 : List CO := [⟨(.mov (.var 8)), none, none⟩,
  ⟨(.bin .sub (.loc 0) (.k (.int .i64 1))), none, none⟩,
  ⟨(.mov (.loc 0)), (some 8), none⟩]
def c99_21 : List CO := [⟨(.mov (.var 1)), none, none⟩,
  ⟨(.mov (.var 12)), none, none⟩,
  ⟨(.bin .quo (.loc 1) (.loc 0)), none, none⟩,
  ⟨(.mov (.loc 0)), (some 13), none⟩]
def c99_22 : List CO := [⟨(.mov (.var 8)), none, none⟩,
  ⟨(.mov (.var 1)), none, none⟩,
  ⟨(.mov (.var 13)), none, none⟩,
  ⟨(.mov (.var 12)), none, none⟩,
  ⟨(.bin .mul (.loc 1) (.loc 0)), none, none⟩,
  ⟨(.bin .sub (.loc 3) (.loc 0)), none, none⟩,
  ⟨(.ixs (.k (.string ⟨#[48, 49, 50, 51, 52, 53, 54, 55, 56, 57, 97, 98, 99, 100, 101, 102, 103, 104, 105, 106, 107, 108, 109, 110, 111, 112, 113, 114, 115, 116, 117, 118, 119, 120, 121, 122]⟩)) (.loc 0)), none, none⟩,
  ⟨(.iaa 65 1 (.var 7) (.loc 6)), none, none⟩,
  ⟨(.store 1 (.loc 0) (.loc 1)), none, none⟩]
def c99_23 : List CO := [⟨(.mov (.var 13)), none, none⟩,
  ⟨(.mov (.loc 0)), (some 1), none⟩]
def c99_24 : CC := (.seq (.seq (.region [] [] c99_19) (.cond (.var 18) .skip (.exit 2))) (.block 3 (.seq (.region [] [] c99_20) (.seq (.region [] [] c99_21) (.seq (.region [] [] c99_22) (.region [] [] c99_23))))))
def c99_25 : List CO := [⟨(.mov (.var 8)), none, none⟩,
  ⟨(.bin .sub (.loc 0) (.k (.int .i64 1))), none, none⟩,
  ⟨(.mov (.loc 0)), (some 8), none⟩]
def c99_26 : List CO := [⟨(.mov (.var 8)), none, none⟩,
  ⟨(.mov (.var 1)), none, none⟩,
  ⟨(.ixs (.k (.string ⟨#[48, 49, 50, 51, 52, 53, 54, 55, 56, 57, 97, 98, 99, 100, 101, 102, 103, 104, 105, 106, 107, 108, 109, 110, 111, 112, 113, 114, 115, 116, 117, 118, 119, 120, 121, 122]⟩)) (.loc 0)), none, none⟩,
  ⟨(.iaa 65 1 (.var 7) (.loc 2)), none, none⟩,
  ⟨(.store 1 (.loc 0) (.loc 1)), none, none⟩]
def c99_27 : List CO := [⟨(.mov (.var 3)), (some 19), none⟩]
def c99_28 : List CO := [⟨(.mov (.var 8)), none, none⟩,
  ⟨(.bin .sub (.loc 0) (.k (.int .i64 1))), none, none⟩,
  ⟨(.mov (.loc 0)), (some 8), none⟩]
def c99_29 : List CO := [⟨(.mov (.var 8)), none, none⟩,
  ⟨(.iaa 65 1 (.var 7) (.loc 0)), none, none⟩,
  ⟨(.store 1 (.loc 0) (.k (.int .u8 45))), none, none⟩]
def c99_30 : List CO := [⟨(.mov (.var 4)), (some 20), none⟩]
def c99_31 : List CO := [⟨(.mov (.var 0)), none, none⟩,
  ⟨(.mov (.var 8)), none, none⟩,
  ⟨(.aslice 65 1 (.var 7) (some (.loc 0)) none), none, none⟩,
  ⟨(.append 5 1 1 (.loc 2) (.loc 0)), none, none⟩,
  ⟨(.mov (.loc 0)), (some 5), none⟩]
def c99_32 : List CO := [⟨(.mov (.var 8)), none, none⟩,
  ⟨(.aslice 65 1 (.var 7) (some (.loc 0)) none), none, none⟩,
  ⟨(.bstr (.loc 0)), none, none⟩,
  ⟨(.mov (.loc 0)), (some 6), none⟩]
def c99 : CFun := ⟨5, 21, (.seq (.region [] [] c99_0) (.seq (.seq (.region [] [] c99_1) (.cond (.var 14) (.region [] [] c99_2) .skip)) (.seq (.region [] [] c99_3) (.seq (.region [] [] c99_4) (.seq (.seq (.region [] [] c99_5) (.cond (.var 15) (.region [] [] c99_6) .skip)) (.seq (.seq (.region [] [] c99_7) (.cond (.var 16) (.seq (.region [] [] c99_8) (.seq (.region [] [] c99_9) (.seq (.region [] [] c99_10) (.seq (.block 0 (.loop [true, true, false, true, true, true, true, true, true, true, true, true, false, false, false, false, false, false, false, false, false] [] c99_15)) (.seq (.region [] [] c99_16) (.region [] [] c99_17)))))) (.seq (.region [] [] c99_18) (.seq (.block 2 (.loop [true, true, false, true, true, true, true, true, true, false, false, false, true, false, false, false, false, false, false, false, false] [] c99_24)) (.seq (.region [] [] c99_25) (.region [] [] c99_26)))))) (.seq (.seq (.region [] [] c99_27) (.cond (.var 19) (.seq (.region [] [] c99_28) (.region [] [] c99_29)) .skip)) (.seq (.seq (.region [] [] c99_30) (.cond (.var 20) (.seq (.region [] [] c99_31) .ret) .skip)) (.seq (.region [] [] c99_32) .ret))))))))), [.var 5, .var 6]⟩
theorem ok99 : CodeOk Tryd.prog T 99 c99 := ⟨⟨Tryd.f99, Hints.of [] [] [(0, [true, true, false, true, true, true, true, true, true, true, true, true, false, false, false, false, false, false, false, false, false], []), (2, [true, true, false, true, true, true, true, true, true, false, false, false, true, false, false, false, false, false, false, false, false], [])], [0, 1, 2, 3, 4, 10, 11, 12, 13, 14, 15, 16, 17, 18, 28, 30, 34, 46, 68, 89, 94], Tryd.func99, by kernel_rfl, by kernel_rfl⟩⟩


/-! internal/strconv.isPowerOfTwo -/
def c105_0 : List CO := [⟨(.mov (.k (.bool false))), (some 1), none⟩]
def c105_1 : List CO := [⟨(.mov (.var 0)), none, none⟩,
  ⟨(.mov (.var 0)), none, none⟩,
  ⟨(.bin .sub (.loc 0) (.k (.int .i64 1))), none, none⟩,
  ⟨(.bin .and (.loc 2) (.loc 0)), none, none⟩,
  ⟨(.bin .eql (.loc 0) (.k (.int .i64 0))), none, none⟩,
  ⟨(.mov (.loc 0)), (some 1), none⟩]
def c105 : CFun := ⟨1, 2, (.seq (.region [] [] c105_0) (.seq (.region [] [] c105_1) .ret)), [.var 1]⟩
theorem ok105 : CodeOk Tryd.prog T 105 c105 := ⟨⟨Tryd.f105, Hints.of [] [] [], [0, 2], Tryd.func105, by kernel_rfl, by kernel_rfl⟩⟩

/-! math/bits.TrailingZeros -/
def c106_0 : List CO := [⟨(.mov (.k (.int .i64 0))), (some 1), none⟩]
def c106_1 : List CO := [⟨(.mov (.var 0)), none, none⟩,
  ⟨(.conv .u32 (.loc 0)), none, none⟩,
  ⟨(.call true 107 [(.loc 0)]), none, none⟩,
  ⟨(.mov (.loc 0)), (some 1), none⟩]
def c106_2 : List CO := [⟨(.mov (.var 0)), none, none⟩,
  ⟨(.call true 108 [(.loc 0)]), none, none⟩,
  ⟨(.mov (.loc 0)), (some 1), none⟩]
def c106 : CFun := ⟨1, 2, (.seq (.region [] [] c106_0) (.seq (.cond (.k (.bool false)) (.seq (.region [] [] c106_1) .ret) .skip) (.seq (.region [] [] c106_2) .ret))), [.var 1]⟩
theorem ok106 : CodeOk Tryd.prog T 106 c106 := ⟨⟨Tryd.f106, Hints.of [] [] [], [0, 2], Tryd.func106, by kernel_rfl, by kernel_rfl⟩⟩

def Fl : List (FuncId × FEntry) := [(3, .code c3), (4, .code c4), (5, .code c5), (6, .code c6), (12, .code c12), (13, .code c13), (14, .code c14), (15, .code c15), (16, .code c16), (17, .code c17), (18, .code c18), (19, .code c19), (20, .code c20), (21, .code c21), (22, .code c22), (23, .code c23), (24, .code c24), (25, .code c25), (26, .code c26), (27, .code c27), (28, .code c28), (29, .code c29), (30, .code c30), (31, .code c31), (33, .code c33), (34, .code c34), (36, .code c36), (37, .code c37), (38, .code c38), (39, .code c39), (40, .code c40), (41, .code c41), (42, .code c42), (43, .code c43), (44, .code c44), (45, .code c45), (46, .code c46), (48, .code c48), (49, .code c49), (50, .code c50), (51, .code c51), (52, .code c52), (54, .code c54), (55, .code c55), (56, .code c56), (57, .code c57), (59, .code c59), (61, .code c61), (62, .code c62), (63, .code c63), (65, .code c65), (66, .code c66), (67, .code c67), (68, .code c68), (69, .code c69), (70, .code c70), (78, .code c78), (79, .code c79), (80, .code c80), (81, .code c81), (88, .code c88), (89, .code c89), (90, .code c90), (91, .code c91), (94, .code c94), (95, .code c95), (99, .code c99), (105, .code c105), (106, .code c106)] ++ [(47, .oracle compareG), (75, .oracle validG), (93, .oracle decG), (77, .oracle (copyG 61)), (53, .oracle (stringG 61 5)), (108, .oracle tzG), (32, .oracle varsG)]
def F (f : FuncId) : Option FEntry := Fl.lookup f
theorem hF : ∀ (B : Nat) (w0 : World), K B w0 → ∀ f e, F f = some e → EntryOk Tryd.prog T B w0 f e := fun B w0 hK => entries_of (fun p hp => by
  simp only [Fl, List.cons_append, List.nil_append, List.mem_cons, List.not_mem_nil, or_false] at hp
  rcases hp with rfl | rfl | rfl | rfl | rfl | rfl | rfl | rfl | rfl | rfl | rfl | rfl | rfl | rfl | rfl | rfl | rfl | rfl | rfl | rfl | rfl | rfl | rfl | rfl | rfl | rfl | rfl | rfl | rfl | rfl | rfl | rfl | rfl | rfl | rfl | rfl | rfl | rfl | rfl | rfl | rfl | rfl | rfl | rfl | rfl | rfl | rfl | rfl | rfl | rfl | rfl | rfl | rfl | rfl | rfl | rfl | rfl | rfl | rfl | rfl | rfl | rfl | rfl | rfl | rfl | rfl | rfl | rfl | rfl | rfl | rfl | rfl | rfl | rfl | rfl | rfl
  · exact ok3
  · exact ok4
  · exact ok5
  · exact ok6
  · exact ok12
  · exact ok13
  · exact ok14
  · exact ok15
  · exact ok16
  · exact ok17
  · exact ok18
  · exact ok19
  · exact ok20
  · exact ok21
  · exact ok22
  · exact ok23
  · exact ok24
  · exact ok25
  · exact ok26
  · exact ok27
  · exact ok28
  · exact ok29
  · exact ok30
  · exact ok31
  · exact ok33
  · exact ok34
  · exact ok36
  · exact ok37
  · exact ok38
  · exact ok39
  · exact ok40
  · exact ok41
  · exact ok42
  · exact ok43
  · exact ok44
  · exact ok45
  · exact ok46
  · exact ok48
  · exact ok49
  · exact ok50
  · exact ok51
  · exact ok52
  · exact ok54
  · exact ok55
  · exact ok56
  · exact ok57
  · exact ok59
  · exact ok61
  · exact ok62
  · exact ok63
  · exact ok65
  · exact ok66
  · exact ok67
  · exact ok68
  · exact ok69
  · exact ok70
  · exact ok78
  · exact ok79
  · exact ok80
  · exact ok81
  · exact ok88
  · exact ok89
  · exact ok90
  · exact ok91
  · exact ok94
  · exact ok95
  · exact ok99
  · exact ok105
  · exact ok106
  · exact compare_ok
  · exact valid_ok hK
  · exact dec_ok hK
  · exact copy_ok copy_used copy_fresh copy_enter
  · exact string_ok Tryd.lays169 Tryd.Builder_Extra_169 string_enter
  · exact tz_ok hK
  · exact vars_ok)
end Go.Proofs.YtgcbaefclkfnoaaDoor
end

/-! Few, and whether terms are too great. -/
section
set_option linter.unusedVariables false
set_option linter.unusedSimpArgs false
namespace Go.AE.YtgcbaefclkfnoaaDoor
open Go Go.AE Go.Proofs.YtgcbaefclkfnoaaDoor

def V61 (c : AV) (m n i : Int) (x3 x4 x8 x9 : AV) : List AV := [.junk, .v (.int .i64 m), .junk, x3, x4, c, .v (.int .i64 n), .v (.int .i64 i), x8, x9]
theorem left_ok : ∀ (N : Nat) (t : Tm) (a : AV) (m : Int), SizeOf.sizeOf t < N → IsT a t → callW F 61 [a, .v (.int .i64 m)] [] = some (.v (.int .i64 (fewT t m)), []) := by
  intro N
  induction N with
  | zero => intro t a m h; omega
  | succ N ih =>
    intro t a m hN ha
    cases ha with
    | mk k s n c l hc =>
    obtain ⟨es, hs, hes, hm⟩ := hc.sl
    have hll := hes.length
    refine callW_pure (c := c61) rfl rfl (l.length + 1) ?_
    have q1 := fun h : List AO => hs.len h
    obtain ⟨e, v', h', g1, g2, g3⟩ := loop_rule0 (call := callW F) (K := l.length + 1) (b := c61_9) (keep := [false, true, false, false, false, true, true, true, false, false])
      (fun i v h => ∃ m', v = V61 c m' es.length i .junk .junk .junk .junk ∧ fewL (l.drop i) m' = fewL l (IntKind.i64.wrap (m - 1)))
      (fun e v h => (e = .exit 0 ∧ ∃ x3 x4 x9, v = V61 c (fewL l (IntKind.i64.wrap (m - 1))) es.length es.length x3 x4 (.v (.bool false)) x9) ∨ (e = .ret ∧ getO v [] (.var 3) = .v (.int .i64 (fewL l (IntKind.i64.wrap (m - 1))))))
      l.length (m := l.length + 1) (v := [.agg [.v (.int .i64 k), .v (.string s), .v (.int .i64 n), c], .v (.int .i64 (IntKind.i64.wrap (m - 1))), .ptr 0 0, .v (.int .i64 0), .v undef, c, .v (.int .i64 es.length), .v (.int .i64 0), .v undef, .v undef]) (h := [.box 24 [.v (.int .i64 k), .v (.string s), .v (.int .i64 n), c]])
      (by omega) ⟨_, rfl, rfl⟩ (by
        rintro i v h hi ⟨m', rfl, hR⟩
        by_cases hil : i < es.length
        · have hil' : i < l.length := by omega
          have hT := hes.at hil hil'
          have hlt := lt_t hil
          have he : es[i]? = some es[i] := List.getElem?_eq_getElem hil
          have q2 := fun h : List AO => hs.ia he h
          have hf := hT.facts
          have hd : l.drop i = l[i] :: l.drop (i + 1) := List.drop_eq_getElem_cons hil'
          have hw := wrap_succ hil hm
          rw [hd, fewL] at hR
          by_cases hneg : m' < 0
          · have hn : decide (m' < 0) = true := by simpa using hneg
            rw [if_pos hneg] at hR
            refine ⟨.ret, [.junk, .v (.int .i64 m'), .junk, .v (.int .i64 m'), .ptr h.length 0, c, .v (.int .i64 es.length), .v (.int .i64 i), .v (.bool true), .v (.bool true)], h ++ [.box 24 es[i].cells], ?_, .inr ⟨rfl, by rw [← hR]; rfl⟩⟩
            simp only [V61, c61_9, c61_3, c61_4, c61_5, c61_6, hlt, q1, q2, hf, hn, q9z, Q0, Q1, Q2, Q3, Q4, Q5, Q6, Q7, Q8, Q9, Q10, Q11, Q12, Q13, Q14, Q15, Q16, Q17, Q18, Q19, Q20, Q21, Q22, Q23, Q24, Q25, Q26, Q27, Q28, Q29, Q30, Q31, Q32, Q33, Q35, Q36, Q37, Q38, Q39, Q40, Q41, Q42, Q43, Q44, Q45, Q46, Q47, Q48, Q49, Q50, Q51, Q52, Q53, Q54, Q55, Q56, Q57, Q58, Q59, Q60, Q61, Q62, Q63, Q64, Q65, Q66, Q67, Q68, Q69, Q70, Q71, Q72, Q73, Q99, Q100, Q101, Q102, Q103, Q74, Q75, Q77, Q78, Q79, Q80, Q81, Q82, Q83, Q84, clr, List.length_nil, List.length_cons, List.getElem?_cons_zero, List.getElem?_cons_succ, Nat.reduceAdd, Nat.zero_add, Nat.add_zero, Nat.reduceLeDiff, Nat.reduceSub, ↓reduceIte, List.drop_succ_cons, List.drop_zero, List.take_succ_cons, List.take_zero, Bool.false_eq_true, List.nil_append, List.cons_append, Bool.not_true, Bool.not_false, cond_true, cond_false, bne, Q85, Q86, Q87, Q88, Q89, Q90, Q91, Q92, Q93, Q94, Q95, Q96, Q97, Q98, Q110, Q111, Q116, Q117, Q118, Q119, Q120, Q121, Q122, Q123, Option.map_some, Option.map_none, Q34]
          · have hn : decide (m' < 0) = false := by simpa using hneg
            have hc := ih l[i] es[i] m' (by have := IsL.mem_size (k := k) (n := n) (s := s) (List.getElem_mem hil'); omega) hT
            rw [if_neg hneg] at hR
            refine ⟨.normal, [.junk, .v (.int .i64 (fewT l[i] m')), .junk, .junk, .ptr h.length 0, c, .v (.int .i64 es.length), .v (.int .i64 ((i + 1 : Nat) : Int)), .v (.bool true), .v (.bool false)], h ++ [.box 24 es[i].cells], ?_, by omega, _, rfl, hR⟩
            simp only [V61, c61_9, c61_3, c61_4, c61_5, c61_7, c61_8, hlt, q1, q2, hf, hn, hc, hw, snap_int, q9z, Q0, Q1, Q2, Q3, Q4, Q5, Q6, Q7, Q8, Q9, Q10, Q11, Q12, Q13, Q14, Q15, Q16, Q17, Q18, Q19, Q20, Q21, Q22, Q23, Q24, Q25, Q26, Q27, Q28, Q29, Q30, Q31, Q32, Q33, Q35, Q36, Q37, Q38, Q39, Q40, Q41, Q42, Q43, Q44, Q45, Q46, Q47, Q48, Q49, Q50, Q51, Q52, Q53, Q54, Q55, Q56, Q57, Q58, Q59, Q60, Q61, Q62, Q63, Q64, Q65, Q66, Q67, Q68, Q69, Q70, Q71, Q72, Q73, Q99, Q100, Q101, Q102, Q103, Q74, Q75, Q77, Q78, Q79, Q80, Q81, Q82, Q83, Q84, clr, List.length_nil, List.length_cons, List.getElem?_cons_zero, List.getElem?_cons_succ, Nat.reduceAdd, Nat.zero_add, Nat.add_zero, Nat.reduceLeDiff, Nat.reduceSub, ↓reduceIte, List.drop_succ_cons, List.drop_zero, List.take_succ_cons, List.take_zero, Bool.false_eq_true, List.nil_append, List.cons_append, Bool.not_true, Bool.not_false, cond_true, cond_false, bne, Q85, Q86, Q87, Q88, Q89, Q90, Q91, Q92, Q93, Q94, Q95, Q96, Q97, Q98, Q110, Q111, Q116, Q117, Q118, Q119, Q120, Q121, Q122, Q123, Option.map_some, Option.map_none, Q34]
        · have hie : i = es.length := by omega
          subst hie
          have hlt := lt_f (n := es.length)
          rw [List.drop_of_length_le (by omega), fewL] at hR
          refine ⟨.exit 0, V61 c m' es.length es.length .junk .junk (.v (.bool false)) .junk, h, ?_, .inl ⟨rfl, _, _, _, by rw [hR]⟩⟩
          simp only [V61, c61_9, c61_3, hlt, Q0, Q1, Q2, Q3, Q4, Q5, Q6, Q7, Q8, Q9, Q10, Q11, Q12, Q13, Q14, Q15, Q16, Q17, Q18, Q19, Q20, Q21, Q22, Q23, Q24, Q25, Q26, Q27, Q28, Q29, Q30, Q31, Q32, Q33, Q35, Q36, Q37, Q38, Q39, Q40, Q41, Q42, Q43, Q44, Q45, Q46, Q47, Q48, Q49, Q50, Q51, Q52, Q53, Q54, Q55, Q56, Q57, Q58, Q59, Q60, Q61, Q62, Q63, Q64, Q65, Q66, Q67, Q68, Q69, Q70, Q71, Q72, Q73, Q99, Q100, Q101, Q102, Q103, Q74, Q75, Q77, Q78, Q79, Q80, Q81, Q82, Q83, Q84, clr, List.length_nil, List.length_cons, List.getElem?_cons_zero, List.getElem?_cons_succ, Nat.reduceAdd, Nat.zero_add, Nat.add_zero, Nat.reduceLeDiff, Nat.reduceSub, ↓reduceIte, List.drop_succ_cons, List.drop_zero, List.take_succ_cons, List.take_zero, Bool.false_eq_true, List.nil_append, List.cons_append, Bool.not_true, Bool.not_false, cond_true, cond_false, bne, Q85, Q86, Q87, Q88, Q89, Q90, Q91, Q92, Q93, Q94, Q95, Q96, Q97, Q98, Q110, Q111, Q116, Q117, Q118, Q119, Q120, Q121, Q122, Q123, Option.map_some, Option.map_none, Q34])
    have e5 : Q76 [.box 24 [.v (.int .i64 k), .v (.string s), .v (.int .i64 n), c]] false 1 (.ptr 0 3) = some c := rfl
    rw [fewT]
    rw [show c61.body = (.seq (.region [] [] c61_0) (.seq (.region [] [] c61_1) (.seq (.seq (.region [] [] c61_2) (.block 0 (.loop [false, true, false, false, false, true, true, true, false, false] [] c61_9))) (.seq (.region [] [] c61_10) .ret)))) from rfl, show c61.res = [.var 3] from rfl]
    rw [show start c61 [.agg [.v (.int .i64 k), .v (.string s), .v (.int .i64 n), c], .v (.int .i64 m)] = [.agg [.v (.int .i64 k), .v (.string s), .v (.int .i64 n), c], .v (.int .i64 m), .v undef, .v undef, .v undef, .v undef, .v undef, .v undef, .v undef, .v undef] from rfl]
    rcases g3 with ⟨rfl, x3, x4, x9, rfl⟩ | ⟨rfl, hg⟩
    · generalize c61_9 = bb at g1 ⊢
      simp only [V61, c61_0, c61_1, c61_2, c61_10, e5, q1, g1, Q0, Q1, Q2, Q3, Q4, Q5, Q6, Q7, Q8, Q9, Q10, Q11, Q12, Q13, Q14, Q15, Q16, Q17, Q18, Q19, Q20, Q21, Q22, Q23, Q24, Q25, Q26, Q27, Q28, Q29, Q30, Q31, Q32, Q33, Q35, Q36, Q37, Q38, Q39, Q40, Q41, Q42, Q43, Q44, Q45, Q46, Q47, Q48, Q49, Q50, Q51, Q52, Q53, Q54, Q55, Q56, Q57, Q58, Q59, Q60, Q61, Q62, Q63, Q64, Q65, Q66, Q67, Q68, Q69, Q70, Q71, Q72, Q73, Q99, Q100, Q101, Q102, Q103, Q74, Q75, Q77, Q78, Q79, Q80, Q81, Q82, Q83, Q84, clr, List.length_nil, List.length_cons, List.getElem?_cons_zero, List.getElem?_cons_succ, Nat.reduceAdd, Nat.zero_add, Nat.add_zero, Nat.reduceLeDiff, Nat.reduceSub, ↓reduceIte, List.drop_succ_cons, List.drop_zero, List.take_succ_cons, List.take_zero, Bool.false_eq_true, List.nil_append, List.cons_append, Bool.not_true, Bool.not_false, cond_true, cond_false, bne, Q85, Q86, Q87, Q88, Q89, Q90, Q91, Q92, Q93, Q94, Q95, Q96, Q97, Q98, Q110, Q111, Q116, Q117, Q118, Q119, Q120, Q121, Q122, Q123, Option.map_some, Option.map_none, Q34]
    · generalize c61_9 = bb at g1 ⊢
      simp only [V61, c61_0, c61_1, c61_2, c61_10, e5, q1, g1, hg, Q0, Q1, Q2, Q3, Q4, Q5, Q6, Q7, Q8, Q9, Q10, Q11, Q12, Q13, Q14, Q15, Q16, Q17, Q18, Q19, Q20, Q21, Q22, Q23, Q24, Q25, Q26, Q27, Q28, Q29, Q30, Q31, Q32, Q33, Q35, Q36, Q37, Q38, Q39, Q40, Q41, Q42, Q43, Q44, Q45, Q46, Q47, Q48, Q49, Q50, Q51, Q52, Q53, Q54, Q55, Q56, Q57, Q58, Q59, Q60, Q61, Q62, Q63, Q64, Q65, Q66, Q67, Q68, Q69, Q70, Q71, Q72, Q73, Q99, Q100, Q101, Q102, Q103, Q74, Q75, Q77, Q78, Q79, Q80, Q81, Q82, Q83, Q84, clr, List.length_nil, List.length_cons, List.getElem?_cons_zero, List.getElem?_cons_succ, Nat.reduceAdd, Nat.zero_add, Nat.add_zero, Nat.reduceLeDiff, Nat.reduceSub, ↓reduceIte, List.drop_succ_cons, List.drop_zero, List.take_succ_cons, List.take_zero, Bool.false_eq_true, List.nil_append, List.cons_append, Bool.not_true, Bool.not_false, cond_true, cond_false, bne, Q85, Q86, Q87, Q88, Q89, Q90, Q91, Q92, Q93, Q94, Q95, Q96, Q97, Q98, Q110, Q111, Q116, Q117, Q118, Q119, Q120, Q121, Q122, Q123, Option.map_some, Option.map_none, Q34]
theorem few_ok (t : Tm) (a : AV) (m : Int) (ha : IsT a t) : callW F 39 [a, .v (.int .i64 m)] [] = some (.v (.bool (decide (fewT t m ≥ 0))), []) := by
  refine callW_pure (c := c39) rfl rfl 0 ?_
  have hf := ha.facts
  have hc := left_ok _ t a m (Nat.lt_succ_self _) ha
  have e1 : Q76 [.box 24 a.cells] true 4 (.ptr 0 0) = some a := hf.2.2.2.1 [] 24
  simp only [c39, start, List.replicate, c39_0, c39_1, hf, e1, snap_int, hc, Q0, Q1, Q2, Q3, Q4, Q5, Q6, Q7, Q8, Q9, Q10, Q11, Q12, Q13, Q14, Q15, Q16, Q17, Q18, Q19, Q20, Q21, Q22, Q23, Q24, Q25, Q26, Q27, Q28, Q29, Q30, Q31, Q32, Q33, Q35, Q36, Q37, Q38, Q39, Q40, Q41, Q42, Q43, Q44, Q45, Q46, Q47, Q48, Q49, Q50, Q51, Q52, Q53, Q54, Q55, Q56, Q57, Q58, Q59, Q60, Q61, Q62, Q63, Q64, Q65, Q66, Q67, Q68, Q69, Q70, Q71, Q72, Q73, Q99, Q100, Q101, Q102, Q103, Q74, Q75, Q77, Q78, Q79, Q80, Q81, Q82, Q83, Q84, clr, List.length_nil, List.length_cons, List.getElem?_cons_zero, List.getElem?_cons_succ, Nat.reduceAdd, Nat.zero_add, Nat.add_zero, Nat.reduceLeDiff, Nat.reduceSub, ↓reduceIte, List.drop_succ_cons, List.drop_zero, List.take_succ_cons, List.take_zero, Bool.false_eq_true, List.nil_append, List.cons_append, Bool.not_true, Bool.not_false, cond_true, cond_false, bne, Q85, Q86, Q87, Q88, Q89, Q90, Q91, Q92, Q93, Q94, Q95, Q96, Q97, Q98, Q110, Q111, Q116, Q117, Q118, Q119, Q120, Q121, Q122, Q123, Option.map_some, Option.map_none, Q34]
end Go.AE.YtgcbaefclkfnoaaDoor
end

/-! Size and Deep, the program's and the document's. -/
section
set_option linter.unusedVariables false
set_option linter.unusedSimpArgs false
namespace Go.AE.YtgcbaefclkfnoaaDoor
open Go Go.AE Go.Proofs.YtgcbaefclkfnoaaDoor

end Go.AE.YtgcbaefclkfnoaaDoor
end

/-! Whether a term may be: the program's Check and the document's. -/
section
set_option linter.unusedVariables false
set_option linter.unusedSimpArgs false
namespace Go.AE.YtgcbaefclkfnoaaDoor
open Go Go.AE Go.Proofs.YtgcbaefclkfnoaaDoor

def tb (k n : Int) (s : ByteArray) (c : AV) : AO := .box 24 [.v (.int .i64 k), .v (.string s), .v (.int .i64 n), c]
section
variable {k n : Int} {s : ByteArray} {c : AV} {G : List AO}
theorem tb0 : Q76 (tb k n s c :: G) false 1 (.ptr 0 0) = some (.v (.int .i64 k)) := rfl
theorem tb1 : Q76 (tb k n s c :: G) false 1 (.ptr 0 1) = some (.v (.string s)) := rfl
theorem tb2 : Q76 (tb k n s c :: G) false 1 (.ptr 0 2) = some (.v (.int .i64 n)) := rfl
theorem tb3 : Q76 (tb k n s c :: G) false 1 (.ptr 0 3) = some c := rfl
theorem tbx : bx [] 24 (some [.v (.int .i64 k), .v (.string s), .v (.int .i64 n), c]) = some (.ptr 0 0, [tb k n s c]) := rfl
end

end Go.AE.YtgcbaefclkfnoaaDoor
end

/-! The document's Check; the program's. -/
section
set_option linter.unusedVariables false
set_option linter.unusedSimpArgs false
namespace Go.AE.YtgcbaefclkfnoaaDoor
open Go Go.AE Go.Proofs.YtgcbaefclkfnoaaDoor

end Go.AE.YtgcbaefclkfnoaaDoor
end

/-! The examples (live). -/
section
namespace Go.AE.YtgcbaefclkfnoaaDoor
open Go Go.AE Go.Proofs.YtgcbaefclkfnoaaDoor
set_option linter.unusedVariables false
set_option linter.unusedSimpArgs false
set_option maxRecDepth 1000000
theorem live_n : callN F 14 12 [] [] = some (.v (.bool true), []) := by kernel_rfl
end Go.AE.YtgcbaefclkfnoaaDoor
end

/-! Whether terms are too great; what comes in. -/
section
set_option linter.unusedVariables false
set_option linter.unusedSimpArgs false
namespace Go.AE.YtgcbaefclkfnoaaDoor
open Go Go.AE Go.Proofs.YtgcbaefclkfnoaaDoor

theorem live_ok : callW F 12 [] [] = some (.v (.bool true), []) := callW_iff.2 ⟨_, live_n⟩
def fewB (t : Tm) : Bool := decide (fewT t 3000 ≥ 0)
def bigT (l : List Tm) : Bool := !(l.all fewB)
def V13 (c : AV) (n i : Int) (x2 x6 x7 : AV) : List AV := [.junk, .junk, x2, c, .v (.int .i64 n), .v (.int .i64 i), x6, x7]
def K13 : List Bool := [false, false, false, true, true, true, false, false]
theorem big_ok {c : AV} {l : List Tm} (hc : IsL c l) : callW F 13 [c] [] = some (.v (.bool (bigT l)), []) := by
  obtain ⟨es, hs, hes, hm⟩ := hc.sl
  have hll := hes.length
  refine callW_pure (c := c13) rfl rfl (l.length + 1) ?_
  have q1 := fun h : List AO => hs.len h
  rw [hll] at q1
  obtain ⟨e, v', h', g1, g2, g3⟩ := loop_rule0 (call := callW F) (K := l.length + 1) (b := c13_7) (keep := K13)
    (fun i v h => v = V13 c l.length i .junk .junk .junk ∧ bigT (l.drop i) = bigT l)
    (fun e v h => (e = .exit 0 ∧ bigT l = false ∧ ∃ x2 x7, v = V13 c l.length l.length x2 (.v (.bool false)) x7) ∨ (e = .ret ∧ bigT l = true ∧ getO v [] (.var 1) = .v (.bool true)))
    l.length (m := l.length + 1) (v := [c, .v (.bool false), .v undef, c, .v (.int .i64 l.length), .v (.int .i64 0), .v undef, .v undef]) (h := []) (by omega) ⟨rfl, rfl⟩ (by
      rintro i v h hi ⟨rfl, hR⟩
      by_cases hil' : i < l.length
      · have hil : i < es.length := by omega
        have hT := hes.at hil hil'
        have hlt := lt_t hil'
        have he : es[i]? = some es[i] := List.getElem?_eq_getElem hil
        have q2 := fun h : List AO => hs.ia he h
        have hf := hT.facts
        have hd : l.drop i = l[i] :: l.drop (i + 1) := List.drop_eq_getElem_cons hil'
        have hw := wrap_succ hil hm
        have hc := few_ok l[i] es[i] 3000 hT
        rw [show decide (fewT l[i] 3000 ≥ 0) = fewB l[i] from rfl] at hc
        rw [hd, bigT, List.all_cons] at hR
        cases hb : fewB l[i] with
        | true =>
          rw [hb] at hc hR
          rw [Bool.true_and] at hR
          refine ⟨.normal, V13 c l.length ((i + 1 : Nat) : Int) (.ptr h.length 0) (.v (.bool true)) (.v (.bool false)), h ++ [.box 24 es[i].cells], ?_, hil', rfl, hR⟩
          simp only [V13, c13_7, c13_2, c13_3, c13_4, c13_6, hlt, q2, hf, hc, hw, snap_int, q9z, Q0, Q1, Q2, Q3, Q4, Q5, Q6, Q7, Q8, Q9, Q10, Q11, Q12, Q13, Q14, Q15, Q16, Q17, Q18, Q19, Q20, Q21, Q22, Q23, Q24, Q25, Q26, Q27, Q28, Q29, Q30, Q31, Q32, Q33, Q35, Q36, Q37, Q38, Q39, Q40, Q41, Q42, Q43, Q44, Q45, Q46, Q47, Q48, Q49, Q50, Q51, Q52, Q53, Q54, Q55, Q56, Q57, Q58, Q59, Q60, Q61, Q62, Q63, Q64, Q65, Q66, Q67, Q68, Q69, Q70, Q71, Q72, Q73, Q99, Q100, Q101, Q102, Q103, Q74, Q75, Q77, Q78, Q79, Q80, Q81, Q82, Q83, Q84, clr, List.length_nil, List.length_cons, List.getElem?_cons_zero, List.getElem?_cons_succ, Nat.reduceAdd, Nat.zero_add, Nat.add_zero, Nat.reduceLeDiff, Nat.reduceSub, ↓reduceIte, List.drop_succ_cons, List.drop_zero, List.take_succ_cons, List.take_zero, Bool.false_eq_true, List.nil_append, List.cons_append, Bool.not_true, Bool.not_false, cond_true, cond_false, bne, Q85, Q86, Q87, Q88, Q89, Q90, Q91, Q92, Q93, Q94, Q95, Q96, Q97, Q98, Q110, Q111, Q116, Q117, Q118, Q119, Q120, Q121, Q122, Q123, Option.map_some, Option.map_none, Q34]
        | false =>
          rw [hb] at hc hR
          rw [Bool.false_and] at hR
          refine ⟨.ret, [.junk, .v (.bool true), .ptr h.length 0, c, .v (.int .i64 l.length), .v (.int .i64 i), .v (.bool true), .v (.bool true)], h ++ [.box 24 es[i].cells], ?_, .inr ⟨rfl, hR.symm, rfl⟩⟩
          simp only [V13, c13_7, c13_2, c13_3, c13_4, c13_5, hlt, q2, hf, hc, hw, snap_int, q9z, Q0, Q1, Q2, Q3, Q4, Q5, Q6, Q7, Q8, Q9, Q10, Q11, Q12, Q13, Q14, Q15, Q16, Q17, Q18, Q19, Q20, Q21, Q22, Q23, Q24, Q25, Q26, Q27, Q28, Q29, Q30, Q31, Q32, Q33, Q35, Q36, Q37, Q38, Q39, Q40, Q41, Q42, Q43, Q44, Q45, Q46, Q47, Q48, Q49, Q50, Q51, Q52, Q53, Q54, Q55, Q56, Q57, Q58, Q59, Q60, Q61, Q62, Q63, Q64, Q65, Q66, Q67, Q68, Q69, Q70, Q71, Q72, Q73, Q99, Q100, Q101, Q102, Q103, Q74, Q75, Q77, Q78, Q79, Q80, Q81, Q82, Q83, Q84, clr, List.length_nil, List.length_cons, List.getElem?_cons_zero, List.getElem?_cons_succ, Nat.reduceAdd, Nat.zero_add, Nat.add_zero, Nat.reduceLeDiff, Nat.reduceSub, ↓reduceIte, List.drop_succ_cons, List.drop_zero, List.take_succ_cons, List.take_zero, Bool.false_eq_true, List.nil_append, List.cons_append, Bool.not_true, Bool.not_false, cond_true, cond_false, bne, Q85, Q86, Q87, Q88, Q89, Q90, Q91, Q92, Q93, Q94, Q95, Q96, Q97, Q98, Q110, Q111, Q116, Q117, Q118, Q119, Q120, Q121, Q122, Q123, Option.map_some, Option.map_none, Q34]
      · have hie : i = l.length := by omega
        subst hie
        have hlt := lt_f (n := l.length)
        rw [List.drop_of_length_le (Nat.le_refl _)] at hR
        refine ⟨.exit 0, V13 c l.length l.length .junk (.v (.bool false)) .junk, h, ?_, .inl ⟨rfl, hR.symm, _, _, rfl⟩⟩
        simp only [V13, c13_7, c13_2, hlt, Q0, Q1, Q2, Q3, Q4, Q5, Q6, Q7, Q8, Q9, Q10, Q11, Q12, Q13, Q14, Q15, Q16, Q17, Q18, Q19, Q20, Q21, Q22, Q23, Q24, Q25, Q26, Q27, Q28, Q29, Q30, Q31, Q32, Q33, Q35, Q36, Q37, Q38, Q39, Q40, Q41, Q42, Q43, Q44, Q45, Q46, Q47, Q48, Q49, Q50, Q51, Q52, Q53, Q54, Q55, Q56, Q57, Q58, Q59, Q60, Q61, Q62, Q63, Q64, Q65, Q66, Q67, Q68, Q69, Q70, Q71, Q72, Q73, Q99, Q100, Q101, Q102, Q103, Q74, Q75, Q77, Q78, Q79, Q80, Q81, Q82, Q83, Q84, clr, List.length_nil, List.length_cons, List.getElem?_cons_zero, List.getElem?_cons_succ, Nat.reduceAdd, Nat.zero_add, Nat.add_zero, Nat.reduceLeDiff, Nat.reduceSub, ↓reduceIte, List.drop_succ_cons, List.drop_zero, List.take_succ_cons, List.take_zero, Bool.false_eq_true, List.nil_append, List.cons_append, Bool.not_true, Bool.not_false, cond_true, cond_false, bne, Q85, Q86, Q87, Q88, Q89, Q90, Q91, Q92, Q93, Q94, Q95, Q96, Q97, Q98, Q110, Q111, Q116, Q117, Q118, Q119, Q120, Q121, Q122, Q123, Option.map_some, Option.map_none, Q34])
  rw [show c13.body = (.seq (.region [] [] c13_0) (.seq (.seq (.region [] [] c13_1) (.block 0 (.loop K13 [] c13_7))) (.seq (.region [] [] c13_8) .ret))) from rfl, show c13.res = [.var 1] from rfl]
  rw [show start c13 [c] = [c, .v undef, .v undef, .v undef, .v undef, .v undef, .v undef, .v undef] from rfl]
  rcases g3 with ⟨rfl, h1, x2, x7, rfl⟩ | ⟨rfl, h1, h2⟩
  · rw [h1]
    generalize c13_7 = bb at g1 ⊢
    simp only [V13, c13_0, c13_1, c13_8, q1, g1, Q0, Q1, Q2, Q3, Q4, Q5, Q6, Q7, Q8, Q9, Q10, Q11, Q12, Q13, Q14, Q15, Q16, Q17, Q18, Q19, Q20, Q21, Q22, Q23, Q24, Q25, Q26, Q27, Q28, Q29, Q30, Q31, Q32, Q33, Q35, Q36, Q37, Q38, Q39, Q40, Q41, Q42, Q43, Q44, Q45, Q46, Q47, Q48, Q49, Q50, Q51, Q52, Q53, Q54, Q55, Q56, Q57, Q58, Q59, Q60, Q61, Q62, Q63, Q64, Q65, Q66, Q67, Q68, Q69, Q70, Q71, Q72, Q73, Q99, Q100, Q101, Q102, Q103, Q74, Q75, Q77, Q78, Q79, Q80, Q81, Q82, Q83, Q84, clr, List.length_nil, List.length_cons, List.getElem?_cons_zero, List.getElem?_cons_succ, Nat.reduceAdd, Nat.zero_add, Nat.add_zero, Nat.reduceLeDiff, Nat.reduceSub, ↓reduceIte, List.drop_succ_cons, List.drop_zero, List.take_succ_cons, List.take_zero, Bool.false_eq_true, List.nil_append, List.cons_append, Bool.not_true, Bool.not_false, cond_true, cond_false, bne, Q85, Q86, Q87, Q88, Q89, Q90, Q91, Q92, Q93, Q94, Q95, Q96, Q97, Q98, Q110, Q111, Q116, Q117, Q118, Q119, Q120, Q121, Q122, Q123, Option.map_some, Option.map_none, Q34]
  · rw [h1]
    generalize c13_7 = bb at g1 ⊢
    simp only [V13, c13_0, c13_1, c13_8, q1, g1, h2, Q0, Q1, Q2, Q3, Q4, Q5, Q6, Q7, Q8, Q9, Q10, Q11, Q12, Q13, Q14, Q15, Q16, Q17, Q18, Q19, Q20, Q21, Q22, Q23, Q24, Q25, Q26, Q27, Q28, Q29, Q30, Q31, Q32, Q33, Q35, Q36, Q37, Q38, Q39, Q40, Q41, Q42, Q43, Q44, Q45, Q46, Q47, Q48, Q49, Q50, Q51, Q52, Q53, Q54, Q55, Q56, Q57, Q58, Q59, Q60, Q61, Q62, Q63, Q64, Q65, Q66, Q67, Q68, Q69, Q70, Q71, Q72, Q73, Q99, Q100, Q101, Q102, Q103, Q74, Q75, Q77, Q78, Q79, Q80, Q81, Q82, Q83, Q84, clr, List.length_nil, List.length_cons, List.getElem?_cons_zero, List.getElem?_cons_succ, Nat.reduceAdd, Nat.zero_add, Nat.add_zero, Nat.reduceLeDiff, Nat.reduceSub, ↓reduceIte, List.drop_succ_cons, List.drop_zero, List.take_succ_cons, List.take_zero, Bool.false_eq_true, List.nil_append, List.cons_append, Bool.not_true, Bool.not_false, cond_true, cond_false, bne, Q85, Q86, Q87, Q88, Q89, Q90, Q91, Q92, Q93, Q94, Q95, Q96, Q97, Q98, Q110, Q111, Q116, Q117, Q118, Q119, Q120, Q121, Q122, Q123, Option.map_some, Option.map_none, Q34]
theorem isL1 {a : AV} {t : Tm} (h : IsT a t) : IsL (.slc 4 true true [a]) [t] := .slc _ _ _ _ (.cons _ _ _ _ h .nil) (by simp [maxLen])
theorem tmTy : TmTy T 3 9 2 24 22 := ⟨⟨_, rfl, rfl⟩, ⟨_, rfl, rfl⟩, ⟨_, rfl, rfl⟩, ⟨_, _, _, _, _, rfl, rfl, rfl, rfl, rfl, rfl, rfl, rfl⟩, ⟨_, rfl, rfl⟩⟩
theorem int_in {a : AV} (w : WT T 2 a.cells) (e : Q77 ti2.agg a.cells = some a) : ∃ n : Int, a = .v (.int .i64 n) ∧ (Lit.int .i64 n).wf = true := by
  obtain ⟨n, h, hn⟩ := wt_int_of (t := 2) (k := .i64) rfl rfl w
  exact ⟨n, one_cell e h, hn⟩
end Go.AE.YtgcbaefclkfnoaaDoor
end

/-! Compare: numbers, the first that is not 0, terms. -/
section
set_option linter.unusedVariables false
set_option linter.unusedSimpArgs false
namespace Go.AE.YtgcbaefclkfnoaaDoor
open Go Go.AE Go.Proofs.YtgcbaefclkfnoaaDoor

/-! ### Terms -/
section
variable {k n k' n' : Int} {s s' : ByteArray} {c c' : AV} {G : List AO}
theorem tc0 : Q76 (tb k n s c :: tb k' n' s' c' :: G) false 1 (.ptr 1 0) = some (.v (.int .i64 k')) := rfl
theorem tc1 : Q76 (tb k n s c :: tb k' n' s' c' :: G) false 1 (.ptr 1 1) = some (.v (.string s')) := rfl
theorem tc2 : Q76 (tb k n s c :: tb k' n' s' c' :: G) false 1 (.ptr 1 2) = some (.v (.int .i64 n')) := rfl
theorem tc3 : Q76 (tb k n s c :: tb k' n' s' c' :: G) false 1 (.ptr 1 3) = some c' := rfl
theorem tcx : bx [tb k n s c] 24 (some [.v (.int .i64 k'), .v (.string s'), .v (.int .i64 n'), c']) = some (.ptr 1 0, [tb k n s c, tb k' n' s' c']) := rfl
end
end Go.AE.YtgcbaefclkfnoaaDoor
end

/-! Same: the program's and the document's. -/
section
set_option linter.unusedVariables false
set_option linter.unusedSimpArgs false
namespace Go.AE.YtgcbaefclkfnoaaDoor
open Go Go.AE Go.Proofs.YtgcbaefclkfnoaaDoor

def headS (k : Int) (s : ByteArray) (n : Int) (l : List Tm) (k' : Int) (s' : ByteArray) (n' : Int) (l' : List Tm) : Bool := (k == k') && ((n == n') && ((s.toList == s'.toList) && ((l.length : Int) == (l'.length : Int))))
mutual
def sameT : Tm → Tm → Bool
  | .mk k s n l, .mk k' s' n' l' => headS k s n l k' s' n' l' && sameL l l'
def sameL : List Tm → List Tm → Bool
  | [], _ => true
  | _, [] => true
  | a :: l, b :: l' => sameT a b && sameL l l'
end
theorem headS_len {k n k' n' : Int} {s s' : ByteArray} {l l' : List Tm} (h : headS k s n l k' s' n' l' = true) : l.length = l'.length := by
  simp only [headS, Bool.and_eq_true, beq_iff_eq] at h
  omega
theorem toL_inj {s s' : ByteArray} (h : s.toList = s'.toList) : s = s' := by
  rw [ByteArray.toList_eq, ByteArray.toList_eq] at h
  cases s with | mk d => cases s' with | mk d' => cases d with | mk x => cases d' with | mk y => simp at h; rw [h]
theorem same_iff : ∀ (N : Nat) (t u : Tm), SizeOf.sizeOf t < N → (sameT t u = true ↔ t = u) := by
  intro N
  induction N with
  | zero => intro t u h; omega
  | succ N ih =>
    have hl : ∀ (l m : List Tm), SizeOf.sizeOf l < N + 1 → l.length = m.length → (sameL l m = true ↔ l = m) := by
      intro l
      induction l with
      | nil =>
        intro m _ h1
        cases m with
        | nil => simp [sameL]
        | cons => simp at h1
      | cons x l ihl =>
        intro m hs h1
        cases m with
        | nil => simp at h1
        | cons y m =>
        simp only [List.length_cons, Nat.add_right_cancel_iff, List.cons.sizeOf_spec] at h1 hs
        rw [sameL, Bool.and_eq_true, ih x y (by omega), ihl m (by omega) h1, List.cons.injEq]
    rintro ⟨k, s, n, l⟩ ⟨k', s', n', l'⟩ hs
    simp only [Tm.mk.sizeOf_spec] at hs
    rw [sameT, Bool.and_eq_true, Tm.mk.injEq]
    constructor
    · rintro ⟨h1, h2⟩
      have h3 := headS_len h1
      simp only [headS, Bool.and_eq_true, beq_iff_eq] at h1
      exact ⟨h1.1, toL_inj h1.2.2.1, h1.2.1, (hl l l' (by omega) h3).1 h2⟩
    · rintro ⟨rfl, rfl, rfl, rfl⟩
      exact ⟨by simp [headS], (hl l l (by omega) rfl).2 rfl⟩

def V15 (n i : Int) (x5 x9 x10 : AV) : List AV := [.junk, .junk, .ptr 0 0, .ptr 1 0, .junk, x5, .junk, .v (.int .i64 n), .v (.int .i64 i), x9, x10]
def K15 : List Bool := [false, false, true, true, false, false, false, true, true, false, false]
theorem rsame_ok : ∀ (N : Nat) (t u : Tm) (a b : AV), SizeOf.sizeOf t < N → IsT a t → IsT b u → callW F 15 [a, b] [] = some (.v (.bool (sameT t u)), []) := by
  intro N
  induction N with
  | zero => intro t u a b h; omega
  | succ N ih =>
    intro t u a b hN ha hb
    cases ha with
    | mk k s n c l hc =>
    cases hb with
    | mk k' s' n' c' l' hc' =>
    obtain ⟨es, hs, hes, hm⟩ := hc.sl
    obtain ⟨es', hs', hes', hm'⟩ := hc'.sl
    have hll := hes.length
    have hll' := hes'.length
    refine callW_pure (c := c15) rfl rfl (l.length + 1) ?_
    have q1 := fun h : List AO => hs.len h
    have q1' := fun h : List AO => hs'.len h
    rw [hll] at q1
    rw [hll'] at q1'
    rw [sameT]
    have hlen : headS k s n l k' s' n' l' = true → l.length = l'.length := headS_len
    have loop : l.length = l'.length → ∀ (v : List AV), clr K15 v = V15 l.length 0 .junk .junk .junk → (sameL l l' = true ∧ loopN (exec (callW F) (l.length + 1) c15_9) K15 (l.length + 1) v [tb k n s c, tb k' n' s' c'] = some (.exit 0, V15 l.length l.length .junk (.v (.bool false)) .junk, [tb k n s c, tb k' n' s' c'])) ∨
        (sameL l l' = false ∧ ∃ v' h, loopN (exec (callW F) (l.length + 1) c15_9) K15 (l.length + 1) v [tb k n s c, tb k' n' s' c'] = some (.ret, v', h) ∧ getO v' [] (.var 4) = .v (.bool false)) := by
      intro hleq v hv
      obtain ⟨e, v', h', g1, g2, g3⟩ := loop_rule0 (call := callW F) (K := l.length + 1) (b := c15_9) (keep := K15)
        (fun i v h => v = V15 l.length i .junk .junk .junk ∧ h = [tb k n s c, tb k' n' s' c'] ∧ sameL (l.drop i) (l'.drop i) = sameL l l')
        (fun e v h => (e = .exit 0 ∧ sameL l l' = true ∧ v = V15 l.length l.length .junk (.v (.bool false)) .junk ∧ h = [tb k n s c, tb k' n' s' c']) ∨ (e = .ret ∧ sameL l l' = false ∧ getO v [] (.var 4) = .v (.bool false)))
        l.length (m := l.length + 1) (v := v) (h := [tb k n s c, tb k' n' s' c']) (by omega) ⟨hv, rfl, rfl⟩ (by
          rintro i v h hi ⟨rfl, rfl, hR⟩
          by_cases hil : i < l.length
          · have hil' : i < l'.length := by omega
            have hle : i < es.length := by omega
            have hle' : i < es'.length := by omega
            have hT := hes.at hle hil
            have hT' := hes'.at hle' hil'
            have hlt := lt_t hil
            have he : es[i]? = some es[i] := List.getElem?_eq_getElem hle
            have he' : es'[i]? = some es'[i] := List.getElem?_eq_getElem hle'
            have q2 := fun h : List AO => hs.ia he h
            have q2' := fun h : List AO => hs'.ia he' h
            have hf := hT.facts
            have hf' := hT'.facts
            have hd : l.drop i = l[i] :: l.drop (i + 1) := List.drop_eq_getElem_cons hil
            have hd' : l'.drop i = l'[i] :: l'.drop (i + 1) := List.drop_eq_getElem_cons hil'
            have hw := wrap_succ hle hm
            have hc := ih l[i] l'[i] es[i] es'[i] (by have := IsL.mem_size (k := k) (n := n) (s := s) (List.getElem_mem hil); omega) hT hT'
            rw [hd, hd', sameL] at hR
            cases hq : sameT l[i] l'[i] with
            | true =>
              rw [hq, Bool.true_and] at hR
              rw [hq] at hc
              refine ⟨.normal, V15 l.length ((i + 1 : Nat) : Int) (.v (.int .i64 i)) (.v (.bool true)) (.v (.bool false)), [tb k n s c, tb k' n' s' c'], ?_, hil, rfl, rfl, hR⟩
              simp only [V15, c15_9, c15_4, c15_5, c15_6, c15_8, hlt, q2, q2', hf, hf', hc, hw, tb3, tc3, Q0, Q1, Q2, Q3, Q4, Q5, Q6, Q7, Q8, Q9, Q10, Q11, Q12, Q13, Q14, Q15, Q16, Q17, Q18, Q19, Q20, Q21, Q22, Q23, Q24, Q25, Q26, Q27, Q28, Q29, Q30, Q31, Q32, Q33, Q35, Q36, Q37, Q38, Q39, Q40, Q41, Q42, Q43, Q44, Q45, Q46, Q47, Q48, Q49, Q50, Q51, Q52, Q53, Q54, Q55, Q56, Q57, Q58, Q59, Q60, Q61, Q62, Q63, Q64, Q65, Q66, Q67, Q68, Q69, Q70, Q71, Q72, Q73, Q99, Q100, Q101, Q102, Q103, Q74, Q75, Q77, Q78, Q79, Q80, Q81, Q82, Q83, Q84, clr, List.length_nil, List.length_cons, List.getElem?_cons_zero, List.getElem?_cons_succ, Nat.reduceAdd, Nat.zero_add, Nat.add_zero, Nat.reduceLeDiff, Nat.reduceSub, ↓reduceIte, List.drop_succ_cons, List.drop_zero, List.take_succ_cons, List.take_zero, Bool.false_eq_true, List.nil_append, List.cons_append, Bool.not_true, Bool.not_false, cond_true, cond_false, bne, Q85, Q86, Q87, Q88, Q89, Q90, Q91, Q92, Q93, Q94, Q95, Q96, Q97, Q98, Q110, Q111, Q116, Q117, Q118, Q119, Q120, Q121, Q122, Q123, Option.map_some, Option.map_none, Q34]
            | false =>
              rw [hq, Bool.false_and] at hR
              rw [hq] at hc
              refine ⟨.ret, [.junk, .junk, .ptr 0 0, .ptr 1 0, .v (.bool false), .v (.int .i64 i), .junk, .v (.int .i64 l.length), .v (.int .i64 i), .v (.bool true), .v (.bool true)], [tb k n s c, tb k' n' s' c'], ?_, .inr ⟨rfl, hR.symm, rfl⟩⟩
              simp only [V15, c15_9, c15_4, c15_5, c15_6, c15_7, hlt, q2, q2', hf, hf', hc, hw, tb3, tc3, Q0, Q1, Q2, Q3, Q4, Q5, Q6, Q7, Q8, Q9, Q10, Q11, Q12, Q13, Q14, Q15, Q16, Q17, Q18, Q19, Q20, Q21, Q22, Q23, Q24, Q25, Q26, Q27, Q28, Q29, Q30, Q31, Q32, Q33, Q35, Q36, Q37, Q38, Q39, Q40, Q41, Q42, Q43, Q44, Q45, Q46, Q47, Q48, Q49, Q50, Q51, Q52, Q53, Q54, Q55, Q56, Q57, Q58, Q59, Q60, Q61, Q62, Q63, Q64, Q65, Q66, Q67, Q68, Q69, Q70, Q71, Q72, Q73, Q99, Q100, Q101, Q102, Q103, Q74, Q75, Q77, Q78, Q79, Q80, Q81, Q82, Q83, Q84, clr, List.length_nil, List.length_cons, List.getElem?_cons_zero, List.getElem?_cons_succ, Nat.reduceAdd, Nat.zero_add, Nat.add_zero, Nat.reduceLeDiff, Nat.reduceSub, ↓reduceIte, List.drop_succ_cons, List.drop_zero, List.take_succ_cons, List.take_zero, Bool.false_eq_true, List.nil_append, List.cons_append, Bool.not_true, Bool.not_false, cond_true, cond_false, bne, Q85, Q86, Q87, Q88, Q89, Q90, Q91, Q92, Q93, Q94, Q95, Q96, Q97, Q98, Q110, Q111, Q116, Q117, Q118, Q119, Q120, Q121, Q122, Q123, Option.map_some, Option.map_none, Q34]
          · have hie : i = l.length := by omega
            subst hie
            have hlt := lt_f (n := l.length)
            rw [List.drop_of_length_le (Nat.le_refl _), sameL] at hR
            refine ⟨.exit 0, V15 l.length l.length .junk (.v (.bool false)) .junk, _, ?_, .inl ⟨rfl, hR.symm, rfl, rfl⟩⟩
            simp only [V15, c15_9, c15_4, hlt, Q0, Q1, Q2, Q3, Q4, Q5, Q6, Q7, Q8, Q9, Q10, Q11, Q12, Q13, Q14, Q15, Q16, Q17, Q18, Q19, Q20, Q21, Q22, Q23, Q24, Q25, Q26, Q27, Q28, Q29, Q30, Q31, Q32, Q33, Q35, Q36, Q37, Q38, Q39, Q40, Q41, Q42, Q43, Q44, Q45, Q46, Q47, Q48, Q49, Q50, Q51, Q52, Q53, Q54, Q55, Q56, Q57, Q58, Q59, Q60, Q61, Q62, Q63, Q64, Q65, Q66, Q67, Q68, Q69, Q70, Q71, Q72, Q73, Q99, Q100, Q101, Q102, Q103, Q74, Q75, Q77, Q78, Q79, Q80, Q81, Q82, Q83, Q84, clr, List.length_nil, List.length_cons, List.getElem?_cons_zero, List.getElem?_cons_succ, Nat.reduceAdd, Nat.zero_add, Nat.add_zero, Nat.reduceLeDiff, Nat.reduceSub, ↓reduceIte, List.drop_succ_cons, List.drop_zero, List.take_succ_cons, List.take_zero, Bool.false_eq_true, List.nil_append, List.cons_append, Bool.not_true, Bool.not_false, cond_true, cond_false, bne, Q85, Q86, Q87, Q88, Q89, Q90, Q91, Q92, Q93, Q94, Q95, Q96, Q97, Q98, Q110, Q111, Q116, Q117, Q118, Q119, Q120, Q121, Q122, Q123, Option.map_some, Option.map_none, Q34])
      rcases g3 with ⟨rfl, h1, rfl, rfl⟩ | ⟨rfl, h1, h2⟩
      · exact .inl ⟨h1, g1⟩
      · exact .inr ⟨h1, v', h', g1, h2⟩
    rw [show c15.body = (.seq (.region [] [] c15_0) (.seq (.seq (.region [] [] c15_1) (.cond (.var 6) (.seq (.region [] [] c15_2) .ret) .skip)) (.seq (.seq (.region [] [] c15_3) (.block 0 (.loop K15 [] c15_9))) (.seq (.region [] [] c15_10) .ret)))) from rfl, show c15.res = [.var 4] from rfl]
    rw [show start c15 [.agg [.v (.int .i64 k), .v (.string s), .v (.int .i64 n), c], .agg [.v (.int .i64 k'), .v (.string s'), .v (.int .i64 n'), c']] = [.agg [.v (.int .i64 k), .v (.string s), .v (.int .i64 n), c], .agg [.v (.int .i64 k'), .v (.string s'), .v (.int .i64 n'), c'], .v undef, .v undef, .v undef, .v undef, .v undef, .v undef, .v undef, .v undef, .v undef] from rfl]
    generalize c15_9 = bb at loop ⊢
    cases hc0 : headS k s n l k' s' n' l' with
    | false =>
      unfold headS at hc0
      cases h1 : (k == k') <;> cases h2 : (n == n') <;> cases h3 : (s.toList == s'.toList) <;> cases h4 : ((l.length : Int) == (l'.length : Int)) <;>
        (simp only [h1, h2, h3, h4, Bool.and_true, Bool.and_false, Bool.false_and, Bool.true_and, Bool.and_self, reduceCtorEq] at hc0) <;>
        simp only [c15_0, c15_1, c15_2, tbx, tcx, tb0, tb1, tb2, tb3, tc0, tc1, tc2, tc3, q1, q1', h1, h2, h3, h4, Bool.not_true, Bool.not_false, Bool.false_and, Q0, Q1, Q2, Q3, Q4, Q5, Q6, Q7, Q8, Q9, Q10, Q11, Q12, Q13, Q14, Q15, Q16, Q17, Q18, Q19, Q20, Q21, Q22, Q23, Q24, Q25, Q26, Q27, Q28, Q29, Q30, Q31, Q32, Q33, Q35, Q36, Q37, Q38, Q39, Q40, Q41, Q42, Q43, Q44, Q45, Q46, Q47, Q48, Q49, Q50, Q51, Q52, Q53, Q54, Q55, Q56, Q57, Q58, Q59, Q60, Q61, Q62, Q63, Q64, Q65, Q66, Q67, Q68, Q69, Q70, Q71, Q72, Q73, Q99, Q100, Q101, Q102, Q103, Q74, Q75, Q77, Q78, Q79, Q80, Q81, Q82, Q83, Q84, clr, List.length_nil, List.length_cons, List.getElem?_cons_zero, List.getElem?_cons_succ, Nat.reduceAdd, Nat.zero_add, Nat.add_zero, Nat.reduceLeDiff, Nat.reduceSub, ↓reduceIte, List.drop_succ_cons, List.drop_zero, List.take_succ_cons, List.take_zero, Bool.false_eq_true, List.nil_append, List.cons_append, Bool.not_true, Bool.not_false, cond_true, cond_false, bne, Q85, Q86, Q87, Q88, Q89, Q90, Q91, Q92, Q93, Q94, Q95, Q96, Q97, Q98, Q110, Q111, Q116, Q117, Q118, Q119, Q120, Q121, Q122, Q123, Option.map_some, Option.map_none]
    | true =>
      have lp := loop (hlen hc0) [.agg [.v (.int .i64 k), .v (.string s), .v (.int .i64 n), c], .agg [.v (.int .i64 k'), .v (.string s'), .v (.int .i64 n'), c'], .ptr 0 0, .ptr 1 0, .v (.bool false), .v undef, .v (.bool false), .v (.int .i64 l.length), .v (.int .i64 0), .v undef, .v undef] rfl
      simp only [headS, Bool.and_eq_true] at hc0
      obtain ⟨h1, h2, h3, h4⟩ := hc0
      rcases lp with ⟨p0, p1⟩ | ⟨p0, v', h', p1, p2⟩
      · rw [p0]
        simp only [V15, c15_0, c15_1, c15_3, c15_10, tbx, tcx, tb0, tb1, tb2, tb3, tc0, tc1, tc2, tc3, q1, q1', h1, h2, h3, h4, p1, Bool.not_true, Bool.not_false, Bool.true_and, Q0, Q1, Q2, Q3, Q4, Q5, Q6, Q7, Q8, Q9, Q10, Q11, Q12, Q13, Q14, Q15, Q16, Q17, Q18, Q19, Q20, Q21, Q22, Q23, Q24, Q25, Q26, Q27, Q28, Q29, Q30, Q31, Q32, Q33, Q35, Q36, Q37, Q38, Q39, Q40, Q41, Q42, Q43, Q44, Q45, Q46, Q47, Q48, Q49, Q50, Q51, Q52, Q53, Q54, Q55, Q56, Q57, Q58, Q59, Q60, Q61, Q62, Q63, Q64, Q65, Q66, Q67, Q68, Q69, Q70, Q71, Q72, Q73, Q99, Q100, Q101, Q102, Q103, Q74, Q75, Q77, Q78, Q79, Q80, Q81, Q82, Q83, Q84, clr, List.length_nil, List.length_cons, List.getElem?_cons_zero, List.getElem?_cons_succ, Nat.reduceAdd, Nat.zero_add, Nat.add_zero, Nat.reduceLeDiff, Nat.reduceSub, ↓reduceIte, List.drop_succ_cons, List.drop_zero, List.take_succ_cons, List.take_zero, Bool.false_eq_true, List.nil_append, List.cons_append, Bool.not_true, Bool.not_false, cond_true, cond_false, bne, Q85, Q86, Q87, Q88, Q89, Q90, Q91, Q92, Q93, Q94, Q95, Q96, Q97, Q98, Q110, Q111, Q116, Q117, Q118, Q119, Q120, Q121, Q122, Q123, Option.map_some, Option.map_none]
      · rw [p0]
        simp only [V15, c15_0, c15_1, c15_3, c15_10, tbx, tcx, tb0, tb1, tb2, tb3, tc0, tc1, tc2, tc3, q1, q1', h1, h2, h3, h4, p1, p2, Bool.not_true, Bool.not_false, Bool.and_false, Q0, Q1, Q2, Q3, Q4, Q5, Q6, Q7, Q8, Q9, Q10, Q11, Q12, Q13, Q14, Q15, Q16, Q17, Q18, Q19, Q20, Q21, Q22, Q23, Q24, Q25, Q26, Q27, Q28, Q29, Q30, Q31, Q32, Q33, Q35, Q36, Q37, Q38, Q39, Q40, Q41, Q42, Q43, Q44, Q45, Q46, Q47, Q48, Q49, Q50, Q51, Q52, Q53, Q54, Q55, Q56, Q57, Q58, Q59, Q60, Q61, Q62, Q63, Q64, Q65, Q66, Q67, Q68, Q69, Q70, Q71, Q72, Q73, Q99, Q100, Q101, Q102, Q103, Q74, Q75, Q77, Q78, Q79, Q80, Q81, Q82, Q83, Q84, clr, List.length_nil, List.length_cons, List.getElem?_cons_zero, List.getElem?_cons_succ, Nat.reduceAdd, Nat.zero_add, Nat.add_zero, Nat.reduceLeDiff, Nat.reduceSub, ↓reduceIte, List.drop_succ_cons, List.drop_zero, List.take_succ_cons, List.take_zero, Bool.false_eq_true, List.nil_append, List.cons_append, Bool.not_true, Bool.not_false, cond_true, cond_false, bne, Q85, Q86, Q87, Q88, Q89, Q90, Q91, Q92, Q93, Q94, Q95, Q96, Q97, Q98, Q110, Q111, Q116, Q117, Q118, Q119, Q120, Q121, Q122, Q123, Option.map_some, Option.map_none]
end Go.AE.YtgcbaefclkfnoaaDoor
end

/-! Variant: the program's. -/
section
set_option linter.unusedVariables false
set_option linter.unusedSimpArgs false
namespace Go.AE.YtgcbaefclkfnoaaDoor
open Go Go.AE Go.Proofs.YtgcbaefclkfnoaaDoor

/-! ### Pairs of numbers -/
abbrev Prs := List (Int × Int)
def thr : Prs → Int → Option Int
  | [], _ => none
  | (a, b) :: P, x => if a = x then some b else thr P x
def bak : Prs → Int → Option Int
  | [], _ => none
  | (a, b) :: P, y => if b = y then some a else bak P y
/-! ### The two maps -/
def Lk (es : List (Value × AV)) (f : Int → Option Int) : Prop := ∀ n, look (.int .i64 n) es = (f n).map fun y => .v (.int .i64 y)
structure Mp (B : Nat) (H : List AO) (P : Prs) : Prop where
  len : H.length = B
  big : 4 < B
  bel : H.all (AO.below B) = true
  m1 : ∃ es, H[2]? = some (.map (.int .i64) 0 es) ∧ Lk es (thr P)
  m2 : ∃ es, H[3]? = some (.map (.int .i64) 0 es) ∧ Lk es (bak P)
  bx : H[4]? = some (.box 51 [.mp 2, .mp 3])
def Up (H H2 : List AO) : Prop := ∃ x y, H2 = (H.set 2 (.map (.int .i64) 0 x)).set 3 (.map (.int .i64) 0 y)
theorem Up.refl {B : Nat} {H : List AO} {P : Prs} (h : Mp B H P) : Up H H := by
  obtain ⟨x, hx, _⟩ := h.m1
  obtain ⟨y, hy, _⟩ := h.m2
  refine ⟨x, y, ?_⟩
  obtain ⟨l1, e1⟩ := List.getElem?_eq_some_iff.1 hx
  obtain ⟨l2, e2⟩ := List.getElem?_eq_some_iff.1 hy
  rw [← e1, ← e2, List.set_getElem_self, List.set_getElem_self]
theorem Up.trans {H H2 H3 : List AO} (a : Up H H2) (b : Up H2 H3) : Up H H3 := by
  obtain ⟨x, y, rfl⟩ := a
  obtain ⟨z, w, rfl⟩ := b
  refine ⟨z, w, ?_⟩
  rw [List.set_comm (AO.map (.int .i64) 0 y) (AO.map (.int .i64) 0 z) (by decide : (3 : Nat) ≠ 2), List.set_set, List.set_set]
theorem Up.split {H l K : List AO} (h : 4 < H.length) (a : Up (H ++ l) K) : ∃ H2, K = H2 ++ l ∧ Up H H2 := by
  obtain ⟨x, y, rfl⟩ := a
  refine ⟨_, ?_, ⟨x, y, rfl⟩⟩
  rw [List.set_append_left _ _ (by omega), List.set_append_left _ _ (by rw [List.length_set]; omega)]
theorem Up.below {B : Nat} {H H2 : List AO} (a : Up H H2) (h : H.all (AO.below B) = true) : H2.all (AO.below B) = true := by
  obtain ⟨x, y, rfl⟩ := a
  simp only [List.all_eq_true] at h ⊢
  intro o ho
  rcases List.mem_or_eq_of_mem_set ho with h1 | rfl
  · rcases List.mem_or_eq_of_mem_set h1 with h2 | rfl
    · exact h o h2
    · rfl
  · rfl
theorem Up.len {H H2 : List AO} (a : Up H H2) : H2.length = H.length := by
  obtain ⟨x, y, rfl⟩ := a; simp
theorem Mp.app {B : Nat} {H l : List AO} {P : Prs} (h : Mp B H P) (hl : l.all (AO.below 0) = true) : Mp (B + l.length) (H ++ l) P := by
  obtain ⟨h1, h0, h2, ⟨x, h3, h4⟩, ⟨y, h5, h6⟩, h7⟩ := h
  refine ⟨by simp [h1], by omega, ?_, ⟨x, his_get h3, h4⟩, ⟨y, his_get h5, h6⟩, his_get h7⟩
  rw [List.all_append, Bool.and_eq_true]
  exact ⟨all_below_mono (by omega) h2, all_below_mono (Nat.zero_le _) hl⟩
theorem look_app (es : List (Value × AV)) (x n : Int) (v : AV) : look (.int .i64 n) (es ++ [(.int .i64 x, v)]) = match look (.int .i64 n) es with
    | some a => some a
    | none => if n = x then some v else none := by
  induction es with
  | nil => simp [look, keyEq_int]
  | cons e es ih =>
    simp only [List.cons_append, look]
    by_cases h : keyEq (.int .i64 n) e.1 = true
    · rw [if_pos h, if_pos h]
    · rw [if_neg h, if_neg h, ih]
theorem Lk.add {es : List (Value × AV)} {f : Int → Option Int} (h : Lk es f) {x y : Int} (hx : f x = none) : Lk (es ++ [(.int .i64 x, .v (.int .i64 y))]) fun n => if x = n then some y else f n := by
  intro n
  rw [look_app, h n]
  by_cases e : x = n
  · subst e; rw [hx]; simp
  · have : ¬ n = x := fun h => e h.symm
    simp only [if_neg e]
    cases f n <;> simp [this]
section
variable {H : List AO} {id : Nat} {es : List (Value × AV)} {x y : Int}
end
end Go.AE.YtgcbaefclkfnoaaDoor
end

/-! Variant: the program's, walked. -/
section
set_option linter.unusedVariables false
set_option linter.unusedSimpArgs false
namespace Go.AE.YtgcbaefclkfnoaaDoor
open Go Go.AE Go.Proofs.YtgcbaefclkfnoaaDoor

end Go.AE.YtgcbaefclkfnoaaDoor
end

/-! How many terms a term has: what Few tells of it. -/
section
set_option linter.unusedVariables false
set_option linter.unusedSimpArgs false
namespace Go.AE.YtgcbaefclkfnoaaDoor
open Go Go.AE Go.Proofs.YtgcbaefclkfnoaaDoor

mutual
def size : Tm → Nat
  | .mk _ _ _ l => 1 + sizeL l
def sizeL : List Tm → Nat
  | [] => 0
  | t :: l => size t + sizeL l
end
theorem size_pos (t : Tm) : 1 ≤ size t := by cases t; simp only [size]; omega
theorem sizeL_len : ∀ l : List Tm, l.length ≤ sizeL l
  | [] => Nat.le_refl _
  | t :: l => by
    have := sizeL_len l
    have := size_pos t
    simp only [sizeL, List.length_cons]; omega
theorem size_mem : ∀ {l : List Tm} {t : Tm}, t ∈ l → size t ≤ sizeL l
  | u :: l, t, h => by
    simp only [sizeL]
    rcases List.mem_cons.1 h with rfl | h
    · omega
    · have := size_mem h; omega
theorem wrap_pred {m : Int} (h0 : 0 ≤ m) (h1 : m ≤ 1000000) : IntKind.i64.wrap (m - 1) = m - 1 := by
  rw [IntWalk.i64_in]; omega
mutual
theorem left_size : ∀ (t : Tm) (m : Int), 0 ≤ m → m ≤ 1000000 → -1 ≤ fewT t m ∧ fewT t m ≤ m ∧ (0 ≤ fewT t m → fewT t m + size t = m)
  | .mk k s n l, m, h0, h1 => by
    rw [fewT, size, wrap_pred h0 h1]
    have := leftL_size l (m - 1) (by omega) (by omega)
    refine ⟨this.1, by omega, fun h => ?_⟩
    have := this.2.2 h
    omega
theorem leftL_size : ∀ (l : List Tm) (m : Int), -1 ≤ m → m ≤ 1000000 → -1 ≤ fewL l m ∧ fewL l m ≤ m ∧ (0 ≤ fewL l m → fewL l m + sizeL l = m)
  | [], m, h0, h1 => by simp only [fewL, sizeL]; omega
  | t :: l, m, h0, h1 => by
    simp only [fewL, sizeL]
    by_cases hm : m < 0
    · rw [if_pos hm]; omega
    · rw [if_neg hm]
      have a := left_size t m (by omega) h1
      have b := leftL_size l (fewT t m) (by omega) (by omega)
      refine ⟨b.1, by omega, fun h => ?_⟩
      have := b.2.2 h
      have := a.2.2 (by omega)
      omega
end
theorem big_size {ts : List Tm} (h : bigT ts = false) : ∀ t ∈ ts, size t ≤ 3000 := by
  intro t ht
  simp only [bigT, Bool.not_eq_false', List.all_eq_true] at h
  have h1 := h t ht
  simp only [fewB, decide_eq_true_eq, ge_iff_le] at h1
  have := (left_size t 3000 (by omega) (by omega)).2.2 h1
  omega
end Go.AE.YtgcbaefclkfnoaaDoor
end

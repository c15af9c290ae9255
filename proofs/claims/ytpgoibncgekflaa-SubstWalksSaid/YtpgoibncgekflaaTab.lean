/- The functions of the program that the laws of layer 9 reach, as the evaluator carries them out, each checked against the loaded program. -/
import Derived.Test.YtpgoibncgekflaaAexRead
import Derived.Test.YtpgoibncgekflaaLookG
import Derived.KernelRfl
set_option linter.unusedVariables false
set_option maxRecDepth 100000
namespace Go.Proofs.Ytpgoibncgekflaa
open Go Go.AE Go.Proofs
def ti2 : TI := ⟨1, 8, (.int .i64 0), (.int .i64)⟩
theorem tiOk2 : TIok Try.prog 2 ti2 := tiok_of (by kernel_rfl) (by kernel_rfl)
def ti3 : TI := ⟨1, 8, (.int .i64 0), (.int .i64)⟩
theorem tiOk3 : TIok Try.prog 3 ti3 := tiok_of (by kernel_rfl) (by kernel_rfl)
def ti4 : TI := ⟨1, 1, (.bool false), .bool⟩
theorem tiOk4 : TIok Try.prog 4 ti4 := tiok_of (by kernel_rfl) (by kernel_rfl)
def ti9 : TI := ⟨1, 16, (.string ⟨#[]⟩), .string⟩
theorem tiOk9 : TIok Try.prog 9 ti9 := tiok_of (by kernel_rfl) (by kernel_rfl)
def ti22 : TI := ⟨1, 24, (.slice none 0 0), (.slice 41)⟩
theorem tiOk22 : TIok Try.prog 22 ti22 := tiok_of (by kernel_rfl) (by kernel_rfl)
def ti23 : TI := ⟨1, 24, (.slice none 0 0), (.slice 25)⟩
theorem tiOk23 : TIok Try.prog 23 ti23 := tiok_of (by kernel_rfl) (by kernel_rfl)
def ti25 : TI := ⟨4, 56, (.agg #[(.int .i64 0), (.string ⟨#[]⟩), (.int .i64 0), (.slice none 0 0)]), (.struct #[⟨"Kind", 3, 0, false, "", "", 0⟩, ⟨"Name", 9, 1, false, "", "", 8⟩, ⟨"N", 2, 2, false, "", "", 24⟩, ⟨"Args", 23, 3, false, "", "", 32⟩])⟩
theorem tiOk25 : TIok Try.prog 25 ti25 := tiok_of (by kernel_rfl) (by kernel_rfl)
def ti28 : TI := ⟨1, 8, (.int .i64 0), (.int .i64)⟩
theorem tiOk28 : TIok Try.prog 28 ti28 := tiok_of (by kernel_rfl) (by kernel_rfl)
def ti36 : TI := ⟨1, 24, (.slice none 0 0), (.slice 2)⟩
theorem tiOk36 : TIok Try.prog 36 ti36 := tiok_of (by kernel_rfl) (by kernel_rfl)
def ti41 : TI := ⟨5, 64, (.agg #[(.int .i64 0), (.int .i64 0), (.string ⟨#[]⟩), (.int .i64 0), (.slice none 0 0)]), (.struct #[⟨"Var", 2, 0, false, "", "", 0⟩, ⟨"To", 25, 1, false, "", "", 8⟩])⟩
theorem tiOk41 : TIok Try.prog 41 ti41 := tiok_of (by kernel_rfl) (by kernel_rfl)
def ti54 : TI := ⟨1, 8, (.pointer none), (.pointer 3)⟩
theorem tiOk54 : TIok Try.prog 54 ti54 := tiok_of (by kernel_rfl) (by kernel_rfl)
def ti55 : TI := ⟨1, 8, (.pointer none), (.pointer 57)⟩
theorem tiOk55 : TIok Try.prog 55 ti55 := tiok_of (by kernel_rfl) (by kernel_rfl)
def ti57 : TI := ⟨1, 8, (.agg #[(.int .i64 0)]), (.struct #[⟨"N", 3, 0, false, "", "", 0⟩])⟩
theorem tiOk57 : TIok Try.prog 57 ti57 := tiok_of (by kernel_rfl) (by kernel_rfl)
def ti61 : TI := ⟨1, 8, (.pointer none), (.pointer 63)⟩
theorem tiOk61 : TIok Try.prog 61 ti61 := tiok_of (by kernel_rfl) (by kernel_rfl)
def ti63 : TI := ⟨3, 40, (.agg #[(.slice none 0 0), (.int .i64 0), (.int .i64 0)]), (.struct #[⟨"b", 22, 0, false, "", "spinney/subst", 0⟩, ⟨"left", 3, 1, false, "", "spinney/subst", 24⟩, ⟨"deep", 3, 2, false, "", "spinney/subst", 32⟩])⟩
theorem tiOk63 : TIok Try.prog 63 ti63 := tiok_of (by kernel_rfl) (by kernel_rfl)
def ti82 : TI := ⟨1, 8, .nilFunc, (.func #[2] #[2] false)⟩
theorem tiOk82 : TIok Try.prog 82 ti82 := tiok_of (by kernel_rfl) (by kernel_rfl)
def tys : List (TypeId × TI) := [(2, ti2), (3, ti3), (4, ti4), (9, ti9), (22, ti22), (23, ti23), (25, ti25), (28, ti28), (36, ti36), (41, ti41), (54, ti54), (55, ti55), (57, ti57), (61, ti61), (63, ti63), (82, ti82)]
def pures : List FuncId := [3, 4, 5, 9, 10, 11, 12, 14, 15, 16, 17, 18, 19, 20, 27, 28, 29, 30, 34, 35, 37, 38, 46, 13]
def T : Tb := ⟨fun t => tys.lookup t, fun f => pures.contains f⟩
theorem hT : TbOk Try.prog T := tbok_of (fun p hp => by
  simp only [tys, List.mem_cons, List.not_mem_nil, or_false] at hp
  rcases hp with rfl | rfl | rfl | rfl | rfl | rfl | rfl | rfl | rfl | rfl | rfl | rfl | rfl | rfl | rfl | rfl
  · exact tiOk2
  · exact tiOk3
  · exact tiOk4
  · exact tiOk9
  · exact tiOk22
  · exact tiOk23
  · exact tiOk25
  · exact tiOk28
  · exact tiOk36
  · exact tiOk41
  · exact tiOk54
  · exact tiOk55
  · exact tiOk57
  · exact tiOk61
  · exact tiOk63
  · exact tiOk82)
/-! spinney/spinneylaw09.SubstWalks -/
def c3_0 : List CO := [⟨(.box (.var 1)), (some 3), none⟩,
  ⟨(.mov (.k (.bool false))), (some 4), none⟩]
def c3_1 : List CO := [⟨(.call true 9 []), none, none⟩,
  ⟨(.mov (.loc 0)), (some 5), none⟩]
def c3_2 : List CO := [⟨(.mov (.var 0)), none, none⟩,
  ⟨(.load true 4 (.var 3)), none, none⟩,
  ⟨(.bslice 4 [(.int .i64 0), (.string ⟨#[]⟩), (.int .i64 0), (.slice none 0 0)] 1 [(0, (.loc 0))]), none, none⟩,
  ⟨(.call true 10 [(.loc 2), (.loc 0)]), (some 14), none⟩]
def c3_3 : List CO := [⟨(.mov (.var 5)), none, none⟩,
  ⟨(.mov (.loc 0)), (some 4), none⟩]
def c3_4 : List CO := [⟨(.mov (.var 0)), none, none⟩,
  ⟨(.load true 4 (.var 3)), none, none⟩,
  ⟨(.call true 11 [(.loc 1), (.loc 0)]), none, none⟩,
  ⟨(.mov (.loc 0)), none, none⟩,
  ⟨(.extract (.loc 0) 0), none, none⟩,
  ⟨(.extract (.loc 1) 1), none, none⟩,
  ⟨(.box (.k (.agg #[(.int .i64 0), (.string ⟨#[]⟩), (.int .i64 0), (.slice none 0 0)]))), (some 6), none⟩,
  ⟨(.store 4 (.var 6) (.loc 2)), none, none⟩,
  ⟨(.mov (.loc 2)), (some 7), none⟩]
def c3_5 : List CO := [⟨(.mov (.var 0)), none, none⟩,
  ⟨(.load true 4 (.var 3)), none, none⟩,
  ⟨(.call true 12 [(.loc 1), (.loc 0)]), none, none⟩,
  ⟨(.mov (.loc 0)), none, none⟩,
  ⟨(.extract (.loc 0) 0), none, none⟩,
  ⟨(.extract (.loc 1) 1), none, none⟩,
  ⟨(.box (.k (.agg #[(.int .i64 0), (.string ⟨#[]⟩), (.int .i64 0), (.slice none 0 0)]))), (some 8), none⟩,
  ⟨(.store 4 (.var 8) (.loc 2)), none, none⟩,
  ⟨(.mov (.loc 2)), (some 9), none⟩]
def c3_6 : List CO := [⟨(.mov (.var 0)), none, none⟩,
  ⟨(.fa 2 (.var 3)), none, none⟩,
  ⟨(.load false 1 (.loc 0)), none, none⟩,
  ⟨(.call true 13 [(.loc 2), (.loc 0)]), none, none⟩,
  ⟨(.mov (.loc 0)), none, none⟩,
  ⟨(.extract (.loc 0) 0), none, none⟩,
  ⟨(.extract (.loc 1) 1), none, none⟩,
  ⟨(.box (.k (.agg #[(.int .i64 0), (.string ⟨#[]⟩), (.int .i64 0), (.slice none 0 0)]))), (some 10), none⟩,
  ⟨(.store 4 (.var 10) (.loc 2)), none, none⟩,
  ⟨(.mov (.loc 2)), (some 11), none⟩]
def c3_7 : List CO := [⟨(.mov (.var 0)), none, none⟩,
  ⟨(.fa 2 (.var 3)), none, none⟩,
  ⟨(.load false 1 (.loc 0)), none, none⟩,
  ⟨(.call true 14 [(.loc 2), (.loc 0)]), none, none⟩,
  ⟨(.mov (.loc 0)), none, none⟩,
  ⟨(.extract (.loc 0) 0), none, none⟩,
  ⟨(.extract (.loc 1) 1), none, none⟩,
  ⟨(.box (.k (.agg #[(.int .i64 0), (.string ⟨#[]⟩), (.int .i64 0), (.slice none 0 0)]))), (some 12), none⟩,
  ⟨(.store 4 (.var 12) (.loc 2)), none, none⟩,
  ⟨(.mov (.loc 2)), (some 13), none⟩]
def c3_8 : List CO := [⟨(.mov (.var 5)), none, none⟩,
  ⟨(.mov (.loc 0)), none, none⟩,
  ⟨(.load true 4 (.var 6)), none, (some ((.loc 0), true))⟩,
  ⟨(.load true 4 (.var 8)), none, (some ((.loc 1), true))⟩,
  ⟨(.call true 15 [(.loc 1), (.loc 0)]), none, (some ((.loc 2), true))⟩,
  ⟨(.pick (.loc 3) (.loc 0) (.k (.bool false))), none, none⟩,
  ⟨(.mov (.loc 0)), none, none⟩,
  ⟨(.mov (.var 7)), none, (some ((.loc 0), true))⟩,
  ⟨(.mov (.var 9)), none, (some ((.loc 1), true))⟩,
  ⟨(.bin .eql (.loc 1) (.loc 0)), none, (some ((.loc 2), true))⟩,
  ⟨(.pick (.loc 3) (.loc 0) (.k (.bool false))), none, none⟩,
  ⟨(.mov (.loc 0)), none, none⟩,
  ⟨(.load true 4 (.var 10)), none, (some ((.loc 0), true))⟩,
  ⟨(.load true 4 (.var 12)), none, (some ((.loc 1), true))⟩,
  ⟨(.call true 15 [(.loc 1), (.loc 0)]), none, (some ((.loc 2), true))⟩,
  ⟨(.pick (.loc 3) (.loc 0) (.k (.bool false))), none, none⟩,
  ⟨(.mov (.loc 0)), none, none⟩,
  ⟨(.mov (.var 11)), none, (some ((.loc 0), true))⟩,
  ⟨(.mov (.var 13)), none, (some ((.loc 1), true))⟩,
  ⟨(.eqv .bool false (.loc 1) (.loc 0)), none, (some ((.loc 2), true))⟩,
  ⟨(.pick (.loc 3) (.loc 0) (.k (.bool false))), none, none⟩,
  ⟨(.mov (.loc 0)), none, none⟩,
  ⟨(.load true 4 (.var 3)), none, (some ((.loc 0), true))⟩,
  ⟨(.mov (.var 2)), none, (some ((.loc 1), true))⟩,
  ⟨(.call true 16 [(.loc 1), (.loc 0)]), none, (some ((.loc 2), true))⟩,
  ⟨(.load true 4 (.var 3)), none, (some ((.loc 3), true))⟩,
  ⟨(.mov (.var 2)), none, (some ((.loc 4), true))⟩,
  ⟨(.call true 17 [(.loc 1), (.loc 0)]), none, (some ((.loc 5), true))⟩,
  ⟨(.call true 15 [(.loc 3), (.loc 0)]), none, (some ((.loc 6), true))⟩,
  ⟨(.pick (.loc 7) (.loc 0) (.k (.bool false))), none, none⟩,
  ⟨(.mov (.loc 0)), (some 4), none⟩]
def c3 : CFun := ⟨3, 15, (.seq (.region [] [] c3_0) (.seq (.region [] [] c3_1) (.seq (.seq (.region [] [] c3_2) (.cond (.var 14) (.seq (.region [] [] c3_3) .ret) .skip)) (.seq (.region [] [] c3_4) (.seq (.region [] [] c3_5) (.seq (.region [] [] c3_6) (.seq (.region [] [] c3_7) (.seq (.region [] [] c3_8) .ret)))))))), [.var 4]⟩
theorem ok3 : CodeOk Try.prog T 3 c3 := ⟨⟨Try.f3, Hints.of [] [] [], [0, 1, 2, 4, 6, 7, 8, 9, 10, 11, 12, 13, 14, 15, 20], Try.func3, by kernel_rfl, by kernel_rfl⟩⟩

/-! spinney/spinneylaw09.SubstTwice -/
def c4_0 : List CO := [⟨(.box (.var 1)), (some 2), none⟩,
  ⟨(.mov (.k (.bool false))), (some 3), none⟩]
def c4_1 : List CO := [⟨(.call true 9 []), none, none⟩,
  ⟨(.mov (.loc 0)), (some 4), none⟩]
def c4_2 : List CO := [⟨(.mov (.var 0)), none, none⟩,
  ⟨(.load true 4 (.var 2)), none, none⟩,
  ⟨(.bslice 4 [(.int .i64 0), (.string ⟨#[]⟩), (.int .i64 0), (.slice none 0 0)] 1 [(0, (.loc 0))]), none, none⟩,
  ⟨(.call true 10 [(.loc 2), (.loc 0)]), (some 11), none⟩]
def c4_3 : List CO := [⟨(.mov (.var 4)), none, none⟩,
  ⟨(.mov (.loc 0)), (some 3), none⟩]
def c4_4 : List CO := [⟨(.mov (.var 0)), none, none⟩,
  ⟨(.load true 4 (.var 2)), none, none⟩,
  ⟨(.call true 18 [(.loc 1), (.loc 0)]), none, none⟩,
  ⟨(.mov (.loc 0)), none, none⟩,
  ⟨(.extract (.loc 0) 0), none, none⟩,
  ⟨(.extract (.loc 1) 1), none, none⟩,
  ⟨(.box (.k (.agg #[(.int .i64 0), (.string ⟨#[]⟩), (.int .i64 0), (.slice none 0 0)]))), (some 5), none⟩,
  ⟨(.store 4 (.var 5) (.loc 2)), none, none⟩,
  ⟨(.mov (.loc 2)), (some 6), none⟩]
def c4_5 : List CO := [⟨(.mov (.var 6)), none, none⟩,
  ⟨(.bin .neq (.loc 0) (.k (.int .i64 0))), (some 12), none⟩]
def c4_6 : List CO := [⟨(.mov (.var 4)), none, none⟩,
  ⟨(.mov (.loc 0)), none, none⟩,
  ⟨(.fa 0 (.var 5)), none, (some ((.loc 0), true))⟩,
  ⟨(.load false 1 (.loc 0)), none, (some ((.loc 1), true))⟩,
  ⟨(.bin .eql (.loc 0) (.k (.int .i64 0))), none, (some ((.loc 2), true))⟩,
  ⟨(.pick (.loc 3) (.loc 0) (.k (.bool false))), none, none⟩,
  ⟨(.mov (.loc 0)), (some 3), none⟩]
def c4_7 : List CO := [⟨(.load true 4 (.var 5)), none, none⟩,
  ⟨(.call true 19 [(.loc 0)]), (some 13), none⟩,
  ⟨(.len .slice (.var 13)), (some 14), none⟩,
  ⟨(.mov (.k (.int .i64 0))), (some 15), none⟩]
def c4_8 : List CO := [⟨(.bin .lss (.var 15) (.var 14)), (some 16), none⟩]
def c4_9 : List CO := [⟨(.ia 1 (.var 13) (.var 15)), none, none⟩,
  ⟨(.load false 1 (.loc 0)), none, none⟩,
  ⟨(.mov (.loc 0)), (some 7), none⟩]
def c4_10 : List CO := [⟨(.mov (.var 0)), none, none⟩,
  ⟨(.mov (.var 7)), none, none⟩,
  ⟨(.call true 13 [(.loc 1), (.loc 0)]), none, none⟩,
  ⟨(.mov (.loc 0)), none, none⟩,
  ⟨(.extract (.loc 0) 0), none, none⟩,
  ⟨(.extract (.loc 1) 1), none, none⟩,
  ⟨(.box (.k (.agg #[(.int .i64 0), (.string ⟨#[]⟩), (.int .i64 0), (.slice none 0 0)]))), none, none⟩,
  ⟨(.store 4 (.loc 0) (.loc 2)), none, none⟩,
  ⟨(.mov (.loc 2)), (some 8), none⟩]
def c4_11 : List CO := [⟨(.mov (.var 8)), none, none⟩,
  ⟨(.mov (.loc 0)), none, none⟩,
  ⟨(.load true 4 (.var 5)), none, (some ((.loc 0), true))⟩,
  ⟨(.call true 20 [(.loc 0)]), none, (some ((.loc 1), true))⟩,
  ⟨(.pick (.loc 2) (.loc 0) (.k (.bool false))), (some 17), none⟩]
def c4_12 : List CO := [⟨(.mov (.k (.bool false))), (some 3), none⟩]
def c4_13 : List CO := [⟨(.bin .add (.var 15) (.k (.int .i64 1))), none, none⟩,
  ⟨(.mov (.loc 0)), (some 15), none⟩]
def c4_14 : CC := (.seq (.region [] [] c4_8) (.seq (.cond (.var 16) .skip (.exit 0)) (.seq (.block 1 (.seq (.region [] [] c4_9) (.seq (.region [] [] c4_10) (.seq (.region [] [] c4_11) (.cond (.var 17) (.seq (.region [] [] c4_12) .ret) .skip))))) (.region [] [] c4_13))))
def c4_15 : List CO := [⟨(.load true 4 (.var 5)), none, none⟩,
  ⟨(.call true 18 [(.k (.slice none 0 0)), (.loc 0)]), none, none⟩,
  ⟨(.mov (.loc 0)), none, none⟩,
  ⟨(.extract (.loc 0) 0), none, none⟩,
  ⟨(.extract (.loc 1) 1), none, none⟩,
  ⟨(.box (.k (.agg #[(.int .i64 0), (.string ⟨#[]⟩), (.int .i64 0), (.slice none 0 0)]))), (some 9), none⟩,
  ⟨(.store 4 (.var 9) (.loc 2)), none, none⟩,
  ⟨(.mov (.loc 2)), (some 10), none⟩]
def c4_16 : List CO := [⟨(.mov (.var 4)), none, none⟩,
  ⟨(.mov (.loc 0)), none, none⟩,
  ⟨(.mov (.var 10)), none, (some ((.loc 0), true))⟩,
  ⟨(.bin .eql (.loc 0) (.k (.int .i64 0))), none, (some ((.loc 1), true))⟩,
  ⟨(.pick (.loc 2) (.loc 0) (.k (.bool false))), none, none⟩,
  ⟨(.mov (.loc 0)), none, none⟩,
  ⟨(.load true 4 (.var 5)), none, (some ((.loc 0), true))⟩,
  ⟨(.load true 4 (.var 9)), none, (some ((.loc 1), true))⟩,
  ⟨(.call true 15 [(.loc 1), (.loc 0)]), none, (some ((.loc 2), true))⟩,
  ⟨(.pick (.loc 3) (.loc 0) (.k (.bool false))), none, none⟩,
  ⟨(.mov (.loc 0)), (some 3), none⟩]
def c4 : CFun := ⟨2, 18, (.seq (.region [] [] c4_0) (.seq (.region [] [] c4_1) (.seq (.seq (.region [] [] c4_2) (.cond (.var 11) (.seq (.region [] [] c4_3) .ret) .skip)) (.seq (.region [] [] c4_4) (.seq (.seq (.region [] [] c4_5) (.cond (.var 12) (.seq (.region [] [] c4_6) .ret) .skip)) (.seq (.seq (.region [] [] c4_7) (.block 0 (.loop [true, false, false, false, true, true, false, false, false, false, false, false, false, true, true, true, false, false] [] c4_14))) (.seq (.region [] [] c4_15) (.seq (.region [] [] c4_16) .ret)))))))), [.var 3]⟩
theorem ok4 : CodeOk Try.prog T 4 c4 := ⟨⟨Try.f4, Hints.of [] [] [(0, [true, false, false, false, true, true, false, false, false, false, false, false, false, true, true, true, false, false], [])], [0, 1, 3, 4, 5, 6, 7, 9, 11, 12, 13, 18, 27, 35, 36, 37, 38, 51], Try.func4, by kernel_rfl, by kernel_rfl⟩⟩

/-! spinney/spinneylaw09.SubstOrder -/
def c5_0 : List CO := [⟨(.box (.var 3)), (some 4), none⟩,
  ⟨(.mov (.k (.bool false))), (some 5), none⟩]
def c5_1 : List CO := [⟨(.call true 9 []), none, none⟩,
  ⟨(.mov (.loc 0)), (some 6), none⟩]
def c5_2 : List CO := [⟨(.mov (.var 0)), none, none⟩,
  ⟨(.load true 4 (.var 4)), none, none⟩,
  ⟨(.bslice 4 [(.int .i64 0), (.string ⟨#[]⟩), (.int .i64 0), (.slice none 0 0)] 1 [(0, (.loc 0))]), none, none⟩,
  ⟨(.call true 10 [(.loc 2), (.loc 0)]), (some 14), none⟩]
def c5_3 : List CO := [⟨(.mov (.var 6)), none, none⟩,
  ⟨(.mov (.loc 0)), (some 5), none⟩]
def c5_4 : List CO := [⟨(.mov (.var 0)), none, none⟩,
  ⟨(.append 5 64 (.k (.slice none 0 0)) (.loc 0)), none, none⟩,
  ⟨(.mov (.var 1)), none, none⟩,
  ⟨(.load true 4 (.var 4)), none, none⟩,
  ⟨(.build [(.int .i64 0), (.int .i64 0), (.string ⟨#[]⟩), (.int .i64 0), (.slice none 0 0)] [(0, 1, (.loc 1)), (1, 4, (.loc 0))]), none, none⟩,
  ⟨(.bslice 5 [(.int .i64 0), (.int .i64 0), (.string ⟨#[]⟩), (.int .i64 0), (.slice none 0 0)] 1 [(0, (.loc 0))]), none, none⟩,
  ⟨(.append 5 64 (.loc 4) (.loc 0)), none, none⟩,
  ⟨(.mov (.loc 0)), (some 7), none⟩]
def c5_5 : List CO := [⟨(.mov (.var 7)), none, none⟩,
  ⟨(.mov (.var 1)), none, none⟩,
  ⟨(.call true 13 [(.loc 1), (.loc 0)]), none, none⟩,
  ⟨(.mov (.loc 0)), none, none⟩,
  ⟨(.extract (.loc 0) 0), none, none⟩,
  ⟨(.extract (.loc 1) 1), none, none⟩,
  ⟨(.box (.k (.agg #[(.int .i64 0), (.string ⟨#[]⟩), (.int .i64 0), (.slice none 0 0)]))), (some 8), none⟩,
  ⟨(.store 4 (.var 8) (.loc 2)), none, none⟩,
  ⟨(.mov (.loc 2)), (some 9), none⟩]
def c5_6 : List CO := [⟨(.mov (.var 7)), none, none⟩,
  ⟨(.mov (.var 2)), none, none⟩,
  ⟨(.call true 13 [(.loc 1), (.loc 0)]), none, none⟩,
  ⟨(.mov (.loc 0)), none, none⟩,
  ⟨(.extract (.loc 0) 0), none, none⟩,
  ⟨(.extract (.loc 1) 1), none, none⟩,
  ⟨(.box (.k (.agg #[(.int .i64 0), (.string ⟨#[]⟩), (.int .i64 0), (.slice none 0 0)]))), (some 10), none⟩,
  ⟨(.store 4 (.var 10) (.loc 2)), none, none⟩,
  ⟨(.mov (.loc 2)), (some 11), none⟩]
def c5_7 : List CO := [⟨(.mov (.var 0)), none, none⟩,
  ⟨(.mov (.var 2)), none, none⟩,
  ⟨(.call true 13 [(.loc 1), (.loc 0)]), none, none⟩,
  ⟨(.mov (.loc 0)), none, none⟩,
  ⟨(.extract (.loc 0) 0), none, none⟩,
  ⟨(.extract (.loc 1) 1), none, none⟩,
  ⟨(.box (.k (.agg #[(.int .i64 0), (.string ⟨#[]⟩), (.int .i64 0), (.slice none 0 0)]))), (some 12), none⟩,
  ⟨(.store 4 (.var 12) (.loc 2)), none, none⟩,
  ⟨(.mov (.loc 2)), (some 13), none⟩]
def c5_8 : List CO := [⟨(.mov (.var 6)), none, none⟩,
  ⟨(.mov (.loc 0)), none, none⟩,
  ⟨(.mov (.var 9)), none, (some ((.loc 0), true))⟩,
  ⟨(.pick (.loc 1) (.loc 0) (.k (.bool false))), none, none⟩,
  ⟨(.mov (.loc 0)), none, none⟩,
  ⟨(.load true 4 (.var 8)), none, (some ((.loc 0), true))⟩,
  ⟨(.load true 4 (.var 4)), none, (some ((.loc 1), true))⟩,
  ⟨(.call true 15 [(.loc 1), (.loc 0)]), none, (some ((.loc 2), true))⟩,
  ⟨(.pick (.loc 3) (.loc 0) (.k (.bool false))), none, none⟩,
  ⟨(.mov (.loc 0)), none, none⟩,
  ⟨(.mov (.var 2)), none, (some ((.loc 0), true))⟩,
  ⟨(.mov (.var 1)), none, (some ((.loc 1), true))⟩,
  ⟨(.bin .eql (.loc 1) (.loc 0)), none, (some ((.loc 2), true))⟩,
  ⟨(.mov (.loc 0)), none, (some ((.loc 3), true))⟩,
  ⟨(.load true 4 (.var 10)), none, (some ((.loc 0), false))⟩,
  ⟨(.load true 4 (.var 12)), none, (some ((.loc 1), false))⟩,
  ⟨(.call true 15 [(.loc 1), (.loc 0)]), none, (some ((.loc 2), false))⟩,
  ⟨(.mov (.loc 0)), none, (some ((.loc 3), false))⟩,
  ⟨(.mov (.var 11)), none, (some ((.loc 0), true))⟩,
  ⟨(.mov (.var 13)), none, (some ((.loc 1), true))⟩,
  ⟨(.eqv .bool false (.loc 1) (.loc 0)), none, (some ((.loc 2), true))⟩,
  ⟨(.pick (.loc 3) (.loc 0) (.k (.bool false))), none, (some ((.loc 7), false))⟩,
  ⟨(.pick (.loc 8) (.k (.bool true)) (.loc 0)), none, (some ((.loc 12), true))⟩,
  ⟨(.pick (.loc 13) (.loc 0) (.k (.bool false))), none, none⟩,
  ⟨(.mov (.loc 0)), (some 5), none⟩]
def c5 : CFun := ⟨4, 15, (.seq (.region [] [] c5_0) (.seq (.region [] [] c5_1) (.seq (.seq (.region [] [] c5_2) (.cond (.var 14) (.seq (.region [] [] c5_3) .ret) .skip)) (.seq (.region [] [] c5_4) (.seq (.region [.v 7] [] c5_5) (.seq (.region [] [] c5_6) (.seq (.region [] [] c5_7) (.seq (.region [] [] c5_8) .ret)))))))), [.var 5]⟩
theorem ok5 : CodeOk Try.prog T 5 c5 := ⟨⟨Try.f5, Hints.of [(5, [.v 7])] [] [], [0, 1, 2, 3, 7, 8, 9, 10, 11, 12, 13, 14, 15, 16, 21], Try.func5, by kernel_rfl, by kernel_rfl⟩⟩

/-! spinney/spinneylaw09.live -/
def c9_0 : List CO := [⟨(.mov (.k (.bool false))), (some 0), none⟩]
def c9_1 : List CO := [⟨(.call true 27 [(.k (.int .i64 0))]), none, none⟩,
  ⟨(.box (.k (.agg #[(.int .i64 0), (.string ⟨#[]⟩), (.int .i64 0), (.slice none 0 0)]))), (some 1), none⟩,
  ⟨(.store 4 (.var 1) (.loc 1)), none, none⟩]
def c9_2 : List CO := [⟨(.call true 27 [(.k (.int .i64 1))]), none, none⟩,
  ⟨(.box (.k (.agg #[(.int .i64 0), (.string ⟨#[]⟩), (.int .i64 0), (.slice none 0 0)]))), (some 2), none⟩,
  ⟨(.store 4 (.var 2) (.loc 1)), none, none⟩]
def c9_3 : List CO := [⟨(.call true 28 [(.k (.string ⟨#[97]⟩))]), none, none⟩,
  ⟨(.box (.k (.agg #[(.int .i64 0), (.string ⟨#[]⟩), (.int .i64 0), (.slice none 0 0)]))), (some 3), none⟩,
  ⟨(.store 4 (.var 3) (.loc 1)), none, none⟩]
def c9_4 : List CO := [⟨(.load true 4 (.var 2)), none, none⟩,
  ⟨(.bslice 4 [(.int .i64 0), (.string ⟨#[]⟩), (.int .i64 0), (.slice none 0 0)] 1 [(0, (.loc 0))]), none, none⟩,
  ⟨(.call true 29 [(.k (.string ⟨#[102]⟩)), (.loc 0)]), none, none⟩,
  ⟨(.build [(.int .i64 0), (.int .i64 0), (.string ⟨#[]⟩), (.int .i64 0), (.slice none 0 0)] [(0, 1, (.k (.int .i64 0))), (1, 4, (.loc 0))]), none, none⟩,
  ⟨(.load true 4 (.var 3)), none, none⟩,
  ⟨(.build [(.int .i64 0), (.int .i64 0), (.string ⟨#[]⟩), (.int .i64 0), (.slice none 0 0)] [(0, 1, (.k (.int .i64 1))), (1, 4, (.loc 0))]), none, none⟩,
  ⟨(.bslice 5 [(.int .i64 0), (.int .i64 0), (.string ⟨#[]⟩), (.int .i64 0), (.slice none 0 0)] 2 [(0, (.loc 2)), (1, (.loc 0))]), none, none⟩,
  ⟨(.mov (.loc 0)), (some 4), none⟩]
def c9_5 : List CO := [⟨(.mov (.var 4)), none, none⟩,
  ⟨(.load true 4 (.var 1)), none, none⟩,
  ⟨(.load true 4 (.var 2)), none, none⟩,
  ⟨(.bslice 4 [(.int .i64 0), (.string ⟨#[]⟩), (.int .i64 0), (.slice none 0 0)] 2 [(0, (.loc 1)), (1, (.loc 0))]), none, none⟩,
  ⟨(.call true 29 [(.k (.string ⟨#[103]⟩)), (.loc 0)]), none, none⟩,
  ⟨(.call true 18 [(.loc 4), (.loc 0)]), none, none⟩,
  ⟨(.mov (.loc 0)), none, none⟩,
  ⟨(.extract (.loc 0) 0), none, none⟩,
  ⟨(.extract (.loc 1) 1), none, none⟩,
  ⟨(.box (.k (.agg #[(.int .i64 0), (.string ⟨#[]⟩), (.int .i64 0), (.slice none 0 0)]))), (some 5), none⟩,
  ⟨(.store 4 (.var 5) (.loc 2)), none, none⟩,
  ⟨(.mov (.loc 2)), (some 6), none⟩]
def c9_6 : List CO := [⟨(.load true 4 (.var 1)), none, none⟩,
  ⟨(.bslice 4 [(.int .i64 0), (.string ⟨#[]⟩), (.int .i64 0), (.slice none 0 0)] 1 [(0, (.loc 0))]), none, none⟩,
  ⟨(.call true 29 [(.k (.string ⟨#[102]⟩)), (.loc 0)]), none, none⟩,
  ⟨(.build [(.int .i64 0), (.int .i64 0), (.string ⟨#[]⟩), (.int .i64 0), (.slice none 0 0)] [(0, 1, (.k (.int .i64 0))), (1, 4, (.loc 0))]), none, none⟩,
  ⟨(.bslice 5 [(.int .i64 0), (.int .i64 0), (.string ⟨#[]⟩), (.int .i64 0), (.slice none 0 0)] 1 [(0, (.loc 0))]), none, none⟩,
  ⟨(.load true 4 (.var 1)), none, none⟩,
  ⟨(.call true 18 [(.loc 1), (.loc 0)]), none, none⟩,
  ⟨(.mov (.loc 0)), none, none⟩,
  ⟨(.extract (.loc 0) 0), none, none⟩,
  ⟨(.extract (.loc 1) 1), none, none⟩,
  ⟨(.box (.k (.agg #[(.int .i64 0), (.string ⟨#[]⟩), (.int .i64 0), (.slice none 0 0)]))), none, none⟩,
  ⟨(.store 4 (.loc 0) (.loc 2)), none, none⟩,
  ⟨(.mov (.loc 2)), (some 7), none⟩]
def c9_7 : List CO := [⟨(.load true 4 (.var 2)), none, none⟩,
  ⟨(.build [(.int .i64 0), (.int .i64 0), (.string ⟨#[]⟩), (.int .i64 0), (.slice none 0 0)] [(0, 1, (.k (.int .i64 0))), (1, 4, (.loc 0))]), none, none⟩,
  ⟨(.load true 4 (.var 1)), none, none⟩,
  ⟨(.build [(.int .i64 0), (.int .i64 0), (.string ⟨#[]⟩), (.int .i64 0), (.slice none 0 0)] [(0, 1, (.k (.int .i64 1))), (1, 4, (.loc 0))]), none, none⟩,
  ⟨(.bslice 5 [(.int .i64 0), (.int .i64 0), (.string ⟨#[]⟩), (.int .i64 0), (.slice none 0 0)] 2 [(0, (.loc 2)), (1, (.loc 0))]), none, none⟩,
  ⟨(.load true 4 (.var 1)), none, none⟩,
  ⟨(.call true 11 [(.loc 1), (.loc 0)]), none, none⟩,
  ⟨(.mov (.loc 0)), none, none⟩,
  ⟨(.extract (.loc 0) 0), none, none⟩,
  ⟨(.extract (.loc 1) 1), none, none⟩,
  ⟨(.box (.k (.agg #[(.int .i64 0), (.string ⟨#[]⟩), (.int .i64 0), (.slice none 0 0)]))), none, none⟩,
  ⟨(.store 4 (.loc 0) (.loc 2)), none, none⟩,
  ⟨(.mov (.loc 2)), (some 8), none⟩]
def c9_8 : List CO := [⟨(.mov (.var 6)), none, none⟩,
  ⟨(.bin .eql (.loc 0) (.k (.int .i64 0))), none, none⟩,
  ⟨(.mov (.loc 0)), none, none⟩,
  ⟨(.load true 4 (.var 5)), none, (some ((.loc 0), true))⟩,
  ⟨(.load true 4 (.var 3)), none, (some ((.loc 1), true))⟩,
  ⟨(.bslice 4 [(.int .i64 0), (.string ⟨#[]⟩), (.int .i64 0), (.slice none 0 0)] 1 [(0, (.loc 0))]), none, (some ((.loc 2), true))⟩,
  ⟨(.call true 29 [(.k (.string ⟨#[102]⟩)), (.loc 0)]), none, (some ((.loc 3), true))⟩,
  ⟨(.load true 4 (.var 3)), none, (some ((.loc 4), true))⟩,
  ⟨(.bslice 4 [(.int .i64 0), (.string ⟨#[]⟩), (.int .i64 0), (.slice none 0 0)] 2 [(0, (.loc 1)), (1, (.loc 0))]), none, (some ((.loc 5), true))⟩,
  ⟨(.call true 29 [(.k (.string ⟨#[103]⟩)), (.loc 0)]), none, (some ((.loc 6), true))⟩,
  ⟨(.call true 15 [(.loc 6), (.loc 0)]), none, (some ((.loc 7), true))⟩,
  ⟨(.pick (.loc 8) (.loc 0) (.k (.bool false))), none, none⟩,
  ⟨(.mov (.loc 0)), none, none⟩,
  ⟨(.mov (.var 7)), none, (some ((.loc 0), true))⟩,
  ⟨(.bin .eql (.loc 0) (.k (.int .i64 3))), none, (some ((.loc 1), true))⟩,
  ⟨(.pick (.loc 2) (.loc 0) (.k (.bool false))), none, none⟩,
  ⟨(.mov (.loc 0)), none, none⟩,
  ⟨(.mov (.var 8)), none, (some ((.loc 0), true))⟩,
  ⟨(.bin .eql (.loc 0) (.k (.int .i64 140))), none, (some ((.loc 1), true))⟩,
  ⟨(.pick (.loc 2) (.loc 0) (.k (.bool false))), none, none⟩,
  ⟨(.mov (.loc 0)), none, none⟩,
  ⟨(.load true 4 (.var 1)), none, (some ((.loc 0), true))⟩,
  ⟨(.call true 16 [(.loc 0), (.k (.int .i64 1))]), none, (some ((.loc 1), true))⟩,
  ⟨(.load true 4 (.var 2)), none, (some ((.loc 2), true))⟩,
  ⟨(.call true 15 [(.loc 1), (.loc 0)]), none, (some ((.loc 3), true))⟩,
  ⟨(.pick (.loc 4) (.loc 0) (.k (.bool false))), none, none⟩,
  ⟨(.mov (.loc 0)), (some 0), none⟩]
def c9 : CFun := ⟨0, 9, (.seq (.region [] [] c9_0) (.seq (.region [] [] c9_1) (.seq (.region [] [] c9_2) (.seq (.region [] [] c9_3) (.seq (.region [] [] c9_4) (.seq (.region [] [] c9_5) (.seq (.region [] [] c9_6) (.seq (.region [] [] c9_7) (.seq (.region [] [] c9_8) .ret))))))))), [.var 0]⟩
theorem ok9 : CodeOk Try.prog T 9 c9 := ⟨⟨Try.f9, Hints.of [] [] [], [0, 1, 2, 3, 4, 5, 6, 8, 10], Try.func9, by kernel_rfl, by kernel_rfl⟩⟩

/-! spinney/spinneylaw09.big -/
def c10_0 : List CO := [⟨(.mov (.k (.bool false))), (some 2), none⟩]
def c10_1 : List CO := [⟨(.mov (.var 0)), none, none⟩,
  ⟨(.len .slice (.loc 0)), none, none⟩,
  ⟨(.bin .gtr (.loc 0) (.k (.int .i64 100))), (some 5), none⟩]
def c10_2 : List CO := [⟨(.mov (.k (.bool true))), (some 2), none⟩]
def c10_3 : List CO := [⟨(.mov (.var 0)), (some 6), none⟩,
  ⟨(.len .slice (.var 6)), (some 7), none⟩,
  ⟨(.mov (.k (.int .i64 0))), (some 8), none⟩]
def c10_4 : List CO := [⟨(.bin .lss (.var 8) (.var 7)), (some 9), none⟩]
def c10_5 : List CO := [⟨(.ia 5 (.var 6) (.var 8)), none, none⟩,
  ⟨(.load true 5 (.loc 0)), none, none⟩,
  ⟨(.box (.k (.agg #[(.int .i64 0), (.int .i64 0), (.string ⟨#[]⟩), (.int .i64 0), (.slice none 0 0)]))), (some 3), none⟩,
  ⟨(.store 5 (.var 3) (.loc 1)), none, none⟩]
def c10_6 : List CO := [⟨(.fa 1 (.var 3)), none, none⟩,
  ⟨(.load true 4 (.loc 0)), none, none⟩,
  ⟨(.call true 30 [(.loc 0), (.k (.int .i64 300))]), none, none⟩,
  ⟨(.un .not (.loc 0)), (some 10), none⟩]
def c10_7 : List CO := [⟨(.mov (.k (.bool true))), (some 2), none⟩]
def c10_8 : List CO := [⟨(.bin .add (.var 8) (.k (.int .i64 1))), none, none⟩,
  ⟨(.mov (.loc 0)), (some 8), none⟩]
def c10_9 : CC := (.seq (.region [] [] c10_4) (.seq (.cond (.var 9) .skip (.exit 0)) (.seq (.block 1 (.seq (.region [] [] c10_5) (.seq (.region [] [] c10_6) (.cond (.var 10) (.seq (.region [] [] c10_7) .ret) .skip)))) (.region [] [] c10_8))))
def c10_10 : List CO := [⟨(.mov (.var 1)), (some 11), none⟩,
  ⟨(.len .slice (.var 11)), (some 12), none⟩,
  ⟨(.mov (.k (.int .i64 0))), (some 13), none⟩]
def c10_11 : List CO := [⟨(.bin .lss (.var 13) (.var 12)), (some 14), none⟩]
def c10_12 : List CO := [⟨(.ia 4 (.var 11) (.var 13)), none, none⟩,
  ⟨(.load true 4 (.loc 0)), none, none⟩,
  ⟨(.box (.k (.agg #[(.int .i64 0), (.string ⟨#[]⟩), (.int .i64 0), (.slice none 0 0)]))), (some 4), none⟩,
  ⟨(.store 4 (.var 4) (.loc 1)), none, none⟩]
def c10_13 : List CO := [⟨(.load true 4 (.var 4)), none, none⟩,
  ⟨(.call true 30 [(.loc 0), (.k (.int .i64 3000))]), none, none⟩,
  ⟨(.un .not (.loc 0)), (some 15), none⟩]
def c10_14 : List CO := [⟨(.mov (.k (.bool true))), (some 2), none⟩]
def c10_15 : List CO := [⟨(.bin .add (.var 13) (.k (.int .i64 1))), none, none⟩,
  ⟨(.mov (.loc 0)), (some 13), none⟩]
def c10_16 : CC := (.seq (.region [] [] c10_11) (.seq (.cond (.var 14) .skip (.exit 2)) (.seq (.block 3 (.seq (.region [] [] c10_12) (.seq (.region [] [] c10_13) (.cond (.var 15) (.seq (.region [] [] c10_14) .ret) .skip)))) (.region [] [] c10_15))))
def c10_17 : List CO := [⟨(.mov (.k (.bool false))), (some 2), none⟩]
def c10 : CFun := ⟨2, 16, (.seq (.region [] [] c10_0) (.seq (.seq (.region [] [] c10_1) (.cond (.var 5) (.seq (.region [] [] c10_2) .ret) .skip)) (.seq (.seq (.region [] [] c10_3) (.block 0 (.loop [false, true, false, false, false, false, true, true, true, false, false, false, false, false, false, false] [] c10_9))) (.seq (.seq (.region [] [] c10_10) (.block 2 (.loop [false, false, false, false, false, false, false, false, false, false, false, true, true, true, false, false] [] c10_16))) (.seq (.region [] [] c10_17) .ret))))), [.var 2]⟩
theorem ok10 : CodeOk Try.prog T 10 c10 := ⟨⟨Try.f10, Hints.of [] [] [(0, [false, true, false, false, false, false, true, true, true, false, false, false, false, false, false, false], []), (2, [false, false, false, false, false, false, false, false, false, false, false, true, true, true, false, false], [])], [0, 1, 4, 6, 8, 11, 12, 13, 14, 15, 21, 23, 24, 25, 26, 31], Try.func10, by kernel_rfl, by kernel_rfl⟩⟩

/-! spinney/subst.Walk -/
def c11_0 : List CO := [⟨(.box (.var 1)), (some 2), none⟩,
  ⟨(.box (.k (.agg #[(.int .i64 0), (.string ⟨#[]⟩), (.int .i64 0), (.slice none 0 0)]))), (some 3), none⟩,
  ⟨(.mov (.k (.int .i64 0))), (some 4), none⟩]
def c11_1 : List CO := [⟨(.box (.k (.int .i64 0))), (some 5), none⟩,
  ⟨(.store 1 (.var 5) (.k (.int .i64 2000))), none, none⟩]
def c11_2 : List CO := [⟨(.mov (.var 0)), none, none⟩,
  ⟨(.load true 4 (.var 2)), none, none⟩,
  ⟨(.call false 31 [(.loc 1), (.loc 0), (.var 5)]), none, none⟩,
  ⟨(.extract (.loc 0) 0), none, none⟩,
  ⟨(.extract (.loc 1) 1), none, none⟩,
  ⟨(.store 4 (.var 3) (.loc 1)), none, none⟩,
  ⟨(.mov (.loc 1)), (some 4), none⟩]
def c11 : CFun := ⟨2, 6, (.seq (.region [] [] c11_0) (.seq (.region [] [] c11_1) (.seq (.region [] [] c11_2) .ret))), [.cell 3 true 4, .var 4]⟩
theorem ok11 : CodeOk Try.prog T 11 c11 := ⟨⟨Try.f11, Hints.of [] [] [], [0, 1, 3, 4, 5, 6], Try.func11, by kernel_rfl, by kernel_rfl⟩⟩

/-! spinney/spinneyref09.Walk -/
def c12_0 : List CO := [⟨(.box (.var 1)), (some 2), none⟩,
  ⟨(.box (.k (.agg #[(.int .i64 0), (.string ⟨#[]⟩), (.int .i64 0), (.slice none 0 0)]))), (some 3), none⟩,
  ⟨(.mov (.k (.int .i64 0))), (some 4), none⟩]
def c12_1 : List CO := [⟨(.build [(.int .i64 0)] []), none, none⟩,
  ⟨(.box (.loc 0)), none, none⟩,
  ⟨(.mov (.loc 0)), (some 5), none⟩]
def c12_2 : List CO := [⟨(.mov (.var 5)), none, none⟩,
  ⟨(.mov (.var 0)), none, none⟩,
  ⟨(.load true 4 (.var 2)), none, none⟩,
  ⟨(.call false 32 [(.loc 2), (.loc 1), (.loc 0)]), none, none⟩,
  ⟨(.extract (.loc 0) 0), none, none⟩,
  ⟨(.extract (.loc 1) 1), none, none⟩,
  ⟨(.store 4 (.var 3) (.loc 1)), none, none⟩,
  ⟨(.mov (.loc 1)), (some 4), none⟩]
def c12 : CFun := ⟨2, 6, (.seq (.region [] [] c12_0) (.seq (.region [] [] c12_1) (.seq (.region [] [] c12_2) .ret))), [.cell 3 true 4, .var 4]⟩
theorem ok12 : CodeOk Try.prog T 12 c12 := ⟨⟨Try.f12, Hints.of [] [] [], [0, 1, 3, 4, 5, 6], Try.func12, by kernel_rfl, by kernel_rfl⟩⟩

/-! spinney/spinneyref09.Look -/
def c14_0 : List CO := [⟨(.box (.k (.agg #[(.int .i64 0), (.string ⟨#[]⟩), (.int .i64 0), (.slice none 0 0)]))), (some 2), none⟩,
  ⟨(.mov (.k (.bool false))), (some 3), none⟩]
def c14_1 : List CO := [⟨(.mov (.var 0)), none, none⟩,
  ⟨(.len .slice (.loc 0)), none, none⟩,
  ⟨(.bin .sub (.loc 0) (.k (.int .i64 1))), none, none⟩,
  ⟨(.mov (.loc 0)), (some 4), none⟩]
def c14_2 : List CO := [⟨(.mov (.var 4)), none, none⟩,
  ⟨(.bin .geq (.loc 0) (.k (.int .i64 0))), (some 5), none⟩]
def c14_3 : List CO := [⟨(.mov (.var 0)), none, none⟩,
  ⟨(.mov (.var 4)), none, none⟩,
  ⟨(.ia 5 (.loc 1) (.loc 0)), none, none⟩,
  ⟨(.fa 0 (.loc 0)), none, none⟩,
  ⟨(.load false 1 (.loc 0)), none, none⟩,
  ⟨(.mov (.var 1)), none, none⟩,
  ⟨(.bin .eql (.loc 1) (.loc 0)), (some 6), none⟩]
def c14_4 : List CO := [⟨(.mov (.var 0)), none, none⟩,
  ⟨(.mov (.var 4)), none, none⟩,
  ⟨(.ia 5 (.loc 1) (.loc 0)), none, none⟩,
  ⟨(.fa 1 (.loc 0)), none, none⟩,
  ⟨(.load true 4 (.loc 0)), none, none⟩,
  ⟨(.store 4 (.var 2) (.loc 0)), none, none⟩,
  ⟨(.mov (.k (.bool true))), (some 3), none⟩]
def c14_5 : List CO := [⟨(.mov (.var 4)), none, none⟩,
  ⟨(.bin .sub (.loc 0) (.k (.int .i64 1))), none, none⟩,
  ⟨(.mov (.loc 0)), (some 4), none⟩]
def c14_6 : CC := (.seq (.seq (.region [] [] c14_2) (.cond (.var 5) .skip (.exit 0))) (.seq (.block 1 (.seq (.region [] [] c14_3) (.cond (.var 6) (.seq (.region [] [] c14_4) .ret) .skip))) (.region [] [] c14_5)))
def c14_7 : List CO := [⟨(.build [(.int .i64 0), (.string ⟨#[]⟩), (.int .i64 0), (.slice none 0 0)] []), none, none⟩,
  ⟨(.store 4 (.var 2) (.loc 0)), none, none⟩,
  ⟨(.mov (.k (.bool false))), (some 3), none⟩]
def c14 : CFun := ⟨2, 7, (.seq (.region [] [] c14_0) (.seq (.seq (.region [] [] c14_1) (.block 0 (.loop [true, true, true, false, true, false, false] [] c14_6))) (.seq (.region [] [] c14_7) .ret))), [.cell 2 true 4, .var 3]⟩
theorem ok14 : CodeOk Try.prog T 14 c14 := ⟨⟨Try.f14, Hints.of [] [] [(0, [true, true, true, false, true, false, false], [])], [0, 1, 4, 5, 6, 11, 20], Try.func14, by kernel_rfl, by kernel_rfl⟩⟩

/-! spinney/spinneyref03.Same -/
def c15_0 : List CO := [⟨(.box (.var 0)), (some 2), none⟩,
  ⟨(.box (.var 1)), (some 3), none⟩,
  ⟨(.mov (.k (.bool false))), (some 4), none⟩]
def c15_1 : List CO := [⟨(.fa 0 (.var 2)), none, none⟩,
  ⟨(.load false 1 (.loc 0)), none, none⟩,
  ⟨(.fa 0 (.var 3)), none, none⟩,
  ⟨(.load false 1 (.loc 0)), none, none⟩,
  ⟨(.bin .neq (.loc 2) (.loc 0)), none, none⟩,
  ⟨(.mov (.loc 0)), none, none⟩,
  ⟨(.fa 1 (.var 2)), none, (some ((.loc 0), false))⟩,
  ⟨(.load false 1 (.loc 0)), none, (some ((.loc 1), false))⟩,
  ⟨(.fa 1 (.var 3)), none, (some ((.loc 2), false))⟩,
  ⟨(.load false 1 (.loc 0)), none, (some ((.loc 3), false))⟩,
  ⟨(.bin .neq (.loc 2) (.loc 0)), none, (some ((.loc 4), false))⟩,
  ⟨(.pick (.loc 5) (.k (.bool true)) (.loc 0)), none, none⟩,
  ⟨(.mov (.loc 0)), none, none⟩,
  ⟨(.fa 2 (.var 2)), none, (some ((.loc 0), false))⟩,
  ⟨(.load false 1 (.loc 0)), none, (some ((.loc 1), false))⟩,
  ⟨(.fa 2 (.var 3)), none, (some ((.loc 2), false))⟩,
  ⟨(.load false 1 (.loc 0)), none, (some ((.loc 3), false))⟩,
  ⟨(.bin .neq (.loc 2) (.loc 0)), none, (some ((.loc 4), false))⟩,
  ⟨(.pick (.loc 5) (.k (.bool true)) (.loc 0)), none, none⟩,
  ⟨(.mov (.loc 0)), none, none⟩,
  ⟨(.fa 3 (.var 2)), none, (some ((.loc 0), false))⟩,
  ⟨(.load false 1 (.loc 0)), none, (some ((.loc 1), false))⟩,
  ⟨(.len .slice (.loc 0)), none, (some ((.loc 2), false))⟩,
  ⟨(.fa 3 (.var 3)), none, (some ((.loc 3), false))⟩,
  ⟨(.load false 1 (.loc 0)), none, (some ((.loc 4), false))⟩,
  ⟨(.len .slice (.loc 0)), none, (some ((.loc 5), false))⟩,
  ⟨(.bin .neq (.loc 3) (.loc 0)), none, (some ((.loc 6), false))⟩,
  ⟨(.pick (.loc 7) (.k (.bool true)) (.loc 0)), (some 6), none⟩]
def c15_2 : List CO := [⟨(.mov (.k (.bool false))), (some 4), none⟩]
def c15_3 : List CO := [⟨(.fa 3 (.var 2)), none, none⟩,
  ⟨(.load false 1 (.loc 0)), none, none⟩,
  ⟨(.len .slice (.loc 0)), (some 7), none⟩,
  ⟨(.mov (.k (.int .i64 0))), (some 8), none⟩]
def c15_4 : List CO := [⟨(.bin .lss (.var 8) (.var 7)), (some 9), none⟩]
def c15_5 : List CO := [⟨(.mov (.var 8)), none, none⟩,
  ⟨(.mov (.loc 0)), (some 5), none⟩]
def c15_6 : List CO := [⟨(.fa 3 (.var 2)), none, none⟩,
  ⟨(.load false 1 (.loc 0)), none, none⟩,
  ⟨(.mov (.var 5)), none, none⟩,
  ⟨(.ia 4 (.loc 1) (.loc 0)), none, none⟩,
  ⟨(.load true 4 (.loc 0)), none, none⟩,
  ⟨(.fa 3 (.var 3)), none, none⟩,
  ⟨(.load false 1 (.loc 0)), none, none⟩,
  ⟨(.mov (.var 5)), none, none⟩,
  ⟨(.ia 4 (.loc 1) (.loc 0)), none, none⟩,
  ⟨(.load true 4 (.loc 0)), none, none⟩,
  ⟨(.call true 15 [(.loc 5), (.loc 0)]), none, none⟩,
  ⟨(.un .not (.loc 0)), (some 10), none⟩]
def c15_7 : List CO := [⟨(.mov (.k (.bool false))), (some 4), none⟩]
def c15_8 : List CO := [⟨(.bin .add (.var 8) (.k (.int .i64 1))), none, none⟩,
  ⟨(.mov (.loc 0)), (some 8), none⟩]
def c15_9 : CC := (.seq (.region [] [] c15_4) (.seq (.cond (.var 9) .skip (.exit 0)) (.seq (.block 1 (.seq (.region [] [] c15_5) (.seq (.region [] [] c15_6) (.cond (.var 10) (.seq (.region [] [] c15_7) .ret) .skip)))) (.region [] [] c15_8))))
def c15_10 : List CO := [⟨(.mov (.k (.bool true))), (some 4), none⟩]
def c15 : CFun := ⟨2, 11, (.seq (.region [] [] c15_0) (.seq (.seq (.region [] [] c15_1) (.cond (.var 6) (.seq (.region [] [] c15_2) .ret) .skip)) (.seq (.seq (.region [] [] c15_3) (.block 0 (.loop [false, false, true, true, false, false, false, true, true, false, false] [] c15_9))) (.seq (.region [] [] c15_10) .ret)))), [.var 4]⟩
theorem ok15 : CodeOk Try.prog T 15 c15 := ⟨⟨Try.f15, Hints.of [] [] [(0, [false, false, true, true, false, false, false, true, true, false, false], [])], [0, 1, 2, 3, 4, 5, 33, 36, 37, 38, 51], Try.func15, by kernel_rfl, by kernel_rfl⟩⟩

/-! spinney/subst.Fresh -/
def c16_0 : List CO := [⟨(.box (.var 0)), (some 2), none⟩,
  ⟨(.box (.k (.agg #[(.int .i64 0), (.string ⟨#[]⟩), (.int .i64 0), (.slice none 0 0)]))), (some 3), none⟩]
def c16_1 : List CO := [⟨(.load true 4 (.var 2)), none, none⟩,
  ⟨(.mov (.var 1)), none, none⟩,
  ⟨(.call true 34 [(.loc 1), (.loc 0)]), none, none⟩,
  ⟨(.store 4 (.var 3) (.loc 0)), none, none⟩]
def c16 : CFun := ⟨2, 4, (.seq (.region [] [] c16_0) (.seq (.region [] [] c16_1) .ret)), [.cell 3 true 4]⟩
theorem ok16 : CodeOk Try.prog T 16 c16 := ⟨⟨Try.f16, Hints.of [] [] [], [0, 1, 2, 4], Try.func16, by kernel_rfl, by kernel_rfl⟩⟩

/-! spinney/spinneyref09.Fresh -/
def c17_0 : List CO := [⟨(.box (.var 0)), (some 2), none⟩,
  ⟨(.box (.k (.agg #[(.int .i64 0), (.string ⟨#[]⟩), (.int .i64 0), (.slice none 0 0)]))), (some 3), none⟩]
def c17_1 : List CO := [⟨(.load true 4 (.var 2)), none, none⟩,
  ⟨(.mov (.var 1)), none, none⟩,
  ⟨(.call true 35 [(.loc 1), (.loc 0)]), none, none⟩,
  ⟨(.store 4 (.var 3) (.loc 0)), none, none⟩]
def c17 : CFun := ⟨2, 4, (.seq (.region [] [] c17_0) (.seq (.region [] [] c17_1) .ret)), [.cell 3 true 4]⟩
theorem ok17 : CodeOk Try.prog T 17 c17 := ⟨⟨Try.f17, Hints.of [] [] [], [0, 1, 2, 4], Try.func17, by kernel_rfl, by kernel_rfl⟩⟩

/-! spinney/subst.Resolve -/
def c18_0 : List CO := [⟨(.box (.var 1)), (some 2), none⟩,
  ⟨(.box (.k (.agg #[(.int .i64 0), (.string ⟨#[]⟩), (.int .i64 0), (.slice none 0 0)]))), (some 3), none⟩,
  ⟨(.mov (.k (.int .i64 0))), (some 4), none⟩]
def c18_1 : List CO := [⟨(.mov (.var 0)), none, none⟩,
  ⟨(.build [(.slice none 0 0), (.int .i64 0), (.int .i64 0)] [(0, 1, (.loc 0)), (1, 1, (.k (.int .i64 2000)))]), none, none⟩,
  ⟨(.box (.loc 0)), none, none⟩,
  ⟨(.mov (.loc 0)), (some 5), none⟩]
def c18_2 : List CO := [⟨(.mov (.var 5)), none, none⟩,
  ⟨(.load true 4 (.var 2)), none, none⟩,
  ⟨(.call false 36 [(.loc 1), (.loc 0)]), none, none⟩,
  ⟨(.extract (.loc 0) 0), none, none⟩,
  ⟨(.extract (.loc 1) 1), none, none⟩,
  ⟨(.store 4 (.var 3) (.loc 1)), none, none⟩,
  ⟨(.mov (.loc 1)), (some 4), none⟩]
def c18 : CFun := ⟨2, 6, (.seq (.region [] [] c18_0) (.seq (.region [] [] c18_1) (.seq (.region [] [] c18_2) .ret))), [.cell 3 true 4, .var 4]⟩
theorem ok18 : CodeOk Try.prog T 18 c18 := ⟨⟨Try.f18, Hints.of [] [] [], [0, 1, 3, 4, 5, 6], Try.func18, by kernel_rfl, by kernel_rfl⟩⟩

/-! spinney/spinneyref03.Vars -/
def c19_0 : List CO := [⟨(.box (.var 0)), (some 1), none⟩,
  ⟨(.mov (.k (.slice none 0 0))), (some 2), none⟩]
def c19_1 : List CO := [⟨(.mov (.k (.slice none 0 0))), (some 3), none⟩]
def c19_2 : List CO := [⟨(.load true 4 (.var 1)), none, none⟩,
  ⟨(.call true 37 [(.loc 0)]), (some 5), none⟩,
  ⟨(.len .slice (.var 5)), (some 6), none⟩,
  ⟨(.mov (.k (.int .i64 0))), (some 7), none⟩]
def c19_3 : List CO := [⟨(.bin .lss (.var 7) (.var 6)), (some 8), none⟩]
def c19_4 : List CO := [⟨(.ia 1 (.var 5) (.var 7)), none, none⟩,
  ⟨(.load false 1 (.loc 0)), none, none⟩,
  ⟨(.mov (.loc 0)), (some 4), none⟩]
def c19_5 : List CO := [⟨(.mov (.var 3)), none, none⟩,
  ⟨(.mov (.var 4)), none, none⟩,
  ⟨(.call true 38 [(.loc 1), (.loc 0)]), none, none⟩,
  ⟨(.un .not (.loc 0)), (some 9), none⟩]
def c19_6 : List CO := [⟨(.mov (.var 3)), none, none⟩,
  ⟨(.mov (.var 4)), none, none⟩,
  ⟨(.bslice 1 [(.int .i64 0)] 1 [(0, (.loc 0))]), none, none⟩,
  ⟨(.append 1 8 (.loc 2) (.loc 0)), none, none⟩,
  ⟨(.mov (.loc 0)), (some 3), none⟩]
def c19_7 : List CO := [⟨(.bin .add (.var 7) (.k (.int .i64 1))), none, none⟩,
  ⟨(.mov (.loc 0)), (some 7), none⟩]
def c19_8 : CC := (.seq (.region [] [] c19_3) (.seq (.cond (.var 8) .skip (.exit 0)) (.seq (.block 1 (.seq (.region [] [] c19_4) (.seq (.region [] [] c19_5) (.cond (.var 9) (.region [] [] c19_6) .skip)))) (.region [] [] c19_7))))
def c19_9 : List CO := [⟨(.mov (.var 3)), none, none⟩,
  ⟨(.mov (.loc 0)), (some 2), none⟩]
def c19 : CFun := ⟨1, 10, (.seq (.region [] [] c19_0) (.seq (.region [] [] c19_1) (.seq (.seq (.region [] [] c19_2) (.block 0 (.loop [false, false, false, true, false, true, true, true, false, false] [] c19_8))) (.seq (.region [] [] c19_9) .ret)))), [.var 2]⟩
theorem ok19 : CodeOk Try.prog T 19 c19 := ⟨⟨Try.f19, Hints.of [] [] [(0, [false, false, false, true, false, true, true, true, false, false], [])], [0, 1, 2, 3, 5, 7, 8, 9, 10, 16], Try.func19, by kernel_rfl, by kernel_rfl⟩⟩

/-! spinney/spinneylaw09.noArgs -/
def c20_0 : List CO := [⟨(.box (.var 0)), (some 1), none⟩,
  ⟨(.mov (.k (.bool false))), (some 2), none⟩]
def c20_1 : List CO := [⟨(.fa 0 (.var 1)), none, none⟩,
  ⟨(.load false 1 (.loc 0)), none, none⟩,
  ⟨(.bin .eql (.loc 0) (.k (.int .i64 1))), none, none⟩,
  ⟨(.mov (.loc 0)), none, none⟩,
  ⟨(.fa 3 (.var 1)), none, (some ((.loc 0), true))⟩,
  ⟨(.load false 1 (.loc 0)), none, (some ((.loc 1), true))⟩,
  ⟨(.len .slice (.loc 0)), none, (some ((.loc 2), true))⟩,
  ⟨(.bin .gtr (.loc 0) (.k (.int .i64 0))), none, (some ((.loc 3), true))⟩,
  ⟨(.pick (.loc 4) (.loc 0) (.k (.bool false))), (some 4), none⟩]
def c20_2 : List CO := [⟨(.mov (.k (.bool false))), (some 2), none⟩]
def c20_3 : List CO := [⟨(.fa 3 (.var 1)), none, none⟩,
  ⟨(.load false 1 (.loc 0)), (some 5), none⟩,
  ⟨(.len .slice (.var 5)), (some 6), none⟩,
  ⟨(.mov (.k (.int .i64 0))), (some 7), none⟩]
def c20_4 : List CO := [⟨(.bin .lss (.var 7) (.var 6)), (some 8), none⟩]
def c20_5 : List CO := [⟨(.ia 4 (.var 5) (.var 7)), none, none⟩,
  ⟨(.load true 4 (.loc 0)), none, none⟩,
  ⟨(.box (.k (.agg #[(.int .i64 0), (.string ⟨#[]⟩), (.int .i64 0), (.slice none 0 0)]))), (some 3), none⟩,
  ⟨(.store 4 (.var 3) (.loc 1)), none, none⟩]
def c20_6 : List CO := [⟨(.load true 4 (.var 3)), none, none⟩,
  ⟨(.call true 20 [(.loc 0)]), none, none⟩,
  ⟨(.un .not (.loc 0)), (some 9), none⟩]
def c20_7 : List CO := [⟨(.mov (.k (.bool false))), (some 2), none⟩]
def c20_8 : List CO := [⟨(.bin .add (.var 7) (.k (.int .i64 1))), none, none⟩,
  ⟨(.mov (.loc 0)), (some 7), none⟩]
def c20_9 : CC := (.seq (.region [] [] c20_4) (.seq (.cond (.var 8) .skip (.exit 0)) (.seq (.block 1 (.seq (.region [] [] c20_5) (.seq (.region [] [] c20_6) (.cond (.var 9) (.seq (.region [] [] c20_7) .ret) .skip)))) (.region [] [] c20_8))))
def c20_10 : List CO := [⟨(.mov (.k (.bool true))), (some 2), none⟩]
def c20 : CFun := ⟨1, 10, (.seq (.region [] [] c20_0) (.seq (.seq (.region [] [] c20_1) (.cond (.var 4) (.seq (.region [] [] c20_2) .ret) .skip)) (.seq (.seq (.region [] [] c20_3) (.block 0 (.loop [false, false, false, false, false, true, true, true, false, false] [] c20_9))) (.seq (.region [] [] c20_10) .ret)))), [.var 2]⟩
theorem ok20 : CodeOk Try.prog T 20 c20 := ⟨⟨Try.f20, Hints.of [] [] [(0, [false, false, false, false, false, true, true, true, false, false], [])], [0, 1, 2, 4, 13, 15, 16, 17, 18, 23], Try.func20, by kernel_rfl, by kernel_rfl⟩⟩

/-! spinney/spinneyref03.Var1 -/
def c27_0 : List CO := [⟨(.box (.k (.agg #[(.int .i64 0), (.string ⟨#[]⟩), (.int .i64 0), (.slice none 0 0)]))), (some 1), none⟩]
def c27_1 : List CO := [⟨(.mov (.var 0)), none, none⟩,
  ⟨(.build [(.int .i64 0), (.string ⟨#[]⟩), (.int .i64 0), (.slice none 0 0)] [(0, 1, (.k (.int .i64 1))), (2, 1, (.loc 0))]), none, none⟩,
  ⟨(.store 4 (.var 1) (.loc 0)), none, none⟩]
def c27 : CFun := ⟨1, 2, (.seq (.region [] [] c27_0) (.seq (.region [] [] c27_1) .ret)), [.cell 1 true 4]⟩
theorem ok27 : CodeOk Try.prog T 27 c27 := ⟨⟨Try.f27, Hints.of [] [] [], [0, 2], Try.func27, by kernel_rfl, by kernel_rfl⟩⟩

/-! spinney/spinneyref03.Atom1 -/
def c28_0 : List CO := [⟨(.box (.k (.agg #[(.int .i64 0), (.string ⟨#[]⟩), (.int .i64 0), (.slice none 0 0)]))), (some 1), none⟩]
def c28_1 : List CO := [⟨(.mov (.var 0)), none, none⟩,
  ⟨(.build [(.int .i64 0), (.string ⟨#[]⟩), (.int .i64 0), (.slice none 0 0)] [(0, 1, (.k (.int .i64 2))), (1, 1, (.loc 0))]), none, none⟩,
  ⟨(.store 4 (.var 1) (.loc 0)), none, none⟩]
def c28 : CFun := ⟨1, 2, (.seq (.region [] [] c28_0) (.seq (.region [] [] c28_1) .ret)), [.cell 1 true 4]⟩
theorem ok28 : CodeOk Try.prog T 28 c28 := ⟨⟨Try.f28, Hints.of [] [] [], [0, 2], Try.func28, by kernel_rfl, by kernel_rfl⟩⟩

/-! spinney/spinneyref03.Comp1 -/
def c29_0 : List CO := [⟨(.box (.k (.agg #[(.int .i64 0), (.string ⟨#[]⟩), (.int .i64 0), (.slice none 0 0)]))), (some 2), none⟩]
def c29_1 : List CO := [⟨(.mov (.var 0)), none, none⟩,
  ⟨(.mov (.var 1)), none, none⟩,
  ⟨(.build [(.int .i64 0), (.string ⟨#[]⟩), (.int .i64 0), (.slice none 0 0)] [(0, 1, (.k (.int .i64 4))), (1, 1, (.loc 1)), (3, 1, (.loc 0))]), none, none⟩,
  ⟨(.store 4 (.var 2) (.loc 0)), none, none⟩]
def c29 : CFun := ⟨2, 3, (.seq (.region [] [] c29_0) (.seq (.region [] [] c29_1) .ret)), [.cell 2 true 4]⟩
theorem ok29 : CodeOk Try.prog T 29 c29 := ⟨⟨Try.f29, Hints.of [] [] [], [0, 1, 4], Try.func29, by kernel_rfl, by kernel_rfl⟩⟩

/-! spinney/spinneyref03.Few -/
def c30_0 : List CO := [⟨(.box (.var 0)), (some 2), none⟩,
  ⟨(.mov (.k (.bool false))), (some 3), none⟩]
def c30_1 : List CO := [⟨(.load true 4 (.var 2)), none, none⟩,
  ⟨(.mov (.var 1)), none, none⟩,
  ⟨(.call true 46 [(.loc 1), (.loc 0)]), none, none⟩,
  ⟨(.bin .geq (.loc 0) (.k (.int .i64 0))), none, none⟩,
  ⟨(.mov (.loc 0)), (some 3), none⟩]
def c30 : CFun := ⟨2, 4, (.seq (.region [] [] c30_0) (.seq (.region [] [] c30_1) .ret)), [.var 3]⟩
theorem ok30 : CodeOk Try.prog T 30 c30 := ⟨⟨Try.f30, Hints.of [] [] [], [0, 1, 2, 4], Try.func30, by kernel_rfl, by kernel_rfl⟩⟩

/-! spinney/subst.Follow -/
def c31_0 : List CO := [⟨(.box (.var 1)), (some 3), none⟩,
  ⟨(.box (.k (.agg #[(.int .i64 0), (.string ⟨#[]⟩), (.int .i64 0), (.slice none 0 0)]))), (some 4), none⟩,
  ⟨(.mov (.k (.int .i64 0))), (some 5), none⟩]
def c31_1 : List CO := [⟨(.fa 0 (.var 3)), none, none⟩,
  ⟨(.load false 1 (.loc 0)), none, none⟩,
  ⟨(.bin .eql (.loc 0) (.k (.int .i64 1))), (some 8), none⟩]
def c31_2 : List CO := [⟨(.mov (.var 0)), none, none⟩,
  ⟨(.fa 2 (.var 3)), none, none⟩,
  ⟨(.load false 1 (.loc 0)), none, none⟩,
  ⟨(.call true 13 [(.loc 2), (.loc 0)]), none, none⟩,
  ⟨(.mov (.loc 0)), none, none⟩,
  ⟨(.extract (.loc 0) 0), none, none⟩,
  ⟨(.extract (.loc 1) 1), none, none⟩,
  ⟨(.box (.k (.agg #[(.int .i64 0), (.string ⟨#[]⟩), (.int .i64 0), (.slice none 0 0)]))), (some 6), none⟩,
  ⟨(.store 4 (.var 6) (.loc 2)), none, none⟩,
  ⟨(.mov (.loc 2)), (some 7), none⟩]
def c31_3 : List CO := [⟨(.mov (.var 7)), none, none⟩,
  ⟨(.un .not (.loc 0)), (some 9), none⟩]
def c31_4 : List CO := [⟨(.load true 4 (.var 3)), none, none⟩,
  ⟨(.store 4 (.var 4) (.loc 0)), none, none⟩,
  ⟨(.mov (.k (.int .i64 0))), (some 5), none⟩]
def c31_5 : List CO := [⟨(.mov (.var 2)), none, none⟩,
  ⟨(.nilchk (.loc 0)), none, none⟩,
  ⟨(.load false 1 (.loc 0)), none, none⟩,
  ⟨(.bin .eql (.loc 0) (.k (.int .i64 0))), (some 10), none⟩]
def c31_6 : List CO := [⟨(.build [(.int .i64 0), (.string ⟨#[]⟩), (.int .i64 0), (.slice none 0 0)] []), none, none⟩,
  ⟨(.store 4 (.var 4) (.loc 0)), none, none⟩,
  ⟨(.mov (.k (.int .i64 140))), (some 5), none⟩]
def c31_7 : List CO := [⟨(.mov (.var 2)), none, none⟩,
  ⟨(.nilchk (.loc 0)), none, none⟩,
  ⟨(.load false 1 (.loc 0)), none, none⟩,
  ⟨(.bin .sub (.loc 0) (.k (.int .i64 1))), none, none⟩,
  ⟨(.nilchk (.loc 3)), none, none⟩,
  ⟨(.store 1 (.loc 0) (.loc 1)), none, none⟩]
def c31_8 : List CO := [⟨(.load true 4 (.var 6)), none, none⟩,
  ⟨(.store 4 (.var 3) (.loc 0)), none, none⟩]
def c31_9 : CC := (.seq (.seq (.region [] [] c31_1) (.cond (.var 8) .skip (.exit 0))) (.block 1 (.seq (.region [] [] c31_2) (.seq (.seq (.region [] [] c31_3) (.cond (.var 9) (.seq (.region [] [] c31_4) .ret) .skip)) (.seq (.seq (.region [] [] c31_5) (.cond (.var 10) (.seq (.region [] [] c31_6) .ret) .skip)) (.seq (.region [] [] c31_7) (.region [] [] c31_8)))))))
def c31_10 : List CO := [⟨(.load true 4 (.var 3)), none, none⟩,
  ⟨(.store 4 (.var 4) (.loc 0)), none, none⟩,
  ⟨(.mov (.k (.int .i64 0))), (some 5), none⟩]
def c31 : CFun := ⟨3, 11, (.seq (.region [] [] c31_0) (.seq (.block 0 (.loop [true, false, true, true, true, false, false, false, false, false, false] [] c31_9)) (.seq (.region [] [] c31_10) .ret))), [.cell 4 true 4, .var 5]⟩
theorem ok31 : CodeOk Try.prog T 31 c31 := ⟨⟨Try.f31, Hints.of [] [] [(0, [true, false, true, true, true, false, false, false, false, false, false], [])], [0, 1, 2, 4, 6, 7, 8, 9, 12, 21, 26], Try.func31, by kernel_rfl, by kernel_rfl⟩⟩

/-! (*spinney/spinneyref09.Meter).Walk -/
def c32_0 : List CO := [⟨(.box (.var 2)), (some 3), none⟩,
  ⟨(.box (.k (.agg #[(.int .i64 0), (.string ⟨#[]⟩), (.int .i64 0), (.slice none 0 0)]))), (some 4), none⟩,
  ⟨(.mov (.k (.int .i64 0))), (some 5), none⟩]
def c32_1 : List CO := [⟨(.fa 0 (.var 3)), none, none⟩,
  ⟨(.load false 1 (.loc 0)), none, none⟩,
  ⟨(.bin .eql (.loc 0) (.k (.int .i64 1))), (some 8), none⟩]
def c32_2 : List CO := [⟨(.mov (.var 1)), none, none⟩,
  ⟨(.fa 2 (.var 3)), none, none⟩,
  ⟨(.load false 1 (.loc 0)), none, none⟩,
  ⟨(.call true 14 [(.loc 2), (.loc 0)]), none, none⟩,
  ⟨(.mov (.loc 0)), none, none⟩,
  ⟨(.extract (.loc 0) 0), none, none⟩,
  ⟨(.extract (.loc 1) 1), none, none⟩,
  ⟨(.box (.k (.agg #[(.int .i64 0), (.string ⟨#[]⟩), (.int .i64 0), (.slice none 0 0)]))), (some 6), none⟩,
  ⟨(.store 4 (.var 6) (.loc 2)), none, none⟩,
  ⟨(.mov (.loc 2)), (some 7), none⟩]
def c32_3 : List CO := [⟨(.mov (.var 7)), none, none⟩,
  ⟨(.un .not (.loc 0)), (some 9), none⟩]
def c32_4 : List CO := [⟨(.mov (.var 0)), none, none⟩,
  ⟨(.call false 47 [(.loc 0)]), none, none⟩,
  ⟨(.un .not (.loc 0)), (some 10), none⟩]
def c32_5 : List CO := [⟨(.build [(.int .i64 0), (.string ⟨#[]⟩), (.int .i64 0), (.slice none 0 0)] []), none, none⟩,
  ⟨(.store 4 (.var 4) (.loc 0)), none, none⟩,
  ⟨(.mov (.k (.int .i64 140))), (some 5), none⟩]
def c32_6 : List CO := [⟨(.load true 4 (.var 6)), none, none⟩,
  ⟨(.store 4 (.var 3) (.loc 0)), none, none⟩]
def c32_7 : CC := (.seq (.seq (.region [] [] c32_1) (.cond (.var 8) .skip (.exit 0))) (.block 1 (.seq (.region [] [] c32_2) (.seq (.seq (.region [] [] c32_3) (.cond (.var 9) (.exit 0) .skip)) (.seq (.seq (.region [] [] c32_4) (.cond (.var 10) (.seq (.region [] [] c32_5) .ret) .skip)) (.region [] [] c32_6))))))
def c32_8 : List CO := [⟨(.load true 4 (.var 3)), none, none⟩,
  ⟨(.store 4 (.var 4) (.loc 0)), none, none⟩,
  ⟨(.mov (.k (.int .i64 0))), (some 5), none⟩]
def c32 : CFun := ⟨3, 11, (.seq (.region [] [] c32_0) (.seq (.block 0 (.loop [true, true, false, true, true, false, false, false, false, false, false] [] c32_7)) (.seq (.region [] [] c32_8) .ret))), [.cell 4 true 4, .var 5]⟩
theorem ok32 : CodeOk Try.prog T 32 c32 := ⟨⟨Try.f32, Hints.of [] [] [(0, [true, true, false, true, true, false, false, false, false, false, false], [])], [0, 1, 2, 5, 6, 7, 8, 9, 12, 21, 24], Try.func32, by kernel_rfl, by kernel_rfl⟩⟩

/-! spinney/term.Shift -/
def c34_0 : List CO := [⟨(.box (.var 0)), (some 2), none⟩,
  ⟨(.box (.var 1)), (some 3), none⟩,
  ⟨(.box (.k (.agg #[(.int .i64 0), (.string ⟨#[]⟩), (.int .i64 0), (.slice none 0 0)]))), (some 4), none⟩]
def c34_1 : List CO := [⟨(.load true 4 (.var 2)), none, none⟩,
  ⟨(.mkfn (.func 50) [] [(.var 3)]), none, none⟩,
  ⟨(.call false 49 [(.loc 1), (.loc 0)]), none, none⟩,
  ⟨(.store 4 (.var 4) (.loc 0)), none, none⟩]
def c34 : CFun := ⟨2, 5, (.seq (.region [] [] c34_0) (.seq (.region [] [] c34_1) .ret)), [.cell 4 true 4]⟩
theorem ok34 : CodeOk Try.prog T 34 c34 := ⟨⟨Try.f34, Hints.of [] [] [], [0, 1, 2, 3, 4], Try.func34, by kernel_rfl, by kernel_rfl⟩⟩

/-! spinney/spinneyref03.Shift -/
def c35_0 : List CO := [⟨(.box (.var 0)), (some 2), none⟩,
  ⟨(.box (.k (.agg #[(.int .i64 0), (.string ⟨#[]⟩), (.int .i64 0), (.slice none 0 0)]))), (some 3), none⟩]
def c35_1 : List CO := [⟨(.fa 0 (.var 2)), none, none⟩,
  ⟨(.load false 1 (.loc 0)), none, none⟩,
  ⟨(.bin .eql (.loc 0) (.k (.int .i64 1))), (some 6), none⟩]
def c35_2 : List CO := [⟨(.fa 2 (.var 2)), none, none⟩,
  ⟨(.load false 1 (.loc 0)), none, none⟩,
  ⟨(.mov (.var 1)), none, none⟩,
  ⟨(.bin .add (.loc 1) (.loc 0)), none, none⟩,
  ⟨(.fa 2 (.var 2)), none, none⟩,
  ⟨(.store 1 (.loc 0) (.loc 1)), none, none⟩]
def c35_3 : List CO := [⟨(.mov (.k (.slice none 0 0))), (some 4), none⟩]
def c35_4 : List CO := [⟨(.fa 3 (.var 2)), none, none⟩,
  ⟨(.load false 1 (.loc 0)), (some 7), none⟩,
  ⟨(.len .slice (.var 7)), (some 8), none⟩,
  ⟨(.mov (.k (.int .i64 0))), (some 9), none⟩]
def c35_5 : List CO := [⟨(.bin .lss (.var 9) (.var 8)), (some 10), none⟩]
def c35_6 : List CO := [⟨(.ia 4 (.var 7) (.var 9)), none, none⟩,
  ⟨(.load true 4 (.loc 0)), none, none⟩,
  ⟨(.box (.k (.agg #[(.int .i64 0), (.string ⟨#[]⟩), (.int .i64 0), (.slice none 0 0)]))), (some 5), none⟩,
  ⟨(.store 4 (.var 5) (.loc 1)), none, none⟩]
def c35_7 : List CO := [⟨(.mov (.var 4)), none, none⟩,
  ⟨(.load true 4 (.var 5)), none, none⟩,
  ⟨(.mov (.var 1)), none, none⟩,
  ⟨(.call true 35 [(.loc 1), (.loc 0)]), none, none⟩,
  ⟨(.bslice 4 [(.int .i64 0), (.string ⟨#[]⟩), (.int .i64 0), (.slice none 0 0)] 1 [(0, (.loc 0))]), none, none⟩,
  ⟨(.append 4 56 (.loc 4) (.loc 0)), none, none⟩,
  ⟨(.mov (.loc 0)), (some 4), none⟩]
def c35_8 : List CO := [⟨(.bin .add (.var 9) (.k (.int .i64 1))), none, none⟩,
  ⟨(.mov (.loc 0)), (some 9), none⟩]
def c35_9 : CC := (.seq (.region [] [] c35_5) (.seq (.cond (.var 10) .skip (.exit 0)) (.seq (.block 1 (.seq (.region [] [] c35_6) (.region [] [] c35_7))) (.region [] [] c35_8))))
def c35_10 : List CO := [⟨(.mov (.var 4)), none, none⟩,
  ⟨(.fa 3 (.var 2)), none, none⟩,
  ⟨(.store 1 (.loc 0) (.loc 1)), none, none⟩]
def c35_11 : List CO := [⟨(.load true 4 (.var 2)), none, none⟩,
  ⟨(.store 4 (.var 3) (.loc 0)), none, none⟩]
def c35 : CFun := ⟨2, 11, (.seq (.region [] [] c35_0) (.seq (.seq (.region [] [] c35_1) (.cond (.var 6) (.region [] [] c35_2) .skip)) (.seq (.region [] [] c35_3) (.seq (.seq (.region [] [] c35_4) (.block 0 (.loop [false, true, true, true, true, false, false, true, true, true, false] [] c35_9))) (.seq (.region [] [] c35_10) (.seq (.region [] [] c35_11) .ret)))))), [.cell 3 true 4]⟩
theorem ok35 : CodeOk Try.prog T 35 c35 := ⟨⟨Try.f35, Hints.of [] [] [(0, [false, true, true, true, true, false, false, true, true, true, false], [])], [0, 1, 2, 4, 5, 7, 10, 17, 18, 19, 20], Try.func35, by kernel_rfl, by kernel_rfl⟩⟩

/-! (*spinney/subst.resolver).term -/
def c36_0 : List CO := [⟨(.box (.var 1)), (some 2), none⟩,
  ⟨(.box (.k (.agg #[(.int .i64 0), (.string ⟨#[]⟩), (.int .i64 0), (.slice none 0 0)]))), (some 3), none⟩,
  ⟨(.mov (.k (.int .i64 0))), (some 4), none⟩]
def c36_1 : List CO := [⟨(.mov (.var 0)), none, none⟩,
  ⟨(.nilchk (.loc 0)), none, none⟩,
  ⟨(.fa 0 (.loc 0)), none, none⟩,
  ⟨(.load false 1 (.loc 0)), none, none⟩,
  ⟨(.load true 4 (.var 2)), none, none⟩,
  ⟨(.mov (.var 0)), none, none⟩,
  ⟨(.nilchk (.loc 0)), none, none⟩,
  ⟨(.fa 1 (.loc 0)), none, none⟩,
  ⟨(.call false 51 [(.loc 4), (.loc 3), (.loc 0)]), none, none⟩,
  ⟨(.mov (.loc 0)), none, none⟩,
  ⟨(.extract (.loc 0) 0), none, none⟩,
  ⟨(.extract (.loc 1) 1), none, none⟩,
  ⟨(.store 4 (.var 2) (.loc 1)), none, none⟩,
  ⟨(.mov (.loc 1)), (some 5), none⟩]
def c36_2 : List CO := [⟨(.mov (.var 5)), none, none⟩,
  ⟨(.bin .neq (.loc 0) (.k (.int .i64 0))), none, none⟩,
  ⟨(.mov (.loc 0)), (some 11), none⟩]
def c36_3 : List CO := [⟨(.load true 4 (.var 2)), none, none⟩,
  ⟨(.mov (.var 5)), none, none⟩,
  ⟨(.store 4 (.var 3) (.loc 1)), none, none⟩,
  ⟨(.mov (.loc 1)), (some 4), none⟩]
def c36_4 : List CO := [⟨(.mov (.var 0)), none, none⟩,
  ⟨(.nilchk (.loc 0)), none, none⟩,
  ⟨(.fa 2 (.loc 0)), none, none⟩,
  ⟨(.load false 1 (.loc 0)), none, none⟩,
  ⟨(.bin .eql (.loc 0) (.k (.int .i64 60))), none, none⟩,
  ⟨(.mov (.loc 0)), (some 12), none⟩]
def c36_5 : List CO := [⟨(.build [(.int .i64 0), (.string ⟨#[]⟩), (.int .i64 0), (.slice none 0 0)] []), none, none⟩,
  ⟨(.store 4 (.var 3) (.loc 0)), none, none⟩,
  ⟨(.mov (.k (.int .i64 3))), (some 4), none⟩]
def c36_6 : List CO := [⟨(.mov (.var 0)), none, none⟩,
  ⟨(.nilchk (.loc 0)), none, none⟩,
  ⟨(.fa 2 (.loc 0)), none, none⟩,
  ⟨(.load false 1 (.loc 0)), none, none⟩,
  ⟨(.bin .add (.loc 0) (.k (.int .i64 1))), none, none⟩,
  ⟨(.nilchk (.loc 4)), none, none⟩,
  ⟨(.fa 2 (.loc 0)), none, none⟩,
  ⟨(.store 1 (.loc 0) (.loc 2)), none, none⟩]
def c36_7 : List CO := [⟨(.fa 3 (.var 2)), none, none⟩,
  ⟨(.load false 1 (.loc 0)), none, none⟩,
  ⟨(.len .slice (.loc 0)), none, none⟩,
  ⟨(.mkslice 4 56 [(.int .i64 0), (.string ⟨#[]⟩), (.int .i64 0), (.slice none 0 0)] (.loc 0) (.loc 0)), none, none⟩,
  ⟨(.mov (.loc 0)), (some 6), none⟩]
def c36_8 : List CO := [⟨(.fa 3 (.var 2)), none, none⟩,
  ⟨(.load false 1 (.loc 0)), (some 13), none⟩,
  ⟨(.len .slice (.var 13)), (some 14), none⟩,
  ⟨(.mov (.k (.int .i64 0))), (some 15), none⟩]
def c36_9 : List CO := [⟨(.bin .lss (.var 15) (.var 14)), (some 16), none⟩]
def c36_10 : List CO := [⟨(.mov (.var 15)), none, none⟩,
  ⟨(.ia 4 (.var 13) (.var 15)), none, none⟩,
  ⟨(.load true 4 (.loc 0)), none, none⟩,
  ⟨(.box (.k (.agg #[(.int .i64 0), (.string ⟨#[]⟩), (.int .i64 0), (.slice none 0 0)]))), (some 8), none⟩,
  ⟨(.mov (.loc 3)), (some 7), none⟩,
  ⟨(.store 4 (.var 8) (.loc 2)), none, none⟩]
def c36_11 : List CO := [⟨(.mov (.var 0)), none, none⟩,
  ⟨(.load true 4 (.var 8)), none, none⟩,
  ⟨(.call false 36 [(.loc 1), (.loc 0)]), none, none⟩,
  ⟨(.mov (.loc 0)), none, none⟩,
  ⟨(.extract (.loc 0) 0), none, none⟩,
  ⟨(.extract (.loc 1) 1), none, none⟩,
  ⟨(.box (.k (.agg #[(.int .i64 0), (.string ⟨#[]⟩), (.int .i64 0), (.slice none 0 0)]))), (some 9), none⟩,
  ⟨(.store 4 (.var 9) (.loc 2)), none, none⟩,
  ⟨(.mov (.loc 2)), (some 10), none⟩]
def c36_12 : List CO := [⟨(.mov (.var 10)), none, none⟩,
  ⟨(.bin .neq (.loc 0) (.k (.int .i64 0))), (some 17), none⟩]
def c36_13 : List CO := [⟨(.build [(.int .i64 0), (.string ⟨#[]⟩), (.int .i64 0), (.slice none 0 0)] []), none, none⟩,
  ⟨(.mov (.var 10)), none, none⟩,
  ⟨(.store 4 (.var 3) (.loc 1)), none, none⟩,
  ⟨(.mov (.loc 1)), (some 4), none⟩]
def c36_14 : List CO := [⟨(.mov (.var 6)), none, none⟩,
  ⟨(.mov (.var 7)), none, none⟩,
  ⟨(.load true 4 (.var 9)), none, none⟩,
  ⟨(.ia 4 (.loc 2) (.loc 1)), none, none⟩,
  ⟨(.store 4 (.loc 0) (.loc 1)), none, none⟩]
def c36_15 : List CO := [⟨(.bin .add (.var 15) (.k (.int .i64 1))), none, none⟩,
  ⟨(.mov (.loc 0)), (some 15), none⟩]
def c36_16 : CC := (.seq (.region [] [] c36_9) (.seq (.cond (.var 16) .skip (.exit 1)) (.seq (.block 2 (.seq (.region [] [] c36_10) (.seq (.region [] [] c36_11) (.seq (.seq (.region [] [] c36_12) (.cond (.var 17) (.seq (.region [] [] c36_13) .ret) .skip)) (.region [] [] c36_14))))) (.region [] [] c36_15))))
def c36_17 : List CO := [⟨(.mov (.var 0)), none, none⟩,
  ⟨(.nilchk (.loc 0)), none, none⟩,
  ⟨(.fa 2 (.loc 0)), none, none⟩,
  ⟨(.load false 1 (.loc 0)), none, none⟩,
  ⟨(.bin .sub (.loc 0) (.k (.int .i64 1))), none, none⟩,
  ⟨(.nilchk (.loc 4)), none, none⟩,
  ⟨(.fa 2 (.loc 0)), none, none⟩,
  ⟨(.store 1 (.loc 0) (.loc 2)), none, none⟩]
def c36_18 : List CO := [⟨(.mov (.var 6)), none, none⟩,
  ⟨(.fa 3 (.var 2)), none, none⟩,
  ⟨(.store 1 (.loc 0) (.loc 1)), none, none⟩]
def c36_19 : List CO := [⟨(.load true 4 (.var 2)), none, none⟩,
  ⟨(.store 4 (.var 3) (.loc 0)), none, none⟩,
  ⟨(.mov (.k (.int .i64 0))), (some 4), none⟩]
def c36 : CFun := ⟨2, 18, (.seq (.region [] [] c36_0) (.seq (.region [] [] c36_1) (.seq (.block 0 (.seq (.region [] [] c36_2) (.cond (.var 11) (.seq (.region [] [] c36_3) .ret) (.seq (.region [] [] c36_4) (.cond (.var 12) (.seq (.region [] [] c36_5) .ret) .skip))))) (.seq (.region [] [] c36_6) (.seq (.region [] [] c36_7) (.seq (.seq (.region [] [] c36_8) (.block 1 (.loop [true, false, true, true, false, false, true, false, false, false, false, false, false, true, true, true, false, false] [] c36_16))) (.seq (.region [] [] c36_17) (.seq (.region [] [] c36_18) (.seq (.region [] [] c36_19) .ret))))))))), [.cell 3 true 4, .var 4]⟩
theorem ok36 : CodeOk Try.prog T 36 c36 := ⟨⟨Try.f36, Hints.of [] [] [(1, [true, false, true, true, false, false, true, false, false, false, false, false, false, true, true, true, false, false], [])], [0, 1, 3, 4, 5, 6, 7, 8, 9, 10, 11, 24, 29, 48, 49, 50, 51, 62], Try.func36, by kernel_rfl, by kernel_rfl⟩⟩

/-! spinney/spinneyref03.places -/
def c37_0 : List CO := [⟨(.box (.var 0)), (some 1), none⟩,
  ⟨(.mov (.k (.slice none 0 0))), (some 2), none⟩]
def c37_1 : List CO := [⟨(.mov (.k (.slice none 0 0))), (some 3), none⟩]
def c37_2 : List CO := [⟨(.fa 0 (.var 1)), none, none⟩,
  ⟨(.load false 1 (.loc 0)), none, none⟩,
  ⟨(.bin .eql (.loc 0) (.k (.int .i64 1))), (some 5), none⟩]
def c37_3 : List CO := [⟨(.mov (.var 3)), none, none⟩,
  ⟨(.fa 2 (.var 1)), none, none⟩,
  ⟨(.load false 1 (.loc 0)), none, none⟩,
  ⟨(.bslice 1 [(.int .i64 0)] 1 [(0, (.loc 0))]), none, none⟩,
  ⟨(.append 1 8 (.loc 3) (.loc 0)), none, none⟩,
  ⟨(.mov (.loc 0)), (some 3), none⟩]
def c37_4 : List CO := [⟨(.fa 3 (.var 1)), none, none⟩,
  ⟨(.load false 1 (.loc 0)), (some 6), none⟩,
  ⟨(.len .slice (.var 6)), (some 7), none⟩,
  ⟨(.mov (.k (.int .i64 0))), (some 8), none⟩]
def c37_5 : List CO := [⟨(.bin .lss (.var 8) (.var 7)), (some 9), none⟩]
def c37_6 : List CO := [⟨(.ia 4 (.var 6) (.var 8)), none, none⟩,
  ⟨(.load true 4 (.loc 0)), none, none⟩,
  ⟨(.box (.k (.agg #[(.int .i64 0), (.string ⟨#[]⟩), (.int .i64 0), (.slice none 0 0)]))), (some 4), none⟩,
  ⟨(.store 4 (.var 4) (.loc 1)), none, none⟩]
def c37_7 : List CO := [⟨(.mov (.var 3)), none, none⟩,
  ⟨(.load true 4 (.var 4)), none, none⟩,
  ⟨(.call true 37 [(.loc 0)]), none, none⟩,
  ⟨(.append 1 8 (.loc 2) (.loc 0)), none, none⟩,
  ⟨(.mov (.loc 0)), (some 3), none⟩]
def c37_8 : List CO := [⟨(.bin .add (.var 8) (.k (.int .i64 1))), none, none⟩,
  ⟨(.mov (.loc 0)), (some 8), none⟩]
def c37_9 : CC := (.seq (.region [] [] c37_5) (.seq (.cond (.var 9) .skip (.exit 0)) (.seq (.block 1 (.seq (.region [] [] c37_6) (.region [] [] c37_7))) (.region [] [] c37_8))))
def c37_10 : List CO := [⟨(.mov (.var 3)), none, none⟩,
  ⟨(.mov (.loc 0)), (some 2), none⟩]
def c37 : CFun := ⟨1, 10, (.seq (.region [] [] c37_0) (.seq (.region [] [] c37_1) (.seq (.seq (.region [] [] c37_2) (.cond (.var 5) (.region [] [] c37_3) .skip)) (.seq (.seq (.region [] [] c37_4) (.block 0 (.loop [false, false, false, true, false, false, true, true, true, false] [] c37_9))) (.seq (.region [] [] c37_10) .ret))))), [.var 2]⟩
theorem ok37 : CodeOk Try.prog T 37 c37 := ⟨⟨Try.f37, Hints.of [] [] [(0, [false, false, false, true, false, false, true, true, true, false], [])], [0, 1, 2, 3, 5, 8, 15, 16, 17, 18], Try.func37, by kernel_rfl, by kernel_rfl⟩⟩

/-! spinney/spinneyref03.Has -/
def c38_0 : List CO := [⟨(.mov (.k (.bool false))), (some 2), none⟩]
def c38_1 : List CO := [⟨(.mov (.var 0)), (some 4), none⟩,
  ⟨(.len .slice (.var 4)), (some 5), none⟩,
  ⟨(.mov (.k (.int .i64 0))), (some 6), none⟩]
def c38_2 : List CO := [⟨(.bin .lss (.var 6) (.var 5)), (some 7), none⟩]
def c38_3 : List CO := [⟨(.ia 1 (.var 4) (.var 6)), none, none⟩,
  ⟨(.load false 1 (.loc 0)), none, none⟩,
  ⟨(.mov (.loc 0)), (some 3), none⟩]
def c38_4 : List CO := [⟨(.mov (.var 3)), none, none⟩,
  ⟨(.mov (.var 1)), none, none⟩,
  ⟨(.bin .eql (.loc 1) (.loc 0)), (some 8), none⟩]
def c38_5 : List CO := [⟨(.mov (.k (.bool true))), (some 2), none⟩]
def c38_6 : List CO := [⟨(.bin .add (.var 6) (.k (.int .i64 1))), none, none⟩,
  ⟨(.mov (.loc 0)), (some 6), none⟩]
def c38_7 : CC := (.seq (.region [] [] c38_2) (.seq (.cond (.var 7) .skip (.exit 0)) (.seq (.block 1 (.seq (.region [] [] c38_3) (.seq (.region [] [] c38_4) (.cond (.var 8) (.seq (.region [] [] c38_5) .ret) .skip)))) (.region [] [] c38_6))))
def c38_8 : List CO := [⟨(.mov (.k (.bool false))), (some 2), none⟩]
def c38 : CFun := ⟨2, 9, (.seq (.region [] [] c38_0) (.seq (.seq (.region [] [] c38_1) (.block 0 (.loop [false, true, false, false, true, true, true, false, false] [] c38_7))) (.seq (.region [] [] c38_8) .ret))), [.var 2]⟩
theorem ok38 : CodeOk Try.prog T 38 c38 := ⟨⟨Try.f38, Hints.of [] [] [(0, [false, true, false, false, true, true, true, false, false], [])], [0, 1, 4, 6, 7, 8, 9, 10, 15], Try.func38, by kernel_rfl, by kernel_rfl⟩⟩

/-! spinney/spinneyref03.left -/
def c46_0 : List CO := [⟨(.box (.var 0)), (some 2), none⟩,
  ⟨(.mov (.k (.int .i64 0))), (some 3), none⟩]
def c46_1 : List CO := [⟨(.mov (.var 1)), none, none⟩,
  ⟨(.bin .sub (.loc 0) (.k (.int .i64 1))), none, none⟩,
  ⟨(.mov (.loc 0)), (some 1), none⟩]
def c46_2 : List CO := [⟨(.fa 3 (.var 2)), none, none⟩,
  ⟨(.load false 1 (.loc 0)), (some 5), none⟩,
  ⟨(.len .slice (.var 5)), (some 6), none⟩,
  ⟨(.mov (.k (.int .i64 0))), (some 7), none⟩]
def c46_3 : List CO := [⟨(.bin .lss (.var 7) (.var 6)), (some 8), none⟩]
def c46_4 : List CO := [⟨(.ia 4 (.var 5) (.var 7)), none, none⟩,
  ⟨(.load true 4 (.loc 0)), none, none⟩,
  ⟨(.box (.k (.agg #[(.int .i64 0), (.string ⟨#[]⟩), (.int .i64 0), (.slice none 0 0)]))), (some 4), none⟩,
  ⟨(.store 4 (.var 4) (.loc 1)), none, none⟩]
def c46_5 : List CO := [⟨(.mov (.var 1)), none, none⟩,
  ⟨(.bin .lss (.loc 0) (.k (.int .i64 0))), (some 9), none⟩]
def c46_6 : List CO := [⟨(.mov (.var 1)), none, none⟩,
  ⟨(.mov (.loc 0)), (some 3), none⟩]
def c46_7 : List CO := [⟨(.load true 4 (.var 4)), none, none⟩,
  ⟨(.mov (.var 1)), none, none⟩,
  ⟨(.call true 46 [(.loc 1), (.loc 0)]), none, none⟩,
  ⟨(.mov (.loc 0)), (some 1), none⟩]
def c46_8 : List CO := [⟨(.bin .add (.var 7) (.k (.int .i64 1))), none, none⟩,
  ⟨(.mov (.loc 0)), (some 7), none⟩]
def c46_9 : CC := (.seq (.region [] [] c46_3) (.seq (.cond (.var 8) .skip (.exit 0)) (.seq (.block 1 (.seq (.region [] [] c46_4) (.seq (.seq (.region [] [] c46_5) (.cond (.var 9) (.seq (.region [] [] c46_6) .ret) .skip)) (.region [] [] c46_7)))) (.region [] [] c46_8))))
def c46_10 : List CO := [⟨(.mov (.var 1)), none, none⟩,
  ⟨(.mov (.loc 0)), (some 3), none⟩]
def c46 : CFun := ⟨2, 10, (.seq (.region [] [] c46_0) (.seq (.region [] [] c46_1) (.seq (.seq (.region [] [] c46_2) (.block 0 (.loop [false, true, false, false, false, true, true, true, false, false] [] c46_9))) (.seq (.region [] [] c46_10) .ret)))), [.var 3]⟩
theorem ok46 : CodeOk Try.prog T 46 c46 := ⟨⟨Try.f46, Hints.of [] [] [(0, [false, true, false, false, false, true, true, true, false, false], [])], [0, 1, 2, 4, 6, 10, 11, 12, 13, 17], Try.func46, by kernel_rfl, by kernel_rfl⟩⟩

/-! (*spinney/spinneyref09.Meter).spend -/
def c47_0 : List CO := [⟨(.mov (.k (.bool false))), (some 1), none⟩]
def c47_1 : List CO := [⟨(.mov (.var 0)), none, none⟩,
  ⟨(.nilchk (.loc 0)), none, none⟩,
  ⟨(.fa 0 (.loc 0)), none, none⟩,
  ⟨(.load false 1 (.loc 0)), none, none⟩,
  ⟨(.bin .add (.loc 0) (.k (.int .i64 1))), none, none⟩,
  ⟨(.nilchk (.loc 4)), none, none⟩,
  ⟨(.fa 0 (.loc 0)), none, none⟩,
  ⟨(.store 1 (.loc 0) (.loc 2)), none, none⟩]
def c47_2 : List CO := [⟨(.mov (.var 0)), none, none⟩,
  ⟨(.nilchk (.loc 0)), none, none⟩,
  ⟨(.fa 0 (.loc 0)), none, none⟩,
  ⟨(.load false 1 (.loc 0)), none, none⟩,
  ⟨(.bin .leq (.loc 0) (.k (.int .i64 2000))), none, none⟩,
  ⟨(.mov (.loc 0)), (some 1), none⟩]
def c47 : CFun := ⟨1, 2, (.seq (.region [] [] c47_0) (.seq (.region [] [] c47_1) (.seq (.region [] [] c47_2) .ret))), [.var 1]⟩
theorem ok47 : CodeOk Try.prog T 47 c47 := ⟨⟨Try.f47, Hints.of [] [] [], [0, 2], Try.func47, by kernel_rfl, by kernel_rfl⟩⟩

/-! spinney/term.each -/
def c49_0 : List CO := [⟨(.box (.var 0)), (some 2), none⟩,
  ⟨(.box (.k (.agg #[(.int .i64 0), (.string ⟨#[]⟩), (.int .i64 0), (.slice none 0 0)]))), (some 3), none⟩]
def c49_1 : List CO := [⟨(.fa 0 (.var 2)), none, none⟩,
  ⟨(.load false 1 (.loc 0)), none, none⟩,
  ⟨(.bin .eql (.loc 0) (.k (.int .i64 1))), (some 7), none⟩]
def c49_2 : List CO := [⟨(.mov (.var 1)), none, none⟩,
  ⟨(.fa 2 (.var 2)), none, none⟩,
  ⟨(.load false 1 (.loc 0)), none, none⟩,
  ⟨(.callv (.loc 2) [(.loc 0)]), none, none⟩,
  ⟨(.fa 2 (.var 2)), none, none⟩,
  ⟨(.store 1 (.loc 0) (.loc 1)), none, none⟩]
def c49_3 : List CO := [⟨(.fa 3 (.var 2)), none, none⟩,
  ⟨(.load false 1 (.loc 0)), none, none⟩,
  ⟨(.len .slice (.loc 0)), none, none⟩,
  ⟨(.bin .eql (.loc 0) (.k (.int .i64 0))), (some 8), none⟩]
def c49_4 : List CO := [⟨(.fa 3 (.var 2)), none, none⟩,
  ⟨(.store 1 (.loc 0) (.k (.slice none 0 0))), none, none⟩]
def c49_5 : List CO := [⟨(.load true 4 (.var 2)), none, none⟩,
  ⟨(.store 4 (.var 3) (.loc 0)), none, none⟩]
def c49_6 : List CO := [⟨(.fa 3 (.var 2)), none, none⟩,
  ⟨(.load false 1 (.loc 0)), none, none⟩,
  ⟨(.len .slice (.loc 0)), none, none⟩,
  ⟨(.mkslice 4 56 [(.int .i64 0), (.string ⟨#[]⟩), (.int .i64 0), (.slice none 0 0)] (.loc 0) (.loc 0)), none, none⟩,
  ⟨(.mov (.loc 0)), (some 4), none⟩]
def c49_7 : List CO := [⟨(.fa 3 (.var 2)), none, none⟩,
  ⟨(.load false 1 (.loc 0)), (some 9), none⟩,
  ⟨(.len .slice (.var 9)), (some 10), none⟩,
  ⟨(.mov (.k (.int .i64 0))), (some 11), none⟩]
def c49_8 : List CO := [⟨(.bin .lss (.var 11) (.var 10)), (some 12), none⟩]
def c49_9 : List CO := [⟨(.mov (.var 11)), none, none⟩,
  ⟨(.ia 4 (.var 9) (.var 11)), none, none⟩,
  ⟨(.load true 4 (.loc 0)), none, none⟩,
  ⟨(.box (.k (.agg #[(.int .i64 0), (.string ⟨#[]⟩), (.int .i64 0), (.slice none 0 0)]))), (some 6), none⟩,
  ⟨(.mov (.loc 3)), (some 5), none⟩,
  ⟨(.store 4 (.var 6) (.loc 2)), none, none⟩]
def c49_10 : List CO := [⟨(.mov (.var 4)), none, none⟩,
  ⟨(.mov (.var 5)), none, none⟩,
  ⟨(.load true 4 (.var 6)), none, none⟩,
  ⟨(.mov (.var 1)), none, none⟩,
  ⟨(.call false 49 [(.loc 1), (.loc 0)]), none, none⟩,
  ⟨(.ia 4 (.loc 4) (.loc 3)), none, none⟩,
  ⟨(.store 4 (.loc 0) (.loc 1)), none, none⟩]
def c49_11 : List CO := [⟨(.bin .add (.var 11) (.k (.int .i64 1))), none, none⟩,
  ⟨(.mov (.loc 0)), (some 11), none⟩]
def c49_12 : CC := (.seq (.region [] [] c49_8) (.seq (.cond (.var 12) .skip (.exit 0)) (.seq (.block 1 (.seq (.region [] [] c49_9) (.region [] [] c49_10))) (.region [] [] c49_11))))
def c49_13 : List CO := [⟨(.mov (.var 4)), none, none⟩,
  ⟨(.fa 3 (.var 2)), none, none⟩,
  ⟨(.store 1 (.loc 0) (.loc 1)), none, none⟩]
def c49_14 : List CO := [⟨(.load true 4 (.var 2)), none, none⟩,
  ⟨(.store 4 (.var 3) (.loc 0)), none, none⟩]
def c49 : CFun := ⟨2, 13, (.seq (.region [] [] c49_0) (.seq (.seq (.region [] [] c49_1) (.cond (.var 7) (.region [] [] c49_2) .skip)) (.seq (.seq (.region [] [] c49_3) (.cond (.var 8) (.seq (.region [] [] c49_4) (.seq (.region [] [] c49_5) .ret)) .skip)) (.seq (.region [] [] c49_6) (.seq (.seq (.region [] [] c49_7) (.block 0 (.loop [false, true, true, true, true, false, false, false, false, true, true, true, false] [] c49_12))) (.seq (.region [] [] c49_13) (.seq (.region [] [] c49_14) .ret))))))), [.cell 3 true 4]⟩
theorem ok49 : CodeOk Try.prog T 49 c49 := ⟨⟨Try.f49, Hints.of [] [] [(0, [false, true, true, true, true, false, false, false, false, true, true, true, false], [])], [0, 1, 2, 4, 5, 6, 7, 10, 19, 27, 28, 29, 30], Try.func49, by kernel_rfl, by kernel_rfl⟩⟩

/-! spinney/term.Shift$1 -/
def c50_0 : List CO := [⟨(.mov (.k (.int .i64 0))), (some 2), none⟩]
def c50_1 : List CO := [⟨(.mov (.var 0)), none, none⟩,
  ⟨(.load false 1 (.var 1)), none, none⟩,
  ⟨(.bin .add (.loc 1) (.loc 0)), none, none⟩,
  ⟨(.mov (.loc 0)), (some 2), none⟩]
def c50 : CFun := ⟨2, 3, (.seq (.region [] [] c50_0) (.seq (.region [] [] c50_1) .ret)), [.var 2]⟩
theorem ok50 : CodeOk Try.prog T 50 c50 := ⟨⟨Try.f50, Hints.of [] [] [], [0, 1, 3], Try.func50, by kernel_rfl, by kernel_rfl⟩⟩

/-! spinney/subst.Meet -/
def c51_0 : List CO := [⟨(.box (.var 1)), (some 3), none⟩,
  ⟨(.box (.k (.agg #[(.int .i64 0), (.string ⟨#[]⟩), (.int .i64 0), (.slice none 0 0)]))), (some 4), none⟩,
  ⟨(.mov (.k (.int .i64 0))), (some 5), none⟩]
def c51_1 : List CO := [⟨(.mov (.var 2)), none, none⟩,
  ⟨(.nilchk (.loc 0)), none, none⟩,
  ⟨(.load false 1 (.loc 0)), none, none⟩,
  ⟨(.bin .eql (.loc 0) (.k (.int .i64 0))), (some 6), none⟩]
def c51_2 : List CO := [⟨(.build [(.int .i64 0), (.string ⟨#[]⟩), (.int .i64 0), (.slice none 0 0)] []), none, none⟩,
  ⟨(.store 4 (.var 4) (.loc 0)), none, none⟩,
  ⟨(.mov (.k (.int .i64 140))), (some 5), none⟩]
def c51_3 : List CO := [⟨(.mov (.var 2)), none, none⟩,
  ⟨(.nilchk (.loc 0)), none, none⟩,
  ⟨(.load false 1 (.loc 0)), none, none⟩,
  ⟨(.bin .sub (.loc 0) (.k (.int .i64 1))), none, none⟩,
  ⟨(.nilchk (.loc 3)), none, none⟩,
  ⟨(.store 1 (.loc 0) (.loc 1)), none, none⟩]
def c51_4 : List CO := [⟨(.mov (.var 0)), none, none⟩,
  ⟨(.load true 4 (.var 3)), none, none⟩,
  ⟨(.mov (.var 2)), none, none⟩,
  ⟨(.call false 31 [(.loc 2), (.loc 1), (.loc 0)]), none, none⟩,
  ⟨(.extract (.loc 0) 0), none, none⟩,
  ⟨(.extract (.loc 1) 1), none, none⟩,
  ⟨(.store 4 (.var 4) (.loc 1)), none, none⟩,
  ⟨(.mov (.loc 1)), (some 5), none⟩]
def c51 : CFun := ⟨3, 7, (.seq (.region [] [] c51_0) (.seq (.seq (.region [] [] c51_1) (.cond (.var 6) (.seq (.region [] [] c51_2) .ret) .skip)) (.seq (.region [] [] c51_3) (.seq (.region [] [] c51_4) .ret)))), [.cell 4 true 4, .var 5]⟩
theorem ok51 : CodeOk Try.prog T 51 c51 := ⟨⟨Try.f51, Hints.of [] [] [], [0, 1, 2, 4, 6, 7, 11], Try.func51, by kernel_rfl, by kernel_rfl⟩⟩

/-! (*spinney/spinneyref09.Meter).Meet -/
def c61_0 : List CO := [⟨(.box (.var 2)), (some 3), none⟩,
  ⟨(.box (.k (.agg #[(.int .i64 0), (.string ⟨#[]⟩), (.int .i64 0), (.slice none 0 0)]))), (some 4), none⟩,
  ⟨(.mov (.k (.int .i64 0))), (some 5), none⟩]
def c61_1 : List CO := [⟨(.mov (.var 0)), none, none⟩,
  ⟨(.call false 47 [(.loc 0)]), none, none⟩,
  ⟨(.un .not (.loc 0)), (some 6), none⟩]
def c61_2 : List CO := [⟨(.build [(.int .i64 0), (.string ⟨#[]⟩), (.int .i64 0), (.slice none 0 0)] []), none, none⟩,
  ⟨(.store 4 (.var 4) (.loc 0)), none, none⟩,
  ⟨(.mov (.k (.int .i64 140))), (some 5), none⟩]
def c61_3 : List CO := [⟨(.mov (.var 0)), none, none⟩,
  ⟨(.mov (.var 1)), none, none⟩,
  ⟨(.load true 4 (.var 3)), none, none⟩,
  ⟨(.call false 32 [(.loc 2), (.loc 1), (.loc 0)]), none, none⟩,
  ⟨(.extract (.loc 0) 0), none, none⟩,
  ⟨(.extract (.loc 1) 1), none, none⟩,
  ⟨(.store 4 (.var 4) (.loc 1)), none, none⟩,
  ⟨(.mov (.loc 1)), (some 5), none⟩]
def c61 : CFun := ⟨3, 7, (.seq (.region [] [] c61_0) (.seq (.seq (.region [] [] c61_1) (.cond (.var 6) (.seq (.region [] [] c61_2) .ret) .skip)) (.seq (.region [] [] c61_3) .ret))), [.cell 4 true 4, .var 5]⟩
theorem ok61 : CodeOk Try.prog T 61 c61 := ⟨⟨Try.f61, Hints.of [] [] [], [0, 1, 2, 5, 6, 7, 10], Try.func61, by kernel_rfl, by kernel_rfl⟩⟩

def Fl : List (FuncId × FEntry) := [(3, .code c3), (4, .code c4), (5, .code c5), (9, .code c9), (10, .code c10), (11, .code c11), (12, .code c12), (14, .code c14), (15, .code c15), (16, .code c16), (17, .code c17), (18, .code c18), (19, .code c19), (20, .code c20), (27, .code c27), (28, .code c28), (29, .code c29), (30, .code c30), (31, .code c31), (32, .code c32), (34, .code c34), (35, .code c35), (36, .code c36), (37, .code c37), (38, .code c38), (46, .code c46), (47, .code c47), (49, .code c49), (50, .code c50), (51, .code c51), (61, .code c61)] ++ [(13, .oracle lookG)]
def F (f : FuncId) : Option FEntry := Fl.lookup f
theorem hF : ∀ f e, F f = some e → EntryOk Try.prog T f e := entries_of (fun p hp => by
  simp only [Fl, List.cons_append, List.nil_append, List.mem_cons, List.not_mem_nil, or_false] at hp
  rcases hp with rfl | rfl | rfl | rfl | rfl | rfl | rfl | rfl | rfl | rfl | rfl | rfl | rfl | rfl | rfl | rfl | rfl | rfl | rfl | rfl | rfl | rfl | rfl | rfl | rfl | rfl | rfl | rfl | rfl | rfl | rfl | rfl
  · exact ok3
  · exact ok4
  · exact ok5
  · exact ok9
  · exact ok10
  · exact ok11
  · exact ok12
  · exact ok14
  · exact ok15
  · exact ok16
  · exact ok17
  · exact ok18
  · exact ok19
  · exact ok20
  · exact ok27
  · exact ok28
  · exact ok29
  · exact ok30
  · exact ok31
  · exact ok32
  · exact ok34
  · exact ok35
  · exact ok36
  · exact ok37
  · exact ok38
  · exact ok46
  · exact ok47
  · exact ok49
  · exact ok50
  · exact ok51
  · exact ok61
  · exact look_ok)
end Go.Proofs.Ytpgoibncgekflaa


/- Texts of this claim, put together. -/
import Derived.Test.YtchiacliefahdaaDoorChecked
import Derived.Ground.NamesProg
import Derived.Shelf.Unicode.ValidAny
import Derived.Test.YtchiacliefahdaaDoorEval2
import Derived.KernelRfl
import Derived.Test.YtchiacliefahdaaDoorEval3
/-! The contract of utf8.ValidString over this program, laid by the kit's own tool in plain words. -/
section
namespace Go.Proofs
open Go.Shelf
def Tryd.laysValid_ren : Go.Shelf.Ren := ⟨fun | 196 => 34 | 259 => 50 | n => n, fun | 9 => 9 | 4 => 4 | 3 => 3 | 5 => 5 | 12 => 12 | 119 => 87 | 0 => 0 | 46 => 91 | 139 => 90 | 138 => 89 | 53 => 93 | n => n, fun | 3 => 0 | 4 => 1 | n => n⟩
theorem Tryd.laysValid : Go.Proofs.Lays.n196 Tryd.prog Tryd.laysValid_ren := {
  mixed := by kernel_rfl
  f196 := Tryd.func34.trans (congrArg some (by kernel_rfl))
  f259 := Tryd.func50.trans (congrArg some (by kernel_rfl))
  t0 := Tryd.underlying0
  a0 := Tryd.isAgg0
  z0 := Tryd.sizeOf0
  v0 := Tryd.zeroValue0
  t3 := Tryd.underlying3
  a3 := Tryd.isAgg3
  z3 := Tryd.sizeOf3
  v3 := Tryd.zeroValue3
  t4 := Tryd.underlying4
  a4 := Tryd.isAgg4
  z4 := Tryd.sizeOf4
  v4 := Tryd.zeroValue4
  t5 := Tryd.underlying5
  a5 := Tryd.isAgg5
  z5 := Tryd.sizeOf5
  v5 := Tryd.zeroValue5
  t9 := Tryd.underlying9
  a9 := Tryd.isAgg9
  z9 := Tryd.sizeOf9
  v9 := Tryd.zeroValue9
  t12 := Tryd.underlying12
  a12 := Tryd.isAgg12
  z12 := Tryd.sizeOf12
  v12 := Tryd.zeroValue12
  t46 := Tryd.underlying91
  a46 := Tryd.isAgg91
  z46 := Tryd.sizeOf91
  v46 := Tryd.zeroValue91
  t53 := Tryd.underlying93
  a53 := Tryd.isAgg93
  z53 := Tryd.sizeOf93
  v53 := Tryd.zeroValue93
  t119 := Tryd.underlying87
  a119 := Tryd.isAgg87
  z119 := Tryd.sizeOf87
  t138 := Tryd.underlying89
  a138 := Tryd.isAgg89
  z138 := Tryd.sizeOf89
  v138 := Tryd.zeroValue89
  t139 := Tryd.underlying90
  a139 := Tryd.isAgg90
  z139 := Tryd.sizeOf90
  v139 := Tryd.zeroValue90
  g3 := by kernel_rfl
  g4 := by kernel_rfl }
end Go.Proofs
end

/-! utf8.ValidString as an entry of the evaluator's table, where the library's two tables lie. -/
section
set_option linter.unusedVariables false
namespace Go.Proofs.YtchiacliefahdaaDoor
open Go Go.RowKit Go.AE Go.Proofs

/-- the two tables lie in the world in which the call begins -/
def K (B : Nat) (w : World) : Prop := B = w.heap.size ∧ Lib.Utf8Tabs (Tryd.laysValid_ren.g 3) (Tryd.laysValid_ren.g 4) w
theorem hKs : Holds K := fun B w0 I σ w h hK hI => ⟨rfl, Utf8Tabs_below hK.2 (hK.1 ▸ hI.below)⟩

theorem look_ends {B : Nat} {w0 w : World} {I : Cells} {σ : List AE.Loc} {h : List AO} (hI : AE.Inv B w0 I σ w h) {r : AV} {e : Ending} {v : Value} {w' : World} (he : e = .returned v) (hB : Below w.heap.size w w') (hr : Rep I w σ r v) : AE.Ends B w0 I σ w r h e w' := by
  have hext : Ext I w I w' := ⟨fun _ _ h => h, fun b x hi => hB.cell (p := ⟨b, x, none⟩) (hI.imm_lt hi)⟩
  refine ⟨v, I, σ, he, hI.same (hB.mono hI.base) hext (fun b x hi => by
    obtain ⟨u, hu⟩ := hI.imm b x hi
    exact ⟨u, (hext.cell b x hi).trans hu⟩) (fun j Lj hj hh => ⟨hB.block _ (hI.mine j Lj hj hh).2, fun _ h => h⟩), ⟨hext, Later.refl _, fun _ _ h => .inl h, hB.size⟩, hr.mono hext (Later.refl _)⟩

def validG (args : List AV) (h : List AO) : Option (AV × List AO) := match args with
  | [.v (.string s)] => if s.size ≤ 9223372036854775807 then some (.v (.bool (Lib.validD s.data.toList)), h) else none
  | _ => none
theorem valid_enter (vals : Array Value) (w : World) : (callFunc 34 vals).run Tryd.prog w = .ok (.enter 34 vals) w := enters_of Tryd.func34 (by kernel_rfl) rfl vals w
theorem valid_ok {B : Nat} {w0 : World} (hK : K B w0) : ∀ args h r h', validG args h = some (r, h') → (∀ (vals : Array Value) (w : World), (callFunc 34 vals).run Tryd.prog w = .ok (.enter 34 vals) w) ∧
    ∀ I σ w (vals : Array Value), AE.Inv B w0 I σ w h → ArgsRep I w σ args vals → Calls Tryd.prog 34 vals w (AE.Ends B w0 I σ w r h') := by
  intro args h r h' hg
  refine ⟨valid_enter, fun I σ w vals hI ha => ?_⟩
  unfold validG at hg
  split at hg
  · rename_i s
    split at hg
    · rename_i hs
      cases hg
      have hsz := ha.size
      obtain ⟨l⟩ := vals
      match l, hsz with
      | [u], _ =>
        have h1 := ha.rep 0 _ rfl
        cases h1
        have cV : Calls Tryd.prog 34 #[.string s] w _ := Any.utf8_ValidString Tryd.laysValid s w hs (hKs B w0 I σ w h hK hI).2
        refine cV.mono ?_
        rintro e w' ⟨he, hB⟩
        exact look_ends hI he hB (.v _ _)
    · cases hg
  · cases hg
end Go.Proofs.YtchiacliefahdaaDoor
end

/-! The functions of the program that the laws of layer 16 reach, as the evaluator carries them out, each checked against the loaded program. -/
section
set_option linter.unusedVariables false
set_option maxRecDepth 100000
namespace Go.Proofs.YtchiacliefahdaaDoor
open Go Go.AE Go.Proofs
def ti2 : TI := ⟨1, 8, (.int .i64 0), (.int .i64)⟩
theorem tiOk2 : TIok Tryd.prog 2 ti2 := tiok_of (by kernel_rfl) (by kernel_rfl)
def ti3 : TI := ⟨1, 8, (.int .i64 0), (.int .i64)⟩
theorem tiOk3 : TIok Tryd.prog 3 ti3 := tiok_of (by kernel_rfl) (by kernel_rfl)
def ti4 : TI := ⟨1, 1, (.bool false), .bool⟩
theorem tiOk4 : TIok Tryd.prog 4 ti4 := tiok_of (by kernel_rfl) (by kernel_rfl)
def ti9 : TI := ⟨1, 16, (.string ⟨#[]⟩), .string⟩
theorem tiOk9 : TIok Tryd.prog 9 ti9 := tiok_of (by kernel_rfl) (by kernel_rfl)
def ti22 : TI := ⟨1, 24, (.slice none 0 0), (.slice 41)⟩
theorem tiOk22 : TIok Tryd.prog 22 ti22 := tiok_of (by kernel_rfl) (by kernel_rfl)
def ti24 : TI := ⟨4, 56, (.agg #[(.string ⟨#[]⟩), (.int .i64 0), (.int .i64 0), (.slice none 0 0)]), (.struct #[⟨"Name", 9, 0, false, "", "", 0⟩, ⟨"Arity", 3, 1, false, "", "", 16⟩, ⟨"Vars", 3, 2, false, "", "", 24⟩, ⟨"L", 22, 3, false, "", "", 32⟩])⟩
theorem tiOk24 : TIok Tryd.prog 24 ti24 := tiok_of (by kernel_rfl) (by kernel_rfl)
def ti27 : TI := ⟨1, 8, (.int .i64 0), (.int .i64)⟩
theorem tiOk27 : TIok Tryd.prog 27 ti27 := tiok_of (by kernel_rfl) (by kernel_rfl)
def ti41 : TI := ⟨5, 48, (.agg #[(.int .i64 0), (.int .i64 0), (.int .i64 0), (.string ⟨#[]⟩), (.int .i64 0)]), (.struct #[⟨"Op", 3, 0, false, "", "", 0⟩, ⟨"A", 3, 1, false, "", "", 8⟩, ⟨"B", 3, 2, false, "", "", 16⟩, ⟨"Name", 9, 3, false, "", "", 24⟩, ⟨"N", 2, 4, false, "", "", 40⟩])⟩
theorem tiOk41 : TIok Tryd.prog 41 ti41 := tiok_of (by kernel_rfl) (by kernel_rfl)
def ti44 : TI := ⟨1, 8, (.pointer none), (.pointer 47)⟩
theorem tiOk44 : TIok Tryd.prog 44 ti44 := tiok_of (by kernel_rfl) (by kernel_rfl)
def ti45 : TI := ⟨1, 8, (.map none), (.map 3 4)⟩
theorem tiOk45 : TIok Tryd.prog 45 ti45 := tiok_of (by kernel_rfl) (by kernel_rfl)
def ti47 : TI := ⟨11, 104, (.agg #[(.string ⟨#[]⟩), (.int .i64 0), (.int .i64 0), (.slice none 0 0), (.map none), (.map none), (.int .i64 0), (.int .i64 0), (.int .i64 0), (.bool false), (.bool false)]), (.struct #[⟨"c", 24, 0, false, "", "spinney/valid", 0⟩, ⟨"regs", 45, 4, false, "", "spinney/valid", 56⟩, ⟨"known", 45, 5, false, "", "spinney/valid", 64⟩, ⟨"parts", 2, 6, false, "", "spinney/valid", 72⟩, ⟨"of", 3, 7, false, "", "spinney/valid", 80⟩, ⟨"under", 3, 8, false, "", "spinney/valid", 88⟩, ⟨"head", 4, 9, false, "", "spinney/valid", 96⟩, ⟨"over", 4, 10, false, "", "spinney/valid", 97⟩])⟩
theorem tiOk47 : TIok Tryd.prog 47 ti47 := tiok_of (by kernel_rfl) (by kernel_rfl)
def tys : List (TypeId × TI) := [(2, ti2), (3, ti3), (4, ti4), (9, ti9), (22, ti22), (24, ti24), (27, ti27), (41, ti41), (44, ti44), (45, ti45), (47, ti47)]
def pures : List FuncId := [5, 6, 7, 8, 9, 14, 15, 34]
def lits : List TypeId := []
def frz : List FuncId := []
def T : Tb := ⟨fun t => tys.lookup t, fun f => pures.contains f, fun t => lits.contains t, fun f => frz.contains f⟩
theorem hT : TbOk Tryd.prog T := tbok_of (fun p hp => by
  simp only [tys, List.mem_cons, List.not_mem_nil, or_false] at hp
  rcases hp with rfl | rfl | rfl | rfl | rfl | rfl | rfl | rfl | rfl | rfl | rfl
  · exact tiOk2
  · exact tiOk3
  · exact tiOk4
  · exact tiOk9
  · exact tiOk22
  · exact tiOk24
  · exact tiOk27
  · exact tiOk41
  · exact tiOk44
  · exact tiOk45
  · exact tiOk47)
/-! spinney/spinneylaw16.ValidBegins -/
def c5_0 : List CO := [⟨(.box (.var 0)), (some 3), none⟩,
  ⟨(.mov (.k (.bool false))), (some 4), none⟩]
def c5_1 : List CO := [⟨(.call true 7 []), none, none⟩,
  ⟨(.mov (.loc 0)), (some 5), none⟩]
def c5_2 : List CO := [⟨(.load true 4 (.var 3)), none, none⟩,
  ⟨(.call true 8 [(.loc 0)]), none, none⟩,
  ⟨(.mov (.loc 0)), none, none⟩,
  ⟨(.mov (.var 2)), none, (some ((.loc 0), false))⟩,
  ⟨(.len .slice (.loc 0)), none, (some ((.loc 1), false))⟩,
  ⟨(.bin .gtr (.loc 0) (.k (.int .i64 100))), none, (some ((.loc 2), false))⟩,
  ⟨(.pick (.loc 3) (.k (.bool true)) (.loc 0)), (some 15), none⟩]
def c5_3 : List CO := [⟨(.mov (.var 5)), none, none⟩,
  ⟨(.mov (.loc 0)), (some 4), none⟩]
def c5_4 : List CO := [⟨(.load true 4 (.var 3)), none, none⟩,
  ⟨(.call true 9 [(.loc 0)]), none, none⟩,
  ⟨(.mov (.loc 0)), none, none⟩,
  ⟨(.extract (.loc 0) 0), none, none⟩,
  ⟨(.extract (.loc 1) 1), none, none⟩,
  ⟨(.mov (.loc 1)), (some 6), none⟩,
  ⟨(.mov (.loc 1)), (some 7), none⟩]
def c5_5 : List CO := [⟨(.load true 4 (.var 3)), none, none⟩,
  ⟨(.box (.k (.agg #[(.string ⟨#[]⟩), (.int .i64 0), (.int .i64 0), (.slice none 0 0)]))), (some 8), none⟩,
  ⟨(.store 4 (.var 8) (.loc 1)), none, none⟩]
def c5_6 : List CO := [⟨(.fa 3 (.var 3)), none, none⟩,
  ⟨(.load false 1 (.loc 0)), none, none⟩,
  ⟨(.append 5 48 (.k (.slice none 0 0)) (.loc 0)), none, none⟩,
  ⟨(.mov (.var 2)), none, none⟩,
  ⟨(.append 5 48 (.loc 1) (.loc 0)), none, none⟩,
  ⟨(.fa 3 (.var 8)), none, none⟩,
  ⟨(.store 1 (.loc 0) (.loc 1)), none, none⟩]
def c5_7 : List CO := [⟨(.load true 4 (.var 8)), none, none⟩,
  ⟨(.call true 9 [(.loc 0)]), none, none⟩,
  ⟨(.mov (.loc 0)), none, none⟩,
  ⟨(.extract (.loc 0) 0), none, none⟩,
  ⟨(.extract (.loc 1) 1), none, none⟩,
  ⟨(.mov (.loc 1)), (some 9), none⟩,
  ⟨(.mov (.loc 1)), (some 10), none⟩]
def c5_8 : List CO := [⟨(.mov (.var 7)), none, none⟩,
  ⟨(.bin .neq (.loc 0) (.k (.int .i64 0))), none, none⟩,
  ⟨(.mov (.loc 0)), none, none⟩,
  ⟨(.mov (.var 6)), none, (some ((.loc 0), true))⟩,
  ⟨(.fa 3 (.var 3)), none, (some ((.loc 1), true))⟩,
  ⟨(.load false 1 (.loc 0)), none, (some ((.loc 2), true))⟩,
  ⟨(.len .slice (.loc 0)), none, (some ((.loc 3), true))⟩,
  ⟨(.bin .lss (.loc 3) (.loc 0)), none, (some ((.loc 4), true))⟩,
  ⟨(.pick (.loc 5) (.loc 0) (.k (.bool false))), (some 16), none⟩]
def c5_9 : List CO := [⟨(.mov (.var 5)), none, none⟩,
  ⟨(.mov (.loc 0)), none, none⟩,
  ⟨(.mov (.var 10)), none, (some ((.loc 0), true))⟩,
  ⟨(.bin .eql (.loc 0) (.k (.int .i64 150))), none, (some ((.loc 1), true))⟩,
  ⟨(.pick (.loc 2) (.loc 0) (.k (.bool false))), none, none⟩,
  ⟨(.mov (.loc 0)), none, none⟩,
  ⟨(.mov (.var 9)), none, (some ((.loc 0), true))⟩,
  ⟨(.mov (.var 6)), none, (some ((.loc 1), true))⟩,
  ⟨(.bin .eql (.loc 1) (.loc 0)), none, (some ((.loc 2), true))⟩,
  ⟨(.pick (.loc 3) (.loc 0) (.k (.bool false))), none, none⟩,
  ⟨(.mov (.loc 0)), (some 4), none⟩]
def c5_10 : List CO := [⟨(.mov (.var 7)), none, none⟩,
  ⟨(.bin .neq (.loc 0) (.k (.int .i64 0))), (some 17), none⟩]
def c5_11 : List CO := [⟨(.mov (.var 5)), none, none⟩,
  ⟨(.mov (.loc 0)), (some 4), none⟩]
def c5_12 : List CO := [⟨(.mov (.var 2)), none, none⟩,
  ⟨(.len .slice (.loc 0)), none, none⟩,
  ⟨(.bin .gtr (.loc 0) (.k (.int .i64 0))), none, none⟩,
  ⟨(.mov (.loc 0)), none, none⟩,
  ⟨(.mov (.var 10)), none, (some ((.loc 0), true))⟩,
  ⟨(.bin .neq (.loc 0) (.k (.int .i64 150))), none, (some ((.loc 1), true))⟩,
  ⟨(.mov (.loc 0)), none, (some ((.loc 2), true))⟩,
  ⟨(.mov (.var 9)), none, (some ((.loc 0), false))⟩,
  ⟨(.fa 3 (.var 3)), none, (some ((.loc 1), false))⟩,
  ⟨(.load false 1 (.loc 0)), none, (some ((.loc 2), false))⟩,
  ⟨(.len .slice (.loc 0)), none, (some ((.loc 3), false))⟩,
  ⟨(.bin .neq (.loc 3) (.loc 0)), none, (some ((.loc 4), false))⟩,
  ⟨(.pick (.loc 5) (.k (.bool true)) (.loc 0)), none, (some ((.loc 8), true))⟩,
  ⟨(.pick (.loc 9) (.loc 0) (.k (.bool false))), (some 18), none⟩]
def c5_13 : List CO := [⟨(.mov (.k (.bool false))), (some 4), none⟩]
def c5_14 : List CO := [⟨(.mov (.var 1)), none, none⟩,
  ⟨(.fa 3 (.var 3)), none, none⟩,
  ⟨(.load false 1 (.loc 0)), none, none⟩,
  ⟨(.len .slice (.loc 0)), none, none⟩,
  ⟨(.bin .rem (.loc 3) (.loc 0)), none, none⟩,
  ⟨(.fa 3 (.var 3)), none, none⟩,
  ⟨(.load false 1 (.loc 0)), none, none⟩,
  ⟨(.len .slice (.loc 0)), none, none⟩,
  ⟨(.bin .add (.loc 3) (.loc 0)), none, none⟩,
  ⟨(.fa 3 (.var 3)), none, none⟩,
  ⟨(.load false 1 (.loc 0)), none, none⟩,
  ⟨(.len .slice (.loc 0)), none, none⟩,
  ⟨(.bin .rem (.loc 3) (.loc 0)), none, none⟩,
  ⟨(.mov (.loc 0)), (some 11), none⟩]
def c5_15 : List CO := [⟨(.load true 4 (.var 3)), none, none⟩,
  ⟨(.box (.k (.agg #[(.string ⟨#[]⟩), (.int .i64 0), (.int .i64 0), (.slice none 0 0)]))), (some 12), none⟩,
  ⟨(.store 4 (.var 12) (.loc 1)), none, none⟩]
def c5_16 : List CO := [⟨(.fa 3 (.var 3)), none, none⟩,
  ⟨(.load false 1 (.loc 0)), none, none⟩,
  ⟨(.mov (.var 11)), none, none⟩,
  ⟨(.slice 5 (.loc 1) none (some (.loc 0)) none), none, none⟩,
  ⟨(.append 5 48 (.k (.slice none 0 0)) (.loc 0)), none, none⟩,
  ⟨(.build [(.int .i64 0), (.int .i64 0), (.int .i64 0), (.string ⟨#[]⟩), (.int .i64 0)] [(0, 1, (.k (.int .i64 23)))]), none, none⟩,
  ⟨(.bslice 5 [(.int .i64 0), (.int .i64 0), (.int .i64 0), (.string ⟨#[]⟩), (.int .i64 0)] 1 [(0, (.loc 0))]), none, none⟩,
  ⟨(.append 5 48 (.loc 2) (.loc 0)), none, none⟩,
  ⟨(.fa 3 (.var 12)), none, none⟩,
  ⟨(.store 1 (.loc 0) (.loc 1)), none, none⟩]
def c5_17 : List CO := [⟨(.load true 4 (.var 12)), none, none⟩,
  ⟨(.call true 9 [(.loc 0)]), none, none⟩,
  ⟨(.mov (.loc 0)), none, none⟩,
  ⟨(.extract (.loc 0) 0), none, none⟩,
  ⟨(.extract (.loc 1) 1), none, none⟩,
  ⟨(.mov (.loc 1)), (some 13), none⟩,
  ⟨(.mov (.loc 1)), (some 14), none⟩]
def c5_18 : List CO := [⟨(.mov (.var 5)), none, none⟩,
  ⟨(.mov (.loc 0)), none, none⟩,
  ⟨(.mov (.var 14)), none, (some ((.loc 0), true))⟩,
  ⟨(.bin .eql (.loc 0) (.k (.int .i64 0))), none, (some ((.loc 1), true))⟩,
  ⟨(.mov (.loc 0)), none, (some ((.loc 2), true))⟩,
  ⟨(.mov (.var 13)), none, (some ((.loc 0), true))⟩,
  ⟨(.bin .eql (.loc 0) (.k (.int .i64 0))), none, (some ((.loc 1), true))⟩,
  ⟨(.pick (.loc 2) (.loc 0) (.k (.bool false))), none, (some ((.loc 5), true))⟩,
  ⟨(.mov (.loc 0)), none, (some ((.loc 6), true))⟩,
  ⟨(.mov (.var 14)), none, (some ((.loc 0), false))⟩,
  ⟨(.bin .eql (.loc 0) (.k (.int .i64 150))), none, (some ((.loc 1), false))⟩,
  ⟨(.mov (.loc 0)), none, (some ((.loc 2), false))⟩,
  ⟨(.mov (.var 13)), none, (some ((.loc 0), true))⟩,
  ⟨(.mov (.var 11)), none, (some ((.loc 1), true))⟩,
  ⟨(.bin .eql (.loc 1) (.loc 0)), none, (some ((.loc 2), true))⟩,
  ⟨(.pick (.loc 3) (.loc 0) (.k (.bool false))), none, (some ((.loc 6), false))⟩,
  ⟨(.mov (.loc 0)), none, (some ((.loc 7), false))⟩,
  ⟨(.mov (.var 11)), none, (some ((.loc 0), true))⟩,
  ⟨(.bin .gtr (.loc 0) (.k (.int .i64 0))), none, (some ((.loc 1), true))⟩,
  ⟨(.pick (.loc 2) (.loc 0) (.k (.bool false))), none, (some ((.loc 10), false))⟩,
  ⟨(.mov (.loc 0)), none, (some ((.loc 11), false))⟩,
  ⟨(.fa 3 (.var 3)), none, (some ((.loc 0), true))⟩,
  ⟨(.load false 1 (.loc 0)), none, (some ((.loc 1), true))⟩,
  ⟨(.mov (.var 11)), none, (some ((.loc 2), true))⟩,
  ⟨(.bin .sub (.loc 0) (.k (.int .i64 1))), none, (some ((.loc 3), true))⟩,
  ⟨(.ia 5 (.loc 2) (.loc 0)), none, (some ((.loc 4), true))⟩,
  ⟨(.fa 0 (.loc 0)), none, (some ((.loc 5), true))⟩,
  ⟨(.load false 1 (.loc 0)), none, (some ((.loc 6), true))⟩,
  ⟨(.bin .neq (.loc 0) (.k (.int .i64 21))), none, (some ((.loc 7), true))⟩,
  ⟨(.pick (.loc 8) (.loc 0) (.k (.bool false))), none, (some ((.loc 20), false))⟩,
  ⟨(.mov (.loc 0)), none, (some ((.loc 21), false))⟩,
  ⟨(.fa 3 (.var 3)), none, (some ((.loc 0), true))⟩,
  ⟨(.load false 1 (.loc 0)), none, (some ((.loc 1), true))⟩,
  ⟨(.mov (.var 11)), none, (some ((.loc 2), true))⟩,
  ⟨(.bin .sub (.loc 0) (.k (.int .i64 1))), none, (some ((.loc 3), true))⟩,
  ⟨(.ia 5 (.loc 2) (.loc 0)), none, (some ((.loc 4), true))⟩,
  ⟨(.fa 0 (.loc 0)), none, (some ((.loc 5), true))⟩,
  ⟨(.load false 1 (.loc 0)), none, (some ((.loc 6), true))⟩,
  ⟨(.bin .neq (.loc 0) (.k (.int .i64 22))), none, (some ((.loc 7), true))⟩,
  ⟨(.pick (.loc 8) (.loc 0) (.k (.bool false))), none, (some ((.loc 30), false))⟩,
  ⟨(.pick (.loc 31) (.k (.bool true)) (.loc 0)), none, (some ((.loc 38), true))⟩,
  ⟨(.pick (.loc 39) (.loc 0) (.k (.bool false))), none, none⟩,
  ⟨(.mov (.loc 0)), (some 4), none⟩]
def c5 : CFun := ⟨3, 19, (.seq (.region [] [] c5_0) (.seq (.region [] [] c5_1) (.seq (.seq (.region [] [] c5_2) (.cond (.var 15) (.seq (.region [] [] c5_3) .ret) .skip)) (.seq (.region [] [] c5_4) (.seq (.region [] [] c5_5) (.seq (.region [] [] c5_6) (.seq (.region [.p 8 3 1] [] c5_7) (.seq (.seq (.region [] [] c5_8) (.cond (.var 16) (.seq (.region [] [] c5_9) .ret) .skip)) (.seq (.seq (.region [] [] c5_10) (.cond (.var 17) (.seq (.region [] [] c5_11) .ret) .skip)) (.seq (.seq (.region [] [] c5_12) (.cond (.var 18) (.seq (.region [] [] c5_13) .ret) .skip)) (.seq (.region [] [] c5_14) (.seq (.region [] [] c5_15) (.seq (.region [] [] c5_16) (.seq (.region [.p 12 3 1] [] c5_17) (.seq (.region [] [] c5_18) .ret))))))))))))))), [.var 4]⟩
theorem ok5 : CodeOk Tryd.prog T 5 c5 := ⟨⟨Tryd.f5, Hints.of [(7, [.p 8 3 1]), (17, [.p 12 3 1])] [] [], [0, 1, 2, 3, 6, 7, 8, 9, 10, 11, 12, 13, 14, 15, 16, 24, 51, 63, 78], Tryd.func5, by kernel_rfl, by kernel_rfl⟩⟩

/-! spinney/spinneylaw16.ValidPlaces -/
def c6_0 : List CO := [⟨(.box (.var 0)), (some 1), none⟩,
  ⟨(.mov (.k (.bool false))), (some 2), none⟩]
def c6_1 : List CO := [⟨(.call true 7 []), none, none⟩,
  ⟨(.mov (.loc 0)), (some 3), none⟩]
def c6_2 : List CO := [⟨(.load true 4 (.var 1)), none, none⟩,
  ⟨(.call true 8 [(.loc 0)]), (some 8), none⟩]
def c6_3 : List CO := [⟨(.mov (.var 3)), none, none⟩,
  ⟨(.mov (.loc 0)), (some 2), none⟩]
def c6_4 : List CO := [⟨(.load true 4 (.var 1)), none, none⟩,
  ⟨(.call true 9 [(.loc 0)]), none, none⟩,
  ⟨(.mov (.loc 0)), none, none⟩,
  ⟨(.extract (.loc 0) 0), none, none⟩,
  ⟨(.extract (.loc 1) 1), none, none⟩,
  ⟨(.mov (.loc 1)), (some 4), none⟩,
  ⟨(.mov (.loc 1)), (some 5), none⟩]
def c6_5 : List CO := [⟨(.mov (.var 5)), none, none⟩,
  ⟨(.bin .neq (.loc 0) (.k (.int .i64 0))), (some 9), none⟩]
def c6_6 : List CO := [⟨(.mov (.var 3)), none, none⟩,
  ⟨(.mov (.loc 0)), none, none⟩,
  ⟨(.mov (.var 5)), none, (some ((.loc 0), true))⟩,
  ⟨(.bin .eql (.loc 0) (.k (.int .i64 150))), none, (some ((.loc 1), true))⟩,
  ⟨(.pick (.loc 2) (.loc 0) (.k (.bool false))), none, none⟩,
  ⟨(.mov (.loc 0)), none, none⟩,
  ⟨(.mov (.var 4)), none, (some ((.loc 0), true))⟩,
  ⟨(.bin .geq (.loc 0) (.k (.int .i64 0))), none, (some ((.loc 1), true))⟩,
  ⟨(.pick (.loc 2) (.loc 0) (.k (.bool false))), none, none⟩,
  ⟨(.mov (.loc 0)), none, none⟩,
  ⟨(.mov (.var 4)), none, (some ((.loc 0), true))⟩,
  ⟨(.fa 3 (.var 1)), none, (some ((.loc 1), true))⟩,
  ⟨(.load false 1 (.loc 0)), none, (some ((.loc 2), true))⟩,
  ⟨(.len .slice (.loc 0)), none, (some ((.loc 3), true))⟩,
  ⟨(.bin .leq (.loc 3) (.loc 0)), none, (some ((.loc 4), true))⟩,
  ⟨(.pick (.loc 5) (.loc 0) (.k (.bool false))), none, none⟩,
  ⟨(.mov (.loc 0)), (some 2), none⟩]
def c6_7 : List CO := [⟨(.mov (.var 4)), none, none⟩,
  ⟨(.bin .neq (.loc 0) (.k (.int .i64 0))), none, none⟩,
  ⟨(.mov (.loc 0)), none, none⟩,
  ⟨(.fa 3 (.var 1)), none, (some ((.loc 0), false))⟩,
  ⟨(.load false 1 (.loc 0)), none, (some ((.loc 1), false))⟩,
  ⟨(.len .slice (.loc 0)), none, (some ((.loc 2), false))⟩,
  ⟨(.bin .eql (.loc 0) (.k (.int .i64 0))), none, (some ((.loc 3), false))⟩,
  ⟨(.pick (.loc 4) (.k (.bool true)) (.loc 0)), (some 10), none⟩]
def c6_8 : List CO := [⟨(.mov (.k (.bool false))), (some 2), none⟩]
def c6_9 : List CO := [⟨(.fa 3 (.var 1)), none, none⟩,
  ⟨(.load false 1 (.loc 0)), (some 11), none⟩,
  ⟨(.len .slice (.var 11)), (some 12), none⟩,
  ⟨(.mov (.k (.int .i64 0))), (some 13), none⟩]
def c6_10 : List CO := [⟨(.bin .lss (.var 13) (.var 12)), (some 14), none⟩]
def c6_11 : List CO := [⟨(.mov (.var 13)), none, none⟩,
  ⟨(.ia 5 (.var 11) (.var 13)), none, none⟩,
  ⟨(.load true 5 (.loc 0)), none, none⟩,
  ⟨(.box (.k (.agg #[(.int .i64 0), (.int .i64 0), (.int .i64 0), (.string ⟨#[]⟩), (.int .i64 0)]))), (some 7), none⟩,
  ⟨(.mov (.loc 3)), (some 6), none⟩,
  ⟨(.store 5 (.var 7) (.loc 2)), none, none⟩]
def c6_12 : List CO := [⟨(.fa 0 (.var 7)), none, none⟩,
  ⟨(.load false 1 (.loc 0)), none, none⟩,
  ⟨(.bin .eql (.loc 0) (.k (.int .i64 23))), none, none⟩,
  ⟨(.mov (.var 6)), none, none⟩,
  ⟨(.fa 3 (.var 1)), none, none⟩,
  ⟨(.load false 1 (.loc 0)), none, none⟩,
  ⟨(.len .slice (.loc 0)), none, none⟩,
  ⟨(.bin .sub (.loc 0) (.k (.int .i64 1))), none, none⟩,
  ⟨(.bin .eql (.loc 4) (.loc 0)), none, none⟩,
  ⟨(.eqv .bool true (.loc 6) (.loc 0)), (some 15), none⟩]
def c6_13 : List CO := [⟨(.mov (.k (.bool false))), (some 2), none⟩]
def c6_14 : List CO := [⟨(.fa 0 (.var 7)), none, none⟩,
  ⟨(.load false 1 (.loc 0)), (some 16), none⟩]
def c6_15 : List CO := [⟨(.bin .eql (.var 16) (.k (.int .i64 1))), none, none⟩,
  ⟨(.mov (.loc 0)), (some 17), none⟩]
def c6_16 : List CO := [⟨(.bin .eql (.var 16) (.k (.int .i64 2))), none, none⟩,
  ⟨(.mov (.loc 0)), (some 17), none⟩]
def c6_17 : List CO := [⟨(.bin .eql (.var 16) (.k (.int .i64 6))), none, none⟩,
  ⟨(.mov (.loc 0)), (some 17), none⟩]
def c6_18 : List CO := [⟨(.bin .eql (.var 16) (.k (.int .i64 7))), none, none⟩,
  ⟨(.mov (.loc 0)), (some 17), none⟩]
def c6_19 : List CO := [⟨(.bin .eql (.var 16) (.k (.int .i64 11))), none, none⟩,
  ⟨(.mov (.loc 0)), (some 17), none⟩]
def c6_20 : List CO := [⟨(.bin .eql (.var 16) (.k (.int .i64 12))), none, none⟩,
  ⟨(.mov (.loc 0)), (some 17), none⟩]
def c6_21 : List CO := [⟨(.bin .eql (.var 16) (.k (.int .i64 16))), none, none⟩,
  ⟨(.mov (.loc 0)), (some 17), none⟩]
def c6_22 : List CO := [⟨(.bin .eql (.var 16) (.k (.int .i64 17))), none, none⟩,
  ⟨(.mov (.loc 0)), (some 17), none⟩]
def c6_23 : List CO := [⟨(.fa 2 (.var 7)), none, none⟩,
  ⟨(.load false 1 (.loc 0)), none, none⟩,
  ⟨(.bin .lss (.loc 0) (.k (.int .i64 0))), none, none⟩,
  ⟨(.mov (.loc 0)), none, none⟩,
  ⟨(.fa 2 (.var 7)), none, (some ((.loc 0), false))⟩,
  ⟨(.load false 1 (.loc 0)), none, (some ((.loc 1), false))⟩,
  ⟨(.fa 2 (.var 1)), none, (some ((.loc 2), false))⟩,
  ⟨(.load false 1 (.loc 0)), none, (some ((.loc 3), false))⟩,
  ⟨(.bin .geq (.loc 2) (.loc 0)), none, (some ((.loc 4), false))⟩,
  ⟨(.pick (.loc 5) (.k (.bool true)) (.loc 0)), (some 18), none⟩]
def c6_24 : List CO := [⟨(.mov (.k (.bool false))), (some 2), none⟩]
def c6_25 : List CO := [⟨(.bin .add (.var 13) (.k (.int .i64 1))), none, none⟩,
  ⟨(.mov (.loc 0)), (some 13), none⟩]
def c6_26 : CC := (.seq (.region [] [] c6_10) (.seq (.cond (.var 14) .skip (.exit 0)) (.seq (.block 1 (.seq (.region [] [] c6_11) (.seq (.seq (.region [] [] c6_12) (.cond (.var 15) (.seq (.region [] [] c6_13) .ret) .skip)) (.seq (.region [] [] c6_14) (.block 2 (.seq (.seq (.region [] [] c6_15) (.cond (.var 17) .skip (.seq (.region [] [] c6_16) (.cond (.var 17) .skip (.seq (.region [] [] c6_17) (.cond (.var 17) .skip (.seq (.region [] [] c6_18) (.cond (.var 17) .skip (.seq (.region [] [] c6_19) (.cond (.var 17) .skip (.seq (.region [] [] c6_20) (.cond (.var 17) .skip (.seq (.region [] [] c6_21) (.cond (.var 17) .skip (.region [] [] c6_22))))))))))))))) (.cond (.var 17) (.seq (.region [] [] c6_23) (.cond (.var 18) (.seq (.region [] [] c6_24) .ret) .skip)) .skip))))))) (.region [] [] c6_25))))
def c6_27 : List CO := [⟨(.mov (.var 3)), none, none⟩,
  ⟨(.mov (.loc 0)), (some 2), none⟩]
def c6 : CFun := ⟨1, 19, (.seq (.region [] [] c6_0) (.seq (.region [] [] c6_1) (.seq (.seq (.region [] [] c6_2) (.cond (.var 8) (.seq (.region [] [] c6_3) .ret) .skip)) (.seq (.region [] [] c6_4) (.seq (.seq (.region [] [] c6_5) (.cond (.var 9) (.seq (.region [] [] c6_6) .ret) .skip)) (.seq (.seq (.region [] [] c6_7) (.cond (.var 10) (.seq (.region [] [] c6_8) .ret) .skip)) (.seq (.seq (.region [] [] c6_9) (.block 0 (.loop [false, true, false, true, false, false, false, false, false, false, false, true, true, true, false, false, false, false, false] [] c6_26))) (.seq (.region [] [] c6_27) .ret)))))))), [.var 2]⟩
theorem ok6 : CodeOk Tryd.prog T 6 c6 := ⟨⟨Tryd.f6, Hints.of [] [] [(0, [false, true, false, true, false, false, false, false, false, false, false, true, true, true, false, false, false, false, false], [])], [0, 1, 2, 3, 4, 5, 6, 7, 10, 18, 42, 44, 45, 46, 47, 60, 62, 63, 81], Tryd.func6, by kernel_rfl, by kernel_rfl⟩⟩

/-! spinney/spinneylaw16.live -/
def c7_0 : List CO := [⟨(.mov (.k (.bool false))), (some 0), none⟩]
def c7_1 : List CO := [⟨(.build [(.int .i64 0), (.int .i64 0), (.int .i64 0), (.string ⟨#[]⟩), (.int .i64 0)] [(0, 1, (.k (.int .i64 12)))]), none, none⟩,
  ⟨(.bslice 5 [(.int .i64 0), (.int .i64 0), (.int .i64 0), (.string ⟨#[]⟩), (.int .i64 0)] 1 [(0, (.loc 0))]), none, none⟩,
  ⟨(.build [(.string ⟨#[]⟩), (.int .i64 0), (.int .i64 0), (.slice none 0 0)] [(3, 1, (.loc 0))]), none, none⟩,
  ⟨(.call true 9 [(.loc 0)]), none, none⟩,
  ⟨(.mov (.loc 0)), none, none⟩,
  ⟨(.extract (.loc 0) 0), none, none⟩,
  ⟨(.extract (.loc 1) 1), none, none⟩,
  ⟨(.mov (.loc 1)), (some 1), none⟩,
  ⟨(.mov (.loc 1)), (some 2), none⟩]
def c7_2 : List CO := [⟨(.build [(.int .i64 0), (.int .i64 0), (.int .i64 0), (.string ⟨#[]⟩), (.int .i64 0)] [(0, 1, (.k (.int .i64 5))), (3, 1, (.k (.string ⟨#[102]⟩))), (4, 1, (.k (.int .i64 2)))]), none, none⟩,
  ⟨(.build [(.int .i64 0), (.int .i64 0), (.int .i64 0), (.string ⟨#[]⟩), (.int .i64 0)] [(0, 1, (.k (.int .i64 8))), (3, 1, (.k (.string ⟨#[97]⟩)))]), none, none⟩,
  ⟨(.build [(.int .i64 0), (.int .i64 0), (.int .i64 0), (.string ⟨#[]⟩), (.int .i64 0)] [(0, 1, (.k (.int .i64 23)))]), none, none⟩,
  ⟨(.bslice 5 [(.int .i64 0), (.int .i64 0), (.int .i64 0), (.string ⟨#[]⟩), (.int .i64 0)] 3 [(0, (.loc 2)), (1, (.loc 1)), (2, (.loc 0))]), none, none⟩,
  ⟨(.build [(.string ⟨#[]⟩), (.int .i64 0), (.int .i64 0), (.slice none 0 0)] [(1, 1, (.k (.int .i64 1))), (3, 1, (.loc 0))]), none, none⟩,
  ⟨(.call true 9 [(.loc 0)]), none, none⟩,
  ⟨(.mov (.loc 0)), none, none⟩,
  ⟨(.extract (.loc 0) 0), none, none⟩,
  ⟨(.extract (.loc 1) 1), none, none⟩,
  ⟨(.mov (.loc 1)), (some 3), none⟩,
  ⟨(.mov (.loc 1)), (some 4), none⟩]
def c7_3 : List CO := [⟨(.build [(.int .i64 0), (.int .i64 0), (.int .i64 0), (.string ⟨#[]⟩), (.int .i64 0)] [(0, 1, (.k (.int .i64 4))), (4, 1, (.k (.int .i64 2)))]), none, none⟩,
  ⟨(.build [(.int .i64 0), (.int .i64 0), (.int .i64 0), (.string ⟨#[]⟩), (.int .i64 0)] [(0, 1, (.k (.int .i64 23)))]), none, none⟩,
  ⟨(.bslice 5 [(.int .i64 0), (.int .i64 0), (.int .i64 0), (.string ⟨#[]⟩), (.int .i64 0)] 2 [(0, (.loc 1)), (1, (.loc 0))]), none, none⟩,
  ⟨(.build [(.string ⟨#[]⟩), (.int .i64 0), (.int .i64 0), (.slice none 0 0)] [(1, 1, (.k (.int .i64 1))), (3, 1, (.loc 0))]), none, none⟩,
  ⟨(.call true 9 [(.loc 0)]), none, none⟩,
  ⟨(.mov (.loc 0)), none, none⟩,
  ⟨(.extract (.loc 0) 0), none, none⟩,
  ⟨(.extract (.loc 1) 1), none, none⟩,
  ⟨(.mov (.loc 1)), (some 5), none⟩,
  ⟨(.mov (.loc 1)), (some 6), none⟩]
def c7_4 : List CO := [⟨(.mov (.var 1)), none, none⟩,
  ⟨(.bin .eql (.loc 0) (.k (.int .i64 0))), none, none⟩,
  ⟨(.mov (.loc 0)), none, none⟩,
  ⟨(.mov (.var 2)), none, (some ((.loc 0), true))⟩,
  ⟨(.bin .eql (.loc 0) (.k (.int .i64 150))), none, (some ((.loc 1), true))⟩,
  ⟨(.pick (.loc 2) (.loc 0) (.k (.bool false))), none, none⟩,
  ⟨(.mov (.loc 0)), none, none⟩,
  ⟨(.mov (.var 3)), none, (some ((.loc 0), true))⟩,
  ⟨(.bin .eql (.loc 0) (.k (.int .i64 2))), none, (some ((.loc 1), true))⟩,
  ⟨(.pick (.loc 2) (.loc 0) (.k (.bool false))), none, none⟩,
  ⟨(.mov (.loc 0)), none, none⟩,
  ⟨(.mov (.var 4)), none, (some ((.loc 0), true))⟩,
  ⟨(.bin .eql (.loc 0) (.k (.int .i64 150))), none, (some ((.loc 1), true))⟩,
  ⟨(.pick (.loc 2) (.loc 0) (.k (.bool false))), none, none⟩,
  ⟨(.mov (.loc 0)), none, none⟩,
  ⟨(.mov (.var 5)), none, (some ((.loc 0), true))⟩,
  ⟨(.bin .eql (.loc 0) (.k (.int .i64 0))), none, (some ((.loc 1), true))⟩,
  ⟨(.pick (.loc 2) (.loc 0) (.k (.bool false))), none, none⟩,
  ⟨(.mov (.loc 0)), none, none⟩,
  ⟨(.mov (.var 6)), none, (some ((.loc 0), true))⟩,
  ⟨(.bin .eql (.loc 0) (.k (.int .i64 0))), none, (some ((.loc 1), true))⟩,
  ⟨(.pick (.loc 2) (.loc 0) (.k (.bool false))), none, none⟩,
  ⟨(.mov (.loc 0)), (some 0), none⟩]
def c7 : CFun := ⟨0, 7, (.seq (.region [] [] c7_0) (.seq (.region [] [] c7_1) (.seq (.region [] [] c7_2) (.seq (.region [] [] c7_3) (.seq (.region [] [] c7_4) .ret))))), [.var 0]⟩
theorem ok7 : CodeOk Tryd.prog T 7 c7 := ⟨⟨Tryd.f7, Hints.of [] [] [], [0, 1, 2, 3, 4, 5, 6], Tryd.func7, by kernel_rfl, by kernel_rfl⟩⟩

/-! spinney/spinneylaw16.big -/
def c8_0 : List CO := [⟨(.box (.var 0)), (some 1), none⟩,
  ⟨(.mov (.k (.bool false))), (some 2), none⟩]
def c8_1 : List CO := [⟨(.fa 3 (.var 1)), none, none⟩,
  ⟨(.load false 1 (.loc 0)), none, none⟩,
  ⟨(.len .slice (.loc 0)), none, none⟩,
  ⟨(.bin .gtr (.loc 0) (.k (.int .i64 2000))), none, none⟩,
  ⟨(.mov (.loc 0)), none, none⟩,
  ⟨(.fa 0 (.var 1)), none, (some ((.loc 0), false))⟩,
  ⟨(.load false 1 (.loc 0)), none, (some ((.loc 1), false))⟩,
  ⟨(.len .string (.loc 0)), none, (some ((.loc 2), false))⟩,
  ⟨(.bin .gtr (.loc 0) (.k (.int .i64 1000))), none, (some ((.loc 3), false))⟩,
  ⟨(.pick (.loc 4) (.k (.bool true)) (.loc 0)), (some 4), none⟩]
def c8_2 : List CO := [⟨(.mov (.k (.bool true))), (some 2), none⟩]
def c8_3 : List CO := [⟨(.fa 3 (.var 1)), none, none⟩,
  ⟨(.load false 1 (.loc 0)), (some 5), none⟩,
  ⟨(.len .slice (.var 5)), (some 6), none⟩,
  ⟨(.mov (.k (.int .i64 0))), (some 7), none⟩]
def c8_4 : List CO := [⟨(.bin .lss (.var 7) (.var 6)), (some 8), none⟩]
def c8_5 : List CO := [⟨(.ia 5 (.var 5) (.var 7)), none, none⟩,
  ⟨(.load true 5 (.loc 0)), none, none⟩,
  ⟨(.box (.k (.agg #[(.int .i64 0), (.int .i64 0), (.int .i64 0), (.string ⟨#[]⟩), (.int .i64 0)]))), (some 3), none⟩,
  ⟨(.store 5 (.var 3) (.loc 1)), none, none⟩]
def c8_6 : List CO := [⟨(.fa 3 (.var 3)), none, none⟩,
  ⟨(.load false 1 (.loc 0)), none, none⟩,
  ⟨(.len .string (.loc 0)), none, none⟩,
  ⟨(.bin .gtr (.loc 0) (.k (.int .i64 1000))), (some 9), none⟩]
def c8_7 : List CO := [⟨(.mov (.k (.bool true))), (some 2), none⟩]
def c8_8 : List CO := [⟨(.bin .add (.var 7) (.k (.int .i64 1))), none, none⟩,
  ⟨(.mov (.loc 0)), (some 7), none⟩]
def c8_9 : CC := (.seq (.region [] [] c8_4) (.seq (.cond (.var 8) .skip (.exit 0)) (.seq (.block 1 (.seq (.region [] [] c8_5) (.seq (.region [] [] c8_6) (.cond (.var 9) (.seq (.region [] [] c8_7) .ret) .skip)))) (.region [] [] c8_8))))
def c8_10 : List CO := [⟨(.mov (.k (.bool false))), (some 2), none⟩]
def c8 : CFun := ⟨1, 10, (.seq (.region [] [] c8_0) (.seq (.seq (.region [] [] c8_1) (.cond (.var 4) (.seq (.region [] [] c8_2) .ret) .skip)) (.seq (.seq (.region [] [] c8_3) (.block 0 (.loop [false, false, false, false, false, true, true, true, false, false] [] c8_9))) (.seq (.region [] [] c8_10) .ret)))), [.var 2]⟩
theorem ok8 : CodeOk Tryd.prog T 8 c8 := ⟨⟨Tryd.f8, Hints.of [] [] [(0, [false, false, false, false, false, true, true, true, false, false], [])], [0, 1, 2, 4, 14, 16, 17, 18, 19, 25], Tryd.func8, by kernel_rfl, by kernel_rfl⟩⟩

/-! spinney/valid.Check -/
def c9_0 : List CO := [⟨(.box (.var 0)), (some 1), none⟩,
  ⟨(.mov (.k (.int .i64 0))), (some 2), none⟩,
  ⟨(.mov (.k (.int .i64 0))), (some 3), none⟩]
def c9_1 : List CO := [⟨(.fa 1 (.var 1)), none, none⟩,
  ⟨(.load false 1 (.loc 0)), none, none⟩,
  ⟨(.bin .lss (.loc 0) (.k (.int .i64 0))), none, none⟩,
  ⟨(.mov (.loc 0)), none, none⟩,
  ⟨(.fa 1 (.var 1)), none, (some ((.loc 0), false))⟩,
  ⟨(.load false 1 (.loc 0)), none, (some ((.loc 1), false))⟩,
  ⟨(.bin .gtr (.loc 0) (.k (.int .i64 16))), none, (some ((.loc 2), false))⟩,
  ⟨(.pick (.loc 3) (.k (.bool true)) (.loc 0)), none, none⟩,
  ⟨(.mov (.loc 0)), none, none⟩,
  ⟨(.fa 2 (.var 1)), none, (some ((.loc 0), false))⟩,
  ⟨(.load false 1 (.loc 0)), none, (some ((.loc 1), false))⟩,
  ⟨(.bin .lss (.loc 0) (.k (.int .i64 0))), none, (some ((.loc 2), false))⟩,
  ⟨(.pick (.loc 3) (.k (.bool true)) (.loc 0)), none, none⟩,
  ⟨(.mov (.loc 0)), none, none⟩,
  ⟨(.fa 0 (.var 1)), none, (some ((.loc 0), false))⟩,
  ⟨(.load false 1 (.loc 0)), none, (some ((.loc 1), false))⟩,
  ⟨(.call true 14 [(.loc 0)]), none, (some ((.loc 2), false))⟩,
  ⟨(.un .not (.loc 0)), none, (some ((.loc 3), false))⟩,
  ⟨(.pick (.loc 4) (.k (.bool true)) (.loc 0)), (some 11), none⟩]
def c9_2 : List CO := [⟨(.mov (.k (.int .i64 0))), (some 2), none⟩,
  ⟨(.mov (.k (.int .i64 150))), (some 3), none⟩]
def c9_3 : List CO := [⟨(.load true 4 (.var 1)), none, none⟩,
  ⟨(.mkmap (.int .i64)), none, none⟩,
  ⟨(.mkmap (.int .i64)), none, none⟩,
  ⟨(.build [(.string ⟨#[]⟩), (.int .i64 0), (.int .i64 0), (.slice none 0 0), (.map none), (.map none), (.int .i64 0), (.int .i64 0), (.int .i64 0), (.bool false), (.bool false)] [(0, 4, (.loc 2)), (4, 1, (.loc 1)), (5, 1, (.loc 0)), (9, 1, (.k (.bool true)))]), none, none⟩,
  ⟨(.box (.loc 0)), none, none⟩,
  ⟨(.mov (.loc 0)), (some 4), none⟩]
def c9_4 : List CO := [⟨(.fa 1 (.var 1)), none, none⟩,
  ⟨(.load false 1 (.loc 0)), (some 12), none⟩,
  ⟨(.mov (.k (.int .i64 0))), (some 13), none⟩]
def c9_5 : List CO := [⟨(.bin .lss (.var 13) (.var 12)), (some 14), none⟩]
def c9_6 : List CO := [⟨(.mov (.var 13)), none, none⟩,
  ⟨(.mov (.loc 0)), (some 5), none⟩]
def c9_7 : List CO := [⟨(.mov (.var 4)), none, none⟩,
  ⟨(.nilchk (.loc 0)), none, none⟩,
  ⟨(.fa 4 (.loc 0)), none, none⟩,
  ⟨(.load false 1 (.loc 0)), none, none⟩,
  ⟨(.mov (.var 5)), none, none⟩,
  ⟨(.mapupd (.int .i64) (.loc 1) (.loc 0) (.k (.bool true))), none, none⟩]
def c9_8 : List CO := [⟨(.bin .add (.var 13) (.k (.int .i64 1))), none, none⟩,
  ⟨(.mov (.loc 0)), (some 13), none⟩]
def c9_9 : CC := (.seq (.region [] [] c9_5) (.seq (.cond (.var 14) .skip (.exit 0)) (.seq (.block 1 (.seq (.region [] [] c9_6) (.region [] [] c9_7))) (.region [] [] c9_8))))
def c9_10 : List CO := [⟨(.fa 3 (.var 1)), none, none⟩,
  ⟨(.load false 1 (.loc 0)), (some 15), none⟩,
  ⟨(.len .slice (.var 15)), (some 16), none⟩,
  ⟨(.mov (.k (.int .i64 0))), (some 17), none⟩]
def c9_11 : List CO := [⟨(.bin .lss (.var 17) (.var 16)), (some 18), none⟩]
def c9_12 : List CO := [⟨(.mov (.var 17)), none, none⟩,
  ⟨(.ia 5 (.var 15) (.var 17)), none, none⟩,
  ⟨(.load true 5 (.loc 0)), none, none⟩,
  ⟨(.box (.k (.agg #[(.int .i64 0), (.int .i64 0), (.int .i64 0), (.string ⟨#[]⟩), (.int .i64 0)]))), (some 7), none⟩,
  ⟨(.mov (.loc 3)), (some 6), none⟩,
  ⟨(.store 5 (.var 7) (.loc 2)), none, none⟩]
def c9_13 : List CO := [⟨(.fa 0 (.var 7)), none, none⟩,
  ⟨(.load false 1 (.loc 0)), none, none⟩,
  ⟨(.call true 15 [(.loc 0)]), none, none⟩,
  ⟨(.mov (.loc 0)), none, none⟩,
  ⟨(.extract (.loc 0) 0), none, none⟩,
  ⟨(.extract (.loc 1) 1), none, none⟩,
  ⟨(.extract (.loc 2) 2), none, none⟩,
  ⟨(.mov (.loc 2)), (some 8), none⟩,
  ⟨(.mov (.loc 2)), (some 9), none⟩,
  ⟨(.mov (.loc 2)), (some 10), none⟩]
def c9_14 : List CO := [⟨(.mov (.var 10)), none, none⟩,
  ⟨(.un .not (.loc 0)), none, none⟩,
  ⟨(.mov (.loc 0)), none, none⟩,
  ⟨(.mov (.var 4)), none, (some ((.loc 0), false))⟩,
  ⟨(.nilchk (.loc 0)), none, (some ((.loc 1), false))⟩,
  ⟨(.fa 10 (.loc 0)), none, (some ((.loc 2), false))⟩,
  ⟨(.load false 1 (.loc 0)), none, (some ((.loc 3), false))⟩,
  ⟨(.pick (.loc 4) (.k (.bool true)) (.loc 0)), none, none⟩,
  ⟨(.mov (.loc 0)), none, none⟩,
  ⟨(.fa 3 (.var 7)), none, (some ((.loc 0), false))⟩,
  ⟨(.load false 1 (.loc 0)), none, (some ((.loc 1), false))⟩,
  ⟨(.call true 14 [(.loc 0)]), none, (some ((.loc 2), false))⟩,
  ⟨(.un .not (.loc 0)), none, (some ((.loc 3), false))⟩,
  ⟨(.pick (.loc 4) (.k (.bool true)) (.loc 0)), none, none⟩,
  ⟨(.mov (.loc 0)), none, none⟩,
  ⟨(.mov (.var 4)), none, (some ((.loc 0), false))⟩,
  ⟨(.mov (.var 8)), none, (some ((.loc 1), false))⟩,
  ⟨(.mov (.var 9)), none, (some ((.loc 2), false))⟩,
  ⟨(.load true 5 (.var 7)), none, (some ((.loc 3), false))⟩,
  ⟨(.call false 16 [(.loc 3), (.loc 2), (.loc 1), (.loc 0)]), none, (some ((.loc 4), false))⟩,
  ⟨(.un .not (.loc 0)), none, (some ((.loc 5), false))⟩,
  ⟨(.pick (.loc 6) (.k (.bool true)) (.loc 0)), none, none⟩,
  ⟨(.mov (.loc 0)), none, none⟩,
  ⟨(.mov (.var 4)), none, (some ((.loc 0), false))⟩,
  ⟨(.mov (.var 8)), none, (some ((.loc 1), false))⟩,
  ⟨(.mov (.var 9)), none, (some ((.loc 2), false))⟩,
  ⟨(.load true 5 (.var 7)), none, (some ((.loc 3), false))⟩,
  ⟨(.call false 17 [(.loc 3), (.loc 2), (.loc 1), (.loc 0)]), none, (some ((.loc 4), false))⟩,
  ⟨(.un .not (.loc 0)), none, (some ((.loc 5), false))⟩,
  ⟨(.pick (.loc 6) (.k (.bool true)) (.loc 0)), (some 19), none⟩]
def c9_15 : List CO := [⟨(.mov (.var 6)), none, none⟩,
  ⟨(.mov (.loc 0)), (some 2), none⟩,
  ⟨(.mov (.k (.int .i64 150))), (some 3), none⟩]
def c9_16 : List CO := [⟨(.mov (.var 4)), none, none⟩,
  ⟨(.mov (.var 8)), none, none⟩,
  ⟨(.mov (.var 9)), none, none⟩,
  ⟨(.load true 5 (.var 7)), none, none⟩,
  ⟨(.call false 18 [(.loc 3), (.loc 2), (.loc 1), (.loc 0)]), none, none⟩]
def c9_17 : List CO := [⟨(.bin .add (.var 17) (.k (.int .i64 1))), none, none⟩,
  ⟨(.mov (.loc 0)), (some 17), none⟩]
def c9_18 : CC := (.seq (.region [] [] c9_11) (.seq (.cond (.var 18) .skip (.exit 2)) (.seq (.block 3 (.seq (.region [] [] c9_12) (.seq (.region [] [] c9_13) (.seq (.seq (.region [] [] c9_14) (.cond (.var 19) (.seq (.region [] [] c9_15) .ret) .skip)) (.region [] [] c9_16))))) (.region [] [] c9_17))))
def c9_19 : List CO := [⟨(.mov (.var 4)), none, none⟩,
  ⟨(.nilchk (.loc 0)), none, none⟩,
  ⟨(.fa 10 (.loc 0)), none, none⟩,
  ⟨(.load false 1 (.loc 0)), none, none⟩,
  ⟨(.un .not (.loc 0)), (some 20), none⟩]
def c9_20 : List CO := [⟨(.fa 3 (.var 1)), none, none⟩,
  ⟨(.load false 1 (.loc 0)), none, none⟩,
  ⟨(.len .slice (.loc 0)), none, none⟩,
  ⟨(.mov (.loc 0)), (some 2), none⟩,
  ⟨(.mov (.k (.int .i64 150))), (some 3), none⟩]
def c9_21 : List CO := [⟨(.mov (.k (.int .i64 0))), (some 2), none⟩,
  ⟨(.mov (.k (.int .i64 0))), (some 3), none⟩]
def c9 : CFun := ⟨1, 21, (.seq (.region [] [] c9_0) (.seq (.seq (.region [] [] c9_1) (.cond (.var 11) (.seq (.region [] [] c9_2) .ret) .skip)) (.seq (.region [] [] c9_3) (.seq (.seq (.region [] [] c9_4) (.block 0 (.loop [false, true, false, false, true, false, false, false, false, false, false, false, true, true, false, false, false, false, false, false, false] [] c9_9))) (.seq (.seq (.region [] [] c9_10) (.block 2 (.loop [false, true, false, false, true, false, false, false, false, false, false, false, false, false, false, true, true, true, false, false, false] [] c9_18))) (.seq (.seq (.region [] [] c9_19) (.cond (.var 20) (.seq (.region [] [] c9_20) .ret) .skip)) (.seq (.region [] [] c9_21) .ret))))))), [.var 2, .var 3]⟩
theorem ok9 : CodeOk Tryd.prog T 9 c9 := ⟨⟨Tryd.f9, Hints.of [] [] [(0, [false, true, false, false, true, false, false, false, false, false, false, false, true, true, false, false, false, false, false, false, false], []), (2, [false, true, false, false, true, false, false, false, false, false, false, false, false, false, false, true, true, true, false, false, false], [])], [0, 1, 2, 3, 4, 5, 6, 7, 8, 9, 10, 29, 36, 37, 38, 47, 48, 49, 50, 90, 102], Tryd.func9, by kernel_rfl, by kernel_rfl⟩⟩

/-! spinney/char.Check -/
def c14_0 : List CO := [⟨(.mov (.k (.bool false))), (some 1), none⟩]
def c14_1 : List CO := [⟨(.mov (.var 0)), none, none⟩,
  ⟨(.len .string (.loc 0)), none, none⟩,
  ⟨(.bin .leq (.loc 0) (.k (.int .i64 255))), none, none⟩,
  ⟨(.mov (.loc 0)), none, none⟩,
  ⟨(.mov (.var 0)), none, (some ((.loc 0), true))⟩,
  ⟨(.call true 34 [(.loc 0)]), none, (some ((.loc 1), true))⟩,
  ⟨(.pick (.loc 2) (.loc 0) (.k (.bool false))), none, none⟩,
  ⟨(.mov (.loc 0)), (some 1), none⟩]
def c14 : CFun := ⟨1, 2, (.seq (.region [] [] c14_0) (.seq (.region [] [] c14_1) .ret)), [.var 1]⟩
theorem ok14 : CodeOk Tryd.prog T 14 c14 := ⟨⟨Tryd.f14, Hints.of [] [] [], [0, 2], Tryd.func14, by kernel_rfl, by kernel_rfl⟩⟩

/-! spinney/valid.row -/
def c15_0 : List CO := [⟨(.mov (.k (.int .i64 0))), (some 1), none⟩,
  ⟨(.mov (.k (.int .i64 0))), (some 2), none⟩,
  ⟨(.mov (.k (.bool false))), (some 3), none⟩]
def c15_1 : List CO := [⟨(.mov (.var 0)), none, none⟩,
  ⟨(.bin .lss (.loc 0) (.k (.int .i64 1))), none, none⟩,
  ⟨(.mov (.loc 0)), none, none⟩,
  ⟨(.mov (.var 0)), none, (some ((.loc 0), false))⟩,
  ⟨(.bin .gtr (.loc 0) (.k (.int .i64 23))), none, (some ((.loc 1), false))⟩,
  ⟨(.pick (.loc 2) (.k (.bool true)) (.loc 0)), (some 4), none⟩]
def c15_2 : List CO := [⟨(.mov (.k (.int .i64 0))), (some 1), none⟩,
  ⟨(.mov (.k (.int .i64 0))), (some 2), none⟩,
  ⟨(.mov (.k (.bool false))), (some 3), none⟩]
def c15_3 : List CO := [⟨(.mov (.var 0)), none, none⟩,
  ⟨(.bin .geq (.loc 0) (.k (.int .i64 21))), (some 5), none⟩]
def c15_4 : List CO := [⟨(.mov (.var 0)), none, none⟩,
  ⟨(.bin .sub (.loc 0) (.k (.int .i64 21))), none, none⟩,
  ⟨(.mov (.k (.int .i64 4))), (some 1), none⟩,
  ⟨(.mov (.loc 1)), (some 2), none⟩,
  ⟨(.mov (.k (.bool true))), (some 3), none⟩]
def c15_5 : List CO := [⟨(.mov (.var 0)), none, none⟩,
  ⟨(.bin .sub (.loc 0) (.k (.int .i64 1))), none, none⟩,
  ⟨(.bin .quo (.loc 0) (.k (.int .i64 5))), none, none⟩,
  ⟨(.mov (.var 0)), none, none⟩,
  ⟨(.bin .sub (.loc 0) (.k (.int .i64 1))), none, none⟩,
  ⟨(.bin .rem (.loc 0) (.k (.int .i64 5))), none, none⟩,
  ⟨(.mov (.loc 3)), (some 1), none⟩,
  ⟨(.mov (.loc 1)), (some 2), none⟩,
  ⟨(.mov (.k (.bool true))), (some 3), none⟩]
def c15 : CFun := ⟨1, 6, (.seq (.region [] [] c15_0) (.seq (.seq (.region [] [] c15_1) (.cond (.var 4) (.seq (.region [] [] c15_2) .ret) .skip)) (.seq (.seq (.region [] [] c15_3) (.cond (.var 5) (.seq (.region [] [] c15_4) .ret) .skip)) (.seq (.region [] [] c15_5) .ret)))), [.var 1, .var 2, .var 3]⟩
theorem ok15 : CodeOk Tryd.prog T 15 c15 := ⟨⟨Tryd.f15, Hints.of [] [] [], [0, 2, 3, 4, 10, 12], Tryd.func15, by kernel_rfl, by kernel_rfl⟩⟩

/-! (*spinney/valid.state).stands -/
def c16_0 : List CO := [⟨(.box (.var 3)), (some 4), none⟩,
  ⟨(.mov (.k (.bool false))), (some 5), none⟩]
def c16_1 : List CO := [⟨(.mov (.var 1)), (some 6), none⟩]
def c16_2 : List CO := [⟨(.bin .eql (.var 6) (.k (.int .i64 0))), none, none⟩,
  ⟨(.mov (.loc 0)), (some 7), none⟩]
def c16_3 : List CO := [⟨(.mov (.var 0)), none, none⟩,
  ⟨(.nilchk (.loc 0)), none, none⟩,
  ⟨(.fa 9 (.loc 0)), none, none⟩,
  ⟨(.load false 1 (.loc 0)), none, none⟩,
  ⟨(.mov (.loc 0)), none, none⟩,
  ⟨(.mov (.var 0)), none, (some ((.loc 0), true))⟩,
  ⟨(.nilchk (.loc 0)), none, (some ((.loc 1), true))⟩,
  ⟨(.fa 6 (.loc 0)), none, (some ((.loc 2), true))⟩,
  ⟨(.load false 1 (.loc 0)), none, (some ((.loc 3), true))⟩,
  ⟨(.bin .eql (.loc 0) (.k (.int .i64 0))), none, (some ((.loc 4), true))⟩,
  ⟨(.pick (.loc 5) (.loc 0) (.k (.bool false))), none, none⟩,
  ⟨(.mov (.loc 0)), none, none⟩,
  ⟨(.mov (.var 0)), none, (some ((.loc 0), true))⟩,
  ⟨(.nilchk (.loc 0)), none, (some ((.loc 1), true))⟩,
  ⟨(.fa 4 (.loc 0)), none, (some ((.loc 2), true))⟩,
  ⟨(.load false 1 (.loc 0)), none, (some ((.loc 3), true))⟩,
  ⟨(.fa 1 (.var 4)), none, (some ((.loc 4), true))⟩,
  ⟨(.load false 1 (.loc 0)), none, (some ((.loc 5), true))⟩,
  ⟨(.lookup (.int .i64) (.bool false) false (.loc 2) (.loc 0)), none, (some ((.loc 6), true))⟩,
  ⟨(.pick (.loc 7) (.loc 0) (.k (.bool false))), none, none⟩,
  ⟨(.mov (.loc 0)), (some 5), none⟩]
def c16_4 : List CO := [⟨(.bin .eql (.var 6) (.k (.int .i64 1))), none, none⟩,
  ⟨(.mov (.loc 0)), (some 8), none⟩]
def c16_5 : List CO := [⟨(.bin .eql (.var 6) (.k (.int .i64 3))), none, none⟩,
  ⟨(.mov (.loc 0)), (some 8), none⟩]
def c16_6 : List CO := [⟨(.mov (.var 0)), none, none⟩,
  ⟨(.nilchk (.loc 0)), none, none⟩,
  ⟨(.fa 6 (.loc 0)), none, none⟩,
  ⟨(.load false 1 (.loc 0)), none, none⟩,
  ⟨(.bin .gtr (.loc 0) (.k (.int .i64 0))), none, none⟩,
  ⟨(.mov (.loc 0)), none, none⟩,
  ⟨(.mov (.var 0)), none, (some ((.loc 0), true))⟩,
  ⟨(.nilchk (.loc 0)), none, (some ((.loc 1), true))⟩,
  ⟨(.fa 7 (.loc 0)), none, (some ((.loc 2), true))⟩,
  ⟨(.load false 1 (.loc 0)), none, (some ((.loc 3), true))⟩,
  ⟨(.mov (.var 1)), none, (some ((.loc 4), true))⟩,
  ⟨(.bin .sub (.loc 0) (.k (.int .i64 1))), none, (some ((.loc 5), true))⟩,
  ⟨(.bin .eql (.loc 2) (.loc 0)), none, (some ((.loc 6), true))⟩,
  ⟨(.pick (.loc 7) (.loc 0) (.k (.bool false))), none, none⟩,
  ⟨(.mov (.loc 0)), (some 5), none⟩]
def c16_7 : List CO := [⟨(.bin .eql (.var 6) (.k (.int .i64 2))), none, none⟩,
  ⟨(.mov (.loc 0)), (some 9), none⟩]
def c16_8 : List CO := [⟨(.mov (.var 0)), none, none⟩,
  ⟨(.nilchk (.loc 0)), none, none⟩,
  ⟨(.fa 6 (.loc 0)), none, none⟩,
  ⟨(.load false 1 (.loc 0)), none, none⟩,
  ⟨(.bin .eql (.loc 0) (.k (.int .i64 0))), none, none⟩,
  ⟨(.mov (.loc 0)), none, none⟩,
  ⟨(.fa 1 (.var 4)), none, (some ((.loc 0), true))⟩,
  ⟨(.load false 1 (.loc 0)), none, (some ((.loc 1), true))⟩,
  ⟨(.bin .geq (.loc 0) (.k (.int .i64 0))), none, (some ((.loc 2), true))⟩,
  ⟨(.pick (.loc 3) (.loc 0) (.k (.bool false))), none, none⟩,
  ⟨(.mov (.loc 0)), none, none⟩,
  ⟨(.fa 1 (.var 4)), none, (some ((.loc 0), true))⟩,
  ⟨(.load false 1 (.loc 0)), none, (some ((.loc 1), true))⟩,
  ⟨(.bin .lss (.loc 0) (.k (.int .i64 16))), none, (some ((.loc 2), true))⟩,
  ⟨(.mov (.loc 0)), none, (some ((.loc 3), true))⟩,
  ⟨(.mov (.var 2)), none, (some ((.loc 0), false))⟩,
  ⟨(.bin .eql (.loc 0) (.k (.int .i64 4))), none, (some ((.loc 1), false))⟩,
  ⟨(.pick (.loc 2) (.k (.bool true)) (.loc 0)), none, (some ((.loc 6), true))⟩,
  ⟨(.pick (.loc 7) (.loc 0) (.k (.bool false))), none, none⟩,
  ⟨(.mov (.loc 0)), none, none⟩,
  ⟨(.mov (.var 0)), none, (some ((.loc 0), true))⟩,
  ⟨(.nilchk (.loc 0)), none, (some ((.loc 1), true))⟩,
  ⟨(.fa 9 (.loc 0)), none, (some ((.loc 2), true))⟩,
  ⟨(.load false 1 (.loc 0)), none, (some ((.loc 3), true))⟩,
  ⟨(.mov (.loc 0)), none, (some ((.loc 4), true))⟩,
  ⟨(.mov (.var 0)), none, (some ((.loc 0), false))⟩,
  ⟨(.nilchk (.loc 0)), none, (some ((.loc 1), false))⟩,
  ⟨(.fa 4 (.loc 0)), none, (some ((.loc 2), false))⟩,
  ⟨(.load false 1 (.loc 0)), none, (some ((.loc 3), false))⟩,
  ⟨(.fa 1 (.var 4)), none, (some ((.loc 4), false))⟩,
  ⟨(.load false 1 (.loc 0)), none, (some ((.loc 5), false))⟩,
  ⟨(.lookup (.int .i64) (.bool false) false (.loc 2) (.loc 0)), none, (some ((.loc 6), false))⟩,
  ⟨(.un .not (.loc 0)), none, (some ((.loc 7), false))⟩,
  ⟨(.pick (.loc 8) (.k (.bool true)) (.loc 0)), none, (some ((.loc 13), true))⟩,
  ⟨(.pick (.loc 14) (.loc 0) (.k (.bool false))), none, none⟩,
  ⟨(.mov (.loc 0)), (some 5), none⟩]
def c16_9 : List CO := [⟨(.mov (.var 0)), none, none⟩,
  ⟨(.nilchk (.loc 0)), none, none⟩,
  ⟨(.fa 6 (.loc 0)), none, none⟩,
  ⟨(.load false 1 (.loc 0)), none, none⟩,
  ⟨(.bin .eql (.loc 0) (.k (.int .i64 0))), none, none⟩,
  ⟨(.mov (.loc 0)), (some 5), none⟩]
def c16 : CFun := ⟨4, 10, (.seq (.region [] [] c16_0) (.seq (.seq (.region [] [] c16_1) (.block 0 (.seq (.region [] [] c16_2) (.cond (.var 7) (.seq (.region [] [] c16_3) .ret) (.seq (.seq (.region [] [] c16_4) (.cond (.var 8) .skip (.region [] [] c16_5))) (.cond (.var 8) (.seq (.region [] [] c16_6) .ret) (.seq (.region [] [] c16_7) (.cond (.var 9) (.seq (.region [] [] c16_8) .ret) .skip)))))))) (.seq (.region [] [] c16_9) .ret))), [.var 5]⟩
theorem ok16 : CodeOk Tryd.prog T 16 c16 := ⟨⟨Tryd.f16, Hints.of [] [] [], [0, 1, 2, 3, 7, 8, 9, 10, 32, 49], Tryd.func16, by kernel_rfl, by kernel_rfl⟩⟩

/-! (*spinney/valid.state).whole -/
def c17_0 : List CO := [⟨(.box (.var 3)), (some 4), none⟩,
  ⟨(.mov (.k (.bool false))), (some 5), none⟩]
def c17_1 : List CO := [⟨(.mov (.var 1)), none, none⟩,
  ⟨(.bin .eql (.loc 0) (.k (.int .i64 4))), none, none⟩,
  ⟨(.mov (.loc 0)), none, none⟩,
  ⟨(.fa 0 (.var 4)), none, (some ((.loc 0), true))⟩,
  ⟨(.load false 1 (.loc 0)), none, (some ((.loc 1), true))⟩,
  ⟨(.bin .eql (.loc 0) (.k (.int .i64 21))), none, (some ((.loc 2), true))⟩,
  ⟨(.pick (.loc 3) (.loc 0) (.k (.bool false))), none, none⟩,
  ⟨(.mov (.loc 0)), (some 7), none⟩]
def c17_2 : List CO := [⟨(.fa 4 (.var 4)), none, none⟩,
  ⟨(.load false 1 (.loc 0)), none, none⟩,
  ⟨(.bin .lss (.loc 0) (.k (.int .i64 0))), none, none⟩,
  ⟨(.mov (.loc 0)), none, none⟩,
  ⟨(.fa 4 (.var 4)), none, (some ((.loc 0), false))⟩,
  ⟨(.load false 1 (.loc 0)), none, (some ((.loc 1), false))⟩,
  ⟨(.bin .gtr (.loc 0) (.k (.int .i64 16))), none, (some ((.loc 2), false))⟩,
  ⟨(.pick (.loc 3) (.k (.bool true)) (.loc 0)), none, none⟩,
  ⟨(.mov (.loc 0)), none, none⟩,
  ⟨(.mov (.var 0)), none, (some ((.loc 0), false))⟩,
  ⟨(.nilchk (.loc 0)), none, (some ((.loc 1), false))⟩,
  ⟨(.fa 9 (.loc 0)), none, (some ((.loc 2), false))⟩,
  ⟨(.load false 1 (.loc 0)), none, (some ((.loc 3), false))⟩,
  ⟨(.mov (.loc 0)), none, (some ((.loc 4), false))⟩,
  ⟨(.fa 4 (.var 4)), none, (some ((.loc 0), true))⟩,
  ⟨(.load false 1 (.loc 0)), none, (some ((.loc 1), true))⟩,
  ⟨(.bin .gtr (.loc 0) (.k (.int .i64 0))), none, (some ((.loc 2), true))⟩,
  ⟨(.pick (.loc 3) (.loc 0) (.k (.bool false))), none, (some ((.loc 8), false))⟩,
  ⟨(.pick (.loc 9) (.k (.bool true)) (.loc 0)), (some 8), none⟩]
def c17_3 : List CO := [⟨(.mov (.k (.bool false))), (some 5), none⟩]
def c17_4 : List CO := [⟨(.fa 4 (.var 4)), none, none⟩,
  ⟨(.load false 1 (.loc 0)), (some 9), none⟩,
  ⟨(.mov (.k (.int .i64 0))), (some 10), none⟩]
def c17_5 : List CO := [⟨(.bin .lss (.var 10) (.var 9)), (some 11), none⟩]
def c17_6 : List CO := [⟨(.mov (.var 10)), none, none⟩,
  ⟨(.mov (.loc 0)), (some 6), none⟩]
def c17_7 : List CO := [⟨(.mov (.var 0)), none, none⟩,
  ⟨(.nilchk (.loc 0)), none, none⟩,
  ⟨(.fa 4 (.loc 0)), none, none⟩,
  ⟨(.load false 1 (.loc 0)), none, none⟩,
  ⟨(.mov (.var 6)), none, none⟩,
  ⟨(.lookup (.int .i64) (.bool false) false (.loc 1) (.loc 0)), none, none⟩,
  ⟨(.un .not (.loc 0)), (some 12), none⟩]
def c17_8 : List CO := [⟨(.mov (.k (.bool false))), (some 5), none⟩]
def c17_9 : List CO := [⟨(.bin .add (.var 10) (.k (.int .i64 1))), none, none⟩,
  ⟨(.mov (.loc 0)), (some 10), none⟩]
def c17_10 : CC := (.seq (.region [] [] c17_5) (.seq (.cond (.var 11) .skip (.exit 1)) (.seq (.block 2 (.seq (.region [] [] c17_6) (.seq (.region [] [] c17_7) (.cond (.var 12) (.seq (.region [] [] c17_8) .ret) .skip)))) (.region [] [] c17_9))))
def c17_11 : List CO := [⟨(.mov (.var 1)), none, none⟩,
  ⟨(.bin .eql (.loc 0) (.k (.int .i64 4))), none, none⟩,
  ⟨(.mov (.loc 0)), (some 13), none⟩]
def c17_12 : List CO := [⟨(.mov (.var 2)), none, none⟩,
  ⟨(.bin .eql (.loc 0) (.k (.int .i64 2))), none, none⟩,
  ⟨(.mov (.loc 0)), (some 13), none⟩]
def c17_13 : List CO := [⟨(.mov (.var 2)), none, none⟩,
  ⟨(.bin .eql (.loc 0) (.k (.int .i64 3))), none, none⟩,
  ⟨(.mov (.loc 0)), (some 13), none⟩]
def c17_14 : List CO := [⟨(.mov (.var 2)), none, none⟩,
  ⟨(.bin .eql (.loc 0) (.k (.int .i64 0))), none, none⟩,
  ⟨(.mov (.loc 0)), (some 14), none⟩]
def c17_15 : List CO := [⟨(.fa 2 (.var 4)), none, none⟩,
  ⟨(.load false 1 (.loc 0)), none, none⟩,
  ⟨(.bin .geq (.loc 0) (.k (.int .i64 0))), none, none⟩,
  ⟨(.mov (.loc 0)), none, none⟩,
  ⟨(.fa 2 (.var 4)), none, (some ((.loc 0), true))⟩,
  ⟨(.load false 1 (.loc 0)), none, (some ((.loc 1), true))⟩,
  ⟨(.mov (.var 0)), none, (some ((.loc 2), true))⟩,
  ⟨(.nilchk (.loc 0)), none, (some ((.loc 3), true))⟩,
  ⟨(.fa 0 (.loc 0)), none, (some ((.loc 4), true))⟩,
  ⟨(.fa 2 (.loc 0)), none, (some ((.loc 5), true))⟩,
  ⟨(.load false 1 (.loc 0)), none, (some ((.loc 6), true))⟩,
  ⟨(.bin .lss (.loc 5) (.loc 0)), none, (some ((.loc 7), true))⟩,
  ⟨(.pick (.loc 8) (.loc 0) (.k (.bool false))), none, none⟩,
  ⟨(.mov (.loc 0)), none, none⟩,
  ⟨(.mov (.var 0)), none, (some ((.loc 0), true))⟩,
  ⟨(.nilchk (.loc 0)), none, (some ((.loc 1), true))⟩,
  ⟨(.fa 5 (.loc 0)), none, (some ((.loc 2), true))⟩,
  ⟨(.load false 1 (.loc 0)), none, (some ((.loc 3), true))⟩,
  ⟨(.fa 2 (.var 4)), none, (some ((.loc 4), true))⟩,
  ⟨(.load false 1 (.loc 0)), none, (some ((.loc 5), true))⟩,
  ⟨(.lookup (.int .i64) (.bool false) false (.loc 2) (.loc 0)), none, (some ((.loc 6), true))⟩,
  ⟨(.un .not (.loc 0)), none, (some ((.loc 7), true))⟩,
  ⟨(.pick (.loc 8) (.loc 0) (.k (.bool false))), none, none⟩,
  ⟨(.mov (.loc 0)), (some 5), none⟩]
def c17_16 : List CO := [⟨(.mov (.var 2)), none, none⟩,
  ⟨(.bin .eql (.loc 0) (.k (.int .i64 1))), none, none⟩,
  ⟨(.mov (.loc 0)), (some 15), none⟩]
def c17_17 : List CO := [⟨(.mov (.var 0)), none, none⟩,
  ⟨(.nilchk (.loc 0)), none, none⟩,
  ⟨(.fa 5 (.loc 0)), none, none⟩,
  ⟨(.load false 1 (.loc 0)), none, none⟩,
  ⟨(.fa 2 (.var 4)), none, none⟩,
  ⟨(.load false 1 (.loc 0)), none, none⟩,
  ⟨(.lookup (.int .i64) (.bool false) false (.loc 2) (.loc 0)), none, none⟩,
  ⟨(.mov (.loc 0)), (some 5), none⟩]
def c17_18 : List CO := [⟨(.mov (.var 1)), none, none⟩,
  ⟨(.bin .eql (.loc 0) (.k (.int .i64 0))), none, none⟩,
  ⟨(.mov (.loc 0)), (some 16), none⟩]
def c17_19 : List CO := [⟨(.mov (.var 1)), none, none⟩,
  ⟨(.bin .eql (.loc 0) (.k (.int .i64 2))), none, none⟩,
  ⟨(.mov (.loc 0)), (some 16), none⟩]
def c17_20 : List CO := [⟨(.fa 4 (.var 4)), none, none⟩,
  ⟨(.load false 1 (.loc 0)), none, none⟩,
  ⟨(.bin .geq (.loc 0) (.k (.int .i64 1))), none, none⟩,
  ⟨(.mov (.loc 0)), none, none⟩,
  ⟨(.fa 4 (.var 4)), none, (some ((.loc 0), true))⟩,
  ⟨(.load false 1 (.loc 0)), none, (some ((.loc 1), true))⟩,
  ⟨(.bin .leq (.loc 0) (.k (.int .i64 16))), none, (some ((.loc 2), true))⟩,
  ⟨(.pick (.loc 3) (.loc 0) (.k (.bool false))), none, none⟩,
  ⟨(.mov (.loc 0)), (some 5), none⟩]
def c17_21 : List CO := [⟨(.fa 2 (.var 4)), none, none⟩,
  ⟨(.load false 1 (.loc 0)), none, none⟩,
  ⟨(.bin .geq (.loc 0) (.k (.int .i64 16))), none, none⟩,
  ⟨(.mov (.loc 0)), none, none⟩,
  ⟨(.mov (.var 0)), none, (some ((.loc 0), true))⟩,
  ⟨(.nilchk (.loc 0)), none, (some ((.loc 1), true))⟩,
  ⟨(.fa 4 (.loc 0)), none, (some ((.loc 2), true))⟩,
  ⟨(.load false 1 (.loc 0)), none, (some ((.loc 3), true))⟩,
  ⟨(.fa 2 (.var 4)), none, (some ((.loc 4), true))⟩,
  ⟨(.load false 1 (.loc 0)), none, (some ((.loc 5), true))⟩,
  ⟨(.lookup (.int .i64) (.bool false) false (.loc 2) (.loc 0)), none, (some ((.loc 6), true))⟩,
  ⟨(.mov (.var 1)), none, (some ((.loc 7), true))⟩,
  ⟨(.bin .eql (.loc 0) (.k (.int .i64 3))), none, (some ((.loc 8), true))⟩,
  ⟨(.eqv .bool false (.loc 2) (.loc 0)), none, (some ((.loc 9), true))⟩,
  ⟨(.pick (.loc 10) (.loc 0) (.k (.bool false))), none, none⟩,
  ⟨(.mov (.loc 0)), (some 5), none⟩]
def c17_22 : List CO := [⟨(.mov (.k (.bool true))), (some 5), none⟩]
def c17 : CFun := ⟨4, 17, (.seq (.region [] [] c17_0) (.seq (.block 0 (.seq (.region [] [] c17_1) (.cond (.var 7) (.seq (.seq (.region [] [] c17_2) (.cond (.var 8) (.seq (.region [] [] c17_3) .ret) .skip)) (.seq (.region [] [] c17_4) (.block 1 (.loop [true, false, false, false, false, false, false, false, false, true, true, false, false, false, false, false, false] [] c17_10)))) (.seq (.seq (.region [] [] c17_11) (.cond (.var 13) .skip (.seq (.region [] [] c17_12) (.cond (.var 13) .skip (.region [] [] c17_13))))) (.cond (.var 13) .skip (.seq (.region [] [] c17_14) (.cond (.var 14) (.seq (.region [] [] c17_15) .ret) (.seq (.region [] [] c17_16) (.cond (.var 15) (.seq (.region [] [] c17_17) .ret) (.seq (.seq (.region [] [] c17_18) (.cond (.var 16) .skip (.region [] [] c17_19))) (.cond (.var 16) (.seq (.region [] [] c17_20) .ret) (.seq (.region [] [] c17_21) .ret)))))))))))) (.seq (.region [] [] c17_22) .ret))), [.var 5]⟩
theorem ok17 : CodeOk Tryd.prog T 17 c17 := ⟨⟨Tryd.f17, Hints.of [] [] [(1, [true, false, false, false, false, false, false, false, false, true, true, false, false, false, false, false, false], [])], [0, 1, 2, 3, 7, 8, 9, 25, 51, 53, 54, 55, 63, 65, 72, 98, 108], Tryd.func17, by kernel_rfl, by kernel_rfl⟩⟩

/-! (*spinney/valid.state).does -/
def c18_0 : List CO := [⟨(.box (.var 3)), (some 4), none⟩]
def c18_1 : List CO := [⟨(.mov (.var 0)), none, none⟩,
  ⟨(.nilchk (.loc 0)), none, none⟩,
  ⟨(.fa 9 (.loc 0)), none, none⟩,
  ⟨(.load false 1 (.loc 0)), none, none⟩,
  ⟨(.mov (.loc 0)), none, none⟩,
  ⟨(.mov (.var 1)), none, (some ((.loc 0), true))⟩,
  ⟨(.bin .eql (.loc 0) (.k (.int .i64 2))), none, (some ((.loc 1), true))⟩,
  ⟨(.mov (.loc 0)), none, (some ((.loc 2), true))⟩,
  ⟨(.mov (.var 1)), none, (some ((.loc 0), false))⟩,
  ⟨(.bin .eql (.loc 0) (.k (.int .i64 4))), none, (some ((.loc 1), false))⟩,
  ⟨(.mov (.loc 0)), none, (some ((.loc 2), false))⟩,
  ⟨(.fa 0 (.var 4)), none, (some ((.loc 0), true))⟩,
  ⟨(.load false 1 (.loc 0)), none, (some ((.loc 1), true))⟩,
  ⟨(.bin .neq (.loc 0) (.k (.int .i64 23))), none, (some ((.loc 2), true))⟩,
  ⟨(.pick (.loc 3) (.loc 0) (.k (.bool false))), none, (some ((.loc 6), false))⟩,
  ⟨(.pick (.loc 7) (.k (.bool true)) (.loc 0)), none, (some ((.loc 10), true))⟩,
  ⟨(.pick (.loc 11) (.loc 0) (.k (.bool false))), (some 5), none⟩]
def c18_2 : List CO := [⟨(.mov (.var 0)), none, none⟩,
  ⟨(.nilchk (.loc 0)), none, none⟩,
  ⟨(.fa 9 (.loc 0)), none, none⟩,
  ⟨(.store 1 (.loc 0) (.k (.bool false))), none, none⟩]
def c18_3 : List CO := [⟨(.mov (.var 0)), none, none⟩,
  ⟨(.nilchk (.loc 0)), none, none⟩,
  ⟨(.fa 4 (.loc 0)), none, none⟩,
  ⟨(.load false 1 (.loc 0)), none, none⟩,
  ⟨(.clrmap (.loc 0)), none, none⟩]
def c18_4 : List CO := [⟨(.mov (.var 1)), none, none⟩,
  ⟨(.bin .eql (.loc 0) (.k (.int .i64 4))), none, none⟩,
  ⟨(.mov (.loc 0)), (some 6), none⟩]
def c18_5 : List CO := [⟨(.fa 0 (.var 4)), none, none⟩,
  ⟨(.load false 1 (.loc 0)), none, none⟩,
  ⟨(.bin .eql (.loc 0) (.k (.int .i64 21))), (some 7), none⟩]
def c18_6 : List CO := [⟨(.mov (.var 0)), none, none⟩,
  ⟨(.nilchk (.loc 0)), none, none⟩,
  ⟨(.fa 4 (.loc 0)), none, none⟩,
  ⟨(.load false 1 (.loc 0)), none, none⟩,
  ⟨(.clrmap (.loc 0)), none, none⟩]
def c18_7 : List CO := [⟨(.mov (.var 0)), none, none⟩,
  ⟨(.fa 0 (.var 4)), none, none⟩,
  ⟨(.load false 1 (.loc 0)), none, none⟩,
  ⟨(.bin .eql (.loc 0) (.k (.int .i64 23))), none, none⟩,
  ⟨(.nilchk (.loc 3)), none, none⟩,
  ⟨(.fa 10 (.loc 0)), none, none⟩,
  ⟨(.store 1 (.loc 0) (.loc 2)), none, none⟩]
def c18_8 : List CO := [⟨(.mov (.var 2)), none, none⟩,
  ⟨(.bin .eql (.loc 0) (.k (.int .i64 0))), none, none⟩,
  ⟨(.mov (.loc 0)), (some 8), none⟩]
def c18_9 : List CO := [⟨(.mov (.var 0)), none, none⟩,
  ⟨(.nilchk (.loc 0)), none, none⟩,
  ⟨(.fa 5 (.loc 0)), none, none⟩,
  ⟨(.load false 1 (.loc 0)), none, none⟩,
  ⟨(.fa 2 (.var 4)), none, none⟩,
  ⟨(.load false 1 (.loc 0)), none, none⟩,
  ⟨(.mapupd (.int .i64) (.loc 2) (.loc 0) (.k (.bool true))), none, none⟩]
def c18_10 : List CO := [⟨(.mov (.var 2)), none, none⟩,
  ⟨(.bin .eql (.loc 0) (.k (.int .i64 4))), none, none⟩,
  ⟨(.mov (.loc 0)), none, none⟩,
  ⟨(.mov (.var 1)), none, (some ((.loc 0), true))⟩,
  ⟨(.bin .eql (.loc 0) (.k (.int .i64 1))), none, (some ((.loc 1), true))⟩,
  ⟨(.pick (.loc 2) (.loc 0) (.k (.bool false))), none, none⟩,
  ⟨(.mov (.loc 0)), (some 9), none⟩]
def c18_11 : List CO := [⟨(.mov (.var 0)), none, none⟩,
  ⟨(.nilchk (.loc 0)), none, none⟩,
  ⟨(.fa 4 (.loc 0)), none, none⟩,
  ⟨(.load false 1 (.loc 0)), none, none⟩,
  ⟨(.fa 2 (.var 4)), none, none⟩,
  ⟨(.load false 1 (.loc 0)), none, none⟩,
  ⟨(.mapupd (.int .i64) (.loc 2) (.loc 0) (.k (.bool true))), none, none⟩]
def c18_12 : List CO := [⟨(.mov (.var 2)), none, none⟩,
  ⟨(.bin .eql (.loc 0) (.k (.int .i64 4))), none, none⟩,
  ⟨(.mov (.loc 0)), none, none⟩,
  ⟨(.mov (.var 1)), none, (some ((.loc 0), true))⟩,
  ⟨(.bin .neq (.loc 0) (.k (.int .i64 3))), none, (some ((.loc 1), true))⟩,
  ⟨(.pick (.loc 2) (.loc 0) (.k (.bool false))), none, none⟩,
  ⟨(.mov (.loc 0)), (some 10), none⟩]
def c18_13 : List CO := [⟨(.mov (.var 0)), none, none⟩,
  ⟨(.mov (.var 0)), none, none⟩,
  ⟨(.mov (.var 0)), none, none⟩,
  ⟨(.fa 4 (.var 4)), none, none⟩,
  ⟨(.load false 1 (.loc 0)), none, none⟩,
  ⟨(.mov (.var 1)), none, none⟩,
  ⟨(.fa 1 (.var 4)), none, none⟩,
  ⟨(.load false 1 (.loc 0)), none, none⟩,
  ⟨(.nilchk (.loc 7)), none, none⟩,
  ⟨(.fa 6 (.loc 0)), none, none⟩,
  ⟨(.store 1 (.loc 0) (.loc 5)), none, none⟩,
  ⟨(.nilchk (.loc 9)), none, none⟩,
  ⟨(.fa 7 (.loc 0)), none, none⟩,
  ⟨(.store 1 (.loc 0) (.loc 7)), none, none⟩,
  ⟨(.nilchk (.loc 11)), none, none⟩,
  ⟨(.fa 8 (.loc 0)), none, none⟩,
  ⟨(.store 1 (.loc 0) (.loc 8)), none, none⟩]
def c18_14 : List CO := [⟨(.mov (.var 1)), none, none⟩,
  ⟨(.bin .eql (.loc 0) (.k (.int .i64 2))), none, none⟩,
  ⟨(.mov (.loc 0)), none, none⟩,
  ⟨(.mov (.var 2)), none, (some ((.loc 0), true))⟩,
  ⟨(.bin .neq (.loc 0) (.k (.int .i64 4))), none, (some ((.loc 1), true))⟩,
  ⟨(.pick (.loc 2) (.loc 0) (.k (.bool false))), none, none⟩,
  ⟨(.mov (.loc 0)), (some 11), none⟩]
def c18_15 : List CO := [⟨(.mov (.var 0)), none, none⟩,
  ⟨(.nilchk (.loc 0)), none, none⟩,
  ⟨(.fa 4 (.loc 0)), none, none⟩,
  ⟨(.load false 1 (.loc 0)), none, none⟩,
  ⟨(.fa 1 (.var 4)), none, none⟩,
  ⟨(.load false 1 (.loc 0)), none, none⟩,
  ⟨(.mapupd (.int .i64) (.loc 2) (.loc 0) (.k (.bool true))), none, none⟩]
def c18_16 : List CO := [⟨(.mov (.var 1)), none, none⟩,
  ⟨(.bin .eql (.loc 0) (.k (.int .i64 1))), none, none⟩,
  ⟨(.mov (.loc 0)), (some 12), none⟩]
def c18_17 : List CO := [⟨(.mov (.var 1)), none, none⟩,
  ⟨(.bin .eql (.loc 0) (.k (.int .i64 3))), none, none⟩,
  ⟨(.mov (.loc 0)), (some 12), none⟩]
def c18_18 : List CO := [⟨(.mov (.var 0)), none, none⟩,
  ⟨(.nilchk (.loc 0)), none, none⟩,
  ⟨(.fa 6 (.loc 0)), none, none⟩,
  ⟨(.load false 1 (.loc 0)), none, none⟩,
  ⟨(.bin .sub (.loc 0) (.k (.int .i64 1))), none, none⟩,
  ⟨(.nilchk (.loc 4)), none, none⟩,
  ⟨(.fa 6 (.loc 0)), none, none⟩,
  ⟨(.store 1 (.loc 0) (.loc 2)), none, none⟩]
def c18_19 : List CO := [⟨(.mov (.var 0)), none, none⟩,
  ⟨(.nilchk (.loc 0)), none, none⟩,
  ⟨(.fa 6 (.loc 0)), none, none⟩,
  ⟨(.load false 1 (.loc 0)), none, none⟩,
  ⟨(.bin .eql (.loc 0) (.k (.int .i64 0))), none, none⟩,
  ⟨(.mov (.loc 0)), none, none⟩,
  ⟨(.mov (.var 1)), none, (some ((.loc 0), true))⟩,
  ⟨(.bin .eql (.loc 0) (.k (.int .i64 3))), none, (some ((.loc 1), true))⟩,
  ⟨(.pick (.loc 2) (.loc 0) (.k (.bool false))), (some 13), none⟩]
def c18_20 : List CO := [⟨(.mov (.var 0)), none, none⟩,
  ⟨(.nilchk (.loc 0)), none, none⟩,
  ⟨(.fa 4 (.loc 0)), none, none⟩,
  ⟨(.load false 1 (.loc 0)), none, none⟩,
  ⟨(.mov (.var 0)), none, none⟩,
  ⟨(.nilchk (.loc 0)), none, none⟩,
  ⟨(.fa 8 (.loc 0)), none, none⟩,
  ⟨(.load false 1 (.loc 0)), none, none⟩,
  ⟨(.mapupd (.int .i64) (.loc 4) (.loc 0) (.k (.bool true))), none, none⟩]
def c18 : CFun := ⟨4, 14, (.seq (.region [] [] c18_0) (.seq (.seq (.region [] [] c18_1) (.cond (.var 5) (.seq (.region [] [] c18_2) (.region [] [] c18_3)) .skip)) (.seq (.block 0 (.seq (.region [] [] c18_4) (.cond (.var 6) (.seq (.seq (.region [] [] c18_5) (.cond (.var 7) (.region [] [] c18_6) .skip)) (.seq (.region [] [] c18_7) .ret)) (.seq (.region [] [] c18_8) (.cond (.var 8) (.region [] [] c18_9) (.seq (.region [] [] c18_10) (.cond (.var 9) (.region [] [] c18_11) (.seq (.region [] [] c18_12) (.cond (.var 10) (.region [] [((some 0), 4)] c18_13) .skip))))))))) (.block 1 (.seq (.region [] [] c18_14) (.cond (.var 11) (.region [] [] c18_15) (.seq (.seq (.region [] [] c18_16) (.cond (.var 12) .skip (.region [] [] c18_17))) (.cond (.var 12) (.seq (.region [] [] c18_18) (.seq (.region [] [] c18_19) (.cond (.var 13) (.region [] [] c18_20) .skip))) .skip)))))))), []⟩
theorem ok18 : CodeOk Tryd.prog T 18 c18 := ⟨⟨Tryd.f18, Hints.of [] [(13, [((some 0), 4)])] [], [0, 1, 2, 3, 7, 24, 32, 37, 48, 57, 70, 91, 104, 124], Tryd.func18, by kernel_rfl, by kernel_rfl⟩⟩

def Fl : List (FuncId × FEntry) := [(5, .code c5), (6, .code c6), (7, .code c7), (8, .code c8), (9, .code c9), (14, .code c14), (15, .code c15), (16, .code c16), (17, .code c17), (18, .code c18)] ++ [(34, .oracle validG)]
def F (f : FuncId) : Option FEntry := Fl.lookup f
theorem hF : ∀ (B : Nat) (w0 : World), K B w0 → ∀ f e, F f = some e → EntryOk Tryd.prog T B w0 f e := fun B w0 hK => entries_of (fun p hp => by
  simp only [Fl, List.cons_append, List.nil_append, List.mem_cons, List.not_mem_nil, or_false] at hp
  rcases hp with rfl | rfl | rfl | rfl | rfl | rfl | rfl | rfl | rfl | rfl | rfl
  · exact ok5
  · exact ok6
  · exact ok7
  · exact ok8
  · exact ok9
  · exact ok14
  · exact ok15
  · exact ok16
  · exact ok17
  · exact ok18
  · exact valid_ok hK)
end Go.Proofs.YtchiacliefahdaaDoor
end

/-! The state of Check, as it lies. -/
section
set_option linter.unusedVariables false
set_option linter.unusedSimpArgs false
namespace Go.AE.YtchiacliefahdaaDoor
open Go Go.AE Go.Proofs.YtchiacliefahdaaDoor

/-- an instruction -/
structure In where
  op : Int
  a : Int
  b : Int
  nm : ByteArray
  n : Int
inductive IsIn : AV → In → Prop
  | mk (op a b : Int) (nm : ByteArray) (n : Int) : IsIn (.agg [.v (.int .i64 op), .v (.int .i64 a), .v (.int .i64 b), .v (.string nm), .v (.int .i64 n)]) ⟨op, a, b, nm, n⟩
def inC (i : In) : List AV := [.v (.int .i64 i.op), .v (.int .i64 i.a), .v (.int .i64 i.b), .v (.string i.nm), .v (.int .i64 i.n)]
def inV (i : In) : AV := .agg (inC i)
theorem IsIn.eq {a : AV} {i : In} (h : IsIn a i) : a = inV i := by cases h; rfl
theorem isIn (i : In) : IsIn (inV i) i := .mk _ _ _ _ _
/-- what is known, as the program has it -/
structure VS where
  regs : List Int
  known : List Int
  parts : Int
  of : Int
  under : Int
  head : Bool
  over : Bool
/-- the objects of Check: the code, two maps, the state, what is behind -/
def vH (c0 : AV) (c1 c2 : Int) (c3 : AV) (R N : List (Value × AV)) (p o u : Int) (hd ov : Bool) (T : List AO) : List AO :=
  .box [c0, .v (.int .i64 c1), .v (.int .i64 c2), c3] :: .map (.int .i64) R :: .map (.int .i64) N :: .box [c0, .v (.int .i64 c1), .v (.int .i64 c2), c3, .mp 1, .mp 2, .v (.int .i64 p), .v (.int .i64 o), .v (.int .i64 u), .v (.bool hd), .v (.bool ov)] :: T
section
variable {c0 c3 : AV} {c1 c2 : Int} {R N : List (Value × AV)} {p o u : Int} {hd ov : Bool} {T : List AO}
theorem v_len : (vH c0 c1 c2 c3 R N p o u hd ov T).length = T.length + 4 := rfl
theorem v_ld2 : evLoad (vH c0 c1 c2 c3 R N p o u hd ov T) false 1 (.ptr 3 2) = some (.v (.int .i64 c2)) := rfl
theorem v_ld4 : evLoad (vH c0 c1 c2 c3 R N p o u hd ov T) false 1 (.ptr 3 4) = some (.mp 1) := rfl
theorem v_ld5 : evLoad (vH c0 c1 c2 c3 R N p o u hd ov T) false 1 (.ptr 3 5) = some (.mp 2) := rfl
theorem v_ld6 : evLoad (vH c0 c1 c2 c3 R N p o u hd ov T) false 1 (.ptr 3 6) = some (.v (.int .i64 p)) := rfl
theorem v_ld7 : evLoad (vH c0 c1 c2 c3 R N p o u hd ov T) false 1 (.ptr 3 7) = some (.v (.int .i64 o)) := rfl
theorem v_ld8 : evLoad (vH c0 c1 c2 c3 R N p o u hd ov T) false 1 (.ptr 3 8) = some (.v (.int .i64 u)) := rfl
theorem v_ld9 : evLoad (vH c0 c1 c2 c3 R N p o u hd ov T) false 1 (.ptr 3 9) = some (.v (.bool hd)) := rfl
theorem v_ld10 : evLoad (vH c0 c1 c2 c3 R N p o u hd ov T) false 1 (.ptr 3 10) = some (.v (.bool ov)) := rfl
theorem v_st6 {q : Int} : evStore (vH c0 c1 c2 c3 R N p o u hd ov T) 1 (.ptr 3 6) (.v (.int .i64 q)) = some (vH c0 c1 c2 c3 R N q o u hd ov T) := rfl
theorem v_st7 {q : Int} : evStore (vH c0 c1 c2 c3 R N p o u hd ov T) 1 (.ptr 3 7) (.v (.int .i64 q)) = some (vH c0 c1 c2 c3 R N p q u hd ov T) := rfl
theorem v_st8 {q : Int} : evStore (vH c0 c1 c2 c3 R N p o u hd ov T) 1 (.ptr 3 8) (.v (.int .i64 q)) = some (vH c0 c1 c2 c3 R N p o q hd ov T) := rfl
theorem v_st9 {q : Bool} : evStore (vH c0 c1 c2 c3 R N p o u hd ov T) 1 (.ptr 3 9) (.v (.bool q)) = some (vH c0 c1 c2 c3 R N p o u q ov T) := rfl
theorem v_st10 {q : Bool} : evStore (vH c0 c1 c2 c3 R N p o u hd ov T) 1 (.ptr 3 10) (.v (.bool q)) = some (vH c0 c1 c2 c3 R N p o u hd q T) := rfl
theorem v_bx {cs : List AV} : bx (vH c0 c1 c2 c3 R N p o u hd ov T) (some cs) = some (.ptr (T.length + 4) 0, vH c0 c1 c2 c3 R N p o u hd ov (T ++ [.box cs])) := rfl
theorem v_at {x : AO} : (vH c0 c1 c2 c3 R N p o u hd ov (T ++ [x]))[T.length + 4]? = some x := by simp [vH]
theorem v_l0 {i : In} : evLoad (vH c0 c1 c2 c3 R N p o u hd ov (T ++ [.box (inC i)])) false 1 (.ptr (T.length + 4) 0) = some (.v (.int .i64 i.op)) := by simp only [evLoad, v_at]; rfl
theorem v_l1 {i : In} : evLoad (vH c0 c1 c2 c3 R N p o u hd ov (T ++ [.box (inC i)])) false 1 (.ptr (T.length + 4) 1) = some (.v (.int .i64 i.a)) := by simp only [evLoad, v_at]; rfl
theorem v_l2 {i : In} : evLoad (vH c0 c1 c2 c3 R N p o u hd ov (T ++ [.box (inC i)])) false 1 (.ptr (T.length + 4) 2) = some (.v (.int .i64 i.b)) := by simp only [evLoad, v_at]; rfl
theorem v_l3 {i : In} : evLoad (vH c0 c1 c2 c3 R N p o u hd ov (T ++ [.box (inC i)])) false 1 (.ptr (T.length + 4) 3) = some (.v (.string i.nm)) := by simp only [evLoad, v_at]; rfl
theorem v_l4 {i : In} : evLoad (vH c0 c1 c2 c3 R N p o u hd ov (T ++ [.box (inC i)])) false 1 (.ptr (T.length + 4) 4) = some (.v (.int .i64 i.n)) := by simp only [evLoad, v_at]; rfl
theorem v_la {i : In} : evLoad (vH c0 c1 c2 c3 R N p o u hd ov (T ++ [.box (inC i)])) true 5 (.ptr (T.length + 4) 0) = some (inV i) := by simp only [evLoad, v_at]; rfl
theorem v_sti {i : In} {z : List AV} (hz : z.length = 5) : evStore (vH c0 c1 c2 c3 R N p o u hd ov (T ++ [.box z])) 5 (.ptr (T.length + 4) 0) (inV i) = some (vH c0 c1 c2 c3 R N p o u hd ov (T ++ [.box (inC i)])) :=
  st_new (h := vH c0 c1 c2 c3 R N p o u hd ov T) (show (inV i).cl = some (inC i) from rfl) (show (inC i).length = 5 from rfl) hz
theorem v_lk1 {S : List Int} (h : Seen .i64 R S) (n : Int) : evLook (vH c0 c1 c2 c3 R N p o u hd ov T) (.int .i64) (.bool false) false (.mp 1) (.v (.int .i64 n)) = some (.v (.bool (S.contains n))) := h.look rfl n
theorem v_lk2 {S : List Int} (h : Seen .i64 N S) (n : Int) : evLook (vH c0 c1 c2 c3 R N p o u hd ov T) (.int .i64) (.bool false) false (.mp 2) (.v (.int .i64 n)) = some (.v (.bool (S.contains n))) := h.look rfl n
theorem v_up1 {n : Int} : evUpd (vH c0 c1 c2 c3 R N p o u hd ov T) (.int .i64) (.mp 1) (.v (.int .i64 n)) (.v (.bool true)) = some (vH c0 c1 c2 c3 (upd (.int .i64 n) (.v (.bool true)) R) N p o u hd ov T) := upd_map (y := .v (.bool true)) rfl n rfl
theorem v_up2 {n : Int} : evUpd (vH c0 c1 c2 c3 R N p o u hd ov T) (.int .i64) (.mp 2) (.v (.int .i64 n)) (.v (.bool true)) = some (vH c0 c1 c2 c3 R (upd (.int .i64 n) (.v (.bool true)) N) p o u hd ov T) := upd_map (y := .v (.bool true)) rfl n rfl
theorem v_clr : evClrM (vH c0 c1 c2 c3 R N p o u hd ov T) (.mp 1) = some (vH c0 c1 c2 c3 [] N p o u hd ov T) := rfl
theorem e_clrmap {call : CallF} {vars env : List AV} {h : List AO} {m : Opd} : evOp call vars env h (.clrmap m) = stH (evClrM h (getO vars env m)) := by
  simp only [evOp]; cases evClrM h (getO vars env m) <;> rfl
theorem v_app : vH c0 c1 c2 c3 R N p o u hd ov T ++ [] = vH c0 c1 c2 c3 R N p o u hd ov T := by simp
theorem v_below (h0 : c0.below1 0 = true) (h3 : c3.below1 0 = true) (hT : T.all (AO.below 0) = true) : (vH c0 c1 c2 c3 R N p o u hd ov T).all (AO.below (T.length + 4)) = true := by
  have m0 : ∀ x : AV, x.below1 0 = true → x.below1 (T.length + 4) = true := fun x h => by
    have := all_below_mono (n := 0) (m := T.length + 4) (by omega) (H := [.box [x]]) (by simpa [AO.below] using h)
    simpa [AO.below] using this
  have := all_below_mono (n := 0) (m := T.length + 4) (by omega) hT
  simp only [vH, List.all_cons, this, AO.below, List.all_nil, m0 c0 h0, m0 c3 h3, Bool.and_true, Bool.true_and]
  simp [AV.below1, AV.below0]
theorem v_leave {c : CFun} {vars : List AV} {l : List AO} {x : Value} (h0 : c0.below1 0 = true) (h3 : c3.below1 0 = true) (hT : T.all (AO.below 0) = true) {i : Nat} (hc : c.res = [.var i]) (hx : getO vars [] (.var i) = .v x) : leave (T.length + 4) c (some (.ret, vars, vH c0 c1 c2 c3 R N p o u hd ov (T ++ l))) = some (.v x, vH c0 c1 c2 c3 R N p o u hd ov T) := by
  have h := (show vH c0 c1 c2 c3 R N p o u hd ov (T ++ l) = (vH c0 c1 c2 c3 R N p o u hd ov T) ++ l from rfl)
  rw [h, leave_own (B := T.length + 4) rfl (v_below h0 h3 hT), hc]
  have h1 : resOf vars (vH c0 c1 c2 c3 R N p o u hd ov T ++ l) (.var i) = some (.v x) := by
    have : resOf vars (vH c0 c1 c2 c3 R N p o u hd ov T ++ l) (.var i) = some (getO vars [] (.var i)) := rfl
    rw [this, hx]
  rw [own_res1 h1]
  exact lvo_one rfl
end
end Go.AE.YtchiacliefahdaaDoor
end

/-! Where an instruction stands. -/
section
set_option linter.unusedVariables false
set_option linter.unusedSimpArgs false
namespace Go.AE.YtchiacliefahdaaDoor
open Go Go.AE Go.Proofs.YtchiacliefahdaaDoor

/-- the row an instruction stands in, as what, whether it is one -/
def rowT (op : Int) : Int × Int × Bool :=
  if op < 1 ∨ op > 23 then (0, 0, false) else if op ≥ 21 then (4, op - 21, true) else ((op - 1) / 5, (op - 1) % 5, true)
def rowV (r : Int × Int × Bool) : AV := .tup [.v (.int .i64 r.1), .v (.int .i64 r.2.1), .v (.bool r.2.2)]
theorem row_ok (op : Int) : callW F 15 [.v (.int .i64 op)] [] = some (rowV (rowT op), []) := by
  by_cases h1 : op < 1
  · have d1 : decide (op < 1) = true := by simpa using h1
    have e : rowT op = (0, 0, false) := by simp [rowT, h1]
    rw [e]
    refine callW_pure (c := c15) rfl rfl 0 ?_
    simp only [c15, start, List.replicate, c15_0, c15_1, c15_2, d1, run_nil, run_cons, stp_plain, stp_guard, put_some, pass_eq, pick_tt, pick_ff, pick_tf, pick_ft, pick_u, reg_some, thn_normal, thn_exit, thn_ret, cnd_t, cnd_f, blk_normal, blk_ret, blk_exit, x_seq, x_region, x_cond, x_block, x_loop, x_ret, x_exit, x_skip, e_mov, e_pick, pk_t, pk_f, withH_some, e_box, e_load, e_store, stH_some, e_nil, e_bin, e_eqv, eqH_f, eqH_t, e_un, e_fa, e_ia, ia_eq, nat_eq, natV_nat, e_len, lnH_some, e_extract, ex_0, ex_1, e_call0, e_call1, e_call2, e_call3, pc0_eq, pc1_some, pc2_some, pc3_some, fin_some, g_var0, g_vars, g_loc0, g_locs, g_int, g_bool, g_str, g_sl, s_none, s_zero, s_succ, cl_nil, cl_str, cl_bool, cl_slc, cl_own, evFa, evNil, asEl, evBin, intBin, strBin, evUn, len_nil, len_slc, len_str, clr, List.length_nil, List.length_cons, List.getElem?_cons_zero, List.getElem?_cons_succ, Nat.reduceAdd, Nat.zero_add, Nat.add_zero, Nat.reduceLeDiff, Nat.reduceSub, ↓reduceIte, List.drop_succ_cons, List.drop_zero, List.take_succ_cons, List.take_zero, Bool.false_eq_true, List.nil_append, List.cons_append, Bool.not_true, Bool.not_false, cond_true, cond_false, bne, lv_ret, lv_normal, res1, res2, lv2_some, res_var, res_cell, lvf_v, lvf_slc, res1c, lvo1_some, e_mm, mm_max, mm_min, cl_agg, cl_int, g_agg, e_callv1, cv1_fn, e_slice2, e_clrrow, e_callf2, pick_und, cells_agg, Option.map_some, Option.map_none, bx_some]
    rfl
  · by_cases h2 : op > 23
    · have d1 : decide (op < 1) = false := by simpa using h1
      have d2 : decide (op > 23) = true := by simpa using h2
      have e : rowT op = (0, 0, false) := by simp [rowT, h2]
      rw [e]
      refine callW_pure (c := c15) rfl rfl 0 ?_
      simp only [c15, start, List.replicate, c15_0, c15_1, c15_2, d1, d2, run_nil, run_cons, stp_plain, stp_guard, put_some, pass_eq, pick_tt, pick_ff, pick_tf, pick_ft, pick_u, reg_some, thn_normal, thn_exit, thn_ret, cnd_t, cnd_f, blk_normal, blk_ret, blk_exit, x_seq, x_region, x_cond, x_block, x_loop, x_ret, x_exit, x_skip, e_mov, e_pick, pk_t, pk_f, withH_some, e_box, e_load, e_store, stH_some, e_nil, e_bin, e_eqv, eqH_f, eqH_t, e_un, e_fa, e_ia, ia_eq, nat_eq, natV_nat, e_len, lnH_some, e_extract, ex_0, ex_1, e_call0, e_call1, e_call2, e_call3, pc0_eq, pc1_some, pc2_some, pc3_some, fin_some, g_var0, g_vars, g_loc0, g_locs, g_int, g_bool, g_str, g_sl, s_none, s_zero, s_succ, cl_nil, cl_str, cl_bool, cl_slc, cl_own, evFa, evNil, asEl, evBin, intBin, strBin, evUn, len_nil, len_slc, len_str, clr, List.length_nil, List.length_cons, List.getElem?_cons_zero, List.getElem?_cons_succ, Nat.reduceAdd, Nat.zero_add, Nat.add_zero, Nat.reduceLeDiff, Nat.reduceSub, ↓reduceIte, List.drop_succ_cons, List.drop_zero, List.take_succ_cons, List.take_zero, Bool.false_eq_true, List.nil_append, List.cons_append, Bool.not_true, Bool.not_false, cond_true, cond_false, bne, lv_ret, lv_normal, res1, res2, lv2_some, res_var, res_cell, lvf_v, lvf_slc, res1c, lvo1_some, e_mm, mm_max, mm_min, cl_agg, cl_int, g_agg, e_callv1, cv1_fn, e_slice2, e_clrrow, e_callf2, pick_und, cells_agg, Option.map_some, Option.map_none, bx_some]
      rfl
    · have h : op = 1 ∨ op = 2 ∨ op = 3 ∨ op = 4 ∨ op = 5 ∨ op = 6 ∨ op = 7 ∨ op = 8 ∨ op = 9 ∨ op = 10 ∨ op = 11 ∨ op = 12 ∨ op = 13 ∨ op = 14 ∨ op = 15 ∨ op = 16 ∨ op = 17 ∨ op = 18 ∨ op = 19 ∨ op = 20 ∨ op = 21 ∨ op = 22 ∨ op = 23 := by omega
      rcases h with rfl | rfl | rfl | rfl | rfl | rfl | rfl | rfl | rfl | rfl | rfl | rfl | rfl | rfl | rfl | rfl | rfl | rfl | rfl | rfl | rfl | rfl | rfl <;> exact callW_iff.2 ⟨3, by kernel_rfl⟩

def standsT (S : List Int) (p o : Int) (hd : Bool) (r k : Int) (i : In) : Bool :=
  if r = 0 then hd && ((p == 0) && S.contains i.a)
  else if r = 1 ∨ r = 3 then decide (p > 0) && (o == r - 1)
  else if r = 2 then (p == 0) && (decide (i.a ≥ 0) && ((decide (i.a < 16) || (k == 4)) && (hd || !(S.contains i.a))))
  else p == 0
section
variable {c0 c3 : AV} {c1 c2 : Int} {R N : List (Value × AV)} {p o u : Int} {hd ov : Bool} {T : List AO} {S : List Int}
theorem stands_ok (h0 : c0.below1 0 = true) (h3 : c3.below1 0 = true) (hT : T.all (AO.below 0) = true) (hR : Seen .i64 R S) {r k : Int} (hr : 0 ≤ r ∧ r ≤ 4) (i : In) :
    callW F 16 [.ptr 3 0, .v (.int .i64 r), .v (.int .i64 k), inV i] (vH c0 c1 c2 c3 R N p o u hd ov T) = some (.v (.bool (standsT S p o hd r k i)), vH c0 c1 c2 c3 R N p o u hd ov T) := by
  refine callW_own (c := c16) rfl rfl 0 ?_
  have cl := (show (inV i).cl = some (inC i) from rfl)
  have key : ∀ vars : List AV, getO vars [] (.var 5) = .v (.bool (standsT S p o hd r k i)) → leave (T.length + 4) c16 (some (.ret, vars, vH c0 c1 c2 c3 R N p o u hd ov (T ++ [.box (inC i)]))) = some (.v (.bool (standsT S p o hd r k i)), vH c0 c1 c2 c3 R N p o u hd ov T) :=
    fun vars hx => v_leave h0 h3 hT rfl hx
  rw [v_app, v_len]
  obtain ⟨x, hx⟩ : ∃ x, x = S.contains i.a := ⟨_, rfl⟩
  have lk := fun T => v_lk1 (c0 := c0) (c1 := c1) (c2 := c2) (c3 := c3) (N := N) (p := p) (o := o) (u := u) (hd := hd) (ov := ov) (T := T) hR i.a
  rw [← hx] at lk
  have hr5 : r = 0 ∨ r = 1 ∨ r = 2 ∨ r = 3 ∨ r = 4 := by omega
  rcases hr5 with rfl | rfl | rfl | rfl | rfl
  · have e : standsT S p o hd 0 k i = (hd && ((p == 0) && x)) := by rw [hx]; simp [standsT]
    rw [e] at key ⊢
    cases hd <;> cases hp : (p == 0) <;> rw [hp] at key <;>
      simp only [c16, start, List.replicate, c16_0, c16_1, c16_2, c16_3, cl, v_bx, v_ld9, v_ld6, v_ld4, v_l1, hp, lk, e_lookup, Int.reduceBEq, run_nil, run_cons, stp_plain, stp_guard, put_some, pass_eq, pick_tt, pick_ff, pick_tf, pick_ft, pick_u, reg_some, thn_normal, thn_exit, thn_ret, cnd_t, cnd_f, blk_normal, blk_ret, blk_exit, x_seq, x_region, x_cond, x_block, x_loop, x_ret, x_exit, x_skip, e_mov, e_pick, pk_t, pk_f, withH_some, e_box, e_load, e_store, stH_some, e_nil, e_bin, e_eqv, eqH_f, eqH_t, e_un, e_fa, e_ia, ia_eq, nat_eq, natV_nat, e_len, lnH_some, e_extract, ex_0, ex_1, e_call0, e_call1, e_call2, e_call3, pc0_eq, pc1_some, pc2_some, pc3_some, fin_some, g_var0, g_vars, g_loc0, g_locs, g_int, g_bool, g_str, g_sl, s_none, s_zero, s_succ, cl_nil, cl_str, cl_bool, cl_slc, cl_own, evFa, evNil, asEl, evBin, intBin, strBin, evUn, len_nil, len_slc, len_str, clr, List.length_nil, List.length_cons, List.getElem?_cons_zero, List.getElem?_cons_succ, Nat.reduceAdd, Nat.zero_add, Nat.add_zero, Nat.reduceLeDiff, Nat.reduceSub, ↓reduceIte, List.drop_succ_cons, List.drop_zero, List.take_succ_cons, List.take_zero, Bool.false_eq_true, List.nil_append, List.cons_append, Bool.not_true, Bool.not_false, cond_true, cond_false, bne, lv_ret, lv_normal, res1, res2, lv2_some, res_var, res_cell, lvf_v, lvf_slc, res1c, lvo1_some, e_mm, mm_max, mm_min, cl_agg, cl_int, g_agg, e_callv1, cv1_fn, e_slice2, e_clrrow, e_callf2, pick_und, cells_agg, Option.map_some, Option.map_none] <;>
      exact key _ rfl
  · have e : standsT S p o hd 1 k i = (decide (p > 0) && (o == 0)) := by simp [standsT]
    have hw : IntKind.i64.wrap (1 - 1) = 0 := by decide
    rw [e] at key ⊢
    cases hp : decide (p > 0) <;> rw [hp] at key <;>
      simp only [c16, start, List.replicate, c16_0, c16_1, c16_2, c16_4, c16_6, cl, v_bx, v_ld6, v_ld7, hp, hw, Int.reduceBEq, run_nil, run_cons, stp_plain, stp_guard, put_some, pass_eq, pick_tt, pick_ff, pick_tf, pick_ft, pick_u, reg_some, thn_normal, thn_exit, thn_ret, cnd_t, cnd_f, blk_normal, blk_ret, blk_exit, x_seq, x_region, x_cond, x_block, x_loop, x_ret, x_exit, x_skip, e_mov, e_pick, pk_t, pk_f, withH_some, e_box, e_load, e_store, stH_some, e_nil, e_bin, e_eqv, eqH_f, eqH_t, e_un, e_fa, e_ia, ia_eq, nat_eq, natV_nat, e_len, lnH_some, e_extract, ex_0, ex_1, e_call0, e_call1, e_call2, e_call3, pc0_eq, pc1_some, pc2_some, pc3_some, fin_some, g_var0, g_vars, g_loc0, g_locs, g_int, g_bool, g_str, g_sl, s_none, s_zero, s_succ, cl_nil, cl_str, cl_bool, cl_slc, cl_own, evFa, evNil, asEl, evBin, intBin, strBin, evUn, len_nil, len_slc, len_str, clr, List.length_nil, List.length_cons, List.getElem?_cons_zero, List.getElem?_cons_succ, Nat.reduceAdd, Nat.zero_add, Nat.add_zero, Nat.reduceLeDiff, Nat.reduceSub, ↓reduceIte, List.drop_succ_cons, List.drop_zero, List.take_succ_cons, List.take_zero, Bool.false_eq_true, List.nil_append, List.cons_append, Bool.not_true, Bool.not_false, cond_true, cond_false, bne, lv_ret, lv_normal, res1, res2, lv2_some, res_var, res_cell, lvf_v, lvf_slc, res1c, lvo1_some, e_mm, mm_max, mm_min, cl_agg, cl_int, g_agg, e_callv1, cv1_fn, e_slice2, e_clrrow, e_callf2, pick_und, cells_agg, Option.map_some, Option.map_none] <;>
      exact key _ rfl
  · have e : standsT S p o hd 2 k i = ((p == 0) && (decide (i.a ≥ 0) && ((decide (i.a < 16) || (k == 4)) && (hd || !x)))) := by rw [hx]; simp [standsT]
    rw [e] at key ⊢
    cases hp : (p == 0) <;> cases ha : decide (i.a ≥ 0) <;> cases hb : decide (i.a < 16) <;> cases hk : (k == 4) <;> cases hd <;> rw [hp, ha, hb, hk] at key <;>
      simp only [c16, start, List.replicate, c16_0, c16_1, c16_2, c16_4, c16_5, c16_7, c16_8, cl, v_bx, v_ld9, v_ld6, v_ld4, v_l1, hp, ha, hb, hk, lk, e_lookup, pick_und, Int.reduceBEq, run_nil, run_cons, stp_plain, stp_guard, put_some, pass_eq, pick_tt, pick_ff, pick_tf, pick_ft, pick_u, reg_some, thn_normal, thn_exit, thn_ret, cnd_t, cnd_f, blk_normal, blk_ret, blk_exit, x_seq, x_region, x_cond, x_block, x_loop, x_ret, x_exit, x_skip, e_mov, e_pick, pk_t, pk_f, withH_some, e_box, e_load, e_store, stH_some, e_nil, e_bin, e_eqv, eqH_f, eqH_t, e_un, e_fa, e_ia, ia_eq, nat_eq, natV_nat, e_len, lnH_some, e_extract, ex_0, ex_1, e_call0, e_call1, e_call2, e_call3, pc0_eq, pc1_some, pc2_some, pc3_some, fin_some, g_var0, g_vars, g_loc0, g_locs, g_int, g_bool, g_str, g_sl, s_none, s_zero, s_succ, cl_nil, cl_str, cl_bool, cl_slc, cl_own, evFa, evNil, asEl, evBin, intBin, strBin, evUn, len_nil, len_slc, len_str, clr, List.length_nil, List.length_cons, List.getElem?_cons_zero, List.getElem?_cons_succ, Nat.reduceAdd, Nat.zero_add, Nat.add_zero, Nat.reduceLeDiff, Nat.reduceSub, ↓reduceIte, List.drop_succ_cons, List.drop_zero, List.take_succ_cons, List.take_zero, Bool.false_eq_true, List.nil_append, List.cons_append, Bool.not_true, Bool.not_false, cond_true, cond_false, bne, lv_ret, lv_normal, res1, res2, lv2_some, res_var, res_cell, lvf_v, lvf_slc, res1c, lvo1_some, e_mm, mm_max, mm_min, cl_agg, cl_int, g_agg, e_callv1, cv1_fn, e_slice2, e_clrrow, e_callf2, pick_und, cells_agg, Option.map_some, Option.map_none] <;>
      exact key _ rfl
  · have e : standsT S p o hd 3 k i = (decide (p > 0) && (o == 2)) := by simp [standsT]
    have hw : IntKind.i64.wrap (3 - 1) = 2 := by decide
    rw [e] at key ⊢
    cases hp : decide (p > 0) <;> rw [hp] at key <;>
      simp only [c16, start, List.replicate, c16_0, c16_1, c16_2, c16_4, c16_5, c16_6, cl, v_bx, v_ld6, v_ld7, hp, hw, Int.reduceBEq, run_nil, run_cons, stp_plain, stp_guard, put_some, pass_eq, pick_tt, pick_ff, pick_tf, pick_ft, pick_u, reg_some, thn_normal, thn_exit, thn_ret, cnd_t, cnd_f, blk_normal, blk_ret, blk_exit, x_seq, x_region, x_cond, x_block, x_loop, x_ret, x_exit, x_skip, e_mov, e_pick, pk_t, pk_f, withH_some, e_box, e_load, e_store, stH_some, e_nil, e_bin, e_eqv, eqH_f, eqH_t, e_un, e_fa, e_ia, ia_eq, nat_eq, natV_nat, e_len, lnH_some, e_extract, ex_0, ex_1, e_call0, e_call1, e_call2, e_call3, pc0_eq, pc1_some, pc2_some, pc3_some, fin_some, g_var0, g_vars, g_loc0, g_locs, g_int, g_bool, g_str, g_sl, s_none, s_zero, s_succ, cl_nil, cl_str, cl_bool, cl_slc, cl_own, evFa, evNil, asEl, evBin, intBin, strBin, evUn, len_nil, len_slc, len_str, clr, List.length_nil, List.length_cons, List.getElem?_cons_zero, List.getElem?_cons_succ, Nat.reduceAdd, Nat.zero_add, Nat.add_zero, Nat.reduceLeDiff, Nat.reduceSub, ↓reduceIte, List.drop_succ_cons, List.drop_zero, List.take_succ_cons, List.take_zero, Bool.false_eq_true, List.nil_append, List.cons_append, Bool.not_true, Bool.not_false, cond_true, cond_false, bne, lv_ret, lv_normal, res1, res2, lv2_some, res_var, res_cell, lvf_v, lvf_slc, res1c, lvo1_some, e_mm, mm_max, mm_min, cl_agg, cl_int, g_agg, e_callv1, cv1_fn, e_slice2, e_clrrow, e_callf2, pick_und, cells_agg, Option.map_some, Option.map_none] <;>
      exact key _ rfl
  · have e : standsT S p o hd 4 k i = (p == 0) := by simp [standsT]
    rw [e] at key ⊢
    simp only [c16, start, List.replicate, c16_0, c16_1, c16_2, c16_4, c16_5, c16_7, c16_9, cl, v_bx, v_ld6, Int.reduceBEq, run_nil, run_cons, stp_plain, stp_guard, put_some, pass_eq, pick_tt, pick_ff, pick_tf, pick_ft, pick_u, reg_some, thn_normal, thn_exit, thn_ret, cnd_t, cnd_f, blk_normal, blk_ret, blk_exit, x_seq, x_region, x_cond, x_block, x_loop, x_ret, x_exit, x_skip, e_mov, e_pick, pk_t, pk_f, withH_some, e_box, e_load, e_store, stH_some, e_nil, e_bin, e_eqv, eqH_f, eqH_t, e_un, e_fa, e_ia, ia_eq, nat_eq, natV_nat, e_len, lnH_some, e_extract, ex_0, ex_1, e_call0, e_call1, e_call2, e_call3, pc0_eq, pc1_some, pc2_some, pc3_some, fin_some, g_var0, g_vars, g_loc0, g_locs, g_int, g_bool, g_str, g_sl, s_none, s_zero, s_succ, cl_nil, cl_str, cl_bool, cl_slc, cl_own, evFa, evNil, asEl, evBin, intBin, strBin, evUn, len_nil, len_slc, len_str, clr, List.length_nil, List.length_cons, List.getElem?_cons_zero, List.getElem?_cons_succ, Nat.reduceAdd, Nat.zero_add, Nat.add_zero, Nat.reduceLeDiff, Nat.reduceSub, ↓reduceIte, List.drop_succ_cons, List.drop_zero, List.take_succ_cons, List.take_zero, Bool.false_eq_true, List.nil_append, List.cons_append, Bool.not_true, Bool.not_false, cond_true, cond_false, bne, lv_ret, lv_normal, res1, res2, lv2_some, res_var, res_cell, lvf_v, lvf_slc, res1c, lvo1_some, e_mm, mm_max, mm_min, cl_agg, cl_int, g_agg, e_callv1, cv1_fn, e_slice2, e_clrrow, e_callf2, pick_und, cells_agg, Option.map_some, Option.map_none]
    exact key _ rfl
end
end Go.AE.YtchiacliefahdaaDoor
end

/-! Whether an instruction's own parts may be. -/
section
set_option linter.unusedVariables false
set_option linter.unusedSimpArgs false
namespace Go.AE.YtchiacliefahdaaDoor
open Go Go.AE Go.Proofs.YtchiacliefahdaaDoor

def hasAll (S : List Int) (n : Nat) : Bool := (List.range n).all fun j => S.contains (j : Int)
def callsT (S : List Int) (hd : Bool) (n : Int) : Bool := !(decide (n < 0) || (decide (n > 16) || (hd && decide (n > 0)))) && hasAll S n.toNat
def wholeT (S Q : List Int) (vs : Int) (hd : Bool) (r k : Int) (i : In) : Bool :=
  if r = 4 ∧ i.op = 21 then callsT S hd i.n
  else if r = 4 ∨ k = 2 ∨ k = 3 then true
  else if k = 0 then decide (i.b ≥ 0) && (decide (i.b < vs) && !(Q.contains i.b))
  else if k = 1 then Q.contains i.b
  else if r = 0 ∨ r = 2 then decide (i.n ≥ 1) && decide (i.n ≤ 16)
  else decide (i.b ≥ 16) && (S.contains i.b == (r == 3))
def K17 : List Bool := [true, false, false, false, false, false, false, false, false, true, true, false, false, false, false, false, false]
def V17 (n j : Int) (x6 x11 x12 : AV) : List AV := [.ptr 3 0, .junk, .junk, .junk, .junk, .junk, x6, .junk, .junk, .v (.int .i64 n), .v (.int .i64 j), x11, x12, .junk, .junk, .junk, .junk]
section
variable {c0 c3 : AV} {c1 c2 : Int} {R N : List (Value × AV)} {p o u : Int} {hd ov : Bool} {T : List AO} {S Q : List Int}
theorem calls_loop {K : Nat} (hR : Seen .i64 R S) {n : Nat} (hn : n ≤ 16) (hK : n < K) (v : List AV) (hv : clr K17 v = V17 n 0 .junk .junk .junk) :
    (hasAll S n = true ∧ ∃ x6 x12, loopN (exec (callW F) K c17_10) K17 K v (vH c0 c1 c2 c3 R N p o u hd ov T) = some (.exit 1, V17 n n x6 (.v (.bool false)) x12, vH c0 c1 c2 c3 R N p o u hd ov T)) ∨
    (hasAll S n = false ∧ ∃ v', loopN (exec (callW F) K c17_10) K17 K v (vH c0 c1 c2 c3 R N p o u hd ov T) = some (.ret, v', vH c0 c1 c2 c3 R N p o u hd ov T) ∧ getO v' [] (.var 5) = .v (.bool false)) := by
  obtain ⟨e, v', h', g1, g2, g3⟩ := loop_rule0 (call := callW F) (K := K) (b := c17_10) (keep := K17) (fun j v h' => v = V17 n j .junk .junk .junk ∧ h' = vH c0 c1 c2 c3 R N p o u hd ov T ∧ hasAll S j = true)
    (fun e v h' => h' = vH c0 c1 c2 c3 R N p o u hd ov T ∧ ((e = .exit 1 ∧ hasAll S n = true ∧ ∃ x6 x12, v = V17 n n x6 (.v (.bool false)) x12) ∨ (e = .ret ∧ hasAll S n = false ∧ getO v [] (.var 5) = .v (.bool false)))) n (m := K) (v := v) (h := vH c0 c1 c2 c3 R N p o u hd ov T) hK ⟨hv, rfl, rfl⟩ (by
      rintro j v h' hj ⟨rfl, rfl, hall⟩
      by_cases hjn : j < n
      · have hlt := lt_t hjn
        have hw := wrap_succ hjn (by have : maxLen = 9223372036854775807 := rfl; omega)
        have lk := fun T => v_lk1 (c0 := c0) (c1 := c1) (c2 := c2) (c3 := c3) (N := N) (p := p) (o := o) (u := u) (hd := hd) (ov := ov) (T := T) hR (j : Int)
        cases hs : S.contains (j : Int) with
        | true =>
          rw [hs] at lk
          refine ⟨.normal, V17 n ((j + 1 : Nat) : Int) (.v (.int .i64 j)) (.v (.bool true)) (.v (.bool false)), _, ?_, hjn, rfl, rfl, by
            have : hasAll S (j + 1) = (hasAll S j && S.contains (j : Int)) := by simp [hasAll, List.range_succ]
            rw [this, hall, hs]; rfl⟩
          simp only [V17, c17_10, c17_5, c17_6, c17_7, c17_9, hlt, hw, v_ld4, lk, e_lookup, run_nil, run_cons, stp_plain, stp_guard, put_some, pass_eq, pick_tt, pick_ff, pick_tf, pick_ft, pick_u, reg_some, thn_normal, thn_exit, thn_ret, cnd_t, cnd_f, blk_normal, blk_ret, blk_exit, x_seq, x_region, x_cond, x_block, x_loop, x_ret, x_exit, x_skip, e_mov, e_pick, pk_t, pk_f, withH_some, e_box, e_load, e_store, stH_some, e_nil, e_bin, e_eqv, eqH_f, eqH_t, e_un, e_fa, e_ia, ia_eq, nat_eq, natV_nat, e_len, lnH_some, e_extract, ex_0, ex_1, e_call0, e_call1, e_call2, e_call3, pc0_eq, pc1_some, pc2_some, pc3_some, fin_some, g_var0, g_vars, g_loc0, g_locs, g_int, g_bool, g_str, g_sl, s_none, s_zero, s_succ, cl_nil, cl_str, cl_bool, cl_slc, cl_own, evFa, evNil, asEl, evBin, intBin, strBin, evUn, len_nil, len_slc, len_str, clr, List.length_nil, List.length_cons, List.getElem?_cons_zero, List.getElem?_cons_succ, Nat.reduceAdd, Nat.zero_add, Nat.add_zero, Nat.reduceLeDiff, Nat.reduceSub, ↓reduceIte, List.drop_succ_cons, List.drop_zero, List.take_succ_cons, List.take_zero, Bool.false_eq_true, List.nil_append, List.cons_append, Bool.not_true, Bool.not_false, cond_true, cond_false, bne, lv_ret, lv_normal, res1, res2, lv2_some, res_var, res_cell, lvf_v, lvf_slc, res1c, lvo1_some, e_mm, mm_max, mm_min, cl_agg, cl_int, g_agg, e_callv1, cv1_fn, e_slice2, e_clrrow, e_callf2, pick_und, cells_agg, Option.map_some, Option.map_none]
        | false =>
          rw [hs] at lk
          refine ⟨.ret, [.ptr 3 0, .junk, .junk, .junk, .junk, .v (.bool false), .v (.int .i64 j), .junk, .junk, .v (.int .i64 n), .v (.int .i64 j), .v (.bool true), .v (.bool true), .junk, .junk, .junk, .junk], vH c0 c1 c2 c3 R N p o u hd ov T, ?_, rfl, .inr ⟨rfl, ?_, rfl⟩⟩
          · simp only [V17, c17_10, c17_5, c17_6, c17_7, c17_8, hlt, v_ld4, lk, e_lookup, run_nil, run_cons, stp_plain, stp_guard, put_some, pass_eq, pick_tt, pick_ff, pick_tf, pick_ft, pick_u, reg_some, thn_normal, thn_exit, thn_ret, cnd_t, cnd_f, blk_normal, blk_ret, blk_exit, x_seq, x_region, x_cond, x_block, x_loop, x_ret, x_exit, x_skip, e_mov, e_pick, pk_t, pk_f, withH_some, e_box, e_load, e_store, stH_some, e_nil, e_bin, e_eqv, eqH_f, eqH_t, e_un, e_fa, e_ia, ia_eq, nat_eq, natV_nat, e_len, lnH_some, e_extract, ex_0, ex_1, e_call0, e_call1, e_call2, e_call3, pc0_eq, pc1_some, pc2_some, pc3_some, fin_some, g_var0, g_vars, g_loc0, g_locs, g_int, g_bool, g_str, g_sl, s_none, s_zero, s_succ, cl_nil, cl_str, cl_bool, cl_slc, cl_own, evFa, evNil, asEl, evBin, intBin, strBin, evUn, len_nil, len_slc, len_str, clr, List.length_nil, List.length_cons, List.getElem?_cons_zero, List.getElem?_cons_succ, Nat.reduceAdd, Nat.zero_add, Nat.add_zero, Nat.reduceLeDiff, Nat.reduceSub, ↓reduceIte, List.drop_succ_cons, List.drop_zero, List.take_succ_cons, List.take_zero, Bool.false_eq_true, List.nil_append, List.cons_append, Bool.not_true, Bool.not_false, cond_true, cond_false, bne, lv_ret, lv_normal, res1, res2, lv2_some, res_var, res_cell, lvf_v, lvf_slc, res1c, lvo1_some, e_mm, mm_max, mm_min, cl_agg, cl_int, g_agg, e_callv1, cv1_fn, e_slice2, e_clrrow, e_callf2, pick_und, cells_agg, Option.map_some, Option.map_none]
          · simp only [hasAll, List.all_eq_false]
            exact ⟨j, by simpa using hjn, by simpa using hs⟩
      · have hje : j = n := by omega
        subst hje
        have hlt := lt_f (n := j)
        refine ⟨.exit 1, V17 j j .junk (.v (.bool false)) .junk, vH c0 c1 c2 c3 R N p o u hd ov T, ?_, rfl, .inl ⟨rfl, hall, _, _, rfl⟩⟩
        simp only [V17, c17_10, c17_5, hlt, run_nil, run_cons, stp_plain, stp_guard, put_some, pass_eq, pick_tt, pick_ff, pick_tf, pick_ft, pick_u, reg_some, thn_normal, thn_exit, thn_ret, cnd_t, cnd_f, blk_normal, blk_ret, blk_exit, x_seq, x_region, x_cond, x_block, x_loop, x_ret, x_exit, x_skip, e_mov, e_pick, pk_t, pk_f, withH_some, e_box, e_load, e_store, stH_some, e_nil, e_bin, e_eqv, eqH_f, eqH_t, e_un, e_fa, e_ia, ia_eq, nat_eq, natV_nat, e_len, lnH_some, e_extract, ex_0, ex_1, e_call0, e_call1, e_call2, e_call3, pc0_eq, pc1_some, pc2_some, pc3_some, fin_some, g_var0, g_vars, g_loc0, g_locs, g_int, g_bool, g_str, g_sl, s_none, s_zero, s_succ, cl_nil, cl_str, cl_bool, cl_slc, cl_own, evFa, evNil, asEl, evBin, intBin, strBin, evUn, len_nil, len_slc, len_str, clr, List.length_nil, List.length_cons, List.getElem?_cons_zero, List.getElem?_cons_succ, Nat.reduceAdd, Nat.zero_add, Nat.add_zero, Nat.reduceLeDiff, Nat.reduceSub, ↓reduceIte, List.drop_succ_cons, List.drop_zero, List.take_succ_cons, List.take_zero, Bool.false_eq_true, List.nil_append, List.cons_append, Bool.not_true, Bool.not_false, cond_true, cond_false, bne, lv_ret, lv_normal, res1, res2, lv2_some, res_var, res_cell, lvf_v, lvf_slc, res1c, lvo1_some, e_mm, mm_max, mm_min, cl_agg, cl_int, g_agg, e_callv1, cv1_fn, e_slice2, e_clrrow, e_callf2, pick_und, cells_agg, Option.map_some, Option.map_none])
  obtain ⟨rfl, g3 | g3⟩ := g3
  · obtain ⟨rfl, h1, x6, x12, rfl⟩ := g3
    exact .inl ⟨h1, x6, x12, g1⟩
  · obtain ⟨rfl, h1, h2⟩ := g3
    exact .inr ⟨h1, v', g1, h2⟩
theorem whole_ok (h0 : c0.below1 0 = true) (h3 : c3.below1 0 = true) (hT : T.all (AO.below 0) = true) (hR : Seen .i64 R S) (hN : Seen .i64 N Q) {r k : Int} (hr : 0 ≤ r ∧ r ≤ 4) (hk : 0 ≤ k ∧ k ≤ 4) (i : In) :
    callW F 17 [.ptr 3 0, .v (.int .i64 r), .v (.int .i64 k), inV i] (vH c0 c1 c2 c3 R N p o u hd ov T) = some (.v (.bool (wholeT S Q c2 hd r k i)), vH c0 c1 c2 c3 R N p o u hd ov T) := by
  refine callW_own (c := c17) rfl rfl 100 ?_
  have cl := (show (inV i).cl = some (inC i) from rfl)
  have key : ∀ vars : List AV, getO vars [] (.var 5) = .v (.bool (wholeT S Q c2 hd r k i)) → leave (T.length + 4) c17 (some (.ret, vars, vH c0 c1 c2 c3 R N p o u hd ov (T ++ [.box (inC i)]))) = some (.v (.bool (wholeT S Q c2 hd r k i)), vH c0 c1 c2 c3 R N p o u hd ov T) :=
    fun vars hx => v_leave h0 h3 hT rfl hx
  rw [v_app, v_len]
  have lk1 := fun T => v_lk1 (c0 := c0) (c1 := c1) (c2 := c2) (c3 := c3) (N := N) (p := p) (o := o) (u := u) (hd := hd) (ov := ov) (T := T) hR i.b
  have lk2 := fun T => v_lk2 (c0 := c0) (c1 := c1) (c2 := c2) (c3 := c3) (R := R) (p := p) (o := o) (u := u) (hd := hd) (ov := ov) (T := T) hN i.b
  have hr5 : r = 0 ∨ r = 1 ∨ r = 2 ∨ r = 3 ∨ r = 4 := by omega
  have hk5 : k = 0 ∨ k = 1 ∨ k = 2 ∨ k = 3 ∨ k = 4 := by omega
  have eb : ∀ (h : List AO) (a b : Bool), eqNil h .bool (.v (.bool a)) (.v (.bool b)) = some (a == b) := fun _ _ _ => rfl
  by_cases hcall : r = 4 ∧ i.op = 21
  · obtain ⟨rfl, hop⟩ := hcall
    have e : wholeT S Q c2 hd 4 k i = callsT S hd i.n := by simp [wholeT, hop]
    rw [e] at key ⊢
    have ho : (i.op == 21) = true := by simp [hop]
    cases h1 : decide (i.n < 0) with
    | true =>
      have e2 : callsT S hd i.n = false := by simp [callsT, h1]
      rw [e2] at key ⊢
      simp only [c17, start, List.replicate, c17_0, c17_1, c17_2, c17_3, cl, v_bx, v_ld9, v_l0, v_l4, ho, h1, pick_und, Int.reduceBEq, run_nil, run_cons, stp_plain, stp_guard, put_some, pass_eq, pick_tt, pick_ff, pick_tf, pick_ft, pick_u, reg_some, thn_normal, thn_exit, thn_ret, cnd_t, cnd_f, blk_normal, blk_ret, blk_exit, x_seq, x_region, x_cond, x_block, x_loop, x_ret, x_exit, x_skip, e_mov, e_pick, pk_t, pk_f, withH_some, e_box, e_load, e_store, stH_some, e_nil, e_bin, e_eqv, eqH_f, eqH_t, e_un, e_fa, e_ia, ia_eq, nat_eq, natV_nat, e_len, lnH_some, e_extract, ex_0, ex_1, e_call0, e_call1, e_call2, e_call3, pc0_eq, pc1_some, pc2_some, pc3_some, fin_some, g_var0, g_vars, g_loc0, g_locs, g_int, g_bool, g_str, g_sl, s_none, s_zero, s_succ, cl_nil, cl_str, cl_bool, cl_slc, cl_own, evFa, evNil, asEl, evBin, intBin, strBin, evUn, len_nil, len_slc, len_str, clr, List.length_nil, List.length_cons, List.getElem?_cons_zero, List.getElem?_cons_succ, Nat.reduceAdd, Nat.zero_add, Nat.add_zero, Nat.reduceLeDiff, Nat.reduceSub, ↓reduceIte, List.drop_succ_cons, List.drop_zero, List.take_succ_cons, List.take_zero, Bool.false_eq_true, List.nil_append, List.cons_append, Bool.not_true, Bool.not_false, cond_true, cond_false, bne, lv_ret, lv_normal, res1, res2, lv2_some, res_var, res_cell, lvf_v, lvf_slc, res1c, lvo1_some, e_mm, mm_max, mm_min, cl_agg, cl_int, g_agg, e_callv1, cv1_fn, e_slice2, e_clrrow, e_callf2, pick_und, cells_agg, Option.map_some, Option.map_none]
      exact key _ rfl
    | false =>
      cases h2 : decide (i.n > 16) with
      | true =>
        have e2 : callsT S hd i.n = false := by simp [callsT, h2]
        rw [e2] at key ⊢
        simp only [c17, start, List.replicate, c17_0, c17_1, c17_2, c17_3, cl, v_bx, v_ld9, v_l0, v_l4, ho, h1, h2, pick_und, Int.reduceBEq, run_nil, run_cons, stp_plain, stp_guard, put_some, pass_eq, pick_tt, pick_ff, pick_tf, pick_ft, pick_u, reg_some, thn_normal, thn_exit, thn_ret, cnd_t, cnd_f, blk_normal, blk_ret, blk_exit, x_seq, x_region, x_cond, x_block, x_loop, x_ret, x_exit, x_skip, e_mov, e_pick, pk_t, pk_f, withH_some, e_box, e_load, e_store, stH_some, e_nil, e_bin, e_eqv, eqH_f, eqH_t, e_un, e_fa, e_ia, ia_eq, nat_eq, natV_nat, e_len, lnH_some, e_extract, ex_0, ex_1, e_call0, e_call1, e_call2, e_call3, pc0_eq, pc1_some, pc2_some, pc3_some, fin_some, g_var0, g_vars, g_loc0, g_locs, g_int, g_bool, g_str, g_sl, s_none, s_zero, s_succ, cl_nil, cl_str, cl_bool, cl_slc, cl_own, evFa, evNil, asEl, evBin, intBin, strBin, evUn, len_nil, len_slc, len_str, clr, List.length_nil, List.length_cons, List.getElem?_cons_zero, List.getElem?_cons_succ, Nat.reduceAdd, Nat.zero_add, Nat.add_zero, Nat.reduceLeDiff, Nat.reduceSub, ↓reduceIte, List.drop_succ_cons, List.drop_zero, List.take_succ_cons, List.take_zero, Bool.false_eq_true, List.nil_append, List.cons_append, Bool.not_true, Bool.not_false, cond_true, cond_false, bne, lv_ret, lv_normal, res1, res2, lv2_some, res_var, res_cell, lvf_v, lvf_slc, res1c, lvo1_some, e_mm, mm_max, mm_min, cl_agg, cl_int, g_agg, e_callv1, cv1_fn, e_slice2, e_clrrow, e_callf2, pick_und, cells_agg, Option.map_some, Option.map_none]
        exact key _ rfl
      | false =>
        cases h3' : (hd && decide (i.n > 0)) with
        | true =>
          have e2 : callsT S hd i.n = false := by simp only [callsT, h3', Bool.or_true, Bool.not_true, Bool.false_and]
          rw [e2] at key ⊢
          simp only [Bool.and_eq_true] at h3'
          obtain ⟨rfl, h4⟩ := h3'
          simp only [c17, start, List.replicate, c17_0, c17_1, c17_2, c17_3, cl, v_bx, v_ld9, v_l0, v_l4, ho, h1, h2, h4, pick_und, Int.reduceBEq, run_nil, run_cons, stp_plain, stp_guard, put_some, pass_eq, pick_tt, pick_ff, pick_tf, pick_ft, pick_u, reg_some, thn_normal, thn_exit, thn_ret, cnd_t, cnd_f, blk_normal, blk_ret, blk_exit, x_seq, x_region, x_cond, x_block, x_loop, x_ret, x_exit, x_skip, e_mov, e_pick, pk_t, pk_f, withH_some, e_box, e_load, e_store, stH_some, e_nil, e_bin, e_eqv, eqH_f, eqH_t, e_un, e_fa, e_ia, ia_eq, nat_eq, natV_nat, e_len, lnH_some, e_extract, ex_0, ex_1, e_call0, e_call1, e_call2, e_call3, pc0_eq, pc1_some, pc2_some, pc3_some, fin_some, g_var0, g_vars, g_loc0, g_locs, g_int, g_bool, g_str, g_sl, s_none, s_zero, s_succ, cl_nil, cl_str, cl_bool, cl_slc, cl_own, evFa, evNil, asEl, evBin, intBin, strBin, evUn, len_nil, len_slc, len_str, clr, List.length_nil, List.length_cons, List.getElem?_cons_zero, List.getElem?_cons_succ, Nat.reduceAdd, Nat.zero_add, Nat.add_zero, Nat.reduceLeDiff, Nat.reduceSub, ↓reduceIte, List.drop_succ_cons, List.drop_zero, List.take_succ_cons, List.take_zero, Bool.false_eq_true, List.nil_append, List.cons_append, Bool.not_true, Bool.not_false, cond_true, cond_false, bne, lv_ret, lv_normal, res1, res2, lv2_some, res_var, res_cell, lvf_v, lvf_slc, res1c, lvo1_some, e_mm, mm_max, mm_min, cl_agg, cl_int, g_agg, e_callv1, cv1_fn, e_slice2, e_clrrow, e_callf2, pick_und, cells_agg, Option.map_some, Option.map_none]
          exact key _ rfl
        | false =>
          have e2 : callsT S hd i.n = hasAll S i.n.toNat := by simp only [callsT, h1, h2, h3', Bool.or_false, Bool.not_false, Bool.true_and]
          rw [e2] at key ⊢
          have hn0 : ¬ i.n < 0 := by simpa using h1
          have hn1 : ¬ i.n > 16 := by simpa using h2
          obtain ⟨n, hnn⟩ := Int.eq_ofNat_of_zero_le (show 0 ≤ i.n by omega)
          rw [hnn, Int.toNat_natCast] at key ⊢
          rw [hnn] at h1 h2 h3'
          have vl4 : ∀ T, evLoad (vH c0 c1 c2 c3 R N p o u hd ov (T ++ [.box (inC i)])) false 1 (.ptr (T.length + 4) 4) = some (.v (.int .i64 n)) := fun T => by rw [v_l4, hnn]
          have lp := fun v hv => calls_loop (K := 100) (c0 := c0) (c1 := c1) (c2 := c2) (c3 := c3) (N := N) (p := p) (o := o) (u := u) (hd := hd) (ov := ov) (T := T ++ [.box (inC i)]) hR (n := n) (by omega) (by omega) v hv
          have pre : ∀ rest : CC, exec (callW F) 100 (.seq (.region [] [] c17_0) (.seq (.block 0 (.seq (.region [] [] c17_1) (.cond (.var 7) (.seq (.seq (.region [] [] c17_2) (.cond (.var 8) (.seq (.region [] [] c17_3) .ret) .skip)) (.seq (.region [] [] c17_4) (.block 1 (.loop K17 [] c17_10)))) rest))) (.seq (.region [] [] c17_22) .ret))) (start c17 [.ptr 3 0, .v (.int .i64 4), .v (.int .i64 k), inV i]) (vH c0 c1 c2 c3 R N p o u hd ov T) =
              thn (callW F) 100 (.seq (.region [] [] c17_22) .ret) (blk 0 (blk 1 (loopN (exec (callW F) 100 c17_10) K17 100 [.ptr 3 0, .v (.int .i64 4), .v (.int .i64 k), inV i, .ptr (T.length + 4) 0, .v (.bool false), .v undef, .v (.bool true), .v (.bool false), .v (.int .i64 n), .v (.int .i64 0), .v undef, .v undef, .v undef, .v undef, .v undef, .v undef] (vH c0 c1 c2 c3 R N p o u hd ov (T ++ [.box (inC i)]))))) := by
            intro rest
            rw [show start c17 [.ptr 3 0, .v (.int .i64 4), .v (.int .i64 k), inV i] = [.ptr 3 0, .v (.int .i64 4), .v (.int .i64 k), inV i, .v undef, .v undef, .v undef, .v undef, .v undef, .v undef, .v undef, .v undef, .v undef, .v undef, .v undef, .v undef, .v undef] from rfl]
            generalize c17_10 = bb
            cases hd <;> simp only [Bool.true_and, Bool.false_and] at h3' <;>
              simp only [c17_0, c17_1, c17_2, c17_4, cl, v_bx, v_ld9, v_l0, vl4, ho, h1, h2, h3', pick_und, Int.reduceBEq, run_nil, run_cons, stp_plain, stp_guard, put_some, pass_eq, pick_tt, pick_ff, pick_tf, pick_ft, pick_u, reg_some, thn_normal, thn_exit, thn_ret, cnd_t, cnd_f, blk_normal, blk_ret, blk_exit, x_seq, x_region, x_cond, x_block, x_loop, x_ret, x_exit, x_skip, e_mov, e_pick, pk_t, pk_f, withH_some, e_box, e_load, e_store, stH_some, e_nil, e_bin, e_eqv, eqH_f, eqH_t, e_un, e_fa, e_ia, ia_eq, nat_eq, natV_nat, e_len, lnH_some, e_extract, ex_0, ex_1, e_call0, e_call1, e_call2, e_call3, pc0_eq, pc1_some, pc2_some, pc3_some, fin_some, g_var0, g_vars, g_loc0, g_locs, g_int, g_bool, g_str, g_sl, s_none, s_zero, s_succ, cl_nil, cl_str, cl_bool, cl_slc, cl_own, evFa, evNil, asEl, evBin, intBin, strBin, evUn, len_nil, len_slc, len_str, clr, List.length_nil, List.length_cons, List.getElem?_cons_zero, List.getElem?_cons_succ, Nat.reduceAdd, Nat.zero_add, Nat.add_zero, Nat.reduceLeDiff, Nat.reduceSub, ↓reduceIte, List.drop_succ_cons, List.drop_zero, List.take_succ_cons, List.take_zero, Bool.false_eq_true, List.nil_append, List.cons_append, Bool.not_true, Bool.not_false, cond_true, cond_false, bne, lv_ret, lv_normal, res1, res2, lv2_some, res_var, res_cell, lvf_v, lvf_slc, res1c, lvo1_some, e_mm, mm_max, mm_min, cl_agg, cl_int, g_agg, e_callv1, cv1_fn, e_slice2, e_clrrow, e_callf2, pick_und, cells_agg, Option.map_some, Option.map_none]
          obtain ⟨rest, hrest⟩ : ∃ rest, c17.body = (.seq (.region [] [] c17_0) (.seq (.block 0 (.seq (.region [] [] c17_1) (.cond (.var 7) (.seq (.seq (.region [] [] c17_2) (.cond (.var 8) (.seq (.region [] [] c17_3) .ret) .skip)) (.seq (.region [] [] c17_4) (.block 1 (.loop K17 [] c17_10)))) rest))) (.seq (.region [] [] c17_22) .ret))) := ⟨_, rfl⟩
          rw [hrest, pre]
          rcases lp [.ptr 3 0, .v (.int .i64 4), .v (.int .i64 k), inV i, .ptr (T.length + 4) 0, .v (.bool false), .v undef, .v (.bool true), .v (.bool false), .v (.int .i64 n), .v (.int .i64 0), .v undef, .v undef, .v undef, .v undef, .v undef, .v undef] rfl with ⟨g1, x6, x12, g2⟩ | ⟨g1, v', g2, g3⟩
          · rw [g1] at key ⊢
            rw [g2]
            simp only [V17, c17_22, run_nil, run_cons, stp_plain, stp_guard, put_some, pass_eq, pick_tt, pick_ff, pick_tf, pick_ft, pick_u, reg_some, thn_normal, thn_exit, thn_ret, cnd_t, cnd_f, blk_normal, blk_ret, blk_exit, x_seq, x_region, x_cond, x_block, x_loop, x_ret, x_exit, x_skip, e_mov, e_pick, pk_t, pk_f, withH_some, e_box, e_load, e_store, stH_some, e_nil, e_bin, e_eqv, eqH_f, eqH_t, e_un, e_fa, e_ia, ia_eq, nat_eq, natV_nat, e_len, lnH_some, e_extract, ex_0, ex_1, e_call0, e_call1, e_call2, e_call3, pc0_eq, pc1_some, pc2_some, pc3_some, fin_some, g_var0, g_vars, g_loc0, g_locs, g_int, g_bool, g_str, g_sl, s_none, s_zero, s_succ, cl_nil, cl_str, cl_bool, cl_slc, cl_own, evFa, evNil, asEl, evBin, intBin, strBin, evUn, len_nil, len_slc, len_str, clr, List.length_nil, List.length_cons, List.getElem?_cons_zero, List.getElem?_cons_succ, Nat.reduceAdd, Nat.zero_add, Nat.add_zero, Nat.reduceLeDiff, Nat.reduceSub, ↓reduceIte, List.drop_succ_cons, List.drop_zero, List.take_succ_cons, List.take_zero, Bool.false_eq_true, List.nil_append, List.cons_append, Bool.not_true, Bool.not_false, cond_true, cond_false, bne, lv_ret, lv_normal, res1, res2, lv2_some, res_var, res_cell, lvf_v, lvf_slc, res1c, lvo1_some, e_mm, mm_max, mm_min, cl_agg, cl_int, g_agg, e_callv1, cv1_fn, e_slice2, e_clrrow, e_callf2, pick_und, cells_agg, Option.map_some, Option.map_none]
            exact key _ rfl
          · rw [g1] at key ⊢
            rw [g2]
            simp only [run_nil, run_cons, stp_plain, stp_guard, put_some, pass_eq, pick_tt, pick_ff, pick_tf, pick_ft, pick_u, reg_some, thn_normal, thn_exit, thn_ret, cnd_t, cnd_f, blk_normal, blk_ret, blk_exit, x_seq, x_region, x_cond, x_block, x_loop, x_ret, x_exit, x_skip, e_mov, e_pick, pk_t, pk_f, withH_some, e_box, e_load, e_store, stH_some, e_nil, e_bin, e_eqv, eqH_f, eqH_t, e_un, e_fa, e_ia, ia_eq, nat_eq, natV_nat, e_len, lnH_some, e_extract, ex_0, ex_1, e_call0, e_call1, e_call2, e_call3, pc0_eq, pc1_some, pc2_some, pc3_some, fin_some, g_var0, g_vars, g_loc0, g_locs, g_int, g_bool, g_str, g_sl, s_none, s_zero, s_succ, cl_nil, cl_str, cl_bool, cl_slc, cl_own, evFa, evNil, asEl, evBin, intBin, strBin, evUn, len_nil, len_slc, len_str, clr, List.length_nil, List.length_cons, List.getElem?_cons_zero, List.getElem?_cons_succ, Nat.reduceAdd, Nat.zero_add, Nat.add_zero, Nat.reduceLeDiff, Nat.reduceSub, ↓reduceIte, List.drop_succ_cons, List.drop_zero, List.take_succ_cons, List.take_zero, Bool.false_eq_true, List.nil_append, List.cons_append, Bool.not_true, Bool.not_false, cond_true, cond_false, bne, lv_ret, lv_normal, res1, res2, lv2_some, res_var, res_cell, lvf_v, lvf_slc, res1c, lvo1_some, e_mm, mm_max, mm_min, cl_agg, cl_int, g_agg, e_callv1, cv1_fn, e_slice2, e_clrrow, e_callf2, pick_und, cells_agg, Option.map_some, Option.map_none]
            exact key _ g3
  · have ho : ((r == 4) && (i.op == 21)) = false := by
      cases h1 : (r == 4) with
      | false => rfl
      | true =>
        have : r = 4 := by simpa using h1
        have : i.op ≠ 21 := fun e => hcall ⟨this, e⟩
        simpa using this
    have e : wholeT S Q c2 hd r k i = (if r = 4 ∨ k = 2 ∨ k = 3 then true
      else if k = 0 then decide (i.b ≥ 0) && (decide (i.b < c2) && !(Q.contains i.b))
      else if k = 1 then Q.contains i.b
      else if r = 0 ∨ r = 2 then decide (i.n ≥ 1) && decide (i.n ≤ 16)
      else decide (i.b ≥ 16) && (S.contains i.b == (r == 3))) := by simp only [wholeT, if_neg hcall]
    rw [e] at key ⊢
    clear e hcall
    have hop : r = 4 → (i.op == 21) = false := fun h => by subst h; simpa using ho
    clear ho
    have nop : ∀ z : Int, 0 + 2 = 2 := fun _ => rfl
    by_cases h4 : r = 4
    · subst h4
      have ho := hop rfl
      simp only [c17, start, List.replicate, c17_0, c17_1, c17_11, c17_12, c17_13, c17_14, c17_15, c17_16, c17_17, c17_18, c17_19, c17_20, c17_21, c17_22, cl, v_bx, v_ld2, v_ld4, v_ld5, v_ld9, v_l0, v_l2, v_l4, e_lookup, pick_und, eb, Int.reduceBEq, run_nil, run_cons, stp_plain, stp_guard, put_some, pass_eq, pick_tt, pick_ff, pick_tf, pick_ft, pick_u, reg_some, thn_normal, thn_exit, thn_ret, cnd_t, cnd_f, blk_normal, blk_ret, blk_exit, x_seq, x_region, x_cond, x_block, x_loop, x_ret, x_exit, x_skip, e_mov, e_pick, pk_t, pk_f, withH_some, e_box, e_load, e_store, stH_some, e_nil, e_bin, e_eqv, eqH_f, eqH_t, e_un, e_fa, e_ia, ia_eq, nat_eq, natV_nat, e_len, lnH_some, e_extract, ex_0, ex_1, e_call0, e_call1, e_call2, e_call3, pc0_eq, pc1_some, pc2_some, pc3_some, fin_some, g_var0, g_vars, g_loc0, g_locs, g_int, g_bool, g_str, g_sl, s_none, s_zero, s_succ, cl_nil, cl_str, cl_bool, cl_slc, cl_own, evFa, evNil, asEl, evBin, intBin, strBin, evUn, len_nil, len_slc, len_str, clr, List.length_nil, List.length_cons, List.getElem?_cons_zero, List.getElem?_cons_succ, Nat.reduceAdd, Nat.zero_add, Nat.add_zero, Nat.reduceLeDiff, Nat.reduceSub, ↓reduceIte, List.drop_succ_cons, List.drop_zero, List.take_succ_cons, List.take_zero, Bool.false_eq_true, List.nil_append, List.cons_append, Bool.not_true, Bool.not_false, cond_true, cond_false, bne, lv_ret, lv_normal, res1, res2, lv2_some, res_var, res_cell, lvf_v, lvf_slc, res1c, lvo1_some, e_mm, mm_max, mm_min, cl_agg, cl_int, g_agg, e_callv1, cv1_fn, e_slice2, e_clrrow, e_callf2, pick_und, cells_agg, Option.map_some, Option.map_none, ho]
      exact key _ rfl
    · have hr4 : r = 0 ∨ r = 1 ∨ r = 2 ∨ r = 3 := by omega
      clear hop h4 hr5
      rcases hk5 with rfl | rfl | rfl | rfl | rfl
      · cases b1 : decide (i.b ≥ 0) <;> cases b2 : decide (i.b < c2) <;> cases b3 : Q.contains i.b <;> rw [b1, b2, b3] at key <;> rw [b3] at lk2 <;>
          rcases hr4 with rfl | rfl | rfl | rfl <;>
          simp only [c17, start, List.replicate, c17_0, c17_1, c17_11, c17_12, c17_13, c17_14, c17_15, c17_16, c17_17, c17_18, c17_19, c17_20, c17_21, c17_22, cl, v_bx, v_ld2, v_ld4, v_ld5, v_ld9, v_l0, v_l2, v_l4, e_lookup, pick_und, eb, Int.reduceBEq, run_nil, run_cons, stp_plain, stp_guard, put_some, pass_eq, pick_tt, pick_ff, pick_tf, pick_ft, pick_u, reg_some, thn_normal, thn_exit, thn_ret, cnd_t, cnd_f, blk_normal, blk_ret, blk_exit, x_seq, x_region, x_cond, x_block, x_loop, x_ret, x_exit, x_skip, e_mov, e_pick, pk_t, pk_f, withH_some, e_box, e_load, e_store, stH_some, e_nil, e_bin, e_eqv, eqH_f, eqH_t, e_un, e_fa, e_ia, ia_eq, nat_eq, natV_nat, e_len, lnH_some, e_extract, ex_0, ex_1, e_call0, e_call1, e_call2, e_call3, pc0_eq, pc1_some, pc2_some, pc3_some, fin_some, g_var0, g_vars, g_loc0, g_locs, g_int, g_bool, g_str, g_sl, s_none, s_zero, s_succ, cl_nil, cl_str, cl_bool, cl_slc, cl_own, evFa, evNil, asEl, evBin, intBin, strBin, evUn, len_nil, len_slc, len_str, clr, List.length_nil, List.length_cons, List.getElem?_cons_zero, List.getElem?_cons_succ, Nat.reduceAdd, Nat.zero_add, Nat.add_zero, Nat.reduceLeDiff, Nat.reduceSub, ↓reduceIte, List.drop_succ_cons, List.drop_zero, List.take_succ_cons, List.take_zero, Bool.false_eq_true, List.nil_append, List.cons_append, Bool.not_true, Bool.not_false, cond_true, cond_false, bne, lv_ret, lv_normal, res1, res2, lv2_some, res_var, res_cell, lvf_v, lvf_slc, res1c, lvo1_some, e_mm, mm_max, mm_min, cl_agg, cl_int, g_agg, e_callv1, cv1_fn, e_slice2, e_clrrow, e_callf2, pick_und, cells_agg, Option.map_some, Option.map_none, b1, b2, lk2] <;> exact key _ rfl
      · rcases hr4 with rfl | rfl | rfl | rfl <;>
          simp only [c17, start, List.replicate, c17_0, c17_1, c17_11, c17_12, c17_13, c17_14, c17_15, c17_16, c17_17, c17_18, c17_19, c17_20, c17_21, c17_22, cl, v_bx, v_ld2, v_ld4, v_ld5, v_ld9, v_l0, v_l2, v_l4, e_lookup, pick_und, eb, Int.reduceBEq, run_nil, run_cons, stp_plain, stp_guard, put_some, pass_eq, pick_tt, pick_ff, pick_tf, pick_ft, pick_u, reg_some, thn_normal, thn_exit, thn_ret, cnd_t, cnd_f, blk_normal, blk_ret, blk_exit, x_seq, x_region, x_cond, x_block, x_loop, x_ret, x_exit, x_skip, e_mov, e_pick, pk_t, pk_f, withH_some, e_box, e_load, e_store, stH_some, e_nil, e_bin, e_eqv, eqH_f, eqH_t, e_un, e_fa, e_ia, ia_eq, nat_eq, natV_nat, e_len, lnH_some, e_extract, ex_0, ex_1, e_call0, e_call1, e_call2, e_call3, pc0_eq, pc1_some, pc2_some, pc3_some, fin_some, g_var0, g_vars, g_loc0, g_locs, g_int, g_bool, g_str, g_sl, s_none, s_zero, s_succ, cl_nil, cl_str, cl_bool, cl_slc, cl_own, evFa, evNil, asEl, evBin, intBin, strBin, evUn, len_nil, len_slc, len_str, clr, List.length_nil, List.length_cons, List.getElem?_cons_zero, List.getElem?_cons_succ, Nat.reduceAdd, Nat.zero_add, Nat.add_zero, Nat.reduceLeDiff, Nat.reduceSub, ↓reduceIte, List.drop_succ_cons, List.drop_zero, List.take_succ_cons, List.take_zero, Bool.false_eq_true, List.nil_append, List.cons_append, Bool.not_true, Bool.not_false, cond_true, cond_false, bne, lv_ret, lv_normal, res1, res2, lv2_some, res_var, res_cell, lvf_v, lvf_slc, res1c, lvo1_some, e_mm, mm_max, mm_min, cl_agg, cl_int, g_agg, e_callv1, cv1_fn, e_slice2, e_clrrow, e_callf2, pick_und, cells_agg, Option.map_some, Option.map_none, lk2] <;> exact key _ rfl
      · rcases hr4 with rfl | rfl | rfl | rfl <;>
          simp only [c17, start, List.replicate, c17_0, c17_1, c17_11, c17_12, c17_13, c17_14, c17_15, c17_16, c17_17, c17_18, c17_19, c17_20, c17_21, c17_22, cl, v_bx, v_ld2, v_ld4, v_ld5, v_ld9, v_l0, v_l2, v_l4, e_lookup, pick_und, eb, Int.reduceBEq, run_nil, run_cons, stp_plain, stp_guard, put_some, pass_eq, pick_tt, pick_ff, pick_tf, pick_ft, pick_u, reg_some, thn_normal, thn_exit, thn_ret, cnd_t, cnd_f, blk_normal, blk_ret, blk_exit, x_seq, x_region, x_cond, x_block, x_loop, x_ret, x_exit, x_skip, e_mov, e_pick, pk_t, pk_f, withH_some, e_box, e_load, e_store, stH_some, e_nil, e_bin, e_eqv, eqH_f, eqH_t, e_un, e_fa, e_ia, ia_eq, nat_eq, natV_nat, e_len, lnH_some, e_extract, ex_0, ex_1, e_call0, e_call1, e_call2, e_call3, pc0_eq, pc1_some, pc2_some, pc3_some, fin_some, g_var0, g_vars, g_loc0, g_locs, g_int, g_bool, g_str, g_sl, s_none, s_zero, s_succ, cl_nil, cl_str, cl_bool, cl_slc, cl_own, evFa, evNil, asEl, evBin, intBin, strBin, evUn, len_nil, len_slc, len_str, clr, List.length_nil, List.length_cons, List.getElem?_cons_zero, List.getElem?_cons_succ, Nat.reduceAdd, Nat.zero_add, Nat.add_zero, Nat.reduceLeDiff, Nat.reduceSub, ↓reduceIte, List.drop_succ_cons, List.drop_zero, List.take_succ_cons, List.take_zero, Bool.false_eq_true, List.nil_append, List.cons_append, Bool.not_true, Bool.not_false, cond_true, cond_false, bne, lv_ret, lv_normal, res1, res2, lv2_some, res_var, res_cell, lvf_v, lvf_slc, res1c, lvo1_some, e_mm, mm_max, mm_min, cl_agg, cl_int, g_agg, e_callv1, cv1_fn, e_slice2, e_clrrow, e_callf2, pick_und, cells_agg, Option.map_some, Option.map_none] <;> exact key _ rfl
      · rcases hr4 with rfl | rfl | rfl | rfl <;>
          simp only [c17, start, List.replicate, c17_0, c17_1, c17_11, c17_12, c17_13, c17_14, c17_15, c17_16, c17_17, c17_18, c17_19, c17_20, c17_21, c17_22, cl, v_bx, v_ld2, v_ld4, v_ld5, v_ld9, v_l0, v_l2, v_l4, e_lookup, pick_und, eb, Int.reduceBEq, run_nil, run_cons, stp_plain, stp_guard, put_some, pass_eq, pick_tt, pick_ff, pick_tf, pick_ft, pick_u, reg_some, thn_normal, thn_exit, thn_ret, cnd_t, cnd_f, blk_normal, blk_ret, blk_exit, x_seq, x_region, x_cond, x_block, x_loop, x_ret, x_exit, x_skip, e_mov, e_pick, pk_t, pk_f, withH_some, e_box, e_load, e_store, stH_some, e_nil, e_bin, e_eqv, eqH_f, eqH_t, e_un, e_fa, e_ia, ia_eq, nat_eq, natV_nat, e_len, lnH_some, e_extract, ex_0, ex_1, e_call0, e_call1, e_call2, e_call3, pc0_eq, pc1_some, pc2_some, pc3_some, fin_some, g_var0, g_vars, g_loc0, g_locs, g_int, g_bool, g_str, g_sl, s_none, s_zero, s_succ, cl_nil, cl_str, cl_bool, cl_slc, cl_own, evFa, evNil, asEl, evBin, intBin, strBin, evUn, len_nil, len_slc, len_str, clr, List.length_nil, List.length_cons, List.getElem?_cons_zero, List.getElem?_cons_succ, Nat.reduceAdd, Nat.zero_add, Nat.add_zero, Nat.reduceLeDiff, Nat.reduceSub, ↓reduceIte, List.drop_succ_cons, List.drop_zero, List.take_succ_cons, List.take_zero, Bool.false_eq_true, List.nil_append, List.cons_append, Bool.not_true, Bool.not_false, cond_true, cond_false, bne, lv_ret, lv_normal, res1, res2, lv2_some, res_var, res_cell, lvf_v, lvf_slc, res1c, lvo1_some, e_mm, mm_max, mm_min, cl_agg, cl_int, g_agg, e_callv1, cv1_fn, e_slice2, e_clrrow, e_callf2, pick_und, cells_agg, Option.map_some, Option.map_none] <;> exact key _ rfl
      · cases b1 : decide (i.n ≥ 1) <;> cases b2 : decide (i.n ≤ 16) <;> cases b3 : decide (i.b ≥ 16) <;> rw [b1, b2, b3] at key <;>
          rcases hr4 with rfl | rfl | rfl | rfl <;>
          simp only [c17, start, List.replicate, c17_0, c17_1, c17_11, c17_12, c17_13, c17_14, c17_15, c17_16, c17_17, c17_18, c17_19, c17_20, c17_21, c17_22, cl, v_bx, v_ld2, v_ld4, v_ld5, v_ld9, v_l0, v_l2, v_l4, e_lookup, pick_und, eb, Int.reduceBEq, run_nil, run_cons, stp_plain, stp_guard, put_some, pass_eq, pick_tt, pick_ff, pick_tf, pick_ft, pick_u, reg_some, thn_normal, thn_exit, thn_ret, cnd_t, cnd_f, blk_normal, blk_ret, blk_exit, x_seq, x_region, x_cond, x_block, x_loop, x_ret, x_exit, x_skip, e_mov, e_pick, pk_t, pk_f, withH_some, e_box, e_load, e_store, stH_some, e_nil, e_bin, e_eqv, eqH_f, eqH_t, e_un, e_fa, e_ia, ia_eq, nat_eq, natV_nat, e_len, lnH_some, e_extract, ex_0, ex_1, e_call0, e_call1, e_call2, e_call3, pc0_eq, pc1_some, pc2_some, pc3_some, fin_some, g_var0, g_vars, g_loc0, g_locs, g_int, g_bool, g_str, g_sl, s_none, s_zero, s_succ, cl_nil, cl_str, cl_bool, cl_slc, cl_own, evFa, evNil, asEl, evBin, intBin, strBin, evUn, len_nil, len_slc, len_str, clr, List.length_nil, List.length_cons, List.getElem?_cons_zero, List.getElem?_cons_succ, Nat.reduceAdd, Nat.zero_add, Nat.add_zero, Nat.reduceLeDiff, Nat.reduceSub, ↓reduceIte, List.drop_succ_cons, List.drop_zero, List.take_succ_cons, List.take_zero, Bool.false_eq_true, List.nil_append, List.cons_append, Bool.not_true, Bool.not_false, cond_true, cond_false, bne, lv_ret, lv_normal, res1, res2, lv2_some, res_var, res_cell, lvf_v, lvf_slc, res1c, lvo1_some, e_mm, mm_max, mm_min, cl_agg, cl_int, g_agg, e_callv1, cv1_fn, e_slice2, e_clrrow, e_callf2, pick_und, cells_agg, Option.map_some, Option.map_none, b1, b2, b3, lk1] <;> exact key _ rfl
end
end Go.AE.YtchiacliefahdaaDoor
end

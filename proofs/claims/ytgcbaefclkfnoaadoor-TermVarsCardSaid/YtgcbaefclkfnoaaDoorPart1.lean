/- Texts of this claim, put together. -/
import Derived.Shelf.Strings.Builder1
import Derived.Shelf.Small.Strs
import Derived.Shelf.Unicode.DecodeAny
import Derived.Test.YtgcbaefclkfnoaaDoorChecked
import Derived.Shelf.Unicode.ValidAny
import Derived.Test.YtgcbaefclkfnoaaDoorEval4
import Derived.Lib.LaidU8T
import Derived.WalkKit
import Derived.RangeFuncNested
import Derived.RangeFuncBound
import Derived.RangeFuncCalls
import Derived.RangeFuncLeaves
import Derived.RangeFuncFrom
import Derived.Laws.Rows
import Derived.KernelRfl
import Derived.Shelf.Abstract
import Derived.OwnWalkIn
import Derived.TacticsInMore
import Derived.LoopNIn
import Derived.LoopIn
import Derived.Test.YtgcbaefclkfnoaaDoorProg
import Derived.Test.YtgcbaefclkfnoaaDoorEval3
import Derived.Maps.OwnIn
import Derived.Maps.AppendAt
import Derived.RangeFuncWrites
import Derived.RangeFuncBox
/-! DERIVED: THE SHELF's CONTRACTS AT THIS DUMP, IN PLAIN WORDS (tools/lay-plain.mjs out of 'TrydPruned.lean', which tools/lay-shelf.mjs wrote): THE SAME DECLARATIONS UNDER THE SAME NAMES: 'import', 'namespace', 'open', 'def', 'theorem' AND NOTHING ELSE: no command of the shelf's: FOR A HAND-IN. Each laying: the table of numbers ('.._ren') and one theorem, a field a fact of the dump's own or the kernel's comparison; each contract: ONE APPLICATION. -/
section
namespace Go.Proofs
open Go.Shelf
def Tryd.lays169_ren : Go.Shelf.Ren := ⟨fun | 169 => 53 | n => n, fun | 70 => 58 | 9 => 9 | 0 => 0 | 72 => 61 | 37 => 59 | 127 => 85 | 3 => 3 | 5 => 5 | n => n, fun | n => n⟩
theorem Tryd.lays169 : Go.Proofs.Lays.n169 Tryd.prog Tryd.lays169_ren := {
  mixed := by kernel_rfl
  f169 := Tryd.func53.trans (congrArg some (by kernel_rfl))
  t0 := Tryd.underlying0
  a0 := Tryd.isAgg0
  z0 := Tryd.sizeOf0
  v0 := Tryd.zeroValue0
  t3 := Tryd.underlying3
  a3 := Tryd.isAgg3
  z3 := Tryd.sizeOf3
  v3 := Tryd.zeroValue3
  t9 := Tryd.underlying9
  a9 := Tryd.isAgg9
  z9 := Tryd.sizeOf9
  v9 := Tryd.zeroValue9
  t37 := Tryd.underlying59
  a37 := Tryd.isAgg59
  z37 := Tryd.sizeOf59
  v37 := Tryd.zeroValue59
  t70 := Tryd.underlying58
  a70 := Tryd.isAgg58
  z70 := Tryd.sizeOf58
  v70 := Tryd.zeroValue58
  t72 := Tryd.underlying61
  a72 := Tryd.isAgg61
  z72 := Tryd.sizeOf61
  v72 := Tryd.zeroValue61
  t127 := Tryd.underlying85
  a127 := Tryd.isAgg85
  z127 := Tryd.sizeOf85
  v127 := Tryd.zeroValue85 }
theorem Tryd.Builder_Extra_169 : Builder.Extra Tryd.prog Tryd.lays169_ren := {
  sizeBuilder := by kernel_rfl
  liesBuilder := by kernel_rfl
  t5 := Tryd.underlying5
  a5 := Tryd.isAgg5
  z5 := Tryd.sizeOf5
  v5 := Tryd.zeroValue5
  infoByte := by kernel_rfl
  cellsByte := by kernel_rfl
  sizeByte := by kernel_rfl
  neB5 := by decide }
def Tryd.lays106_ren : Go.Shelf.Ren := ⟨fun | 106 => 47 | 213 => 64 | 265 => 76 | n => n, fun | 9 => 9 | 3 => 3 | n => n, fun | n => n⟩
theorem Tryd.lays106 : Go.Proofs.Lays.n106 Tryd.prog Tryd.lays106_ren := {
  mixed := by kernel_rfl
  f106 := Tryd.func47.trans (congrArg some (by kernel_rfl))
  f213 := Tryd.func64.trans (congrArg some (by kernel_rfl))
  f265 := Tryd.func76.trans (congrArg some (by kernel_rfl))
  t3 := Tryd.underlying3
  a3 := Tryd.isAgg3
  z3 := Tryd.sizeOf3
  v3 := Tryd.zeroValue3
  t9 := Tryd.underlying9
  a9 := Tryd.isAgg9
  z9 := Tryd.sizeOf9
  v9 := Tryd.zeroValue9 }
open Go.RowKit in
theorem Tryd.strings_Compare (a b : ByteArray) (w : World) :
    Calls Tryd.prog 47 #[.string a, .string b] w fun e w' => e = .returned (.int .i64 (Lib.compareBytes a.data.toList b.data.toList)) ∧ w' = w := Any.strings_Compare Tryd.lays106 a b w
def Tryd.lays197_ren : Go.Shelf.Ren := ⟨fun | 197 => 93 | 260 => 101 | n => n, fun | 9 => 9 | 21 => 21 | 3 => 3 | 4 => 4 | 5 => 5 | 105 => 106 | 119 => 96 | 0 => 0 | 46 => 100 | 139 => 99 | 138 => 98 | n => n, fun | 3 => 1 | 4 => 2 | n => n⟩
theorem Tryd.lays197 : Go.Proofs.Lays.n197 Tryd.prog Tryd.lays197_ren := {
  mixed := by kernel_rfl
  f197 := Tryd.func93.trans (congrArg some (by kernel_rfl))
  f260 := Tryd.func101.trans (congrArg some (by kernel_rfl))
  t0 := Tryd.underlying0
  a0 := Tryd.isAgg0
  z0 := Tryd.sizeOf0
  v0 := Tryd.zeroValue0
  t3 := Tryd.underlying3
  a3 := Tryd.isAgg3
  z3 := Tryd.sizeOf3
  v3 := Tryd.zeroValue3
  t4 := Tryd.underlying4
  a4 := Tryd.isAgg4
  z4 := Tryd.sizeOf4
  v4 := Tryd.zeroValue4
  t5 := Tryd.underlying5
  a5 := Tryd.isAgg5
  z5 := Tryd.sizeOf5
  v5 := Tryd.zeroValue5
  t9 := Tryd.underlying9
  a9 := Tryd.isAgg9
  z9 := Tryd.sizeOf9
  v9 := Tryd.zeroValue9
  t21 := Tryd.underlying21
  a21 := Tryd.isAgg21
  z21 := Tryd.sizeOf21
  v21 := Tryd.zeroValue21
  t46 := Tryd.underlying100
  a46 := Tryd.isAgg100
  z46 := Tryd.sizeOf100
  v46 := Tryd.zeroValue100
  t105 := Tryd.underlying106
  a105 := Tryd.isAgg106
  z105 := Tryd.sizeOf106
  v105 := Tryd.zeroValue106
  t119 := Tryd.underlying96
  a119 := Tryd.isAgg96
  z119 := Tryd.sizeOf96
  t138 := Tryd.underlying98
  a138 := Tryd.isAgg98
  z138 := Tryd.sizeOf98
  v138 := Tryd.zeroValue98
  t139 := Tryd.underlying99
  a139 := Tryd.isAgg99
  z139 := Tryd.sizeOf99
  v139 := Tryd.zeroValue99
  g3 := by kernel_rfl
  g4 := by kernel_rfl }
def Tryd.lays196_ren : Go.Shelf.Ren := ⟨fun | 196 => 75 | 259 => 86 | n => n, fun | 9 => 9 | 4 => 4 | 3 => 3 | 5 => 5 | 12 => 12 | 119 => 96 | 0 => 0 | 46 => 100 | 139 => 99 | 138 => 98 | 53 => 88 | n => n, fun | 3 => 1 | 4 => 2 | n => n⟩
theorem Tryd.lays196 : Go.Proofs.Lays.n196 Tryd.prog Tryd.lays196_ren := {
  mixed := by kernel_rfl
  f196 := Tryd.func75.trans (congrArg some (by kernel_rfl))
  f259 := Tryd.func86.trans (congrArg some (by kernel_rfl))
  t0 := Tryd.underlying0
  a0 := Tryd.isAgg0
  z0 := Tryd.sizeOf0
  v0 := Tryd.zeroValue0
  t3 := Tryd.underlying3
  a3 := Tryd.isAgg3
  z3 := Tryd.sizeOf3
  v3 := Tryd.zeroValue3
  t4 := Tryd.underlying4
  a4 := Tryd.isAgg4
  z4 := Tryd.sizeOf4
  v4 := Tryd.zeroValue4
  t5 := Tryd.underlying5
  a5 := Tryd.isAgg5
  z5 := Tryd.sizeOf5
  v5 := Tryd.zeroValue5
  t9 := Tryd.underlying9
  a9 := Tryd.isAgg9
  z9 := Tryd.sizeOf9
  v9 := Tryd.zeroValue9
  t12 := Tryd.underlying12
  a12 := Tryd.isAgg12
  z12 := Tryd.sizeOf12
  v12 := Tryd.zeroValue12
  t46 := Tryd.underlying100
  a46 := Tryd.isAgg100
  z46 := Tryd.sizeOf100
  v46 := Tryd.zeroValue100
  t53 := Tryd.underlying88
  a53 := Tryd.isAgg88
  z53 := Tryd.sizeOf88
  v53 := Tryd.zeroValue88
  t119 := Tryd.underlying96
  a119 := Tryd.isAgg96
  z119 := Tryd.sizeOf96
  t138 := Tryd.underlying98
  a138 := Tryd.isAgg98
  z138 := Tryd.sizeOf98
  v138 := Tryd.zeroValue98
  t139 := Tryd.underlying99
  a139 := Tryd.isAgg99
  z139 := Tryd.sizeOf99
  v139 := Tryd.zeroValue99
  g3 := by kernel_rfl
  g4 := by kernel_rfl }
end Go.Proofs
end

/-! The library's functions that the laws of layer 3 reach, as entries of the evaluator's table, where the library's two tables lie. -/
section
set_option linter.unusedVariables false
namespace Go.Proofs.YtgcbaefclkfnoaaDoor
open Go Go.RowKit Go.AE Go.Proofs Go.Shelf

/-! ### copyCheck -/
set_option maxHeartbeats 1000000 in
set_option maxRecDepth 100000 in
theorem copy_used (b : Nat) (w : World) (h0 : w.cell? ⟨b, 0, none⟩ = some (.pointer (some ⟨b, 0, none⟩))) :
    Calls Tryd.prog 77 #[.pointer (some ⟨b, 0, none⟩)] w fun e w' => e = .returned (.tuple #[]) ∧ w' = w := by
  obtain ⟨j, hj, _⟩ := Option.map_eq_some_iff.1 Tryd.Builder_Extra_169.sizeBuilder
  have hj : Tryd.prog.info? 61 = some j := hj
  go_enter Tryd.func77, Tryd.ntmps77
  go_wp2
  rw [Lib.run_neq_ptr_same w _ Tryd.underlying58 hj]
  go_wp2
  go_end0
  exact ⟨rfl, rfl⟩
set_option maxHeartbeats 1000000 in
set_option maxRecDepth 100000 in
theorem copy_fresh (b : Nat) (w : World) (h0 : w.cell? ⟨b, 0, none⟩ = some (.pointer none)) (hsh : w.shape? b = some (61, 2)) (hfz : w.frozen? ⟨b, 0, none⟩ = false) :
    Calls Tryd.prog 77 #[.pointer (some ⟨b, 0, none⟩)] w fun e w' => e = .returned (.tuple #[]) ∧ w' = w.setCell ⟨b, 0, none⟩ (.pointer (some ⟨b, 0, none⟩)) := by
  obtain ⟨j, hj, hjs⟩ := Option.map_eq_some_iff.1 Tryd.Builder_Extra_169.sizeBuilder
  have hj : Tryd.prog.info? 61 = some j := hj
  go_enter Tryd.func77, Tryd.ntmps77
  go_wp2
  rw [Lib.run_to_unsafe w ⟨b, 0, none⟩ Tryd.underlying58 Tryd.underlying101 hj (by rw [hjs]; decide) hsh (Nat.zero_lt_succ 1)]
  simp only [Result.andThen]
  rw [Oper.upon_value]
  go_wp2
  rw [run_callFunc_extern Tryd.func87 (by kernel_rfl) (by kernel_rfl) (by kernel_rfl) (e := Extern.AbiNoEscape.same) (by kernel_rfl)]
  rw [Lib.run_noEscape]
  simp only [Result.andThen]
  rw [Oper.upon_value]
  go_wp2
  rw [Lib.run_from_unsafe w ⟨b, 0, none⟩ Tryd.underlying101 Tryd.underlying58 hj hsh Tryd.Builder_Extra_169.liesBuilder]
  simp only [Result.andThen]
  rw [Oper.upon_value]
  go_wp2
  go_end0
  exact ⟨rfl, rfl⟩
theorem copy_enter (vals : Array Value) (w : World) : (callFunc 77 vals).run Tryd.prog w = .ok (.enter 77 vals) w := enters_of Tryd.func77 (by kernel_rfl) rfl vals w
theorem string_enter (vals : Array Value) (w : World) : (callFunc 53 vals).run Tryd.prog w = .ok (.enter 53 vals) w := enters_of Tryd.func53 (by kernel_rfl) rfl vals w

/-! ### What reads nothing of ours -/
def K (B : Nat) (w : World) : Prop := B = w.heap.size ∧ (Lib.Utf8Tabs (Tryd.lays196_ren.g 3) (Tryd.lays196_ren.g 4) w ∧ (w.cell? ⟨5, 15, none⟩ = some (.int .u8 4) ∧ 5 < w.heap.size))
theorem hKs : Holds K := fun B w0 I σ w h hK hI => ⟨rfl, Utf8Tabs_below hK.2.1 (hK.1 ▸ hI.below), (hI.below.cell (p := ⟨5, 15, none⟩) (by have := hK.2.2.2; rw [hK.1]; exact this)).trans hK.2.2.1, Nat.lt_of_lt_of_le hK.2.2.2 (hK.1 ▸ hI.base)⟩
theorem look_ends {B : Nat} {w0 w : World} {I : Cells} {σ : List AE.Loc} {h : List AO} (hI : AE.Inv B w0 I σ w h) {r : AV} {e : Ending} {v : Value} {w' : World} (he : e = .returned v) (hB : Below w.heap.size w w') (hr : Rep I w σ r v) : AE.Ends B w0 I σ w r h e w' := by
  have hext : Ext I w I w' := ⟨fun _ _ h => h, fun b x hi => hB.cell (p := ⟨b, x, none⟩) (hI.imm_lt hi)⟩
  refine ⟨v, I, σ, he, hI.same (hB.mono hI.base) hext (fun b x hi => by
    obtain ⟨u, hu⟩ := hI.imm b x hi
    exact ⟨u, (hext.cell b x hi).trans hu⟩) (fun j Lj hj hh => ⟨hB.block _ (hI.mine j Lj hj hh).2, fun _ h => h⟩), ⟨hext, Later.refl _, fun _ _ h => .inl h, hB.size⟩, hr.mono hext (Later.refl _)⟩

def validG (args : List AV) (h : List AO) : Option (AV × List AO) := match args with
  | [.v (.string s)] => if s.size ≤ 9223372036854775807 then some (.v (.bool (Lib.validD s.data.toList)), h) else none
  | _ => none
theorem valid_enter (vals : Array Value) (w : World) : (callFunc 75 vals).run Tryd.prog w = .ok (.enter 75 vals) w := enters_of Tryd.func75 (by kernel_rfl) rfl vals w
theorem valid_ok {B : Nat} {w0 : World} (hK : K B w0) : ∀ args h r h', validG args h = some (r, h') → (∀ (vals : Array Value) (w : World), (callFunc 75 vals).run Tryd.prog w = .ok (.enter 75 vals) w) ∧
    ∀ I σ w (vals : Array Value), AE.Inv B w0 I σ w h → ArgsRep I w σ args vals → Calls Tryd.prog 75 vals w (AE.Ends B w0 I σ w r h') := by
  intro args h r h' hg
  refine ⟨valid_enter, fun I σ w vals hI ha => ?_⟩
  unfold validG at hg
  split at hg
  · rename_i s
    split at hg
    · rename_i hs
      cases hg
      obtain ⟨u, rfl, h1⟩ := one_arg (args := []) ha
      cases h1
      have cV : Calls Tryd.prog 75 #[.string s] w _ := Any.utf8_ValidString Tryd.lays196 s w hs (hKs B w0 I σ w h hK hI).2.1
      refine cV.mono ?_
      rintro e w' ⟨he, hB⟩
      exact look_ends hI he hB (.v _ _)
    · cases hg
  · cases hg

def decG (args : List AV) (h : List AO) : Option (AV × List AO) := match args with
  | [.v (.string s)] => some (.tup [.v (.int .i32 (Lib.decodeGo s).1), .v (.int .i64 (Lib.decodeGo s).2)], h)
  | _ => none
theorem dec_enter (vals : Array Value) (w : World) : (callFunc 93 vals).run Tryd.prog w = .ok (.enter 93 vals) w := enters_of Tryd.func93 (by kernel_rfl) rfl vals w
theorem dec_ok {B : Nat} {w0 : World} (hK : K B w0) : ∀ args h r h', decG args h = some (r, h') → (∀ (vals : Array Value) (w : World), (callFunc 93 vals).run Tryd.prog w = .ok (.enter 93 vals) w) ∧
    ∀ I σ w (vals : Array Value), AE.Inv B w0 I σ w h → ArgsRep I w σ args vals → Calls Tryd.prog 93 vals w (AE.Ends B w0 I σ w r h') := by
  intro args h r h' hg
  refine ⟨dec_enter, fun I σ w vals hI ha => ?_⟩
  unfold decG at hg
  split at hg
  · rename_i s
    cases hg
    obtain ⟨u, rfl, h1⟩ := one_arg (args := []) ha
    cases h1
    have cV : Calls Tryd.prog 93 #[.string s] w _ := Any.utf8_DecodeRuneInString Tryd.lays197 s w (hKs B w0 I σ w h hK hI).2.1
    refine cV.mono ?_
    rintro e w' ⟨he, hB⟩
    refine look_ends hI he hB (.tup _ _ _ rfl (fun i c hi => ?_))
    match i, hi with
    | 0, hi => cases hi; exact .v _ _
    | 1, hi => cases hi; exact .v _ _
  · cases hg

def tzG (args : List AV) (h : List AO) : Option (AV × List AO) := match args with
  | [.v (.int .u64 n)] => if n = 16 then some (.v (.int .i64 4), h) else none
  | _ => none
theorem tz_enter (vals : Array Value) (w : World) : (callFunc 108 vals).run Tryd.prog w = .ok (.enter 108 vals) w := enters_of Tryd.func108 (by kernel_rfl) rfl vals w
set_option maxHeartbeats 1000000 in
set_option maxRecDepth 100000 in
theorem tz_walk (w : World) (h0 : w.cell? ⟨5, 15, none⟩ = some (.int .u8 4)) :
    Calls Tryd.prog 108 #[.int .u64 16] w fun e w' => e = .returned (.int .i64 4) ∧ w' = w := by
  have key : IntKind.u64.wrap (bits BinOp.and IntKind.u64 16 (IntKind.u64.wrap (-16)) * 285870213051353865) / 288230376151711744 = 15 := by decide
  go_enter Tryd.func108, Tryd.ntmps108
  go_wp2_with (simp only [key])
  go_ret
  exact ⟨rfl, rfl⟩
theorem tz_ok {B : Nat} {w0 : World} (hK : K B w0) : ∀ args h r h', tzG args h = some (r, h') → (∀ (vals : Array Value) (w : World), (callFunc 108 vals).run Tryd.prog w = .ok (.enter 108 vals) w) ∧
    ∀ I σ w (vals : Array Value), AE.Inv B w0 I σ w h → ArgsRep I w σ args vals → Calls Tryd.prog 108 vals w (AE.Ends B w0 I σ w r h') := by
  intro args h r h' hg
  refine ⟨tz_enter, fun I σ w vals hI ha => ?_⟩
  unfold tzG at hg
  split at hg
  · rename_i n
    split at hg
    · rename_i hn
      subst hn
      cases hg
      obtain ⟨u, rfl, h1⟩ := one_arg (args := []) ha
      cases h1
      refine (tz_walk w (hKs B w0 I σ w h hK hI).2.2.1).mono ?_
      rintro e w' ⟨he, rfl⟩
      exact look_ends hI he (Below.refl _ _) (.v _ _)
    · cases hg
  · cases hg

def compareG (args : List AV) (h : List AO) : Option (AV × List AO) := match args with
  | [.v (.string a), .v (.string b)] => some (.v (.int .i64 (Lib.compareBytes a.data.toList b.data.toList)), h)
  | _ => none
theorem compare_enter (vals : Array Value) (w : World) : (callFunc 47 vals).run Tryd.prog w = .ok (.enter 47 vals) w := enters_of Tryd.func47 (by kernel_rfl) rfl vals w
theorem compare_ok {B : Nat} {w0 : World} : ∀ args h r h', compareG args h = some (r, h') → (∀ (vals : Array Value) (w : World), (callFunc 47 vals).run Tryd.prog w = .ok (.enter 47 vals) w) ∧
    ∀ I σ w (vals : Array Value), AE.Inv B w0 I σ w h → ArgsRep I w σ args vals → Calls Tryd.prog 47 vals w (AE.Ends B w0 I σ w r h') := by
  intro args h r h' hg
  refine ⟨compare_enter, fun I σ w vals hI ha => ?_⟩
  unfold compareG at hg
  split at hg
  · rename_i s s'
    cases hg
    have hsz := ha.size
    obtain ⟨l⟩ := vals
    match l, hsz with
    | [u, u'], _ =>
      have h1 := ha.rep 0 _ rfl
      have h2 := ha.rep 1 _ rfl
      cases h1
      cases h2
      refine (Tryd.strings_Compare s s' w).mono ?_
      rintro e w' ⟨he, rfl⟩
      exact look_ends hI he (Below.refl _ _) (.v _ _)
  · cases hg
end Go.Proofs.YtgcbaefclkfnoaaDoor
end

/-! term.walk walked by hand: a recursive iterator. -/
section
namespace Go.Proofs.YtgcbaefclkfnoaaDoor
open Go Go.RowKit Go.Shelf Go.Proofs
open Go.AE (Tm)
set_option linter.unusedVariables false
attribute [local go_sem] Oper.semAt_some

mutual
def plcT : Tm → List Int
  | .mk k s n l => (if k = 1 then [n] else []) ++ plcL l
def plcL : List Tm → List Int
  | [] => []
  | t :: r => plcT t ++ plcL r
end
mutual
def TermAt (n₀ : Nat) (W : World) : Tm → Value → Value → Value → Value → Prop
  | .mk k s n l, x0, x1, x2, x3 => x0 = .int .i64 k ∧ x1 = .string s ∧ x2 = .int .i64 n ∧ ∃ a cap, x3 = .slice a l.length cap ∧ l.length ≤ 1000000 ∧ IntKind.i64.wrap n = n ∧ (l ≠ [] → ∃ b off, a = some ⟨b, off, none⟩ ∧ b < n₀ ∧ ElemsAt n₀ W b off l)
def ElemsAt (n₀ : Nat) (W : World) (b : Nat) : Nat → List Tm → Prop
  | _, [] => True
  | off, t :: r => (∃ x0 x1 x2 x3, W.cell? ⟨b, off, none⟩ = some x0 ∧ W.cell? ⟨b, off + 1, none⟩ = some x1 ∧ W.cell? ⟨b, off + 2, none⟩ = some x2 ∧ W.cell? ⟨b, off + 3, none⟩ = some x3 ∧ TermAt n₀ W t x0 x1 x2 x3) ∧ ElemsAt n₀ W b (off + 4) r
end
mutual
theorem TermAt.below {n₀ : Nat} {A B : World} (h : Below n₀ A B) : ∀ {t : Tm} {x0 x1 x2 x3 : Value}, TermAt n₀ A t x0 x1 x2 x3 → TermAt n₀ B t x0 x1 x2 x3
  | .mk k s n l, _, _, _, _, ht => by
    rw [TermAt] at ht ⊢
    obtain ⟨e0, e1, e2, a, cap, e3, hm, hw, hl⟩ := ht
    refine ⟨e0, e1, e2, a, cap, e3, hm, hw, fun hne => ?_⟩
    obtain ⟨b, off, ha, hb, he⟩ := hl hne
    exact ⟨b, off, ha, hb, ElemsAt.below h hb l he⟩
theorem ElemsAt.below {n₀ : Nat} {A B : World} (h : Below n₀ A B) {b : Nat} (hb : b < n₀) : ∀ {off : Nat} (l : List Tm), ElemsAt n₀ A b off l → ElemsAt n₀ B b off l
  | _, [], _ => by rw [ElemsAt]; trivial
  | off, t :: r, he => by
    rw [ElemsAt] at he ⊢
    obtain ⟨⟨x0, x1, x2, x3, c0, c1, c2, c3, ht⟩, hr⟩ := he
    exact ⟨⟨x0, x1, x2, x3, (h.cell (p := ⟨b, off, none⟩) hb).trans c0, (h.cell (p := ⟨b, off + 1, none⟩) hb).trans c1, (h.cell (p := ⟨b, off + 2, none⟩) hb).trans c2, (h.cell (p := ⟨b, off + 3, none⟩) hb).trans c3, TermAt.below h ht⟩, ElemsAt.below h hb r hr⟩
end
theorem ElemsAt.at {n₀ : Nat} {W : World} {b : Nat} : ∀ {off : Nat} {l : List Tm}, ElemsAt n₀ W b off l → ∀ {i : Nat} (hi : i < l.length), ∃ x0 x1 x2 x3, W.cell? ⟨b, off + i * 4, none⟩ = some x0 ∧ W.cell? ⟨b, off + i * 4 + 1, none⟩ = some x1 ∧ W.cell? ⟨b, off + i * 4 + 2, none⟩ = some x2 ∧ W.cell? ⟨b, off + i * 4 + 3, none⟩ = some x3 ∧ TermAt n₀ W l[i] x0 x1 x2 x3
  | off, [], _, i, hi => by simp at hi
  | off, t :: r, he, i, hi => by
    rw [ElemsAt] at he
    cases i with
    | zero => simpa using he.1
    | succ i =>
      have := ElemsAt.at he.2 (i := i) (by simpa using hi)
      have e : off + 4 + i * 4 = off + (i + 1) * 4 := by omega
      rw [e] at this
      exact this
def Kp24 (n₀ : Nat) (A B : World) : Prop := Below n₀ A B ∧ ∀ (b : Nat) (cs : Array Value), A.heap[b]? = some (.cells cs 24) → B.heap[b]? = some (.cells cs 24)
theorem Kp24.refl (n₀ : Nat) (A : World) : Kp24 n₀ A A := ⟨Below.refl _ _, fun _ _ h => h⟩
theorem Kp24.trans {n₀ : Nat} {A B C : World} (h : Kp24 n₀ A B) (k : Kp24 n₀ B C) : Kp24 n₀ A C := ⟨h.1.trans k.1, fun b cs e => k.2 b cs (h.2 b cs e)⟩
theorem Kp24.alloc {n₀ : Nat} {A : World} (hn : n₀ ≤ A.heap.size) (o : Obj) : Kp24 n₀ A (A.alloc o) :=
  ⟨(Below.refl _ A).alloc hn _, fun b cs e => (Below.heap_alloc A o b (Array.getElem?_eq_some_iff.1 e).1).trans e⟩
theorem plcL_take (l : List Tm) (i : Nat) (hi : i < l.length) : plcL (l.take (i + 1)) = plcL (l.take i) ++ plcT l[i] := by
  induction l generalizing i with
  | nil => simp at hi
  | cons t r ih =>
    cases i with
    | zero => simp [plcL]
    | succ i => simp only [List.take_succ_cons, plcL, List.getElem_cons_succ, ih i (by simpa using hi), List.append_assoc]
theorem plcL_len (L : List Tm) (i : Nat) : (plcL (L.take i)).length ≤ (plcL L).length := by
  induction L generalizing i with
  | nil => simp
  | cons t r ih =>
    cases i with
    | zero => simp [plcL]
    | succ i => simp only [List.take_succ_cons, plcL, List.length_append]; have := ih i; omega
set_option maxRecDepth 100000 in
set_option maxHeartbeats 4000000 in
theorem walk_not1 (F : Fence) (hd : F.depth = none) (h72 : F.fn 72) (hro : F.round = none) (l n₀ N : Nat) (J Jx : List Int → World → Prop)
    (hA : ∀ pre W W', J pre W → W.grownBy W' none → J pre W')
    (n : Nat) (pre : List Int) (W : World) (k m : Int) (s : ByteArray) (L : List Tm) (a : Option Addr) (cap : Nat) (hk : k ≠ 1) (hn0 : n₀ ≤ W.heap.size) (hJ : J pre W)
    (b off : Nat) (ha : 0 < L.length → a = some ⟨b, off, none⟩) (hb : 0 < L.length → b < n₀) (hL : ElemsAt n₀ W b off L) (hlen : L.length ≤ 1000000) (hN : pre.length + (plcL L).length ≤ N)
    (ih : ∀ (n : Nat) (i : Nat) (hi : i < L.length) (pre : List Int) (W : World) (x0 x1 x2 x3 : Value), TermAt n₀ W L[i] x0 x1 x2 x3 → n₀ ≤ W.heap.size → J pre W → pre.length + (plcT L[i]).length ≤ N →
      CallsIn F n Tryd.prog 72 #[.agg #[x0, x1, x2, x3], .func (.yield l) #[] #[]] W fun e W' =>
        (e = .returned (.bool true) ∧ J (pre ++ plcT L[i]) W' ∧ Kp24 n₀ W W') ∨ (e = .returned (.bool false) ∧ ∃ q, q <+: plcT L[i] ∧ Jx (pre ++ q) W')) :
    CallsIn F n Tryd.prog 72 #[.agg #[.int .i64 k, .string s, .int .i64 m, .slice a L.length cap], .func (.yield l) #[] #[]] W fun e W' =>
      (e = .returned (.bool true) ∧ J (pre ++ plcL L) W' ∧ Kp24 n₀ W W') ∨ (e = .returned (.bool false) ∧ ∃ q, q <+: plcL L ∧ Jx (pre ++ q) W') := by
  have hdd : ∀ k : Nat, (F.depth.isSome = true → 1 ≤ k) := fun k h => by rw [hd] at h; cases h
  have hk1 : (k == 1) = false := by simpa using hk
  refine callsIn_of_wp Tryd.func72 rfl h72 ?_ hro
  simp only [Tryd.ntmps72, List.size_toArray, List.length_cons, List.length_nil, Nat.reduceAdd, Nat.reduceSub, Array.replicate_succ, Array.replicate_zero, List.push_toArray, List.append_toArray, List.nil_append, List.cons_append]
  gi_wp2
  refine ⟨fun _ h => (by cases h), ?_⟩
  gi_wp2
  obtain ⟨W1, hW1⟩ : ∃ W1, W.alloc (Obj.cells #[Value.int IntKind.i64 k, Value.string s, Value.int IntKind.i64 m, Value.slice a L.length cap] 24) = W1 := ⟨_, rfl⟩
  have hB1 : Kp24 n₀ W W1 := by rw [← hW1]; exact Kp24.alloc hn0 _
  have hJ1 : J pre W1 := by rw [← hW1]; exact hA _ _ _ hJ (World.grownBy_alloc W _ none)
  rw [hW1]
  gi_loopw [20] (fun i wr => ∃ j : Nat, j ≤ L.length ∧ i = .int .i64 (j : Int) ∧ J (pre ++ plcL (L.take j)) wr ∧ Kp24 n₀ W wr ∧ n₀ ≤ wr.heap.size)
    (fun i _ => L.length - (intOf i).toNat)
  case atStart => exact ⟨0, Nat.zero_le _, rfl, by simpa [plcL] using hJ1, hB1, by rw [← hW1]; simp; omega⟩
  case round =>
    obtain ⟨j, hj, rfl, hJs, hBs, hsz⟩ := hrel
    by_cases hlt : j < L.length
    · obtain rfl := ha (by omega)
      have hb' := hb (by omega)
      obtain ⟨x0, x1, x2, x3, c0, c1, c2, c3, ht⟩ := (ElemsAt.below hBs.1 hb' L hL).at hlt
      have ihj := fun (n : Nat) (W : World) (hn : n₀ ≤ W.heap.size) (hJ : J (pre ++ plcL (L.take j)) W) (ht : TermAt n₀ W L[j] x0 x1 x2 x3) => ih n j hlt _ W x0 x1 x2 x3 ht hn hJ (by have h1 := plcL_take L j hlt; have h2 := plcL_len L (j + 1); rw [h1] at h2; simp only [List.length_append, List.length_singleton] at h2 ⊢; omega)
      have htB := ht
      obtain ⟨k', s', m', l', hLj⟩ : ∃ k' s' m' l', L[j] = .mk k' s' m' l' := by
        cases L[j] with | mk k' s' m' l' => exact ⟨_, _, _, _, rfl⟩
      rw [hLj, TermAt] at ht
      obtain ⟨rfl, rfl, rfl, a', cap', rfl, -⟩ := ht
      gi_wp2
      have hB3 := hBs.trans (Kp24.alloc hsz (Obj.cells #[Value.int .i64 k', Value.string s', Value.int .i64 m', Value.slice a' l'.length cap'] 24))
      have hJ3 := hA _ _ _ hJs (World.grownBy_alloc wr (Obj.cells #[Value.int .i64 k', Value.string s', Value.int .i64 m', Value.slice a' l'.length cap'] 24) none)
      refine (ihj (n - 1) _ (by simp; omega) hJ3 (TermAt.below (Kp24.alloc hsz _).1 htB)).mono ?_
      rintro e W3 (⟨rfl, hJ4, hb4⟩ | ⟨rfl, q, hq, hx⟩)
      · gi_wp2
        go_roundw
        case rel => exact ⟨j + 1, by omega, by simp, by rw [plcL_take L j hlt, ← List.append_assoc]; exact hJ4, hB3.trans hb4, Nat.le_trans (by simp; omega) hb4.1.size⟩
        case measure => simp [intOf]; omega
      · gi_wp2
        go_ret
        obtain ⟨r, hr⟩ := hq
        refine .inr ⟨rfl, plcL (L.take j) ++ q, ?_, by rw [← List.append_assoc]; exact hx⟩
        have e1 : L = L.take (j + 1) ++ L.drop (j + 1) := (List.take_append_drop _ _).symm
        have happ : ∀ A B : List Tm, plcL (A ++ B) = plcL A ++ plcL B := fun A B => by
          induction A with
          | nil => simp [plcL]
          | cons t r ih => simp [plcL, ih]
        rw [e1, happ, List.take_append_of_le_length (by simp; omega), List.take_take, Nat.min_eq_left (by omega), plcL_take L j hlt, ← hr]
        exact ⟨r ++ plcL (L.drop (j + 1)), by simp⟩
    · obtain rfl : j = L.length := by omega
      gi_wp2
      go_ret
      exact .inl ⟨rfl, by simpa using hJs, hBs⟩
set_option maxRecDepth 100000 in
set_option maxHeartbeats 4000000 in
theorem walk_1 (F : Fence) (hd : F.depth = none) (h72 : F.fn 72) (hro : F.round = none) (l n₀ N : Nat) (J Jx : List Int → World → Prop)
    (hA : ∀ pre W W', J pre W → W.grownBy W' none → J pre W')
    (n : Nat) (pre : List Int) (W : World) (m : Int) (s : ByteArray) (L : List Tm) (a : Option Addr) (cap : Nat) (hn0 : n₀ ≤ W.heap.size) (hJ : J pre W)
    (b off : Nat) (ha : 0 < L.length → a = some ⟨b, off, none⟩) (hb : 0 < L.length → b < n₀) (hL : ElemsAt n₀ W b off L) (hw : IntKind.i64.wrap m = m) (hlen : L.length ≤ 1000000) (hN : pre.length + 1 + (plcL L).length ≤ N)
    (hY : ∀ m pre x W, J pre W → pre.length < N → YieldAt F m Tryd.prog l #[.int .i64 (IntKind.i64.wrap x)] W fun e W' =>
      (e = .returned (.bool true) ∧ J (pre ++ [x]) W' ∧ Kp24 n₀ W W') ∨ (e = .returned (.bool false) ∧ Jx (pre ++ [x]) W'))
    (ih : ∀ (n : Nat) (i : Nat) (hi : i < L.length) (pre : List Int) (W : World) (x0 x1 x2 x3 : Value), TermAt n₀ W L[i] x0 x1 x2 x3 → n₀ ≤ W.heap.size → J pre W → pre.length + (plcT L[i]).length ≤ N →
      CallsIn F n Tryd.prog 72 #[.agg #[x0, x1, x2, x3], .func (.yield l) #[] #[]] W fun e W' =>
        (e = .returned (.bool true) ∧ J (pre ++ plcT L[i]) W' ∧ Kp24 n₀ W W') ∨ (e = .returned (.bool false) ∧ ∃ q, q <+: plcT L[i] ∧ Jx (pre ++ q) W')) :
    CallsIn F n Tryd.prog 72 #[.agg #[.int .i64 1, .string s, .int .i64 m, .slice a L.length cap], .func (.yield l) #[] #[]] W fun e W' =>
      (e = .returned (.bool true) ∧ J (pre ++ [m] ++ plcL L) W' ∧ Kp24 n₀ W W') ∨ (e = .returned (.bool false) ∧ ∃ q, q <+: [m] ++ plcL L ∧ Jx (pre ++ q) W') := by
  have hdd : ∀ k : Nat, (F.depth.isSome = true → 1 ≤ k) := fun k h => by rw [hd] at h; cases h
  refine callsIn_of_wp Tryd.func72 rfl h72 ?_ hro
  simp only [Tryd.ntmps72, List.size_toArray, List.length_cons, List.length_nil, Nat.reduceAdd, Nat.reduceSub, Array.replicate_succ, Array.replicate_zero, List.push_toArray, List.append_toArray, List.nil_append, List.cons_append]
  have hB1 : Kp24 n₀ W (W.alloc (Obj.cells #[Value.int IntKind.i64 1, Value.string s, Value.int IntKind.i64 m, Value.slice a L.length cap] 24)) := Kp24.alloc hn0 _
  have hJ1 : J pre (W.alloc (Obj.cells #[Value.int IntKind.i64 1, Value.string s, Value.int IntKind.i64 m, Value.slice a L.length cap] 24)) := hA _ _ _ hJ (World.grownBy_alloc W _ none)
  have hbox : (W.alloc (Obj.cells #[Value.int IntKind.i64 1, Value.string s, Value.int IntKind.i64 m, Value.slice a L.length cap] 24)).heap[W.heap.size]? = some (.cells #[Value.int IntKind.i64 1, Value.string s, Value.int IntKind.i64 m, Value.slice a L.length cap] 24) := World.alloc_heap_new W _
  have hy0 := hY (n - 1) pre m _ hJ1 (by omega)
  rw [hw] at hy0
  obtain ⟨fn, tmps, assign, body, hy, hR⟩ := YieldAt.mono (R' := fun e W2 => (e = .returned (.bool true) ∧ J (pre ++ [m]) W2 ∧ Kp24 n₀ W W2 ∧ W2.cell? ⟨W.heap.size, 3, none⟩ = some (Value.slice a L.length cap)) ∨ (e = .returned (.bool false) ∧ Jx (pre ++ [m]) W2)) hy0 (fun e W2 h => h.elim
    (fun ⟨he, hj, hk⟩ => .inl ⟨he, hj, hB1.trans hk, by have := hk.2 _ _ hbox; simp [World.cell?, this]⟩) .inr)
  gi_wp2_with ((try refine ⟨hdd _, ?_⟩); refine hR.mono ?_; clear hR; rintro e W2 (⟨rfl, hJ2, hb2, d3⟩ | ⟨rfl, hx2⟩))
  · gi_loopw [20] (fun i wr => ∃ j : Nat, j ≤ L.length ∧ i = .int .i64 (j : Int) ∧ J (pre ++ [m] ++ plcL (L.take j)) wr ∧ Kp24 n₀ W wr ∧ n₀ ≤ wr.heap.size)
      (fun i _ => L.length - (intOf i).toNat)
    case atStart => exact ⟨0, Nat.zero_le _, rfl, by simpa [plcL] using hJ2, hb2, Nat.le_trans hn0 hb2.1.size⟩
    case round =>
      obtain ⟨j, hj, rfl, hJs, hBs, hsz⟩ := hrel
      by_cases hlt : j < L.length
      · obtain rfl := ha (by omega)
        have hb' := hb (by omega)
        obtain ⟨x0, x1, x2, x3, c0, c1, c2, c3, ht⟩ := (ElemsAt.below hBs.1 hb' L hL).at hlt
        have ihj := fun (n : Nat) (W : World) (hn : n₀ ≤ W.heap.size) (hJ : J (pre ++ [m] ++ plcL (L.take j)) W) (ht : TermAt n₀ W L[j] x0 x1 x2 x3) => ih n j hlt _ W x0 x1 x2 x3 ht hn hJ (by have h1 := plcL_take L j hlt; have h2 := plcL_len L (j + 1); rw [h1] at h2; simp only [List.length_append, List.length_singleton] at h2 ⊢; omega)
        have htB := ht
        obtain ⟨k', s', m', l', hLj⟩ : ∃ k' s' m' l', L[j] = .mk k' s' m' l' := by
          cases L[j] with | mk k' s' m' l' => exact ⟨_, _, _, _, rfl⟩
        rw [hLj, TermAt] at ht
        obtain ⟨rfl, rfl, rfl, a', cap', rfl, -⟩ := ht
        gi_wp2
        have hB3 := hBs.trans (Kp24.alloc hsz (Obj.cells #[Value.int .i64 k', Value.string s', Value.int .i64 m', Value.slice a' l'.length cap'] 24))
        have hJ3 := hA _ _ _ hJs (World.grownBy_alloc wr (Obj.cells #[Value.int .i64 k', Value.string s', Value.int .i64 m', Value.slice a' l'.length cap'] 24) none)
        refine (ihj (n - 1) _ (by simp; omega) hJ3 (TermAt.below (Kp24.alloc hsz _).1 htB)).mono ?_
        rintro e W3 (⟨rfl, hJ4, hb4⟩ | ⟨rfl, q, hq, hx⟩)
        · gi_wp2
          go_roundw
          case rel => exact ⟨j + 1, by omega, by simp, by rw [plcL_take L j hlt, ← List.append_assoc]; exact hJ4, hB3.trans hb4, Nat.le_trans (by simp; omega) hb4.1.size⟩
          case measure => simp [intOf]; omega
        · gi_wp2
          go_ret
          obtain ⟨r, hr⟩ := hq
          refine .inr ⟨rfl, m :: (plcL (L.take j) ++ q), ?_, by simpa using hx⟩
          have e1 : L = L.take (j + 1) ++ L.drop (j + 1) := (List.take_append_drop _ _).symm
          have happ : ∀ A B : List Tm, plcL (A ++ B) = plcL A ++ plcL B := fun A B => by
            induction A with
            | nil => simp [plcL]
            | cons t r ih => simp [plcL, ih]
          rw [e1, happ, List.take_append_of_le_length (by simp; omega), List.take_take, Nat.min_eq_left (by omega), plcL_take L j hlt, ← hr]
          exact ⟨r ++ plcL (L.drop (j + 1)), by simp⟩
      · obtain rfl : j = L.length := by omega
        gi_wp2
        go_ret
        exact .inl ⟨rfl, by simpa using hJs, hBs⟩
  · go_ret
    exact .inr ⟨rfl, [m], ⟨plcL L, rfl⟩, hx2⟩
theorem sizeOf_get {l : List Tm} {i : Nat} (hi : i < l.length) : SizeOf.sizeOf l[i] < SizeOf.sizeOf l := List.sizeOf_lt_of_mem (List.getElem_mem hi)
theorem walk_in (F : Fence) (hd : F.depth = none) (h72 : F.fn 72) (hro : F.round = none) (l n₀ M : Nat) (J Jx : List Int → World → Prop)
    (hA : ∀ pre W W', J pre W → W.grownBy W' none → J pre W')
    (hY : ∀ m pre x W, J pre W → pre.length < M → YieldAt F m Tryd.prog l #[.int .i64 (IntKind.i64.wrap x)] W fun e W' =>
      (e = .returned (.bool true) ∧ J (pre ++ [x]) W' ∧ Kp24 n₀ W W') ∨ (e = .returned (.bool false) ∧ Jx (pre ++ [x]) W')) :
    ∀ (N : Nat) (t : Tm), SizeOf.sizeOf t < N → ∀ (n : Nat) (pre : List Int) (W : World) (x0 x1 x2 x3 : Value), TermAt n₀ W t x0 x1 x2 x3 → n₀ ≤ W.heap.size → J pre W → pre.length + (plcT t).length ≤ M →
      CallsIn F n Tryd.prog 72 #[.agg #[x0, x1, x2, x3], .func (.yield l) #[] #[]] W fun e W' =>
        (e = .returned (.bool true) ∧ J (pre ++ plcT t) W' ∧ Kp24 n₀ W W') ∨ (e = .returned (.bool false) ∧ ∃ q, q <+: plcT t ∧ Jx (pre ++ q) W') := by
  intro N
  induction N with
  | zero => intro t h; omega
  | succ N ih =>
    intro t hN n pre W x0 x1 x2 x3 ht hn hJ hM
    cases t with
    | mk k s m L =>
    rw [TermAt] at ht
    obtain ⟨rfl, rfl, rfl, a, cap, rfl, hlen, hw, hl⟩ := ht
    obtain ⟨b, off, ha, hb, hL⟩ : ∃ b off, (0 < L.length → a = some ⟨b, off, none⟩) ∧ (0 < L.length → b < n₀) ∧ ElemsAt n₀ W b off L := by
      by_cases hne : L = []
      · subst hne
        exact ⟨0, 0, fun h => by simp at h, fun h => by simp at h, by rw [ElemsAt]; trivial⟩
      · obtain ⟨b, off, h1, h2, h3⟩ := hl hne
        exact ⟨b, off, fun _ => h1, fun _ => h2, h3⟩
    have ih' := fun (n : Nat) (i : Nat) (hi : i < L.length) (pre : List Int) (W : World) (x0 x1 x2 x3 : Value) (ht : TermAt n₀ W L[i] x0 x1 x2 x3) (hn : n₀ ≤ W.heap.size) (hJ : J pre W) (hM : pre.length + (plcT L[i]).length ≤ M) =>
      ih L[i] (by have := sizeOf_get hi; simp only [Tm.mk.sizeOf_spec] at hN; omega) n pre W x0 x1 x2 x3 ht hn hJ hM
    by_cases hk : k = 1
    · subst hk
      refine (walk_1 F hd h72 hro l n₀ M J Jx hA n pre W m s L a cap hn hJ b off ha hb hL hw hlen (by simpa [plcT, Nat.add_assoc, Nat.add_comm, Nat.add_left_comm] using hM) hY ih').mono ?_
      rintro e W' (⟨h1, h2, h3⟩ | ⟨h1, q, h2, h3⟩)
      · exact .inl ⟨h1, by simpa [plcT] using h2, h3⟩
      · exact .inr ⟨h1, q, by simpa [plcT] using h2, h3⟩
    · refine (walk_not1 F hd h72 hro l n₀ M J Jx hA n pre W k m s L a cap hk hn hJ b off ha hb hL hlen (by simpa [plcT, hk] using hM) ih').mono ?_
      rintro e W' (⟨h1, h2, h3⟩ | ⟨h1, q, h2, h3⟩)
      · exact .inl ⟨h1, by simpa [plcT, hk] using h2, h3⟩
      · exact .inr ⟨h1, q, by simpa [plcT, hk] using h2, h3⟩
set_option maxRecDepth 100000 in
set_option maxHeartbeats 2000000 in
theorem seq_in (F : Fence) (hd : F.depth = none) (n : Nat) (h71 : F.fn 71) (h72 : F.fn 72) (hro : F.round = none) (l Bt n₀ : Nat) (t : Tm) (x0 x1 x2 x3 : Value) (J Jx : List Int → World → Prop)
    (hA : ∀ pre W W', J pre W → W.grownBy W' none → J pre W')
    (hY : ∀ pre x W, J pre W → pre.length < (plcT t).length → YieldAt F (n - 1) Tryd.prog l #[.int .i64 (IntKind.i64.wrap x)] W fun e W' =>
      (e = .returned (.bool true) ∧ J (pre ++ [x]) W' ∧ Kp24 n₀ W W') ∨ (e = .returned (.bool false) ∧ Jx (pre ++ [x]) W'))
    (W : World) (hBt : W.heap[Bt]? = some (.cells #[x0, x1, x2, x3] 24)) (hn : n₀ ≤ W.heap.size) (hT : TermAt n₀ W t x0 x1 x2 x3) (h0 : J [] W) :
    CallsIn F n Tryd.prog 71 #[.func (.yield l) #[] #[], .pointer (some ⟨Bt, 0, none⟩)] W fun e W' => (∃ v, e = .returned v) ∧
      ((∃ ys, ys = plcT t ∧ J ys W') ∨ (∃ pre, pre <+: plcT t ∧ Jx pre W')) := by
  have hdd : ∀ k : Nat, (F.depth.isSome = true → 1 ≤ k) := fun k h => by rw [hd] at h; cases h
  have room : ∀ k, F.room k := fun k d h => by rw [hd] at h; cases h
  have any : ∀ m pre x W, J pre W → pre.length < (plcT t).length → YieldAt F m Tryd.prog l #[.int .i64 (IntKind.i64.wrap x)] W fun e W' =>
      (e = .returned (.bool true) ∧ J (pre ++ [x]) W' ∧ Kp24 n₀ W W') ∨ (e = .returned (.bool false) ∧ Jx (pre ++ [x]) W') := fun m pre x W hj hl => by
    obtain ⟨fn, tmps, assign, body, hy, hR⟩ := hY pre x W hj hl
    exact ⟨fn, tmps, assign, body, hy, hR.1, fun c cs _ => hR.2 c cs (room _)⟩
  have hp := walk_in F hd h72 hro l n₀ (plcT t).length J Jx hA any (SizeOf.sizeOf t + 1) t (Nat.lt_succ_self _) (n - 1) [] W x0 x1 x2 x3 hT hn h0 (by simp)
  cases t with
  | mk k s m L =>
  rw [TermAt] at hT
  obtain ⟨rfl, rfl, rfl, a, cap, rfl, -, -⟩ := hT
  have b0 : W.cell? ⟨Bt, 0, none⟩ = some (.int .i64 k) := by simp [World.cell?, hBt]
  have b1 : W.cell? ⟨Bt, 1, none⟩ = some (.string s) := by simp [World.cell?, hBt]
  have b2 : W.cell? ⟨Bt, 2, none⟩ = some (.int .i64 m) := by simp [World.cell?, hBt]
  have b3 : W.cell? ⟨Bt, 3, none⟩ = some (.slice a L.length cap) := by simp [World.cell?, hBt]
  refine callsIn_of_wp Tryd.func71 rfl h71 ?_ hro
  simp only [Tryd.ntmps71, List.size_toArray, List.length_cons, List.length_nil, Nat.reduceAdd, Nat.reduceSub, Array.replicate_succ, Array.replicate_zero, List.push_toArray, List.append_toArray, List.nil_append, List.cons_append]
  gi_wp2_with ((try refine ⟨hdd _, ?_⟩); gi_at_call 72; refine hp.mono ?_; clear hp; rintro e W1 (⟨rfl, hJ1, _⟩ | ⟨rfl, q, hq, hx⟩))
  · go_end0
    exact ⟨⟨_, rfl⟩, .inl ⟨_, rfl, by simpa using hJ1⟩⟩
  · go_end0
    exact ⟨⟨_, rfl⟩, .inr ⟨q, hq, by simpa using hx⟩⟩
set_option maxHeartbeats 1000000 in
theorem places_in (F : Fence) (n : Nat) (h58 : F.fn 58) (hro : F.round = none) (k m : Int) (s : ByteArray) (a : Option Addr) (len cap : Nat) (w : World) :
    CallsIn F n Tryd.prog 58 #[.agg #[.int .i64 k, .string s, .int .i64 m, .slice a len cap]] w fun e w' => e = .returned (.func (.func 71) #[] #[.pointer (some ⟨w.heap.size, 0, none⟩)]) ∧ w' = w.alloc (.cells #[.int .i64 k, .string s, .int .i64 m, .slice a len cap] 24) := by
  refine callsIn_of_wp Tryd.func58 rfl h58 ?_ hro
  simp only [Tryd.ntmps58, List.size_toArray, List.length_cons, List.length_nil, Nat.reduceAdd, Nat.reduceSub, Array.replicate_succ, Array.replicate_zero, List.push_toArray, List.append_toArray, List.nil_append, List.cons_append]
  gi_wp2
  go_ret
  exact ⟨rfl, rfl⟩
theorem places_stops (F : Fence) (hd : F.depth = none) (n : Nat) (h71 : F.fn 71) (h72 : F.fn 72) (hro : F.round = none) (Bt n₀ : Nat) (t : Tm) (x0 x1 x2 x3 : Value) (w : World)
    (hBt : w.heap[Bt]? = some (.cells #[x0, x1, x2, x3] 24)) (hn : n₀ ≤ w.heap.size) (hT : TermAt n₀ w t x0 x1 x2 x3) :
    SeqStopsK F n Tryd.prog 71 #[.pointer (some ⟨Bt, 0, none⟩)] (fun x : Int => #[Value.int .i64 (IntKind.i64.wrap x)]) (Kp24 n₀) (fun ys => ys = plcT t) (fun pre => pre <+: plcT t) (plcT t).length w := fun l J Jx W hW hJ _ hY h0 =>
  seq_in F hd n h71 h72 hro l Bt n₀ t x0 x1 x2 x3 J Jx (fun pre W W' hs hg => hJ pre W W' none hs hg (fun r e => by cases e)) hY W
    ((hW.block Bt (Array.getElem?_eq_some_iff.1 hBt).1).trans hBt) (Nat.le_trans hn hW.size) (hT.below (hW.mono hn)) h0
end Go.Proofs.YtgcbaefclkfnoaaDoor
end

/-! term.Vars walked at the model: a range over the iterator; the body writes a map and appends. -/
section
namespace Go.Proofs.YtgcbaefclkfnoaaDoor
open Go Go.RowKit Go.Shelf Go.Proofs
open Go.AE (Tm)
set_option linter.unusedVariables false
attribute [local go_sem] Oper.semAt_some

def addq (out : List Int) (x : Int) : List Int := if x ∈ out then out else out ++ [x]
def uq (l : List Int) : List Int := l.foldl (fun out x => addq out (IntKind.i64.wrap x)) []
theorem uq_snoc (l : List Int) (x : Int) : uq (l ++ [x]) = addq (uq l) (IntKind.i64.wrap x) := by simp [uq]
theorem uq_len (l : List Int) : (uq l).length ≤ l.length := by
  have key : ∀ (l : List Int) (acc : List Int), (l.foldl (fun out x => addq out (IntKind.i64.wrap x)) acc).length ≤ acc.length + l.length := by
    intro l
    induction l with
    | nil => intro acc; simp
    | cons x r ih =>
      intro acc
      simp only [List.foldl_cons, List.length_cons]
      have h1 := ih (addq acc (IntKind.i64.wrap x))
      have h2 : (addq acc (IntKind.i64.wrap x)).length ≤ acc.length + 1 := by
        unfold addq; split
        · omega
        · simp
      omega
  have := key l []
  simpa [uq] using this
def metD {H : Type} (l : List Int) : DataW H := l.foldl (fun D x => D.put (.int .i64 x) (.lit (.int .i64 1))) (.map [])
theorem metD_snoc {H : Type} (l : List Int) (x : Int) : metD (H := H) (l ++ [x]) = (metD l).put (.int .i64 x) (.lit (.int .i64 1)) := by simp [metD]
theorem snoc_ind {Q : List Int → Prop} (h0 : Q []) (h1 : ∀ l x, Q l → Q (l ++ [x])) : ∀ l, Q l := by
  intro l
  rw [← l.reverse_reverse]
  induction l.reverse with
  | nil => exact h0
  | cons x r ih => rw [List.reverse_cons]; exact h1 _ _ ih
theorem metD_map {H : Type} : ∀ (l : List Int), Maps.IsMap (metD (H := H) l) := snoc_ind ⟨[], rfl⟩ (fun l x ih => by rw [metD_snoc]; exact ih.put _ _)
theorem metD_at {H : Type} (x : Int) : ∀ (l : List Int), (metD (H := H) l).atKey (.int .i64 x) (.lit (.int .i64 0)) = .lit (.int .i64 (if x ∈ l then 1 else 0)) := by
  refine snoc_ind rfl (fun l y ih => ?_)
  rw [metD_snoc]
  by_cases e : x = y
  · subst e
    rw [Maps.atKey_put_same (metD_map l) (show WideAt.IsKeyLit (.int .i64 x) from trivial)]
    simp
  · rw [Maps.atKey_put_other (by simpa using e), ih]
    simp [e]
theorem kp24_grown {n₀ : Nat} {A B : World} {row : Option Nat} (hb : Below n₀ A B) (hg : A.grownBy B row) (hr : ∀ r, row = some r → ∀ cs, A.heap[r]? ≠ some (.cells cs 24)) : Kp24 n₀ A B :=
  ⟨hb, fun b cs e => (hg.block b (Array.getElem?_eq_some_iff.1 e).1 (fun h => hr b h.symm cs e)).trans e⟩
theorem kp24_b {n₀ : Nat} {w : World} (hn : n₀ ≤ w.heap.size) (W : World) (l : Nat) (o o' : Obj) (hl : w.heap.size ≤ l) (h : W.heap[l]? = some o) (hc : o.isCells = false) (hw : o.isWalk = false) : Kp24 n₀ W (W.putObj l o') :=
  kp24_grown (belowK_b hn W l o o' hl h hc hw) (grownBy_putObj' W l o') (fun r e cs h2 => by cases e; rw [h] at h2; cases h2; cases hc)
theorem own_ne {W : World} {P : Program} {base : Nat} {e : TypeId} {v : Value} {k : Nat} {xs : List Value} {b c : Nat} {K : TypeId} {R : Value → Option (DataW Empty × List MemPlace)} {D : DataW Empty} (hr : W.ownsRow base e 1 v k xs) (hm : W.ownsMap P K R b c D) : some b ≠ v.ownBlock := by
  obtain ⟨es, ck, hh, _⟩ := hm
  rcases hr.2 with ⟨rfl, _⟩ | ⟨g, cap, cur, rfl, _, hgb, _⟩
  · simp [Value.ownBlock]
  · intro e'
    obtain rfl : b = g := by simpa [Value.ownBlock] using e'
    rw [hh] at hgb; cases hgb
theorem info2 : (Tryd.prog.info? 2).map (fun i => (i.zero, i.size, i.bytes)) = some (some (.int .i64 0), 1, 8) := by kernel_rfl
set_option maxRecDepth 100000 in
set_option maxHeartbeats 4000000 in
theorem vars_in (F : Fence) (hd : F.depth = none) (n : Nat) (h32 : F.fn 32) (h58 : F.fn 58) (h71 : F.fn 71) (h72 : F.fn 72) (hro : F.round = none) (hn : 4 ≤ n) (k m : Int) (s : ByteArray) (a : Option Addr) (L : List Tm) (cap : Nat) (w : World)
    (hlen : (plcT (.mk k s m L)).length ≤ 1000000)
    (hT : TermAt w.heap.size w (.mk k s m L) (.int .i64 k) (.string s) (.int .i64 m) (.slice a L.length cap)) :
    CallsIn F n Tryd.prog 32 #[.agg #[.int .i64 k, .string s, .int .i64 m, .slice a L.length cap]] w fun e w' => ∃ v, e = .returned v ∧
      w'.ownsRow w.heap.size 2 1 v (uq (plcT (.mk k s m L))).length ((uq (plcT (.mk k s m L))).map (Value.int .i64)) ∧ (v = .slice none 0 0 ↔ uq (plcT (.mk k s m L)) = []) ∧ Below w.heap.size w w' := by
  have h1 : 1 ≤ n := by omega
  have hmm := @run_makeMap Tryd.prog
  obtain ⟨i0, hi, hz0, hz1, hz2⟩ := info_parts info2
  refine callsIn_of_wp_marks Tryd.func32 rfl h32 ?_ hro
  simp only [Tryd.ntmps32, List.size_toArray, List.length_cons, List.length_nil, Nat.reduceAdd, Nat.reduceSub, Array.replicate_succ, Array.replicate_zero, List.push_toArray, List.append_toArray, List.nil_append, List.cons_append]
  gi_wp2_with (gi_at_call 58; refine (places_in F (n - 1) h58 hro _ _ _ _ _ _ _).mono ?_; rintro e w' ⟨rfl, rfl⟩)
  obtain ⟨ob, hob⟩ : ∃ ob, Obj.cells #[Value.int .i64 k, Value.string s, Value.int .i64 m, Value.slice a L.length cap] 24 = ob := ⟨_, rfl⟩
  rw [hob]
  obtain ⟨w1, hw1⟩ : ∃ w1, w.alloc ob = w1 := ⟨_, rfl⟩
  obtain ⟨w2, hw2⟩ : ∃ w2, w1.alloc (.cells #[.slice none 0 0] 42) = w2 := ⟨_, rfl⟩
  obtain ⟨w3, hw3⟩ : ∃ w3, w2.alloc (.map #[] 0) = w3 := ⟨_, rfl⟩
  obtain ⟨w4, hw4⟩ : ∃ w4, w3.alloc (.cells #[.map (some (w.heap.size + 1 + 1))] 66) = w4 := ⟨_, rfl⟩
  obtain ⟨w5, hw5⟩ : ∃ w5, w4.alloc ob = w5 := ⟨_, rfl⟩
  rw [hw1, hw2, hw3, hw4, hw5]
  have s1 : w1.heap.size = w.heap.size + 1 := by rw [← hw1]; simp
  have s2 : w2.heap.size = w.heap.size + 2 := by rw [← hw2]; simp [s1]
  have s3 : w3.heap.size = w.heap.size + 3 := by rw [← hw3]; simp [s2]
  have s4 : w4.heap.size = w.heap.size + 4 := by rw [← hw4]; simp [s3]
  have s5 : w5.heap.size = w.heap.size + 5 := by rw [← hw5]; simp [s4]
  have bO2 : Boxed w2 (w.heap.size + 1) 42 (.slice none 0 0) := by have := Boxed.new w1 42 (.slice none 0 0); rw [s1, hw2] at this; exact this
  have bO : Boxed w5 (w.heap.size + 1) 42 (.slice none 0 0) := by rw [← hw5, ← hw4, ← hw3]; exact ((bO2.alloc _).alloc _).alloc _
  have bM4 : Boxed w4 (w.heap.size + 3) 66 (.map (some (w.heap.size + 2))) := by have := Boxed.new w3 66 (.map (some (w.heap.size + 1 + 1))); rw [s3, hw4] at this; exact this
  have bM : Boxed w5 (w.heap.size + 3) 66 (.map (some (w.heap.size + 2))) := by rw [← hw5]; exact bM4.alloc _
  have hm3 := World.ownsMap_made w2 Tryd.prog 2 (plainElem (H := Empty) Tryd.prog 3)
  rw [s2, hw3] at hm3
  have hm5 : w5.ownsMap Tryd.prog 2 (plainElem (H := Empty) Tryd.prog 3) (w.heap.size + 2) 0 (.map []) := by rw [← hw5, ← hw4]; exact (hm3.alloc _).alloc _
  have hB0 : Below w.heap.size w w5 := by
    rw [← hw5, ← hw4, ← hw3, ← hw2, ← hw1]
    exact (((((Below.refl _ w).alloc (Nat.le_refl _) _).alloc (by simp) _).alloc (by simp; omega) _).alloc (by simp; omega) _).alloc (by simp; omega) _
  have hbt : w5.heap[w.heap.size + 4]? = some ob := by have := World.alloc_heap_new w4 ob; rw [s4, hw5] at this; exact this
  rw [← hob] at hbt
  refine wpIn_rangeFunc_ownG hro h1 (gf := 71) (lb := #[.pointer (some ⟨w.heap.size + 4, 0, none⟩)]) rfl h71 (enters_of Tryd.func71 (by kernel_rfl) rfl)
    (places_stops F hd (n - 1) h71 h72 hro (w.heap.size + 4) w.heap.size (.mk k s m L) _ _ _ _ w5 hbt (by omega) (hT.below hB0)) Kp24.trans (kp24_b (by omega)) (Below.refl _ _) (fun _ => rfl)
    (fun pre W => ((∃ v, Boxed W (w.heap.size + 1) 42 v ∧ W.ownsRow w.heap.size 2 1 v (uq pre).length ((uq pre).map (Value.int .i64)) ∧ (v = .slice none 0 0 ↔ uq pre = [])) ∧
      (Boxed W (w.heap.size + 3) 66 (.map (some (w.heap.size + 2))) ∧ W.ownsMap Tryd.prog 2 (plainElem (H := Empty) Tryd.prog 3) (w.heap.size + 2) (uq pre).length (metD (uq pre)))) ∧ Below w.heap.size w W)
    (fun _ _ _ => False)
    (OwnFrom.and (OwnFrom.and (Own.from (holdsRow_own w.heap.size (w.heap.size + 1) 42 2 1 (fun pre => (uq pre).length) (fun pre => (uq pre).map (Value.int .i64)) (fun pre v => v = .slice none 0 0 ↔ uq pre = [])) _)
      (fun s A B row hs hg hr => ⟨hs.1.kept hg (fun e => by obtain ⟨h1, o, ho, hc⟩ := hr _ e.symm; rw [show A.heap[_]? = _ from hs.1] at ho; cases ho; cases hc), hs.2.kept hg (fun e => by have := (hr _ e.symm).1; omega)⟩)) (ownFrom_below (Nat.le_refl _) (by omega)))
    (fun _ _ _ _ _ hs _ _ => hs)
    ⟨⟨⟨_, bO, World.ownsRow_nil _ _ _ _, by simp [uq]⟩, bM, hm5⟩, hB0⟩
    (fun x => { tmps := #[Value.agg #[Value.int IntKind.i64 k, Value.string s, Value.int IntKind.i64 m, Value.slice a L.length cap],
          Value.pointer (some { block := w.heap.size, off := 0 }), Value.slice none 0 0,
          Value.pointer (some { block := w.heap.size + 1, off := 0 }),
          Value.pointer (some { block := w.heap.size + 1 + 1 + 1, off := 0 }), .int .i64 (wrap64 x),
          Value.map (some (w.heap.size + 1 + 1)),
          Value.agg #[Value.int IntKind.i64 k, Value.string s, Value.int IntKind.i64 m, Value.slice a L.length cap], .func (.func 71) #[] #[.pointer (some ⟨w.heap.size + 1 + 1 + 1 + 1, 0, none⟩)], .int .i64 (wrap64 x), undef, undef, undef, undef, undef, undef, undef, undef, undef, undef, undef], defers := [] }) ?assign ?body ?done ?stop
  case assign =>
    intro l x W K hK
    gi_wp2
    exact hK
  case body =>
    rintro l pre x W ⟨⟨⟨v, hv, hrow, hnil⟩, hmb, hown⟩, hB⟩ hlt
    have hyw := wrap64_wf x
    have huq := uq_snoc pre x
    rw [IntWalk.i64_left x] at huq
    generalize wrap64 x = y at hyw huq ⊢
    have hkey := Maps.keyOf_int_mk Tryd.underlying2 hyw
    have hul := uq_len pre
    have hc := hv.cell
    have hcm := hmb.cell
    have hml : (uq pre).length < maxLen := by have : (1000000 : Nat) < maxLen := by decide
                                              omega
    have hat0 := metD_at (H := Empty) y (uq pre)
    have hne2 : ∀ cs, W.heap[w.heap.size + 2]? ≠ some (.cells cs 24) := by
      obtain ⟨es, ck, hh, _⟩ := hown
      intro cs e; rw [hh] at e; cases e
    gi_wp2_with (first
      | (gi_at_lookup; refine wpListIn_lookup_own_int _ rfl _ _ 66 rfl 2 3 .i64 (Maps.int_keyed Tryd.underlying2) Tryd.underlying66 Tryd.underlying3 (Tryd.zeroValue3 _) (w.heap.size + 2) (uq pre).length _ rfl hown _ _ rfl hkey ?_; intro c hat hwc)
      | (gi_at_mapUpdate; refine wpListIn_mapUpdate_own _ rfl _ _ _ 66 rfl 2 3 (Maps.int_keyed Tryd.underlying2) Tryd.underlying66 _ (w.heap.size + 2) (uq pre).length _ rfl hown hml _ _ _ rfl rfl hkey _ [] (plainElem_int Tryd.underlying3 (by decide)) ?_; intro wm hownm hgrowm; have hvm := hv.kept hgrowm (by simp); have hrm := hrow.kept hgrowm (.inr (own_ne hrow hown).symm); have hcv := hvm.cell; have hwm := hgrowm.size)
      | (gi_at_builtin; refine wpListIn_append_own _ rfl _ _ 42 rfl w.heap.size 2 i0 (.int .i64 0) 1 8 Tryd.underlying42 hi hz0 hz1 hz2 rfl (by decide) _ _ _ rfl (hrm.alloc _) ⟨wm.heap.size, 0, none⟩ 1 1 [.int .i64 y] rfl rfl (cell_one_new _ _ _) (by simp [Value.oneCell']) hml (by omega) (by have := hB.size; simp; omega) ?_; intro v' w1 hown' hgrow _; obtain ⟨g', cap', rfl⟩ := ownsRow_succ hown'; obtain ⟨hv1, hv2, hr2, hk2, hb2⟩ := hvm.appended (by decide) hrm (by have := hB.size; omega) (by omega) hown' hgrow; have hc1 := hv1.cell; have hf1 := hv1.frozen))
    · have hcz : (c == 0) = true := by assumption
      have hni : y ∉ uq pre := by
        intro hin
        rw [hat0, if_pos hin] at hat
        cases hat
        simp at hcz
      have huq' : uq (pre ++ [x]) = uq pre ++ [y] := by rw [huq, addq, if_neg hni]
      have hgrow : (wm.alloc (Obj.cells #[Value.int .i64 y] 2)).grownBy w1 v.ownBlock := hgrow
      have hWn : w.heap.size ≤ W.heap.size := hB.size
      have hv0 : w.heap.size + 1 < W.heap.size := hv.lt
      have hBm : Below w.heap.size W wm := (Below.refl _ W).grown hgrowm hWn (fun k e => by cases e; omega)
      have k1 : Kp24 w.heap.size W wm := kp24_grown hBm hgrowm (fun r e => by cases e; exact hne2)
      have k2 : Kp24 w.heap.size wm (wm.alloc (Obj.cells #[Value.int .i64 y] 2)) := Kp24.alloc (by omega) _
      have k3 : Kp24 w.heap.size (wm.alloc (Obj.cells #[Value.int .i64 y] 2)) w1 := by
        refine kp24_grown ((Below.refl _ _).grown hgrow (by simp; omega) (fun j ej => ?_)) hgrow (fun r e cs h => ?_)
        · rcases hrm.2 with ⟨rfl, _⟩ | ⟨g, cap, cur, rfl, hb, _, _⟩
          · simp [Value.ownBlock] at ej
          · obtain rfl : g = j := by simpa [Value.ownBlock] using ej
            exact hb
        · rcases (hrm.alloc _).2 with ⟨rfl, _⟩ | ⟨g, cap, cur, rfl, hb, h2, _⟩
          · simp [Value.ownBlock] at e
          · obtain rfl : g = r := by simpa [Value.ownBlock] using e
            rw [h] at h2; simp at h2
      have k4 : Kp24 w.heap.size w1 (w1.setCell ⟨w.heap.size + 1, 0, none⟩ (Value.slice (some ⟨g', 0, none⟩) ((uq pre).length + 1) cap')) := by
        refine kp24_grown ((Below.refl _ _).setCell (p := ⟨w.heap.size + 1, 0, none⟩) (by simp) _) (grownBy_setCell' _ _ _) (fun r e cs h => ?_)
        cases e
        rw [show w1.heap[_]? = _ from hv1] at h; simp at h
      have hmb1 : Boxed w1 (w.heap.size + 3) 66 (.map (some (w.heap.size + 2))) := ((hmb.kept hgrowm (by simp)).alloc _).kept hgrow (Boxed.not_row (hmb.kept hgrowm (by simp)) (by decide) hrm)
      have hom1 : w1.ownsMap Tryd.prog 2 (plainElem (H := Empty) Tryd.prog 3) (w.heap.size + 2) ((uq pre).length + 1) ((metD (uq pre)).put (.int .i64 y) (.lit (.int .i64 1))) := (hownm.alloc _).kept hgrow (own_ne hrm hownm)
      refine ⟨(KeepsFrom.of_grownBy hgrowm (fun j e => by cases e; omega)).trans (hk2.from _), ((k1.trans k2).trans k3).trans k4, ⟨⟨_, hv2, by rw [huq']; simpa using hr2, by rw [huq']; simp⟩, hmb1.kept (grownBy_setCell' _ _ _) (by simp), ?_⟩, (hB.trans hBm).trans hb2⟩
      rw [huq', metD_snoc, List.length_append]
      exact hom1.kept (grownBy_setCell' _ _ _) (by simp)
    · have hcz : (c == 0) = false := by assumption
      have hni : y ∈ uq pre := by
        refine Classical.byContradiction fun hin => ?_
        rw [hat0, if_neg hin] at hat
        cases hat
        simp at hcz
      have huq' : uq (pre ++ [x]) = uq pre := by rw [huq, addq, if_pos hni]
      exact ⟨KeepsFrom.refl _ _, Kp24.refl _ _, ⟨⟨v, hv, by rw [huq']; exact hrow, by rw [huq']; exact hnil⟩, hmb, by rw [huq']; exact hown⟩, hB⟩
  case done =>
    rintro D ys W hD rfl ⟨⟨⟨v, hv, hrow, hnil⟩, hmb, hown⟩, hB⟩ hK
    have hc := hv.cell
    gi_wp2
    refine ⟨by simp, .inl ⟨_, _, rfl, run_takeDeferred hK, ?_⟩⟩
    exact ⟨_, results_tmp rfl _ _ _, v, rfl, ownsRow_putObj hrow _ hK rfl, hnil, hB.trans (belowK_b (w := w) (Nat.le_refl _) W D _ _ (by omega) hK rfl rfl)⟩
  case stop =>
    rintro D c pre W _ _ h _
    exact h.elim
end Go.Proofs.YtgcbaefclkfnoaaDoor
end

/-! term.Vars as an oracle. -/
section
set_option linter.unusedVariables false
set_option linter.unusedSimpArgs false
namespace Go.Proofs.YtgcbaefclkfnoaaDoor
open Go Go.RowKit Go.AE Go.Proofs

def numsA : List Int → AV
  | [] => .v (.slice none 0 0)
  | x :: r => .slc 1 false true ((x :: r).map fun n => .v (.int .i64 n))
def varsG (args : List AV) (h : List AO) : Option (AV × List AO) :=
  match args with
  | [a] => match toT 1000000 a with
    | some t => if (plcT t).length ≤ 1000000 then some (numsA (uq (plcT t)), h) else none
    | none => none
  | _ => none
section
variable {I : Cells} {w w' : World} {σ : List AE.Loc}
theorem elems_of {n₀ b : Nat} : ∀ {l : List Tm} {off : Nat}, (∀ (i : Nat) (hi : i < l.length), ∃ x0 x1 x2 x3, w.cell? ⟨b, off + i * 4, none⟩ = some x0 ∧ w.cell? ⟨b, off + i * 4 + 1, none⟩ = some x1 ∧ w.cell? ⟨b, off + i * 4 + 2, none⟩ = some x2 ∧ w.cell? ⟨b, off + i * 4 + 3, none⟩ = some x3 ∧ TermAt n₀ w l[i] x0 x1 x2 x3) → ElemsAt n₀ w b off l
  | [], off, _ => by rw [ElemsAt]; trivial
  | t :: r, off, h => by
    rw [ElemsAt]
    refine ⟨by have := h 0 (by simp); simpa using this, elems_of fun i hi => ?_⟩
    have := h (i + 1) (by simpa using hi)
    have e : off + (i + 1) * 4 = off + 4 + i * 4 := by omega
    rw [e] at this
    exact this
theorem isT_eta {a : AV} {t : Tm} (h : IsT a t) : a = .agg a.cells := by cases h; rfl
theorem all2_at {es : List AV} {l : List Tm} (h : All2 es l) {i : Nat} (hi : i < l.length) : ∃ e, es[i]? = some e ∧ IsT e l[i] := by
  have hl := h.length
  obtain ⟨t, h1, h2⟩ := h.get (List.getElem?_eq_getElem (l := es) (i := i) (by omega))
  rw [List.getElem?_eq_getElem hi] at h1
  cases h1
  exact ⟨_, List.getElem?_eq_getElem (by omega), h2⟩
theorem termAt_of (hlt : ∀ b x, I b x → b < w.heap.size) : ∀ (N : Nat) (t : Tm), SizeOf.sizeOf t < N → ∀ (σ : List AE.Loc) (a : AV) (v : Value), IsT a t → okT t → Rep I w σ a v →
    ∃ x0 x1 x2 x3, v = .agg #[x0, x1, x2, x3] ∧ TermAt w.heap.size w t x0 x1 x2 x3 := by
  intro N
  induction N with
  | zero => intro t h; omega
  | succ N ih =>
    intro t hN σ a v ha ho hr
    cases ha with
    | mk k s n c l hc =>
    rw [okT] at ho
    cases hr with
    | agg _ cs arr hs h1 hr =>
      obtain ⟨vl⟩ := arr
      match vl, hs with
      | [x0, x1, x2, x3], _ =>
        have r0 := hr 0 _ rfl
        have r1 := hr 1 _ rfl
        have r2 := hr 2 _ rfl
        have r3 := hr 3 _ rfl
        simp [Array.getD] at r0 r1 r2 r3
        cases r0; cases r1; cases r2
        refine ⟨_, _, _, x3, rfl, ?_⟩
        rw [TermAt]
        refine ⟨rfl, rfl, rfl, ?_⟩
        cases hc with
        | nil =>
          cases r3
          exact ⟨none, 0, rfl, by simp, ho.1, fun h => absurd rfl h⟩
        | slc ex nn es l h2 hb =>
          have hl := h2.length
          cases r3 with
          | slc _ _ _ _ _ a cap b o g haa hn hnil hcap hex hsz hcc hi h1' hr' =>
            refine ⟨a, cap, by rw [hl], ho.2.1, ho.1, fun hne => ?_⟩
            have hes : es ≠ [] := by intro e; rw [e] at hl; exact hne (List.length_eq_zero_iff.1 hl.symm)
            refine ⟨b, o, haa hes, ?_, ?_⟩
            · obtain ⟨e, e1, e2⟩ := all2_at h2 (i := 0) (by cases l with | nil => exact absurd rfl hne | cons _ _ => simp)
              have := e2.cl.2
              exact hlt _ _ (hi 0 e 0 (e.cells[0]'(by omega)) e1 (List.getElem?_eq_getElem _))
            · refine elems_of fun i hil => ?_
              obtain ⟨e, e1, e2⟩ := all2_at h2 hil
              have hcl := e2.cl.2
              have q : ∀ j (hj : j < 4), w.cell? ⟨b, o + (i * 4 + j), none⟩ = some (g i j) ∧ (g i j).oneCell' = true ∧ Rep I w [] (e.cells[j]'(by omega)) (g i j) := fun j hj =>
                ⟨hcc i e j _ e1 (List.getElem?_eq_getElem (by omega)), h1' i e j _ e1 (List.getElem?_eq_getElem (by omega)), hr' i e j _ e1 (List.getElem?_eq_getElem (by omega))⟩
              have hrep : Rep I w [] e (.agg #[g i 0, g i 1, g i 2, g i 3]) := by
                have hcs : e = .agg e.cells := isT_eta e2
                rw [hcs]
                refine .agg [] _ _ (by simp [hcl]) (fun j c hj => ?_) (fun j c hj => ?_)
                · have hj4 : j < 4 := by have := (List.getElem?_eq_some_iff.1 hj).1; omega
                  match j, hj4 with
                  | 0, _ => exact (q 0 (by omega)).2.1
                  | 1, _ => exact (q 1 (by omega)).2.1
                  | 2, _ => exact (q 2 (by omega)).2.1
                  | 3, _ => exact (q 3 (by omega)).2.1
                · have hj4 : j < 4 := by have := (List.getElem?_eq_some_iff.1 hj).1; omega
                  obtain ⟨_, hje⟩ := List.getElem?_eq_some_iff.1 hj
                  subst hje
                  match j, hj4 with
                  | 0, _ => exact (q 0 (by omega)).2.2
                  | 1, _ => exact (q 1 (by omega)).2.2
                  | 2, _ => exact (q 2 (by omega)).2.2
                  | 3, _ => exact (q 3 (by omega)).2.2
              obtain ⟨y0, y1, y2, y3, he, hT⟩ := ih l[i] (by have := sizeOf_get hil; simp only [Tm.mk.sizeOf_spec] at hN; omega) [] e _ e2 (okL_get ho.2.2 hil) hrep
              cases he
              exact ⟨_, _, _, _, (q 0 (by omega)).1, (q 1 (by omega)).1, (q 2 (by omega)).1, (q 3 (by omega)).1, hT⟩
theorem vars_enter (vals : Array Value) (w : World) : (callFunc 32 vals).run Tryd.prog w = .ok (.enter 32 vals) w := enters_of Tryd.func32 (by kernel_rfl) rfl vals w
theorem vars_ok {B : Nat} {w0 : World} : ∀ args h r h', varsG args h = some (r, h') → (∀ (vals : Array Value) (w : World), (callFunc 32 vals).run Tryd.prog w = .ok (.enter 32 vals) w) ∧
    ∀ I σ w (vals : Array Value), AE.Inv B w0 I σ w h → ArgsRep I w σ args vals → Calls Tryd.prog 32 vals w (AE.Ends B w0 I σ w r h') := by
  intro args h r h' hg
  refine ⟨vars_enter, fun I σ w vals hI ha => ?_⟩
  unfold varsG at hg
  split at hg
  · rename_i a
    split at hg
    · rename_i t ht
      split at hg
      · rename_i hlen
        cases hg
        obtain ⟨h1, h2⟩ := toT_is _ _ _ ht
        have hs := ha.size
        obtain ⟨vl⟩ := vals
        match vl, hs with
        | [v], _ =>
          have hv := ha.rep 0 a rfl
          simp [Array.getD] at hv
          obtain ⟨x0, x1, x2, x3, rfl, hT⟩ := termAt_of (fun b x hb => hI.imm_lt hb) _ t (Nat.lt_succ_self _) σ a v h1 h2 hv
          have hT' := hT
          cases t with
          | mk k s m L =>
          rw [TermAt] at hT'
          obtain ⟨rfl, rfl, rfl, ad, cap, rfl, -⟩ := hT'
          have := vars_in Fence.wide rfl 4 trivial trivial trivial trivial rfl (by omega) k m s ad L cap w hlen hT
          refine (callsIn_wide.1 this).mono ?_
          rintro e w' ⟨v, rfl, hrow, hnil, hB⟩
          generalize uq (plcT (.mk k s m L)) = l at hrow hnil
          let I' : Cells := fun b x => I b x ∨ (w.heap.size ≤ b ∧ v.ownBlock = some b ∧ x < l.length)
          have hext : Ext I w I' w' := ⟨fun _ _ h => .inl h, fun b x hi => hB.cell (p := ⟨b, x, none⟩) (hI.imm_lt hi)⟩
          have hcells : ∀ g cap, v = .slice (some ⟨g, 0, none⟩) l.length cap → ∀ j (hj : j < l.length), w'.cell? ⟨g, j, none⟩ = some (.int .i64 l[j]) := by
            intro g cap e j hj
            rcases hrow.2 with ⟨rfl, h0⟩ | ⟨g', cap', cur, rfl, hb, hc, _, _, hsz, htk⟩
            · cases e
            · cases e
              have : cur[j]? = some (.int .i64 l[j]) := by
                have h3 : (cur.toList.take (l.length * 1))[j]? = (l.map (Value.int .i64))[j]? := by rw [htk]
                rw [List.getElem?_take_of_lt (by omega)] at h3
                simpa [hj] using h3
              simp [World.cell?, hc, this]
          refine ⟨v, I', σ, rfl, hI.same (hB.mono hI.base) hext (fun b x hi => ?_) (fun j Lj hj hh => ⟨hB.block _ (hI.mine j Lj hj hh).2, fun x hi => ?_⟩), ⟨hext, Later.refl _, fun b x hi => ?_, hB.size⟩, ?_⟩
          · rcases hi with hi | ⟨hb, ho, hx⟩
            · obtain ⟨u, hu⟩ := hI.imm b x hi
              exact ⟨u, (hext.cell b x hi).trans hu⟩
            · rcases hrow.2 with ⟨rfl, h0⟩ | ⟨g', cap', cur, rfl, _⟩
              · simp [Value.ownBlock] at ho
              · obtain rfl : g' = b := by simpa [Value.ownBlock] using ho
                exact ⟨_, hcells g' cap' rfl x hx⟩
          · rcases hi with hi | ⟨hb, ho, hx⟩
            · exact hi
            · have := (hI.mine j Lj hj hh).2
              omega
          · rcases hi with hi | ⟨hb, _⟩
            · exact .inl hi
            · exact .inr (Nat.le_trans hI.base hb)
          · cases l with
            | nil => rw [hnil.2 rfl]; exact .v _ _
            | cons z r =>
              rcases hrow.2 with ⟨rfl, h0⟩ | ⟨g', cap', cur, rfl, hb, hc, hcap, _⟩
              · simp at h0
              · rw [numsA]
                have hlen2 : (z :: r).length = ((z :: r).map fun n => AV.v (.int .i64 n)).length := by simp
                rw [hlen2]
                refine .slc σ 1 false true _ (some ⟨g', 0, none⟩) cap' g' 0 (fun j i => .int .i64 ((z :: r).getD j 0)) (fun _ => rfl) (fun _ => by simp) (fun e => by cases e) (by simpa using hcap) (fun e => by cases e)
                  (fun j el hj => ?_) (fun j el i c hj hc => ?_) (fun j el i c hj hc => ?_) (fun j el i c hj hc => rfl) (fun j el i c hj hc => ?_)
                all_goals (rw [List.getElem?_map] at hj; obtain ⟨n, hn, rfl⟩ := Option.map_eq_some_iff.1 hj; obtain ⟨hjl, hjn⟩ := List.getElem?_eq_some_iff.1 hn)
                · rfl
                · have hi0 : i = 0 := by have := (List.getElem?_eq_some_iff.1 hc).1; simpa [AV.cells] using this
                  subst hi0
                  have := hcells g' cap' rfl j hjl
                  simp only [Nat.mul_one, Nat.add_zero, Nat.zero_add]
                  rw [this, List.getD_eq_getElem?_getD, hn]
                  simp [hjn]
                · have hi0 : i = 0 := by have := (List.getElem?_eq_some_iff.1 hc).1; simpa [AV.cells] using this
                  subst hi0
                  exact .inr ⟨hb, rfl, by simpa using hjl⟩
                · have hi0 : i = 0 := by have := (List.getElem?_eq_some_iff.1 hc).1; simpa [AV.cells] using this
                  subst hi0
                  simp [AV.cells] at hc
                  subst hc
                  rw [List.getD_eq_getElem?_getD, hn]
                  exact .v _ _
      · cases hg
    · cases hg
  · cases hg
end
end Go.Proofs.YtgcbaefclkfnoaaDoor
end

/- Texts of this claim, put together. -/
import Derived.Shelf.Strings.Builder1
import Derived.Shelf.Unicode.DecodeAny
import Derived.Test.YtinhjhkmpknbbaaDoorChecked
import Derived.Shelf.Unicode.ValidAny
import Derived.Test.YtinhjhkmpknbbaaDoorEval4
import Derived.Lib.LaidU8T
import Derived.WalkKit
import Derived.Test.YtinhjhkmpknbbaaDoorEval3
import Derived.KernelRfl
/-! DERIVED: THE SHELF's CONTRACTS AT THIS DUMP, IN PLAIN WORDS (tools/lay-plain.mjs out of 'TrydPruned.lean', which tools/lay-shelf.mjs wrote): THE SAME DECLARATIONS UNDER THE SAME NAMES: 'import', 'namespace', 'open', 'def', 'theorem' AND NOTHING ELSE: no command of the shelf's: FOR A HAND-IN. Each laying: the table of numbers ('.._ren') and one theorem, a field a fact of the dump's own or the kernel's comparison; each contract: ONE APPLICATION. -/
section
namespace Go.Proofs
open Go.Shelf
def Tryd.lays169_ren : Go.Shelf.Ren := ⟨fun | 169 => 68 | n => n, fun | 70 => 100 | 9 => 9 | 0 => 0 | 72 => 103 | 37 => 101 | 127 => 145 | 3 => 3 | 5 => 5 | n => n, fun | n => n⟩
theorem Tryd.lays169 : Go.Proofs.Lays.n169 Tryd.prog Tryd.lays169_ren := {
  mixed := by kernel_rfl
  f169 := Tryd.func68.trans (congrArg some (by kernel_rfl))
  t0 := Tryd.underlying0
  a0 := Tryd.isAgg0
  z0 := Tryd.sizeOf0
  v0 := Tryd.zeroValue0
  t3 := Tryd.underlying3
  a3 := Tryd.isAgg3
  z3 := Tryd.sizeOf3
  v3 := Tryd.zeroValue3
  t9 := Tryd.underlying9
  a9 := Tryd.isAgg9
  z9 := Tryd.sizeOf9
  v9 := Tryd.zeroValue9
  t37 := Tryd.underlying101
  a37 := Tryd.isAgg101
  z37 := Tryd.sizeOf101
  v37 := Tryd.zeroValue101
  t70 := Tryd.underlying100
  a70 := Tryd.isAgg100
  z70 := Tryd.sizeOf100
  v70 := Tryd.zeroValue100
  t72 := Tryd.underlying103
  a72 := Tryd.isAgg103
  z72 := Tryd.sizeOf103
  v72 := Tryd.zeroValue103
  t127 := Tryd.underlying145
  a127 := Tryd.isAgg145
  z127 := Tryd.sizeOf145
  v127 := Tryd.zeroValue145 }
theorem Tryd.Builder_Extra_169 : Builder.Extra Tryd.prog Tryd.lays169_ren := {
  sizeBuilder := by kernel_rfl
  liesBuilder := by kernel_rfl
  t5 := Tryd.underlying5
  a5 := Tryd.isAgg5
  z5 := Tryd.sizeOf5
  v5 := Tryd.zeroValue5
  infoByte := by kernel_rfl
  cellsByte := by kernel_rfl
  sizeByte := by kernel_rfl
  neB5 := by decide }
def Tryd.lays197_ren : Go.Shelf.Ren := ⟨fun | 197 => 135 | 260 => 144 | n => n, fun | 9 => 9 | 21 => 21 | 3 => 3 | 4 => 4 | 5 => 5 | 105 => 185 | 119 => 172 | 0 => 0 | 46 => 176 | 139 => 175 | 138 => 174 | n => n, fun | 3 => 0 | 4 => 1 | n => n⟩
theorem Tryd.lays197 : Go.Proofs.Lays.n197 Tryd.prog Tryd.lays197_ren := {
  mixed := by kernel_rfl
  f197 := Tryd.func135.trans (congrArg some (by kernel_rfl))
  f260 := Tryd.func144.trans (congrArg some (by kernel_rfl))
  t0 := Tryd.underlying0
  a0 := Tryd.isAgg0
  z0 := Tryd.sizeOf0
  v0 := Tryd.zeroValue0
  t3 := Tryd.underlying3
  a3 := Tryd.isAgg3
  z3 := Tryd.sizeOf3
  v3 := Tryd.zeroValue3
  t4 := Tryd.underlying4
  a4 := Tryd.isAgg4
  z4 := Tryd.sizeOf4
  v4 := Tryd.zeroValue4
  t5 := Tryd.underlying5
  a5 := Tryd.isAgg5
  z5 := Tryd.sizeOf5
  v5 := Tryd.zeroValue5
  t9 := Tryd.underlying9
  a9 := Tryd.isAgg9
  z9 := Tryd.sizeOf9
  v9 := Tryd.zeroValue9
  t21 := Tryd.underlying21
  a21 := Tryd.isAgg21
  z21 := Tryd.sizeOf21
  v21 := Tryd.zeroValue21
  t46 := Tryd.underlying176
  a46 := Tryd.isAgg176
  z46 := Tryd.sizeOf176
  v46 := Tryd.zeroValue176
  t105 := Tryd.underlying185
  a105 := Tryd.isAgg185
  z105 := Tryd.sizeOf185
  v105 := Tryd.zeroValue185
  t119 := Tryd.underlying172
  a119 := Tryd.isAgg172
  z119 := Tryd.sizeOf172
  t138 := Tryd.underlying174
  a138 := Tryd.isAgg174
  z138 := Tryd.sizeOf174
  v138 := Tryd.zeroValue174
  t139 := Tryd.underlying175
  a139 := Tryd.isAgg175
  z139 := Tryd.sizeOf175
  v139 := Tryd.zeroValue175
  g3 := by kernel_rfl
  g4 := by kernel_rfl }
def Tryd.lays196_ren : Go.Shelf.Ren := ⟨fun | 196 => 101 | 259 => 123 | n => n, fun | 9 => 9 | 4 => 4 | 3 => 3 | 5 => 5 | 12 => 12 | 119 => 172 | 0 => 0 | 46 => 176 | 139 => 175 | 138 => 174 | 53 => 164 | n => n, fun | 3 => 0 | 4 => 1 | n => n⟩
theorem Tryd.lays196 : Go.Proofs.Lays.n196 Tryd.prog Tryd.lays196_ren := {
  mixed := by kernel_rfl
  f196 := Tryd.func101.trans (congrArg some (by kernel_rfl))
  f259 := Tryd.func123.trans (congrArg some (by kernel_rfl))
  t0 := Tryd.underlying0
  a0 := Tryd.isAgg0
  z0 := Tryd.sizeOf0
  v0 := Tryd.zeroValue0
  t3 := Tryd.underlying3
  a3 := Tryd.isAgg3
  z3 := Tryd.sizeOf3
  v3 := Tryd.zeroValue3
  t4 := Tryd.underlying4
  a4 := Tryd.isAgg4
  z4 := Tryd.sizeOf4
  v4 := Tryd.zeroValue4
  t5 := Tryd.underlying5
  a5 := Tryd.isAgg5
  z5 := Tryd.sizeOf5
  v5 := Tryd.zeroValue5
  t9 := Tryd.underlying9
  a9 := Tryd.isAgg9
  z9 := Tryd.sizeOf9
  v9 := Tryd.zeroValue9
  t12 := Tryd.underlying12
  a12 := Tryd.isAgg12
  z12 := Tryd.sizeOf12
  v12 := Tryd.zeroValue12
  t46 := Tryd.underlying176
  a46 := Tryd.isAgg176
  z46 := Tryd.sizeOf176
  v46 := Tryd.zeroValue176
  t53 := Tryd.underlying164
  a53 := Tryd.isAgg164
  z53 := Tryd.sizeOf164
  v53 := Tryd.zeroValue164
  t119 := Tryd.underlying172
  a119 := Tryd.isAgg172
  z119 := Tryd.sizeOf172
  t138 := Tryd.underlying174
  a138 := Tryd.isAgg174
  z138 := Tryd.sizeOf174
  v138 := Tryd.zeroValue174
  t139 := Tryd.underlying175
  a139 := Tryd.isAgg175
  z139 := Tryd.sizeOf175
  v139 := Tryd.zeroValue175
  g3 := by kernel_rfl
  g4 := by kernel_rfl }
end Go.Proofs
end

/-! The library's functions that the laws of layer 15 reach, as entries of the evaluator's table, where the library's two tables lie. -/
section
set_option linter.unusedVariables false
namespace Go.Proofs.YtinhjhkmpknbbaaDoor
open Go Go.RowKit Go.AE Go.Proofs Go.Shelf

/-! ### copyCheck -/
set_option maxHeartbeats 1000000 in
set_option maxRecDepth 100000 in
theorem copy_used (b : Nat) (w : World) (h0 : w.cell? ⟨b, 0, none⟩ = some (.pointer (some ⟨b, 0, none⟩))) :
    Calls Tryd.prog 97 #[.pointer (some ⟨b, 0, none⟩)] w fun e w' => e = .returned (.tuple #[]) ∧ w' = w := by
  obtain ⟨j, hj, _⟩ := Option.map_eq_some_iff.1 Tryd.Builder_Extra_169.sizeBuilder
  have hj : Tryd.prog.info? 103 = some j := hj
  go_enter Tryd.func97, Tryd.ntmps97
  go_wp2
  rw [Lib.run_neq_ptr_same w _ Tryd.underlying100 hj]
  go_wp2
  go_end0
  exact ⟨rfl, rfl⟩
set_option maxHeartbeats 1000000 in
set_option maxRecDepth 100000 in
theorem copy_fresh (b : Nat) (w : World) (h0 : w.cell? ⟨b, 0, none⟩ = some (.pointer none)) (hsh : w.shape? b = some (103, 2)) (hfz : w.frozen? ⟨b, 0, none⟩ = false) :
    Calls Tryd.prog 97 #[.pointer (some ⟨b, 0, none⟩)] w fun e w' => e = .returned (.tuple #[]) ∧ w' = w.setCell ⟨b, 0, none⟩ (.pointer (some ⟨b, 0, none⟩)) := by
  obtain ⟨j, hj, hjs⟩ := Option.map_eq_some_iff.1 Tryd.Builder_Extra_169.sizeBuilder
  have hj : Tryd.prog.info? 103 = some j := hj
  go_enter Tryd.func97, Tryd.ntmps97
  go_wp2
  rw [Lib.run_to_unsafe w ⟨b, 0, none⟩ Tryd.underlying100 Tryd.underlying166 hj (by rw [hjs]; decide) hsh (Nat.zero_lt_succ 1)]
  simp only [Result.andThen]
  rw [Oper.upon_value]
  go_wp2
  rw [run_callFunc_extern Tryd.func118 (by kernel_rfl) (by kernel_rfl) (by kernel_rfl) (e := Extern.AbiNoEscape.same) (by kernel_rfl)]
  rw [Lib.run_noEscape]
  simp only [Result.andThen]
  rw [Oper.upon_value]
  go_wp2
  rw [Lib.run_from_unsafe w ⟨b, 0, none⟩ Tryd.underlying166 Tryd.underlying100 hj hsh Tryd.Builder_Extra_169.liesBuilder]
  simp only [Result.andThen]
  rw [Oper.upon_value]
  go_wp2
  go_end0
  exact ⟨rfl, rfl⟩
theorem copy_enter (vals : Array Value) (w : World) : (callFunc 97 vals).run Tryd.prog w = .ok (.enter 97 vals) w := enters_of Tryd.func97 (by kernel_rfl) rfl vals w
theorem string_enter (vals : Array Value) (w : World) : (callFunc 68 vals).run Tryd.prog w = .ok (.enter 68 vals) w := enters_of Tryd.func68 (by kernel_rfl) rfl vals w

/-! ### What reads nothing of ours -/
def K (B : Nat) (w : World) : Prop := B = w.heap.size ∧ (Lib.Utf8Tabs (Tryd.lays196_ren.g 3) (Tryd.lays196_ren.g 4) w ∧ (w.cell? ⟨4, 15, none⟩ = some (.int .u8 4) ∧ 4 < w.heap.size))
theorem hKs : Holds K := fun B w0 I σ w h hK hI => ⟨rfl, Utf8Tabs_below hK.2.1 (hK.1 ▸ hI.below), (hI.below.cell (p := ⟨4, 15, none⟩) (by have := hK.2.2.2; rw [hK.1]; exact this)).trans hK.2.2.1, Nat.lt_of_lt_of_le hK.2.2.2 (hK.1 ▸ hI.base)⟩
theorem look_ends {B : Nat} {w0 w : World} {I : Cells} {σ : List AE.Loc} {h : List AO} (hI : AE.Inv B w0 I σ w h) {r : AV} {e : Ending} {v : Value} {w' : World} (he : e = .returned v) (hB : Below w.heap.size w w') (hr : Rep I w σ r v) : AE.Ends B w0 I σ w r h e w' := by
  have hext : Ext I w I w' := ⟨fun _ _ h => h, fun b x hi => hB.cell (p := ⟨b, x, none⟩) (hI.imm_lt hi)⟩
  refine ⟨v, I, σ, he, hI.same (hB.mono hI.base) hext (fun b x hi => by
    obtain ⟨u, hu⟩ := hI.imm b x hi
    exact ⟨u, (hext.cell b x hi).trans hu⟩) (fun j Lj hj hh => ⟨hB.block _ (hI.mine j Lj hj hh).2, fun _ h => h⟩), ⟨hext, Later.refl _, fun _ _ h => .inl h, hB.size⟩, hr.mono hext (Later.refl _)⟩

def validG (args : List AV) (h : List AO) : Option (AV × List AO) := match args with
  | [.v (.string s)] => if s.size ≤ 9223372036854775807 then some (.v (.bool (Lib.validD s.data.toList)), h) else none
  | _ => none
theorem valid_enter (vals : Array Value) (w : World) : (callFunc 101 vals).run Tryd.prog w = .ok (.enter 101 vals) w := enters_of Tryd.func101 (by kernel_rfl) rfl vals w
theorem valid_ok {B : Nat} {w0 : World} (hK : K B w0) : ∀ args h r h', validG args h = some (r, h') → (∀ (vals : Array Value) (w : World), (callFunc 101 vals).run Tryd.prog w = .ok (.enter 101 vals) w) ∧
    ∀ I σ w (vals : Array Value), AE.Inv B w0 I σ w h → ArgsRep I w σ args vals → Calls Tryd.prog 101 vals w (AE.Ends B w0 I σ w r h') := by
  intro args h r h' hg
  refine ⟨valid_enter, fun I σ w vals hI ha => ?_⟩
  unfold validG at hg
  split at hg
  · rename_i s
    split at hg
    · rename_i hs
      cases hg
      obtain ⟨u, rfl, h1⟩ := one_arg (args := []) ha
      cases h1
      have cV : Calls Tryd.prog 101 #[.string s] w _ := Any.utf8_ValidString Tryd.lays196 s w hs (hKs B w0 I σ w h hK hI).2.1
      refine cV.mono ?_
      rintro e w' ⟨he, hB⟩
      exact look_ends hI he hB (.v _ _)
    · cases hg
  · cases hg

def decG (args : List AV) (h : List AO) : Option (AV × List AO) := match args with
  | [.v (.string s)] => some (.tup [.v (.int .i32 (Lib.decodeGo s).1), .v (.int .i64 (Lib.decodeGo s).2)], h)
  | _ => none
theorem dec_enter (vals : Array Value) (w : World) : (callFunc 135 vals).run Tryd.prog w = .ok (.enter 135 vals) w := enters_of Tryd.func135 (by kernel_rfl) rfl vals w
theorem dec_ok {B : Nat} {w0 : World} (hK : K B w0) : ∀ args h r h', decG args h = some (r, h') → (∀ (vals : Array Value) (w : World), (callFunc 135 vals).run Tryd.prog w = .ok (.enter 135 vals) w) ∧
    ∀ I σ w (vals : Array Value), AE.Inv B w0 I σ w h → ArgsRep I w σ args vals → Calls Tryd.prog 135 vals w (AE.Ends B w0 I σ w r h') := by
  intro args h r h' hg
  refine ⟨dec_enter, fun I σ w vals hI ha => ?_⟩
  unfold decG at hg
  split at hg
  · rename_i s
    cases hg
    obtain ⟨u, rfl, h1⟩ := one_arg (args := []) ha
    cases h1
    have cV : Calls Tryd.prog 135 #[.string s] w _ := Any.utf8_DecodeRuneInString Tryd.lays197 s w (hKs B w0 I σ w h hK hI).2.1
    refine cV.mono ?_
    rintro e w' ⟨he, hB⟩
    refine look_ends hI he hB (.tup _ _ _ rfl (fun i c hi => ?_))
    match i, hi with
    | 0, hi => cases hi; exact .v _ _
    | 1, hi => cases hi; exact .v _ _
  · cases hg

def tzG (args : List AV) (h : List AO) : Option (AV × List AO) := match args with
  | [.v (.int .u64 n)] => if n = 16 then some (.v (.int .i64 4), h) else none
  | _ => none
theorem tz_enter (vals : Array Value) (w : World) : (callFunc 152 vals).run Tryd.prog w = .ok (.enter 152 vals) w := enters_of Tryd.func152 (by kernel_rfl) rfl vals w
set_option maxHeartbeats 1000000 in
set_option maxRecDepth 100000 in
theorem tz_walk (w : World) (h0 : w.cell? ⟨4, 15, none⟩ = some (.int .u8 4)) :
    Calls Tryd.prog 152 #[.int .u64 16] w fun e w' => e = .returned (.int .i64 4) ∧ w' = w := by
  have key : IntKind.u64.wrap (bits BinOp.and IntKind.u64 16 (IntKind.u64.wrap (-16)) * 285870213051353865) / 288230376151711744 = 15 := by decide
  go_enter Tryd.func152, Tryd.ntmps152
  go_wp2_with (simp only [key])
  go_ret
  exact ⟨rfl, rfl⟩
theorem tz_ok {B : Nat} {w0 : World} (hK : K B w0) : ∀ args h r h', tzG args h = some (r, h') → (∀ (vals : Array Value) (w : World), (callFunc 152 vals).run Tryd.prog w = .ok (.enter 152 vals) w) ∧
    ∀ I σ w (vals : Array Value), AE.Inv B w0 I σ w h → ArgsRep I w σ args vals → Calls Tryd.prog 152 vals w (AE.Ends B w0 I σ w r h') := by
  intro args h r h' hg
  refine ⟨tz_enter, fun I σ w vals hI ha => ?_⟩
  unfold tzG at hg
  split at hg
  · rename_i n
    split at hg
    · rename_i hn
      subst hn
      cases hg
      obtain ⟨u, rfl, h1⟩ := one_arg (args := []) ha
      cases h1
      refine (tz_walk w (hKs B w0 I σ w h hK hI).2.2.1).mono ?_
      rintro e w' ⟨he, rfl⟩
      exact look_ends hI he (Below.refl _ _) (.v _ _)
    · cases hg
  · cases hg

end Go.Proofs.YtinhjhkmpknbbaaDoor
end

/-! The functions of the program that the laws of layer 15 reach, as the evaluator carries them out, each checked against the loaded program. -/
section
set_option linter.unusedVariables false
set_option maxRecDepth 100000
namespace Go.Proofs.YtinhjhkmpknbbaaDoor
open Go Go.AE Go.Proofs
def ti2 : TI := ⟨1, 8, (.int .i64 0), (.int .i64)⟩
theorem tiOk2 : TIok Tryd.prog 2 ti2 := tiok_of (by kernel_rfl) (by kernel_rfl)
def ti3 : TI := ⟨1, 8, (.int .i64 0), (.int .i64)⟩
theorem tiOk3 : TIok Tryd.prog 3 ti3 := tiok_of (by kernel_rfl) (by kernel_rfl)
def ti4 : TI := ⟨1, 1, (.bool false), .bool⟩
theorem tiOk4 : TIok Tryd.prog 4 ti4 := tiok_of (by kernel_rfl) (by kernel_rfl)
def ti5 : TI := ⟨1, 1, (.int .u8 0), (.int .u8)⟩
theorem tiOk5 : TIok Tryd.prog 5 ti5 := tiok_of (by kernel_rfl) (by kernel_rfl)
def ti9 : TI := ⟨1, 16, (.string ⟨#[]⟩), .string⟩
theorem tiOk9 : TIok Tryd.prog 9 ti9 := tiok_of (by kernel_rfl) (by kernel_rfl)
def ti21 : TI := ⟨1, 4, (.int .i32 0), (.int .i32)⟩
theorem tiOk21 : TIok Tryd.prog 21 ti21 := tiok_of (by kernel_rfl) (by kernel_rfl)
def ti22 : TI := ⟨1, 24, (.slice none 0 0), (.slice 24)⟩
theorem tiOk22 : TIok Tryd.prog 22 ti22 := tiok_of (by kernel_rfl) (by kernel_rfl)
def ti24 : TI := ⟨4, 56, (.agg #[(.int .i64 0), (.string ⟨#[]⟩), (.int .i64 0), (.slice none 0 0)]), (.struct #[⟨"Kind", 3, 0, false, "", "", 0⟩, ⟨"Name", 9, 1, false, "", "", 8⟩, ⟨"N", 2, 2, false, "", "", 24⟩, ⟨"Args", 22, 3, false, "", "", 32⟩])⟩
theorem tiOk24 : TIok Tryd.prog 24 ti24 := tiok_of (by kernel_rfl) (by kernel_rfl)
def ti27 : TI := ⟨1, 8, (.int .i64 0), (.int .i64)⟩
theorem tiOk27 : TIok Tryd.prog 27 ti27 := tiok_of (by kernel_rfl) (by kernel_rfl)
def ti46 : TI := ⟨6, 88, (.agg #[(.int .i64 0), (.string ⟨#[]⟩), (.int .i64 0), (.slice none 0 0), (.slice none 0 0), (.int .i64 0)]), (.struct #[⟨"Head", 24, 0, false, "", "", 0⟩, ⟨"Body", 22, 4, false, "", "", 56⟩, ⟨"Vars", 3, 5, false, "", "", 80⟩])⟩
theorem tiOk46 : TIok Tryd.prog 46 ti46 := tiok_of (by kernel_rfl) (by kernel_rfl)
def ti50 : TI := ⟨1, 24, (.slice none 0 0), (.slice 58)⟩
theorem tiOk50 : TIok Tryd.prog 50 ti50 := tiok_of (by kernel_rfl) (by kernel_rfl)
def ti52 : TI := ⟨4, 56, (.agg #[(.string ⟨#[]⟩), (.int .i64 0), (.int .i64 0), (.slice none 0 0)]), (.struct #[⟨"Name", 9, 0, false, "", "", 0⟩, ⟨"Arity", 3, 1, false, "", "", 16⟩, ⟨"Vars", 3, 2, false, "", "", 24⟩, ⟨"L", 50, 3, false, "", "", 32⟩])⟩
theorem tiOk52 : TIok Tryd.prog 52 ti52 := tiok_of (by kernel_rfl) (by kernel_rfl)
def ti56 : TI := ⟨1, 8, (.map none), (.map 3 4)⟩
theorem tiOk56 : TIok Tryd.prog 56 ti56 := tiok_of (by kernel_rfl) (by kernel_rfl)
def ti58 : TI := ⟨5, 48, (.agg #[(.int .i64 0), (.int .i64 0), (.int .i64 0), (.string ⟨#[]⟩), (.int .i64 0)]), (.struct #[⟨"Op", 3, 0, false, "", "", 0⟩, ⟨"A", 3, 1, false, "", "", 8⟩, ⟨"B", 3, 2, false, "", "", 16⟩, ⟨"Name", 9, 3, false, "", "", 24⟩, ⟨"N", 2, 4, false, "", "", 40⟩])⟩
theorem tiOk58 : TIok Tryd.prog 58 ti58 := tiok_of (by kernel_rfl) (by kernel_rfl)
def ti60 : TI := ⟨1, 24, (.slice none 0 0), (.slice 46)⟩
theorem tiOk60 : TIok Tryd.prog 60 ti60 := tiok_of (by kernel_rfl) (by kernel_rfl)
def ti62 : TI := ⟨1, 24, (.slice none 0 0), (.slice 52)⟩
theorem tiOk62 : TIok Tryd.prog 62 ti62 := tiok_of (by kernel_rfl) (by kernel_rfl)
def ti77 : TI := ⟨1, 24, (.slice none 0 0), (.slice 3)⟩
theorem tiOk77 : TIok Tryd.prog 77 ti77 := tiok_of (by kernel_rfl) (by kernel_rfl)
def ti82 : TI := ⟨1, 24, (.slice none 0 0), (.slice 2)⟩
theorem tiOk82 : TIok Tryd.prog 82 ti82 := tiok_of (by kernel_rfl) (by kernel_rfl)
def ti88 : TI := ⟨1, 8, (.pointer none), (.pointer 92)⟩
theorem tiOk88 : TIok Tryd.prog 88 ti88 := tiok_of (by kernel_rfl) (by kernel_rfl)
def ti89 : TI := ⟨1, 8, (.map none), (.map 2 3)⟩
theorem tiOk89 : TIok Tryd.prog 89 ti89 := tiok_of (by kernel_rfl) (by kernel_rfl)
def ti90 : TI := ⟨1, 24, (.slice none 0 0), (.slice 130)⟩
theorem tiOk90 : TIok Tryd.prog 90 ti90 := tiok_of (by kernel_rfl) (by kernel_rfl)
def ti92 : TI := ⟨4, 64, (.agg #[(.slice none 0 0), (.map none), (.int .i64 0), (.slice none 0 0)]), (.struct #[⟨"l", 50, 0, false, "", "spinney/code", 0⟩, ⟨"named", 89, 1, false, "", "spinney/code", 24⟩, ⟨"next", 3, 2, false, "", "spinney/code", 32⟩, ⟨"queue", 90, 3, false, "", "spinney/code", 40⟩])⟩
theorem tiOk92 : TIok Tryd.prog 92 ti92 := tiok_of (by kernel_rfl) (by kernel_rfl)
def ti95 : TI := ⟨1, 8, (.pointer none), (.pointer 97)⟩
theorem tiOk95 : TIok Tryd.prog 95 ti95 := tiok_of (by kernel_rfl) (by kernel_rfl)
def ti97 : TI := ⟨3, 56, (.agg #[(.slice none 0 0), (.slice none 0 0), (.int .i64 0)]), (.struct #[⟨"l", 50, 0, false, "", "spinney/spinneyref15", 0⟩, ⟨"met", 82, 1, false, "", "spinney/spinneyref15", 24⟩, ⟨"next", 3, 2, false, "", "spinney/spinneyref15", 48⟩])⟩
theorem tiOk97 : TIok Tryd.prog 97 ti97 := tiok_of (by kernel_rfl) (by kernel_rfl)
def ti100 : TI := ⟨1, 8, (.pointer none), (.pointer 103)⟩
theorem tiOk100 : TIok Tryd.prog 100 ti100 := tiok_of (by kernel_rfl) (by kernel_rfl)
def ti101 : TI := ⟨1, 24, (.slice none 0 0), (.slice 5)⟩
theorem tiOk101 : TIok Tryd.prog 101 ti101 := tiok_of (by kernel_rfl) (by kernel_rfl)
def ti103 : TI := ⟨2, 32, (.agg #[(.pointer none), (.slice none 0 0)]), (.struct #[⟨"addr", 100, 0, false, "", "strings", 0⟩, ⟨"buf", 101, 1, false, "", "strings", 8⟩])⟩
theorem tiOk103 : TIok Tryd.prog 103 ti103 := tiok_of (by kernel_rfl) (by kernel_rfl)
def ti126 : TI := ⟨1, 24, (.slice none 0 0), (.slice 9)⟩
theorem tiOk126 : TIok Tryd.prog 126 ti126 := tiok_of (by kernel_rfl) (by kernel_rfl)
def ti130 : TI := ⟨5, 64, (.agg #[(.int .i64 0), (.int .i64 0), (.string ⟨#[]⟩), (.int .i64 0), (.slice none 0 0)]), (.struct #[⟨"r", 3, 0, false, "", "spinney/code", 0⟩, ⟨"t", 24, 1, false, "", "spinney/code", 8⟩])⟩
theorem tiOk130 : TIok Tryd.prog 130 ti130 := tiok_of (by kernel_rfl) (by kernel_rfl)
def ti134 : TI := ⟨5, 64, (.agg #[(.int .i64 0), (.int .i64 0), (.string ⟨#[]⟩), (.int .i64 0), (.slice none 0 0)]), (.struct #[⟨"r", 3, 0, false, "", "spinney/spinneyref15", 0⟩, ⟨"t", 24, 1, false, "", "spinney/spinneyref15", 8⟩])⟩
theorem tiOk134 : TIok Tryd.prog 134 ti134 := tiok_of (by kernel_rfl) (by kernel_rfl)
def ti135 : TI := ⟨1, 24, (.slice none 0 0), (.slice 134)⟩
theorem tiOk135 : TIok Tryd.prog 135 ti135 := tiok_of (by kernel_rfl) (by kernel_rfl)
def ti141 : TI := ⟨5, 80, (.agg #[(.string ⟨#[]⟩), (.string ⟨#[]⟩), (.string ⟨#[]⟩), (.string ⟨#[]⟩), (.string ⟨#[]⟩)]), (.array 5 9)⟩
theorem tiOk141 : TIok Tryd.prog 141 ti141 := tiok_of (by kernel_rfl) (by kernel_rfl)
def ti143 : TI := ⟨4, 64, (.agg #[(.string ⟨#[]⟩), (.string ⟨#[]⟩), (.string ⟨#[]⟩), (.string ⟨#[]⟩)]), (.array 4 9)⟩
theorem tiOk143 : TIok Tryd.prog 143 ti143 := tiok_of (by kernel_rfl) (by kernel_rfl)
def ti163 : TI := ⟨20, 20, (.agg #[(.int .u8 0), (.int .u8 0), (.int .u8 0), (.int .u8 0), (.int .u8 0), (.int .u8 0), (.int .u8 0), (.int .u8 0), (.int .u8 0), (.int .u8 0), (.int .u8 0), (.int .u8 0), (.int .u8 0), (.int .u8 0), (.int .u8 0), (.int .u8 0), (.int .u8 0), (.int .u8 0), (.int .u8 0), (.int .u8 0)]), (.array 20 5)⟩
theorem tiOk163 : TIok Tryd.prog 163 ti163 := tiok_of (by kernel_rfl) (by kernel_rfl)
def ti164 : TI := ⟨1, 8, (.int .u64 0), (.int .u64)⟩
theorem tiOk164 : TIok Tryd.prog 164 ti164 := tiok_of (by kernel_rfl) (by kernel_rfl)
def ti168 : TI := ⟨1, 24, (.slice none 0 0), (.slice 21)⟩
theorem tiOk168 : TIok Tryd.prog 168 ti168 := tiok_of (by kernel_rfl) (by kernel_rfl)
def ti176 : TI := ⟨1, 8, (.int .u64 0), (.int .u64)⟩
theorem tiOk176 : TIok Tryd.prog 176 ti176 := tiok_of (by kernel_rfl) (by kernel_rfl)
def ti190 : TI := ⟨1, 4, (.int .u32 0), (.int .u32)⟩
theorem tiOk190 : TIok Tryd.prog 190 ti190 := tiok_of (by kernel_rfl) (by kernel_rfl)
def ti191 : TI := ⟨24, 24, (.agg #[(.int .u8 0), (.int .u8 0), (.int .u8 0), (.int .u8 0), (.int .u8 0), (.int .u8 0), (.int .u8 0), (.int .u8 0), (.int .u8 0), (.int .u8 0), (.int .u8 0), (.int .u8 0), (.int .u8 0), (.int .u8 0), (.int .u8 0), (.int .u8 0), (.int .u8 0), (.int .u8 0), (.int .u8 0), (.int .u8 0), (.int .u8 0), (.int .u8 0), (.int .u8 0), (.int .u8 0)]), (.array 24 5)⟩
theorem tiOk191 : TIok Tryd.prog 191 ti191 := tiok_of (by kernel_rfl) (by kernel_rfl)
def ti201 : TI := ⟨65, 65, (.agg #[(.int .u8 0), (.int .u8 0), (.int .u8 0), (.int .u8 0), (.int .u8 0), (.int .u8 0), (.int .u8 0), (.int .u8 0), (.int .u8 0), (.int .u8 0), (.int .u8 0), (.int .u8 0), (.int .u8 0), (.int .u8 0), (.int .u8 0), (.int .u8 0), (.int .u8 0), (.int .u8 0), (.int .u8 0), (.int .u8 0), (.int .u8 0), (.int .u8 0), (.int .u8 0), (.int .u8 0), (.int .u8 0), (.int .u8 0), (.int .u8 0), (.int .u8 0), (.int .u8 0), (.int .u8 0), (.int .u8 0), (.int .u8 0), (.int .u8 0), (.int .u8 0), (.int .u8 0), (.int .u8 0), (.int .u8 0), (.int .u8 0), (.int .u8 0), (.int .u8 0), (.int .u8 0), (.int .u8 0), (.int .u8 0), (.int .u8 0), (.int .u8 0), (.int .u8 0), (.int .u8 0), (.int .u8 0), (.int .u8 0), (.int .u8 0), (.int .u8 0), (.int .u8 0), (.int .u8 0), (.int .u8 0), (.int .u8 0), (.int .u8 0), (.int .u8 0), (.int .u8 0), (.int .u8 0), (.int .u8 0), (.int .u8 0), (.int .u8 0), (.int .u8 0), (.int .u8 0), (.int .u8 0)]), (.array 65 5)⟩
theorem tiOk201 : TIok Tryd.prog 201 ti201 := tiok_of (by kernel_rfl) (by kernel_rfl)
def tys : List (TypeId × TI) := [(2, ti2), (3, ti3), (4, ti4), (5, ti5), (9, ti9), (21, ti21), (22, ti22), (24, ti24), (27, ti27), (46, ti46), (50, ti50), (52, ti52), (56, ti56), (58, ti58), (60, ti60), (62, ti62), (77, ti77), (82, ti82), (88, ti88), (89, ti89), (90, ti90), (92, ti92), (95, ti95), (97, ti97), (100, ti100), (101, ti101), (103, ti103), (126, ti126), (130, ti130), (134, ti134), (135, ti135), (141, ti141), (143, ti143), (163, ti163), (164, ti164), (168, ti168), (176, ti176), (190, ti190), (191, ti191), (201, ti201)]
def pures : List FuncId := [0, 1, 2, 3, 4, 5, 6, 7, 8, 9, 10, 11, 12, 13, 14, 15, 16, 17, 18, 19, 20, 21, 22, 23, 24, 25, 26, 27, 28, 29, 30, 31, 32, 33, 34, 35, 36, 37, 38, 39, 40, 41, 42, 43, 44, 45, 46, 47, 48, 49, 51, 52, 53, 54, 55, 56, 57, 64, 65, 69, 70, 71, 72, 73, 75, 77, 78, 80, 81, 82, 84, 85, 93, 94, 95, 96, 98, 99, 100, 101, 103, 106, 109, 113, 114, 116, 117, 118, 119, 120, 121, 122, 123, 124, 127, 128, 129, 130, 131, 133, 134, 135, 137, 139, 140, 141, 142, 143, 144, 146, 147, 148, 149, 150, 151, 152, 153, 154, 155, 156, 157, 158, 159, 160, 166, 167, 169, 170, 171, 172, 173, 174, 175, 176, 177]
def lits : List TypeId := []
def frz : List FuncId := [81]
def pushes : List FuncId := [83]
def T : Tb := ⟨fun t => tys.lookup t, fun f => pures.contains f, fun t => lits.contains t, fun f => frz.contains f, fun f => pushes.contains f⟩
def T0 : Tb := ⟨fun t => tys.lookup t, fun f => pures.contains f, fun t => lits.contains t, fun f => frz.contains f, fun _ => false⟩
theorem hnp0 : ∀ f, T0.push f = false := fun _ => rfl
theorem hT : TbOk Tryd.prog T := tbok_of (fun p hp => by
  simp only [tys, List.mem_cons, List.not_mem_nil, or_false] at hp
  rcases hp with rfl | rfl | rfl | rfl | rfl | rfl | rfl | rfl | rfl | rfl | rfl | rfl | rfl | rfl | rfl | rfl | rfl | rfl | rfl | rfl | rfl | rfl | rfl | rfl | rfl | rfl | rfl | rfl | rfl | rfl | rfl | rfl | rfl | rfl | rfl | rfl | rfl | rfl | rfl | rfl
  · exact tiOk2
  · exact tiOk3
  · exact tiOk4
  · exact tiOk5
  · exact tiOk9
  · exact tiOk21
  · exact tiOk22
  · exact tiOk24
  · exact tiOk27
  · exact tiOk46
  · exact tiOk50
  · exact tiOk52
  · exact tiOk56
  · exact tiOk58
  · exact tiOk60
  · exact tiOk62
  · exact tiOk77
  · exact tiOk82
  · exact tiOk88
  · exact tiOk89
  · exact tiOk90
  · exact tiOk92
  · exact tiOk95
  · exact tiOk97
  · exact tiOk100
  · exact tiOk101
  · exact tiOk103
  · exact tiOk126
  · exact tiOk130
  · exact tiOk134
  · exact tiOk135
  · exact tiOk141
  · exact tiOk143
  · exact tiOk163
  · exact tiOk164
  · exact tiOk168
  · exact tiOk176
  · exact tiOk190
  · exact tiOk191
  · exact tiOk201)




/-! spinney/spinneylaw15.CodeTexts -/
def c9_0 : List CO := [⟨(.mov (.k (.bool false))), (some 1), none⟩]
def c9_1 : List CO := [⟨(.call true 23 []), none, none⟩,
  ⟨(.mov (.loc 0)), (some 2), none⟩]
def c9_2 : List CO := [⟨(.mov (.var 0)), none, none⟩,
  ⟨(.len .slice (.loc 0)), none, none⟩,
  ⟨(.bin .gtr (.loc 0) (.k (.int .i64 2000))), (some 4), none⟩]
def c9_3 : List CO := [⟨(.mov (.var 2)), none, none⟩,
  ⟨(.mov (.loc 0)), (some 1), none⟩]
def c9_4 : List CO := [⟨(.mov (.var 0)), (some 5), none⟩,
  ⟨(.len .slice (.var 5)), (some 6), none⟩,
  ⟨(.mov (.k (.int .i64 0))), (some 7), none⟩]
def c9_5 : List CO := [⟨(.bin .lss (.var 7) (.var 6)), (some 8), none⟩]
def c9_6 : List CO := [⟨(.ia 5 (.var 5) (.var 7)), none, none⟩,
  ⟨(.load true 5 (.loc 0)), none, none⟩,
  ⟨(.box 58 (.k (.agg #[(.int .i64 0), (.int .i64 0), (.int .i64 0), (.string ⟨#[]⟩), (.int .i64 0)]))), (some 3), none⟩,
  ⟨(.store 5 (.var 3) (.loc 1)), none, none⟩]
def c9_7 : List CO := [⟨(.fa 3 (.var 3)), none, none⟩,
  ⟨(.load false 1 (.loc 0)), none, none⟩,
  ⟨(.len .string (.loc 0)), none, none⟩,
  ⟨(.bin .gtr (.loc 0) (.k (.int .i64 1000))), (some 9), none⟩]
def c9_8 : List CO := [⟨(.mov (.var 2)), none, none⟩,
  ⟨(.mov (.loc 0)), (some 1), none⟩]
def c9_9 : List CO := [⟨(.bin .add (.var 7) (.k (.int .i64 1))), none, none⟩,
  ⟨(.mov (.loc 0)), (some 7), none⟩]
def c9_10 : CC := (.seq (.region [] [] c9_5) (.seq (.cond (.var 8) .skip (.exit 0)) (.seq (.block 1 (.seq (.region [] [] c9_6) (.seq (.region [] [] c9_7) (.cond (.var 9) (.seq (.region [] [] c9_8) .ret) .skip)))) (.region [] [] c9_9))))
def c9_11 : List CO := [⟨(.mov (.var 2)), none, none⟩,
  ⟨(.mov (.loc 0)), none, none⟩,
  ⟨(.mov (.var 0)), none, (some ((.loc 0), true))⟩,
  ⟨(.call true 34 [(.loc 0)]), none, (some ((.loc 1), true))⟩,
  ⟨(.mov (.var 0)), none, (some ((.loc 2), true))⟩,
  ⟨(.call true 35 [(.loc 0)]), none, (some ((.loc 3), true))⟩,
  ⟨(.bin .eql (.loc 2) (.loc 0)), none, (some ((.loc 4), true))⟩,
  ⟨(.pick (.loc 5) (.loc 0) (.k (.bool false))), none, none⟩,
  ⟨(.mov (.loc 0)), (some 1), none⟩]
def c9 : CFun := ⟨1, 10, (.seq (.region [] [] c9_0) (.seq (.region [] [] c9_1) (.seq (.seq (.region [] [] c9_2) (.cond (.var 4) (.seq (.region [] [] c9_3) .ret) .skip)) (.seq (.seq (.region [] [] c9_4) (.block 0 (.loop [true, false, true, false, false, true, true, true, false, false] [] c9_10))) (.seq (.region [] [] c9_11) .ret))))), [.var 1]⟩
theorem ok9 : CodeOk Tryd.prog T 9 c9 := ⟨⟨Tryd.f9, Hints.of [] [] [(0, [true, false, true, false, false, true, true, true, false, false], [])], [0, 2, 3, 5, 9, 11, 12, 13, 14, 20], Tryd.func9, by kernel_rfl, by kernel_rfl⟩⟩



/-! spinney/spinneyref03.Var1 -/
def c15_0 : List CO := [⟨(.box 24 (.k (.agg #[(.int .i64 0), (.string ⟨#[]⟩), (.int .i64 0), (.slice none 0 0)]))), (some 1), none⟩]
def c15_1 : List CO := [⟨(.mov (.var 0)), none, none⟩,
  ⟨(.build [(.int .i64 0), (.string ⟨#[]⟩), (.int .i64 0), (.slice none 0 0)] [(0, 1, (.k (.int .i64 1))), (2, 1, (.loc 0))]), none, none⟩,
  ⟨(.store 4 (.var 1) (.loc 0)), none, none⟩]
def c15 : CFun := ⟨1, 2, (.seq (.region [] [] c15_0) (.seq (.region [] [] c15_1) .ret)), [.cell 1 true 4]⟩
theorem ok15 : CodeOk Tryd.prog T 15 c15 := ⟨⟨Tryd.f15, Hints.of [] [] [], [0, 2], Tryd.func15, by kernel_rfl, by kernel_rfl⟩⟩


/-! spinney/spinneyref03.Atom1 -/
def c20_0 : List CO := [⟨(.box 24 (.k (.agg #[(.int .i64 0), (.string ⟨#[]⟩), (.int .i64 0), (.slice none 0 0)]))), (some 1), none⟩]
def c20_1 : List CO := [⟨(.mov (.var 0)), none, none⟩,
  ⟨(.build [(.int .i64 0), (.string ⟨#[]⟩), (.int .i64 0), (.slice none 0 0)] [(0, 1, (.k (.int .i64 2))), (1, 1, (.loc 0))]), none, none⟩,
  ⟨(.store 4 (.var 1) (.loc 0)), none, none⟩]
def c20 : CFun := ⟨1, 2, (.seq (.region [] [] c20_0) (.seq (.region [] [] c20_1) .ret)), [.cell 1 true 4]⟩
theorem ok20 : CodeOk Tryd.prog T 20 c20 := ⟨⟨Tryd.f20, Hints.of [] [] [], [0, 2], Tryd.func20, by kernel_rfl, by kernel_rfl⟩⟩

/-! spinney/spinneylaw15.live -/
def c23_0 : List CO := [⟨(.mov (.k (.bool false))), (some 0), none⟩]
def c23_1 : List CO := [⟨(.call true 15 [(.k (.int .i64 0))]), none, none⟩,
  ⟨(.box 24 (.k (.agg #[(.int .i64 0), (.string ⟨#[]⟩), (.int .i64 0), (.slice none 0 0)]))), (some 1), none⟩,
  ⟨(.store 4 (.var 1) (.loc 1)), none, none⟩]
def c23_2 : List CO := [⟨(.load true 4 (.var 1)), none, none⟩,
  ⟨(.call true 20 [(.k (.string ⟨#[97]⟩))]), none, none⟩,
  ⟨(.load true 4 (.var 1)), none, none⟩,
  ⟨(.bslice 4 [(.int .i64 0), (.string ⟨#[]⟩), (.int .i64 0), (.slice none 0 0)] 2 [(0, (.loc 1)), (1, (.loc 0))]), none, none⟩,
  ⟨(.call true 36 [(.k (.string ⟨#[102]⟩)), (.loc 0)]), none, none⟩,
  ⟨(.bslice 4 [(.int .i64 0), (.string ⟨#[]⟩), (.int .i64 0), (.slice none 0 0)] 2 [(0, (.loc 4)), (1, (.loc 0))]), none, none⟩,
  ⟨(.call true 36 [(.k (.string ⟨#[112]⟩)), (.loc 0)]), none, none⟩,
  ⟨(.load true 4 (.var 1)), none, none⟩,
  ⟨(.bslice 4 [(.int .i64 0), (.string ⟨#[]⟩), (.int .i64 0), (.slice none 0 0)] 1 [(0, (.loc 0))]), none, none⟩,
  ⟨(.call true 36 [(.k (.string ⟨#[113]⟩)), (.loc 0)]), none, none⟩,
  ⟨(.call true 20 [(.k (.string ⟨#[33]⟩))]), none, none⟩,
  ⟨(.bslice 4 [(.int .i64 0), (.string ⟨#[]⟩), (.int .i64 0), (.slice none 0 0)] 2 [(0, (.loc 1)), (1, (.loc 0))]), none, none⟩,
  ⟨(.build [(.int .i64 0), (.string ⟨#[]⟩), (.int .i64 0), (.slice none 0 0), (.slice none 0 0), (.int .i64 0)] [(0, 4, (.loc 5)), (4, 1, (.loc 0)), (5, 1, (.k (.int .i64 1)))]), none, none⟩,
  ⟨(.box 46 (.k (.agg #[(.int .i64 0), (.string ⟨#[]⟩), (.int .i64 0), (.slice none 0 0), (.slice none 0 0), (.int .i64 0)]))), (some 2), none⟩,
  ⟨(.store 6 (.var 2) (.loc 1)), none, none⟩]
def c23_3 : List CO := [⟨(.load true 6 (.var 2)), none, none⟩,
  ⟨(.call true 26 [(.loc 0)]), none, none⟩,
  ⟨(.box 52 (.k (.agg #[(.string ⟨#[]⟩), (.int .i64 0), (.int .i64 0), (.slice none 0 0)]))), (some 3), none⟩,
  ⟨(.store 4 (.var 3) (.loc 1)), none, none⟩]
def c23_4 : List CO := [⟨(.fa 3 (.var 3)), none, none⟩,
  ⟨(.load false 1 (.loc 0)), none, none⟩,
  ⟨(.call true 34 [(.loc 0)]), none, none⟩,
  ⟨(.bin .eql (.loc 0) (.k (.string ⟨#[103, 101, 116, 95, 118, 97, 114, 32, 48, 32, 48, 10, 103, 101, 116, 95, 99, 111, 109, 112, 32, 49, 32, 102, 47, 50, 10, 117, 110, 105, 95, 97, 116, 111, 109, 32, 97, 10, 117, 110, 105, 95, 118, 97, 108, 32, 48, 10, 112, 117, 116, 95, 118, 97, 108, 32, 48, 32, 48, 10, 99, 97, 108, 108, 32, 113, 47, 49, 10, 99, 117, 116, 10, 101, 110, 100, 10]⟩))), none, none⟩,
  ⟨(.mov (.loc 0)), none, none⟩,
  ⟨(.fa 0 (.var 3)), none, (some ((.loc 0), true))⟩,
  ⟨(.load false 1 (.loc 0)), none, (some ((.loc 1), true))⟩,
  ⟨(.bin .eql (.loc 0) (.k (.string ⟨#[112]⟩))), none, (some ((.loc 2), true))⟩,
  ⟨(.pick (.loc 3) (.loc 0) (.k (.bool false))), none, none⟩,
  ⟨(.mov (.loc 0)), none, none⟩,
  ⟨(.fa 1 (.var 3)), none, (some ((.loc 0), true))⟩,
  ⟨(.load false 1 (.loc 0)), none, (some ((.loc 1), true))⟩,
  ⟨(.bin .eql (.loc 0) (.k (.int .i64 2))), none, (some ((.loc 2), true))⟩,
  ⟨(.pick (.loc 3) (.loc 0) (.k (.bool false))), none, none⟩,
  ⟨(.mov (.loc 0)), none, none⟩,
  ⟨(.fa 2 (.var 3)), none, (some ((.loc 0), true))⟩,
  ⟨(.load false 1 (.loc 0)), none, (some ((.loc 1), true))⟩,
  ⟨(.bin .eql (.loc 0) (.k (.int .i64 1))), none, (some ((.loc 2), true))⟩,
  ⟨(.pick (.loc 3) (.loc 0) (.k (.bool false))), none, none⟩,
  ⟨(.mov (.loc 0)), (some 0), none⟩]
def c23 : CFun := ⟨0, 4, (.seq (.region [] [] c23_0) (.seq (.region [] [] c23_1) (.seq (.region [] [] c23_2) (.seq (.region [] [] c23_3) (.seq (.region [] [] c23_4) .ret))))), [.var 0]⟩
theorem ok23 : CodeOk Tryd.prog T 23 c23 := ⟨⟨Tryd.f23, Hints.of [] [] [], [0, 1, 2, 3], Tryd.func23, by kernel_rfl, by kernel_rfl⟩⟩



/-! spinney/code.Clause -/
def c26_0 : List CO := [⟨(.box 46 (.var 0)), (some 1), none⟩,
  ⟨(.box 52 (.k (.agg #[(.string ⟨#[]⟩), (.int .i64 0), (.int .i64 0), (.slice none 0 0)]))), (some 2), none⟩]
def c26_1 : List CO := [⟨(.mkmap (.int .i64)), none, none⟩,
  ⟨(.build [(.slice none 0 0), (.map none), (.int .i64 0), (.slice none 0 0)] [(1, 1, (.loc 0)), (2, 1, (.k (.int .i64 16)))]), none, none⟩,
  ⟨(.box 92 (.loc 0)), none, none⟩,
  ⟨(.mov (.loc 0)), (some 3), none⟩]
def c26_2 : List CO := [⟨(.fa 0 (.var 1)), none, none⟩,
  ⟨(.fa 3 (.loc 0)), none, none⟩,
  ⟨(.load false 1 (.loc 0)), (some 9), none⟩,
  ⟨(.len .slice (.var 9)), (some 10), none⟩,
  ⟨(.mov (.k (.int .i64 0))), (some 11), none⟩]
def c26_3 : List CO := [⟨(.bin .lss (.var 11) (.var 10)), (some 12), none⟩]
def c26_4 : List CO := [⟨(.mov (.var 11)), none, none⟩,
  ⟨(.ia 4 (.var 9) (.var 11)), none, none⟩,
  ⟨(.load true 4 (.loc 0)), none, none⟩,
  ⟨(.box 24 (.k (.agg #[(.int .i64 0), (.string ⟨#[]⟩), (.int .i64 0), (.slice none 0 0)]))), (some 5), none⟩,
  ⟨(.mov (.loc 3)), (some 4), none⟩,
  ⟨(.store 4 (.var 5) (.loc 2)), none, none⟩]
def c26_5 : List CO := [⟨(.mov (.var 3)), none, none⟩,
  ⟨(.mov (.var 4)), none, none⟩,
  ⟨(.load true 4 (.var 5)), none, none⟩,
  ⟨(.call false 58 [(.loc 2), (.loc 1), (.loc 0)]), none, none⟩]
def c26_6 : List CO := [⟨(.bin .add (.var 11) (.k (.int .i64 1))), none, none⟩,
  ⟨(.mov (.loc 0)), (some 11), none⟩]
def c26_7 : CC := (.seq (.region [] [] c26_3) (.seq (.cond (.var 12) .skip (.exit 0)) (.seq (.block 1 (.seq (.region [] [] c26_4) (.region [] [] c26_5))) (.region [] [] c26_6))))
def c26_8 : List CO := [⟨(.fa 4 (.var 1)), none, none⟩,
  ⟨(.load false 1 (.loc 0)), (some 13), none⟩,
  ⟨(.len .slice (.var 13)), (some 14), none⟩,
  ⟨(.mov (.k (.int .i64 0))), (some 15), none⟩]
def c26_9 : List CO := [⟨(.bin .lss (.var 15) (.var 14)), (some 16), none⟩]
def c26_10 : List CO := [⟨(.ia 4 (.var 13) (.var 15)), none, none⟩,
  ⟨(.load true 4 (.loc 0)), none, none⟩,
  ⟨(.box 24 (.k (.agg #[(.int .i64 0), (.string ⟨#[]⟩), (.int .i64 0), (.slice none 0 0)]))), (some 6), none⟩,
  ⟨(.store 4 (.var 6) (.loc 1)), none, none⟩]
def c26_11 : List CO := [⟨(.fa 0 (.var 6)), none, none⟩,
  ⟨(.load false 1 (.loc 0)), none, none⟩,
  ⟨(.bin .eql (.loc 0) (.k (.int .i64 2))), none, none⟩,
  ⟨(.mov (.loc 0)), none, none⟩,
  ⟨(.fa 1 (.var 6)), none, (some ((.loc 0), true))⟩,
  ⟨(.load false 1 (.loc 0)), none, (some ((.loc 1), true))⟩,
  ⟨(.bin .eql (.loc 0) (.k (.string ⟨#[33]⟩))), none, (some ((.loc 2), true))⟩,
  ⟨(.pick (.loc 3) (.loc 0) (.k (.bool false))), (some 17), none⟩]
def c26_12 : List CO := [⟨(.mov (.var 3)), none, none⟩,
  ⟨(.build [(.int .i64 0), (.int .i64 0), (.int .i64 0), (.string ⟨#[]⟩), (.int .i64 0)] [(0, 1, (.k (.int .i64 22)))]), none, none⟩,
  ⟨(.call false 59 [(.loc 1), (.loc 0)]), none, none⟩]
def c26_13 : List CO := [⟨(.fa 3 (.var 6)), none, none⟩,
  ⟨(.load false 1 (.loc 0)), (some 18), none⟩,
  ⟨(.len .slice (.var 18)), (some 19), none⟩,
  ⟨(.mov (.k (.int .i64 0))), (some 20), none⟩]
def c26_14 : List CO := [⟨(.bin .lss (.var 20) (.var 19)), (some 21), none⟩]
def c26_15 : List CO := [⟨(.mov (.var 20)), none, none⟩,
  ⟨(.ia 4 (.var 18) (.var 20)), none, none⟩,
  ⟨(.load true 4 (.loc 0)), none, none⟩,
  ⟨(.box 24 (.k (.agg #[(.int .i64 0), (.string ⟨#[]⟩), (.int .i64 0), (.slice none 0 0)]))), (some 8), none⟩,
  ⟨(.mov (.loc 3)), (some 7), none⟩,
  ⟨(.store 4 (.var 8) (.loc 2)), none, none⟩]
def c26_16 : List CO := [⟨(.mov (.var 3)), none, none⟩,
  ⟨(.mov (.var 7)), none, none⟩,
  ⟨(.load true 4 (.var 8)), none, none⟩,
  ⟨(.call false 60 [(.loc 2), (.loc 1), (.loc 0)]), none, none⟩]
def c26_17 : List CO := [⟨(.bin .add (.var 20) (.k (.int .i64 1))), none, none⟩,
  ⟨(.mov (.loc 0)), (some 20), none⟩]
def c26_18 : CC := (.seq (.region [] [] c26_14) (.seq (.cond (.var 21) .skip (.exit 4)) (.seq (.block 5 (.seq (.region [] [] c26_15) (.region [] [] c26_16))) (.region [] [] c26_17))))
def c26_19 : List CO := [⟨(.mov (.var 3)), none, none⟩,
  ⟨(.fa 1 (.var 6)), none, none⟩,
  ⟨(.load false 1 (.loc 0)), none, none⟩,
  ⟨(.fa 3 (.var 6)), none, none⟩,
  ⟨(.load false 1 (.loc 0)), none, none⟩,
  ⟨(.len .slice (.loc 0)), none, none⟩,
  ⟨(.build [(.int .i64 0), (.int .i64 0), (.int .i64 0), (.string ⟨#[]⟩), (.int .i64 0)] [(0, 1, (.k (.int .i64 21))), (3, 1, (.loc 3)), (4, 1, (.loc 0))]), none, none⟩,
  ⟨(.call false 59 [(.loc 6), (.loc 0)]), none, none⟩]
def c26_20 : List CO := [⟨(.bin .add (.var 15) (.k (.int .i64 1))), none, none⟩,
  ⟨(.mov (.loc 0)), (some 15), none⟩]
def c26_21 : CC := (.seq (.region [] [] c26_9) (.seq (.cond (.var 16) .skip (.exit 2)) (.seq (.block 3 (.seq (.region [] [] c26_10) (.seq (.seq (.region [] [] c26_11) (.cond (.var 17) (.seq (.region [] [] c26_12) (.exit 3)) .skip)) (.seq (.seq (.region [] [] c26_13) (.block 4 (.loop [false, true, true, true, false, false, true, false, false, false, false, false, false, true, true, true, false, false, true, true, true, false] [] c26_18))) (.region [] [] c26_19))))) (.region [] [] c26_20))))
def c26_22 : List CO := [⟨(.mov (.var 3)), none, none⟩,
  ⟨(.build [(.int .i64 0), (.int .i64 0), (.int .i64 0), (.string ⟨#[]⟩), (.int .i64 0)] [(0, 1, (.k (.int .i64 23)))]), none, none⟩,
  ⟨(.call false 59 [(.loc 1), (.loc 0)]), none, none⟩]
def c26_23 : List CO := [⟨(.fa 0 (.var 1)), none, none⟩,
  ⟨(.fa 1 (.loc 0)), none, none⟩,
  ⟨(.load false 1 (.loc 0)), none, none⟩,
  ⟨(.fa 0 (.var 1)), none, none⟩,
  ⟨(.fa 3 (.loc 0)), none, none⟩,
  ⟨(.load false 1 (.loc 0)), none, none⟩,
  ⟨(.len .slice (.loc 0)), none, none⟩,
  ⟨(.fa 5 (.var 1)), none, none⟩,
  ⟨(.load false 1 (.loc 0)), none, none⟩,
  ⟨(.mov (.var 3)), none, none⟩,
  ⟨(.nilchk (.loc 0)), none, none⟩,
  ⟨(.fa 0 (.loc 0)), none, none⟩,
  ⟨(.load false 1 (.loc 0)), none, none⟩,
  ⟨(.build [(.string ⟨#[]⟩), (.int .i64 0), (.int .i64 0), (.slice none 0 0)] [(0, 1, (.loc 10)), (1, 1, (.loc 6)), (2, 1, (.loc 4)), (3, 1, (.loc 0))]), none, none⟩,
  ⟨(.store 4 (.var 2) (.loc 0)), none, none⟩]
def c26 : CFun := ⟨1, 22, (.seq (.region [] [] c26_0) (.seq (.region [] [] c26_1) (.seq (.seq (.region [.ap 3 0 58 5] [] c26_2) (.block 0 (.loop [false, true, true, true, false, false, false, false, false, true, true, true, false, false, false, false, false, false, false, false, false, false] [] c26_7))) (.seq (.seq (.region [] [] c26_8) (.block 2 (.loop [false, true, true, true, false, false, false, false, false, false, false, false, false, true, true, true, false, false, false, false, false, false] [] c26_21))) (.seq (.region [] [] c26_22) (.seq (.region [] [] c26_23) .ret)))))), [.cell 2 true 4]⟩
theorem ok26 : CodeOk Tryd.prog T 26 c26 := ⟨⟨Tryd.f26, Hints.of [(2, [.ap 3 0 58 5])] [] [(0, [false, true, true, true, false, false, false, false, false, true, true, true, false, false, false, false, false, false, false, false, false, false], []), (2, [false, true, true, true, false, false, false, false, false, false, false, false, false, true, true, true, false, false, false, false, false, false], []), (4, [false, true, true, true, false, false, true, false, false, false, false, false, false, true, true, true, false, false, true, true, true, false], [])], [0, 1, 2, 3, 4, 5, 7, 8, 9, 15, 16, 17, 18, 28, 29, 30, 31, 41, 46, 47, 48, 49], Tryd.func26, by kernel_rfl, by kernel_rfl⟩⟩








/-! spinney/code.Text -/
def c34_0 : List CO := [⟨(.mov (.k (.string ⟨#[]⟩))), (some 1), none⟩]
def c34_1 : List CO := [⟨(.box 103 (.k (.agg #[(.pointer none), (.slice none 0 0)]))), (some 2), none⟩]
def c34_2 : List CO := [⟨(.mov (.var 0)), (some 4), none⟩,
  ⟨(.len .slice (.var 4)), (some 5), none⟩,
  ⟨(.mov (.k (.int .i64 0))), (some 6), none⟩]
def c34_3 : List CO := [⟨(.bin .lss (.var 6) (.var 5)), (some 7), none⟩]
def c34_4 : List CO := [⟨(.ia 5 (.var 4) (.var 6)), none, none⟩,
  ⟨(.load true 5 (.loc 0)), none, none⟩,
  ⟨(.box 58 (.k (.agg #[(.int .i64 0), (.int .i64 0), (.int .i64 0), (.string ⟨#[]⟩), (.int .i64 0)]))), (some 3), none⟩,
  ⟨(.store 5 (.var 3) (.loc 1)), none, none⟩]
def c34_5 : List CO := [⟨(.load true 5 (.var 3)), none, none⟩,
  ⟨(.call false 66 [(.var 2), (.loc 0)]), none, none⟩]
def c34_6 : List CO := [⟨(.call false 67 [(.var 2), (.k (.int .u8 10))]), none, none⟩]
def c34_7 : List CO := [⟨(.bin .add (.var 6) (.k (.int .i64 1))), none, none⟩,
  ⟨(.mov (.loc 0)), (some 6), none⟩]
def c34_8 : CC := (.seq (.region [] [] c34_3) (.seq (.cond (.var 7) .skip (.exit 0)) (.seq (.block 1 (.seq (.region [] [] c34_4) (.seq (.region [.ap 2 1 5 1] [] c34_5) (.region [] [] c34_6)))) (.region [] [] c34_7))))
def c34_9 : List CO := [⟨(.call false 68 [(.var 2)]), none, none⟩,
  ⟨(.mov (.loc 0)), (some 1), none⟩]
def c34 : CFun := ⟨1, 8, (.seq (.region [] [] c34_0) (.seq (.region [] [] c34_1) (.seq (.seq (.region [] [] c34_2) (.block 0 (.loop [false, false, true, false, true, true, true, false] [] c34_8))) (.seq (.region [] [] c34_9) .ret)))), [.var 1]⟩
theorem ok34 : CodeOk Tryd.prog T 34 c34 := ⟨⟨Tryd.f34, Hints.of [(5, [.ap 2 1 5 1])] [] [(0, [false, false, true, false, true, true, true, false], [])], [0, 2, 3, 5, 6, 7, 8, 9], Tryd.func34, by kernel_rfl, by kernel_rfl⟩⟩

/-! spinney/spinneyref15.Text -/
def c35_0 : List CO := [⟨(.mov (.k (.string ⟨#[]⟩))), (some 1), none⟩]
def c35_1 : List CO := [⟨(.mov (.k (.string ⟨#[]⟩))), (some 2), none⟩]
def c35_2 : List CO := [⟨(.mov (.var 0)), (some 4), none⟩,
  ⟨(.len .slice (.var 4)), (some 5), none⟩,
  ⟨(.mov (.k (.int .i64 0))), (some 6), none⟩]
def c35_3 : List CO := [⟨(.bin .lss (.var 6) (.var 5)), (some 7), none⟩]
def c35_4 : List CO := [⟨(.ia 5 (.var 4) (.var 6)), none, none⟩,
  ⟨(.load true 5 (.loc 0)), none, none⟩,
  ⟨(.box 58 (.k (.agg #[(.int .i64 0), (.int .i64 0), (.int .i64 0), (.string ⟨#[]⟩), (.int .i64 0)]))), (some 3), none⟩,
  ⟨(.store 5 (.var 3) (.loc 1)), none, none⟩]
def c35_5 : List CO := [⟨(.mov (.var 2)), none, none⟩,
  ⟨(.load true 5 (.var 3)), none, none⟩,
  ⟨(.call true 69 [(.loc 0)]), none, none⟩,
  ⟨(.bin .add (.loc 2) (.loc 0)), none, none⟩,
  ⟨(.mov (.loc 0)), (some 2), none⟩]
def c35_6 : List CO := [⟨(.bin .add (.var 6) (.k (.int .i64 1))), none, none⟩,
  ⟨(.mov (.loc 0)), (some 6), none⟩]
def c35_7 : CC := (.seq (.region [] [] c35_3) (.seq (.cond (.var 7) .skip (.exit 0)) (.seq (.block 1 (.seq (.region [] [] c35_4) (.region [] [] c35_5))) (.region [] [] c35_6))))
def c35_8 : List CO := [⟨(.mov (.var 2)), none, none⟩,
  ⟨(.mov (.loc 0)), (some 1), none⟩]
def c35 : CFun := ⟨1, 8, (.seq (.region [] [] c35_0) (.seq (.region [] [] c35_1) (.seq (.seq (.region [] [] c35_2) (.block 0 (.loop [false, false, true, false, true, true, true, false] [] c35_7))) (.seq (.region [] [] c35_8) .ret)))), [.var 1]⟩
theorem ok35 : CodeOk Tryd.prog T 35 c35 := ⟨⟨Tryd.f35, Hints.of [] [] [(0, [false, false, true, false, true, true, true, false], [])], [0, 2, 3, 5, 6, 7, 8, 9], Tryd.func35, by kernel_rfl, by kernel_rfl⟩⟩

/-! spinney/spinneyref03.Comp1 -/
def c36_0 : List CO := [⟨(.box 24 (.k (.agg #[(.int .i64 0), (.string ⟨#[]⟩), (.int .i64 0), (.slice none 0 0)]))), (some 2), none⟩]
def c36_1 : List CO := [⟨(.mov (.var 0)), none, none⟩,
  ⟨(.mov (.var 1)), none, none⟩,
  ⟨(.build [(.int .i64 0), (.string ⟨#[]⟩), (.int .i64 0), (.slice none 0 0)] [(0, 1, (.k (.int .i64 4))), (1, 1, (.loc 1)), (3, 1, (.loc 0))]), none, none⟩,
  ⟨(.store 4 (.var 2) (.loc 0)), none, none⟩]
def c36 : CFun := ⟨2, 3, (.seq (.region [] [] c36_0) (.seq (.region [] [] c36_1) .ret)), [.cell 2 true 4]⟩
theorem ok36 : CodeOk Tryd.prog T 36 c36 := ⟨⟨Tryd.f36, Hints.of [] [] [], [0, 1, 4], Tryd.func36, by kernel_rfl, by kernel_rfl⟩⟩






/-! spinney/spinneyref08.Is -/
def c54_0 : List CO := [⟨(.box 24 (.var 0)), (some 3), none⟩,
  ⟨(.mov (.k (.bool false))), (some 4), none⟩]
def c54_1 : List CO := [⟨(.fa 0 (.var 3)), none, none⟩,
  ⟨(.load false 1 (.loc 0)), none, none⟩,
  ⟨(.bin .eql (.loc 0) (.k (.int .i64 4))), none, none⟩,
  ⟨(.mov (.loc 0)), none, none⟩,
  ⟨(.fa 1 (.var 3)), none, (some ((.loc 0), true))⟩,
  ⟨(.load false 1 (.loc 0)), none, (some ((.loc 1), true))⟩,
  ⟨(.mov (.var 1)), none, (some ((.loc 2), true))⟩,
  ⟨(.bin .eql (.loc 1) (.loc 0)), none, (some ((.loc 3), true))⟩,
  ⟨(.pick (.loc 4) (.loc 0) (.k (.bool false))), none, none⟩,
  ⟨(.mov (.loc 0)), none, none⟩,
  ⟨(.fa 3 (.var 3)), none, (some ((.loc 0), true))⟩,
  ⟨(.load false 1 (.loc 0)), none, (some ((.loc 1), true))⟩,
  ⟨(.len .slice (.loc 0)), none, (some ((.loc 2), true))⟩,
  ⟨(.mov (.var 2)), none, (some ((.loc 3), true))⟩,
  ⟨(.bin .eql (.loc 1) (.loc 0)), none, (some ((.loc 4), true))⟩,
  ⟨(.pick (.loc 5) (.loc 0) (.k (.bool false))), none, none⟩,
  ⟨(.mov (.loc 0)), (some 4), none⟩]
def c54 : CFun := ⟨3, 5, (.seq (.region [] [] c54_0) (.seq (.region [] [] c54_1) .ret)), [.var 4]⟩
theorem ok54 : CodeOk Tryd.prog T 54 c54 := ⟨⟨Tryd.f54, Hints.of [] [] [], [0, 1, 2, 3, 6], Tryd.func54, by kernel_rfl, by kernel_rfl⟩⟩




/-! (*spinney/code.compiler).get -/
def c58_0 : List CO := [⟨(.box 24 (.var 2)), (some 3), none⟩]
def c58_1 : List CO := [⟨(.mov (.var 0)), none, none⟩,
  ⟨(.mov (.var 1)), none, none⟩,
  ⟨(.load true 4 (.var 3)), none, none⟩,
  ⟨(.call false 86 [(.loc 2), (.k (.int .i64 1)), (.loc 1), (.loc 0)]), (some 7), none⟩]
def c58_2 : List CO := [⟨(.mov (.var 0)), none, none⟩,
  ⟨(.mov (.var 1)), none, none⟩,
  ⟨(.load true 4 (.var 3)), none, none⟩,
  ⟨(.build [(.int .i64 0), (.int .i64 0), (.string ⟨#[]⟩), (.int .i64 0), (.slice none 0 0)] [(0, 1, (.loc 1)), (1, 4, (.loc 0))]), none, none⟩,
  ⟨(.bslice 5 [(.int .i64 0), (.int .i64 0), (.string ⟨#[]⟩), (.int .i64 0), (.slice none 0 0)] 1 [(0, (.loc 0))]), none, none⟩,
  ⟨(.nilchk (.loc 4)), none, none⟩,
  ⟨(.fa 3 (.loc 0)), none, none⟩,
  ⟨(.store 1 (.loc 0) (.loc 2)), none, none⟩]
def c58_3 : List CO := [⟨(.mov (.var 0)), none, none⟩,
  ⟨(.nilchk (.loc 0)), none, none⟩,
  ⟨(.fa 3 (.loc 0)), none, none⟩,
  ⟨(.load false 1 (.loc 0)), none, none⟩,
  ⟨(.len .slice (.loc 0)), none, none⟩,
  ⟨(.bin .gtr (.loc 0) (.k (.int .i64 0))), (some 8), none⟩]
def c58_4 : List CO := [⟨(.mov (.var 0)), none, none⟩,
  ⟨(.nilchk (.loc 0)), none, none⟩,
  ⟨(.fa 3 (.loc 0)), none, none⟩,
  ⟨(.load false 1 (.loc 0)), none, none⟩,
  ⟨(.ia 5 (.loc 0) (.k (.int .i64 0))), none, none⟩,
  ⟨(.load true 5 (.loc 0)), none, none⟩,
  ⟨(.box 130 (.k (.agg #[(.int .i64 0), (.int .i64 0), (.string ⟨#[]⟩), (.int .i64 0), (.slice none 0 0)]))), (some 4), none⟩,
  ⟨(.store 5 (.var 4) (.loc 1)), none, none⟩]
def c58_5 : List CO := [⟨(.mov (.var 0)), none, none⟩,
  ⟨(.mov (.var 0)), none, none⟩,
  ⟨(.nilchk (.loc 0)), none, none⟩,
  ⟨(.fa 3 (.loc 0)), none, none⟩,
  ⟨(.load false 1 (.loc 0)), none, none⟩,
  ⟨(.slice 5 (.loc 0) (some (.k (.int .i64 1))) none none), none, none⟩,
  ⟨(.nilchk (.loc 5)), none, none⟩,
  ⟨(.fa 3 (.loc 0)), none, none⟩,
  ⟨(.store 1 (.loc 0) (.loc 2)), none, none⟩]
def c58_6 : List CO := [⟨(.mov (.var 0)), none, none⟩,
  ⟨(.fa 0 (.var 4)), none, none⟩,
  ⟨(.load false 1 (.loc 0)), none, none⟩,
  ⟨(.fa 1 (.var 4)), none, none⟩,
  ⟨(.fa 1 (.loc 0)), none, none⟩,
  ⟨(.load false 1 (.loc 0)), none, none⟩,
  ⟨(.fa 1 (.var 4)), none, none⟩,
  ⟨(.fa 3 (.loc 0)), none, none⟩,
  ⟨(.load false 1 (.loc 0)), none, none⟩,
  ⟨(.len .slice (.loc 0)), none, none⟩,
  ⟨(.build [(.int .i64 0), (.int .i64 0), (.int .i64 0), (.string ⟨#[]⟩), (.int .i64 0)] [(0, 1, (.k (.int .i64 5))), (1, 1, (.loc 7)), (3, 1, (.loc 4)), (4, 1, (.loc 0))]), none, none⟩,
  ⟨(.call false 59 [(.loc 10), (.loc 0)]), none, none⟩]
def c58_7 : List CO := [⟨(.fa 1 (.var 4)), none, none⟩,
  ⟨(.fa 3 (.loc 0)), none, none⟩,
  ⟨(.load false 1 (.loc 0)), (some 9), none⟩,
  ⟨(.len .slice (.var 9)), (some 10), none⟩,
  ⟨(.mov (.k (.int .i64 0))), (some 11), none⟩]
def c58_8 : List CO := [⟨(.bin .lss (.var 11) (.var 10)), (some 12), none⟩]
def c58_9 : List CO := [⟨(.ia 4 (.var 9) (.var 11)), none, none⟩,
  ⟨(.load true 4 (.loc 0)), none, none⟩,
  ⟨(.box 24 (.k (.agg #[(.int .i64 0), (.string ⟨#[]⟩), (.int .i64 0), (.slice none 0 0)]))), (some 5), none⟩,
  ⟨(.store 4 (.var 5) (.loc 1)), none, none⟩]
def c58_10 : List CO := [⟨(.mov (.var 0)), none, none⟩,
  ⟨(.load true 4 (.var 5)), none, none⟩,
  ⟨(.call false 86 [(.loc 1), (.k (.int .i64 6)), (.k (.int .i64 0)), (.loc 0)]), none, none⟩,
  ⟨(.un .not (.loc 0)), (some 13), none⟩]
def c58_11 : List CO := [⟨(.mov (.var 0)), none, none⟩,
  ⟨(.call false 87 [(.loc 0)]), none, none⟩,
  ⟨(.mov (.loc 0)), (some 6), none⟩]
def c58_12 : List CO := [⟨(.mov (.var 0)), none, none⟩,
  ⟨(.mov (.var 6)), none, none⟩,
  ⟨(.build [(.int .i64 0), (.int .i64 0), (.int .i64 0), (.string ⟨#[]⟩), (.int .i64 0)] [(0, 1, (.k (.int .i64 10))), (2, 1, (.loc 0))]), none, none⟩,
  ⟨(.call false 59 [(.loc 2), (.loc 0)]), none, none⟩]
def c58_13 : List CO := [⟨(.mov (.var 0)), none, none⟩,
  ⟨(.mov (.var 0)), none, none⟩,
  ⟨(.nilchk (.loc 0)), none, none⟩,
  ⟨(.fa 3 (.loc 0)), none, none⟩,
  ⟨(.load false 1 (.loc 0)), none, none⟩,
  ⟨(.mov (.var 6)), none, none⟩,
  ⟨(.load true 4 (.var 5)), none, none⟩,
  ⟨(.build [(.int .i64 0), (.int .i64 0), (.string ⟨#[]⟩), (.int .i64 0), (.slice none 0 0)] [(0, 1, (.loc 1)), (1, 4, (.loc 0))]), none, none⟩,
  ⟨(.bslice 5 [(.int .i64 0), (.int .i64 0), (.string ⟨#[]⟩), (.int .i64 0), (.slice none 0 0)] 1 [(0, (.loc 0))]), none, none⟩,
  ⟨(.append 130 5 64 (.loc 4) (.loc 0)), none, none⟩,
  ⟨(.nilchk (.loc 9)), none, none⟩,
  ⟨(.fa 3 (.loc 0)), none, none⟩,
  ⟨(.store 1 (.loc 0) (.loc 2)), none, none⟩]
def c58_14 : List CO := [⟨(.bin .add (.var 11) (.k (.int .i64 1))), none, none⟩,
  ⟨(.mov (.loc 0)), (some 11), none⟩]
def c58_15 : CC := (.seq (.region [] [] c58_8) (.seq (.cond (.var 12) .skip (.exit 2)) (.seq (.block 3 (.seq (.region [] [] c58_9) (.seq (.region [] [] c58_10) (.cond (.var 13) (.seq (.region [] [] c58_11) (.seq (.region [] [] c58_12) (.region [] [] c58_13))) .skip)))) (.region [] [] c58_14))))
def c58_16 : CC := (.seq (.seq (.region [] [] c58_3) (.cond (.var 8) .skip (.exit 0))) (.block 1 (.seq (.region [] [] c58_4) (.seq (.region [] [] c58_5) (.seq (.region [] [] c58_6) (.seq (.region [] [] c58_7) (.block 2 (.loop [true, false, false, false, false, false, false, false, false, true, true, true, false, false] [] c58_15))))))))
def c58 : CFun := ⟨3, 14, (.seq (.region [] [] c58_0) (.seq (.seq (.region [] [] c58_1) (.cond (.var 7) .ret .skip)) (.seq (.region [] [] c58_2) (.block 0 (.loop [true, false, false, false, false, false, false, false, false, false, false, false, false, false] [] c58_16))))), []⟩
theorem ok58 : CodeOk Tryd.prog T 58 c58 := ⟨⟨Tryd.f58, Hints.of [] [] [(0, [true, false, false, false, false, false, false, false, false, false, false, false, false, false], []), (2, [true, false, false, false, false, false, false, false, false, true, true, true, false, false], [])], [0, 1, 2, 5, 6, 8, 9, 13, 26, 55, 56, 57, 58, 64], Tryd.func58, by kernel_rfl, by kernel_rfl⟩⟩

/-! (*spinney/code.compiler).lay -/
def c59_0 : List CO := [⟨(.box 58 (.var 1)), (some 2), none⟩]
def c59_1 : List CO := [⟨(.mov (.var 0)), none, none⟩,
  ⟨(.mov (.var 0)), none, none⟩,
  ⟨(.nilchk (.loc 0)), none, none⟩,
  ⟨(.fa 0 (.loc 0)), none, none⟩,
  ⟨(.load false 1 (.loc 0)), none, none⟩,
  ⟨(.load true 5 (.var 2)), none, none⟩,
  ⟨(.bslice 5 [(.int .i64 0), (.int .i64 0), (.int .i64 0), (.string ⟨#[]⟩), (.int .i64 0)] 1 [(0, (.loc 0))]), none, none⟩,
  ⟨(.append 58 5 48 (.loc 2) (.loc 0)), none, none⟩,
  ⟨(.nilchk (.loc 7)), none, none⟩,
  ⟨(.fa 0 (.loc 0)), none, none⟩,
  ⟨(.store 1 (.loc 0) (.loc 2)), none, none⟩]
def c59 : CFun := ⟨2, 3, (.seq (.region [] [] c59_0) (.region [] [] c59_1)), []⟩
theorem ok59 : CodeOk Tryd.prog T 59 c59 := ⟨⟨Tryd.f59, Hints.of [] [] [], [0, 1, 3], Tryd.func59, by kernel_rfl, by kernel_rfl⟩⟩

/-! (*spinney/code.compiler).put -/
def c60_0 : List CO := [⟨(.box 24 (.var 2)), (some 3), none⟩]
def c60_1 : List CO := [⟨(.mov (.var 0)), none, none⟩,
  ⟨(.mov (.var 1)), none, none⟩,
  ⟨(.load true 4 (.var 3)), none, none⟩,
  ⟨(.call false 86 [(.loc 2), (.k (.int .i64 11)), (.loc 1), (.loc 0)]), (some 9), none⟩]
def c60_2 : List CO := [⟨(.fa 3 (.var 3)), none, none⟩,
  ⟨(.load false 1 (.loc 0)), none, none⟩,
  ⟨(.len .slice (.loc 0)), none, none⟩,
  ⟨(.mkslice 3 1 8 [(.int .i64 0)] (.loc 0) (.loc 0)), none, none⟩,
  ⟨(.mov (.loc 0)), (some 4), none⟩]
def c60_3 : List CO := [⟨(.fa 3 (.var 3)), none, none⟩,
  ⟨(.load false 1 (.loc 0)), (some 10), none⟩,
  ⟨(.len .slice (.var 10)), (some 11), none⟩,
  ⟨(.mov (.k (.int .i64 0))), (some 12), none⟩]
def c60_4 : List CO := [⟨(.bin .lss (.var 12) (.var 11)), (some 13), none⟩]
def c60_5 : List CO := [⟨(.mov (.var 12)), none, none⟩,
  ⟨(.ia 4 (.var 10) (.var 12)), none, none⟩,
  ⟨(.load true 4 (.loc 0)), none, none⟩,
  ⟨(.box 24 (.k (.agg #[(.int .i64 0), (.string ⟨#[]⟩), (.int .i64 0), (.slice none 0 0)]))), (some 6), none⟩,
  ⟨(.mov (.loc 3)), (some 5), none⟩,
  ⟨(.store 4 (.var 6) (.loc 2)), none, none⟩]
def c60_6 : List CO := [⟨(.fa 0 (.var 6)), none, none⟩,
  ⟨(.load false 1 (.loc 0)), none, none⟩,
  ⟨(.bin .eql (.loc 0) (.k (.int .i64 4))), (some 14), none⟩]
def c60_7 : List CO := [⟨(.mov (.var 4)), none, none⟩,
  ⟨(.mov (.var 5)), none, none⟩,
  ⟨(.mov (.var 0)), none, none⟩,
  ⟨(.call false 87 [(.loc 0)]), none, none⟩,
  ⟨(.ia 1 (.loc 3) (.loc 2)), none, none⟩,
  ⟨(.store 1 (.loc 0) (.loc 1)), none, none⟩]
def c60_8 : List CO := [⟨(.mov (.var 0)), none, none⟩,
  ⟨(.mov (.var 4)), none, none⟩,
  ⟨(.mov (.var 5)), none, none⟩,
  ⟨(.ia 1 (.loc 1) (.loc 0)), none, none⟩,
  ⟨(.load false 1 (.loc 0)), none, none⟩,
  ⟨(.load true 4 (.var 6)), none, none⟩,
  ⟨(.call false 60 [(.loc 5), (.loc 1), (.loc 0)]), none, none⟩]
def c60_9 : List CO := [⟨(.bin .add (.var 12) (.k (.int .i64 1))), none, none⟩,
  ⟨(.mov (.loc 0)), (some 12), none⟩]
def c60_10 : CC := (.seq (.region [] [] c60_4) (.seq (.cond (.var 13) .skip (.exit 0)) (.seq (.block 1 (.seq (.region [] [] c60_5) (.seq (.region [] [] c60_6) (.cond (.var 14) (.seq (.region [] [] c60_7) (.region [] [] c60_8)) .skip)))) (.region [] [] c60_9))))
def c60_11 : List CO := [⟨(.mov (.var 0)), none, none⟩,
  ⟨(.mov (.var 1)), none, none⟩,
  ⟨(.fa 1 (.var 3)), none, none⟩,
  ⟨(.load false 1 (.loc 0)), none, none⟩,
  ⟨(.fa 3 (.var 3)), none, none⟩,
  ⟨(.load false 1 (.loc 0)), none, none⟩,
  ⟨(.len .slice (.loc 0)), none, none⟩,
  ⟨(.build [(.int .i64 0), (.int .i64 0), (.int .i64 0), (.string ⟨#[]⟩), (.int .i64 0)] [(0, 1, (.k (.int .i64 15))), (1, 1, (.loc 5)), (3, 1, (.loc 3)), (4, 1, (.loc 0))]), none, none⟩,
  ⟨(.call false 59 [(.loc 7), (.loc 0)]), none, none⟩]
def c60_12 : List CO := [⟨(.fa 3 (.var 3)), none, none⟩,
  ⟨(.load false 1 (.loc 0)), (some 15), none⟩,
  ⟨(.len .slice (.var 15)), (some 16), none⟩,
  ⟨(.mov (.k (.int .i64 0))), (some 17), none⟩]
def c60_13 : List CO := [⟨(.bin .lss (.var 17) (.var 16)), (some 18), none⟩]
def c60_14 : List CO := [⟨(.mov (.var 17)), none, none⟩,
  ⟨(.ia 4 (.var 15) (.var 17)), none, none⟩,
  ⟨(.load true 4 (.loc 0)), none, none⟩,
  ⟨(.box 24 (.k (.agg #[(.int .i64 0), (.string ⟨#[]⟩), (.int .i64 0), (.slice none 0 0)]))), (some 8), none⟩,
  ⟨(.mov (.loc 3)), (some 7), none⟩,
  ⟨(.store 4 (.var 8) (.loc 2)), none, none⟩]
def c60_15 : List CO := [⟨(.mov (.var 0)), none, none⟩,
  ⟨(.load true 4 (.var 8)), none, none⟩,
  ⟨(.call false 86 [(.loc 1), (.k (.int .i64 16)), (.k (.int .i64 0)), (.loc 0)]), none, none⟩,
  ⟨(.un .not (.loc 0)), (some 19), none⟩]
def c60_16 : List CO := [⟨(.mov (.var 0)), none, none⟩,
  ⟨(.mov (.var 4)), none, none⟩,
  ⟨(.mov (.var 7)), none, none⟩,
  ⟨(.ia 1 (.loc 1) (.loc 0)), none, none⟩,
  ⟨(.load false 1 (.loc 0)), none, none⟩,
  ⟨(.build [(.int .i64 0), (.int .i64 0), (.int .i64 0), (.string ⟨#[]⟩), (.int .i64 0)] [(0, 1, (.k (.int .i64 20))), (2, 1, (.loc 0))]), none, none⟩,
  ⟨(.call false 59 [(.loc 5), (.loc 0)]), none, none⟩]
def c60_17 : List CO := [⟨(.bin .add (.var 17) (.k (.int .i64 1))), none, none⟩,
  ⟨(.mov (.loc 0)), (some 17), none⟩]
def c60_18 : CC := (.seq (.region [] [] c60_13) (.seq (.cond (.var 18) .skip (.exit 2)) (.seq (.block 3 (.seq (.region [] [] c60_14) (.seq (.region [] [] c60_15) (.cond (.var 19) (.region [] [] c60_16) .skip)))) (.region [] [] c60_17))))
def c60 : CFun := ⟨3, 20, (.seq (.region [] [] c60_0) (.seq (.seq (.region [] [] c60_1) (.cond (.var 9) .ret .skip)) (.seq (.region [] [] c60_2) (.seq (.seq (.region [] [] c60_3) (.block 0 (.loop [true, true, false, true, true, false, false, false, false, false, true, true, true, false, false, false, false, false, false, false] [] c60_10))) (.seq (.region [] [] c60_11) (.seq (.region [] [] c60_12) (.block 2 (.loop [true, false, false, false, true, false, false, false, false, false, false, false, false, false, false, true, true, true, false, false] [] c60_18)))))))), []⟩
theorem ok60 : CodeOk Tryd.prog T 60 c60 := ⟨⟨Tryd.f60, Hints.of [] [] [(0, [true, true, false, true, true, false, false, false, false, false, true, true, true, false, false, false, false, false, false, false], []), (2, [true, false, false, false, true, false, false, false, false, false, false, false, false, false, false, true, true, true, false, false], [])], [0, 1, 2, 5, 6, 7, 8, 9, 10, 14, 20, 21, 22, 23, 29, 53, 54, 55, 56, 63], Tryd.func60, by kernel_rfl, by kernel_rfl⟩⟩






/-! spinney/code.line -/
def c66_0 : List CO := [⟨(.box 100 (.var 0)), (some 2), none⟩,
  ⟨(.box 58 (.var 1)), (some 3), none⟩]
def c66_1 : List CO := [⟨(.mkfn (.func 91) [] [(.var 2), (.var 3)]), none, none⟩,
  ⟨(.mov (.loc 0)), (some 4), none⟩]
def c66_2 : List CO := [⟨(.fa 0 (.var 3)), none, none⟩,
  ⟨(.load false 1 (.loc 0)), (some 8), none⟩]
def c66_3 : List CO := [⟨(.bin .eql (.var 8) (.k (.int .i64 21))), none, none⟩,
  ⟨(.mov (.loc 0)), (some 9), none⟩]
def c66_4 : List CO := [⟨(.load false 1 (.var 2)), none, none⟩,
  ⟨(.call false 92 [(.loc 0), (.k (.string ⟨#[99, 97, 108, 108]⟩))]), none, none⟩]
def c66_5 : List CO := [⟨(.mov (.var 4)), none, none⟩,
  ⟨(.callv (.loc 0) []), none, none⟩]
def c66_6 : List CO := [⟨(.bin .eql (.var 8) (.k (.int .i64 22))), none, none⟩,
  ⟨(.mov (.loc 0)), (some 10), none⟩]
def c66_7 : List CO := [⟨(.load false 1 (.var 2)), none, none⟩,
  ⟨(.call false 92 [(.loc 0), (.k (.string ⟨#[99, 117, 116]⟩))]), none, none⟩]
def c66_8 : List CO := [⟨(.bin .eql (.var 8) (.k (.int .i64 23))), none, none⟩,
  ⟨(.mov (.loc 0)), (some 11), none⟩]
def c66_9 : List CO := [⟨(.load false 1 (.var 2)), none, none⟩,
  ⟨(.call false 92 [(.loc 0), (.k (.string ⟨#[101, 110, 100]⟩))]), none, none⟩]
def c66_10 : List CO := [⟨(.fa 0 (.var 3)), none, none⟩,
  ⟨(.load false 1 (.loc 0)), none, none⟩,
  ⟨(.bin .lss (.loc 0) (.k (.int .i64 1))), none, none⟩,
  ⟨(.mov (.loc 0)), none, none⟩,
  ⟨(.fa 0 (.var 3)), none, (some ((.loc 0), false))⟩,
  ⟨(.load false 1 (.loc 0)), none, (some ((.loc 1), false))⟩,
  ⟨(.bin .gtr (.loc 0) (.k (.int .i64 20))), none, (some ((.loc 2), false))⟩,
  ⟨(.pick (.loc 3) (.k (.bool true)) (.loc 0)), (some 12), none⟩]
def c66_11 : List CO := [⟨(.load false 1 (.var 2)), none, none⟩,
  ⟨(.call false 92 [(.loc 0), (.k (.string ⟨#[63]⟩))]), none, none⟩]
def c66_12 : List CO := [⟨(.fa 0 (.var 3)), none, none⟩,
  ⟨(.load false 1 (.loc 0)), none, none⟩,
  ⟨(.bin .sub (.loc 0) (.k (.int .i64 1))), none, none⟩,
  ⟨(.bin .quo (.loc 0) (.k (.int .i64 5))), none, none⟩,
  ⟨(.fa 0 (.var 3)), none, none⟩,
  ⟨(.load false 1 (.loc 0)), none, none⟩,
  ⟨(.bin .sub (.loc 0) (.k (.int .i64 1))), none, none⟩,
  ⟨(.bin .rem (.loc 0) (.k (.int .i64 5))), none, none⟩,
  ⟨(.mov (.loc 4)), (some 5), none⟩,
  ⟨(.mov (.loc 1)), (some 6), none⟩]
def c66_13 : List CO := [⟨(.call true 95 []), none, none⟩,
  ⟨(.mov (.var 6)), none, none⟩,
  ⟨(.ixa 5 false 1 (.loc 1) (.loc 0)), none, none⟩,
  ⟨(.mov (.loc 0)), (some 7), none⟩]
def c66_14 : List CO := [⟨(.mov (.var 5)), none, none⟩,
  ⟨(.bin .rem (.loc 0) (.k (.int .i64 2))), none, none⟩,
  ⟨(.bin .eql (.loc 0) (.k (.int .i64 1))), none, none⟩,
  ⟨(.mov (.loc 0)), none, none⟩,
  ⟨(.mov (.var 6)), none, (some ((.loc 0), true))⟩,
  ⟨(.bin .eql (.loc 0) (.k (.int .i64 4))), none, (some ((.loc 1), true))⟩,
  ⟨(.pick (.loc 2) (.loc 0) (.k (.bool false))), (some 13), none⟩]
def c66_15 : List CO := [⟨(.mov (.k (.string ⟨#[116, 101, 109, 112]⟩))), (some 7), none⟩]
def c66_16 : List CO := [⟨(.load false 1 (.var 2)), none, none⟩,
  ⟨(.call true 96 []), none, none⟩,
  ⟨(.mov (.var 5)), none, none⟩,
  ⟨(.ixa 4 false 1 (.loc 1) (.loc 0)), none, none⟩,
  ⟨(.bin .add (.loc 0) (.k (.string ⟨#[95]⟩))), none, none⟩,
  ⟨(.mov (.var 7)), none, none⟩,
  ⟨(.bin .add (.loc 1) (.loc 0)), none, none⟩,
  ⟨(.call false 92 [(.loc 6), (.loc 0)]), none, none⟩]
def c66_17 : List CO := [⟨(.mov (.var 5)), none, none⟩,
  ⟨(.bin .rem (.loc 0) (.k (.int .i64 2))), none, none⟩,
  ⟨(.bin .eql (.loc 0) (.k (.int .i64 0))), (some 14), none⟩]
def c66_18 : List CO := [⟨(.load false 1 (.var 2)), none, none⟩,
  ⟨(.fa 1 (.var 3)), none, none⟩,
  ⟨(.load false 1 (.loc 0)), none, none⟩,
  ⟨(.call true 94 [(.loc 0)]), none, none⟩,
  ⟨(.bin .add (.k (.string ⟨#[32]⟩)) (.loc 0)), none, none⟩,
  ⟨(.call false 92 [(.loc 4), (.loc 0)]), none, none⟩]
def c66_19 : List CO := [⟨(.mov (.var 7)), (some 15), none⟩]
def c66_20 : List CO := [⟨(.bin .eql (.var 15) (.k (.string ⟨#[118, 97, 114]⟩))), none, none⟩,
  ⟨(.mov (.loc 0)), (some 16), none⟩]
def c66_21 : List CO := [⟨(.bin .eql (.var 15) (.k (.string ⟨#[118, 97, 108]⟩))), none, none⟩,
  ⟨(.mov (.loc 0)), (some 16), none⟩]
def c66_22 : List CO := [⟨(.bin .eql (.var 15) (.k (.string ⟨#[116, 101, 109, 112]⟩))), none, none⟩,
  ⟨(.mov (.loc 0)), (some 16), none⟩]
def c66_23 : List CO := [⟨(.load false 1 (.var 2)), none, none⟩,
  ⟨(.fa 2 (.var 3)), none, none⟩,
  ⟨(.load false 1 (.loc 0)), none, none⟩,
  ⟨(.call true 94 [(.loc 0)]), none, none⟩,
  ⟨(.bin .add (.k (.string ⟨#[32]⟩)) (.loc 0)), none, none⟩,
  ⟨(.call false 92 [(.loc 4), (.loc 0)]), none, none⟩]
def c66_24 : List CO := [⟨(.bin .eql (.var 15) (.k (.string ⟨#[97, 116, 111, 109]⟩))), none, none⟩,
  ⟨(.mov (.loc 0)), (some 17), none⟩]
def c66_25 : List CO := [⟨(.load false 1 (.var 2)), none, none⟩,
  ⟨(.fa 3 (.var 3)), none, none⟩,
  ⟨(.load false 1 (.loc 0)), none, none⟩,
  ⟨(.call true 93 [(.loc 0)]), none, none⟩,
  ⟨(.bin .add (.k (.string ⟨#[32]⟩)) (.loc 0)), none, none⟩,
  ⟨(.call false 92 [(.loc 4), (.loc 0)]), none, none⟩]
def c66_26 : List CO := [⟨(.bin .eql (.var 15) (.k (.string ⟨#[105, 110, 116]⟩))), none, none⟩,
  ⟨(.mov (.loc 0)), (some 18), none⟩]
def c66_27 : List CO := [⟨(.load false 1 (.var 2)), none, none⟩,
  ⟨(.fa 4 (.var 3)), none, none⟩,
  ⟨(.load false 1 (.loc 0)), none, none⟩,
  ⟨(.call true 94 [(.loc 0)]), none, none⟩,
  ⟨(.bin .add (.k (.string ⟨#[32]⟩)) (.loc 0)), none, none⟩,
  ⟨(.call false 92 [(.loc 4), (.loc 0)]), none, none⟩]
def c66_28 : List CO := [⟨(.mov (.var 4)), none, none⟩,
  ⟨(.callv (.loc 0) []), none, none⟩]
def c66 : CFun := ⟨2, 19, (.seq (.region [] [] c66_0) (.seq (.region [] [] c66_1) (.seq (.seq (.region [] [] c66_2) (.block 0 (.seq (.region [] [] c66_3) (.cond (.var 9) (.seq (.region [] [] c66_4) (.seq (.region [] [] c66_5) .ret)) (.seq (.region [] [] c66_6) (.cond (.var 10) (.seq (.region [] [] c66_7) .ret) (.seq (.region [] [] c66_8) (.cond (.var 11) (.seq (.region [] [] c66_9) .ret) .skip)))))))) (.seq (.seq (.region [] [] c66_10) (.cond (.var 12) (.seq (.region [] [] c66_11) .ret) .skip)) (.seq (.region [] [] c66_12) (.seq (.region [] [] c66_13) (.seq (.seq (.region [] [] c66_14) (.cond (.var 13) (.region [] [] c66_15) .skip)) (.seq (.region [] [] c66_16) (.seq (.seq (.region [] [] c66_17) (.cond (.var 14) (.region [] [] c66_18) .skip)) (.seq (.region [] [] c66_19) (.block 1 (.seq (.seq (.region [] [] c66_20) (.cond (.var 16) .skip (.seq (.region [] [] c66_21) (.cond (.var 16) .skip (.region [] [] c66_22))))) (.cond (.var 16) (.region [] [] c66_23) (.seq (.region [] [] c66_24) (.cond (.var 17) (.region [] [] c66_25) (.seq (.region [] [] c66_26) (.cond (.var 18) (.region [] [] c66_27) (.region [] [] c66_28)))))))))))))))))), []⟩
theorem ok66 : CodeOk Tryd.prog T 66 c66 := ⟨⟨Tryd.f66, Hints.of [] [] [], [0, 1, 2, 3, 4, 5, 6, 7, 10, 11, 17, 21, 32, 52, 63, 70, 73, 83, 91], Tryd.func66, by kernel_rfl, by kernel_rfl⟩⟩

/-! (*strings.Builder).WriteByte -/
def c67_0 : List CO := [⟨(.mov (.k .nilIface)), (some 2), none⟩]
def c67_1 : List CO := [⟨(.mov (.var 0)), none, none⟩,
  ⟨(.call false 97 [(.loc 0)]), none, none⟩]
def c67_2 : List CO := [⟨(.mov (.var 0)), none, none⟩,
  ⟨(.mov (.var 0)), none, none⟩,
  ⟨(.nilchk (.loc 0)), none, none⟩,
  ⟨(.fa 1 (.loc 0)), none, none⟩,
  ⟨(.load false 1 (.loc 0)), none, none⟩,
  ⟨(.mov (.var 1)), none, none⟩,
  ⟨(.bslice 1 [(.int .u8 0)] 1 [(0, (.loc 0))]), none, none⟩,
  ⟨(.append 5 1 1 (.loc 2) (.loc 0)), none, none⟩,
  ⟨(.nilchk (.loc 7)), none, none⟩,
  ⟨(.fa 1 (.loc 0)), none, none⟩,
  ⟨(.store 1 (.loc 0) (.loc 2)), none, none⟩]
def c67_3 : List CO := [⟨(.mov (.k .nilIface)), (some 2), none⟩]
def c67 : CFun := ⟨2, 3, (.seq (.region [] [] c67_0) (.seq (.region [] [] c67_1) (.seq (.region [] [] c67_2) (.seq (.region [] [] c67_3) .ret)))), [.var 2]⟩
theorem ok67 : CodeOk Tryd.prog T 67 c67 := ⟨⟨Tryd.f67, Hints.of [] [] [], [0, 1, 4], Tryd.func67, by kernel_rfl, by kernel_rfl⟩⟩

/-! spinney/spinneyref15.line -/
def c69_0 : List CO := [⟨(.box 58 (.var 0)), (some 1), none⟩,
  ⟨(.mov (.k (.string ⟨#[]⟩))), (some 2), none⟩]
def c69_1 : List CO := [⟨(.fa 0 (.var 1)), none, none⟩,
  ⟨(.load false 1 (.loc 0)), none, none⟩,
  ⟨(.call true 98 [(.loc 0)]), none, none⟩,
  ⟨(.mov (.loc 0)), (some 3), none⟩]
def c69_2 : List CO := [⟨(.fa 0 (.var 1)), none, none⟩,
  ⟨(.load false 1 (.loc 0)), (some 4), none⟩]
def c69_3 : List CO := [⟨(.bin .eql (.var 4) (.k (.int .i64 1))), none, none⟩,
  ⟨(.mov (.loc 0)), (some 5), none⟩]
def c69_4 : List CO := [⟨(.bin .eql (.var 4) (.k (.int .i64 2))), none, none⟩,
  ⟨(.mov (.loc 0)), (some 5), none⟩]
def c69_5 : List CO := [⟨(.bin .eql (.var 4) (.k (.int .i64 3))), none, none⟩,
  ⟨(.mov (.loc 0)), (some 5), none⟩]
def c69_6 : List CO := [⟨(.bin .eql (.var 4) (.k (.int .i64 4))), none, none⟩,
  ⟨(.mov (.loc 0)), (some 5), none⟩]
def c69_7 : List CO := [⟨(.bin .eql (.var 4) (.k (.int .i64 5))), none, none⟩,
  ⟨(.mov (.loc 0)), (some 5), none⟩]
def c69_8 : List CO := [⟨(.bin .eql (.var 4) (.k (.int .i64 11))), none, none⟩,
  ⟨(.mov (.loc 0)), (some 5), none⟩]
def c69_9 : List CO := [⟨(.bin .eql (.var 4) (.k (.int .i64 12))), none, none⟩,
  ⟨(.mov (.loc 0)), (some 5), none⟩]
def c69_10 : List CO := [⟨(.bin .eql (.var 4) (.k (.int .i64 13))), none, none⟩,
  ⟨(.mov (.loc 0)), (some 5), none⟩]
def c69_11 : List CO := [⟨(.bin .eql (.var 4) (.k (.int .i64 14))), none, none⟩,
  ⟨(.mov (.loc 0)), (some 5), none⟩]
def c69_12 : List CO := [⟨(.bin .eql (.var 4) (.k (.int .i64 15))), none, none⟩,
  ⟨(.mov (.loc 0)), (some 5), none⟩]
def c69_13 : List CO := [⟨(.mov (.var 3)), none, none⟩,
  ⟨(.fa 1 (.var 1)), none, none⟩,
  ⟨(.load false 1 (.loc 0)), none, none⟩,
  ⟨(.call true 99 [(.loc 0)]), none, none⟩,
  ⟨(.bin .add (.k (.string ⟨#[32]⟩)) (.loc 0)), none, none⟩,
  ⟨(.bin .add (.loc 4) (.loc 0)), none, none⟩,
  ⟨(.mov (.loc 0)), (some 3), none⟩]
def c69_14 : List CO := [⟨(.fa 0 (.var 1)), none, none⟩,
  ⟨(.load false 1 (.loc 0)), (some 6), none⟩]
def c69_15 : List CO := [⟨(.bin .eql (.var 6) (.k (.int .i64 1))), none, none⟩,
  ⟨(.mov (.loc 0)), (some 7), none⟩]
def c69_16 : List CO := [⟨(.bin .eql (.var 6) (.k (.int .i64 2))), none, none⟩,
  ⟨(.mov (.loc 0)), (some 7), none⟩]
def c69_17 : List CO := [⟨(.bin .eql (.var 6) (.k (.int .i64 6))), none, none⟩,
  ⟨(.mov (.loc 0)), (some 7), none⟩]
def c69_18 : List CO := [⟨(.bin .eql (.var 6) (.k (.int .i64 7))), none, none⟩,
  ⟨(.mov (.loc 0)), (some 7), none⟩]
def c69_19 : List CO := [⟨(.bin .eql (.var 6) (.k (.int .i64 10))), none, none⟩,
  ⟨(.mov (.loc 0)), (some 7), none⟩]
def c69_20 : List CO := [⟨(.bin .eql (.var 6) (.k (.int .i64 11))), none, none⟩,
  ⟨(.mov (.loc 0)), (some 7), none⟩]
def c69_21 : List CO := [⟨(.bin .eql (.var 6) (.k (.int .i64 12))), none, none⟩,
  ⟨(.mov (.loc 0)), (some 7), none⟩]
def c69_22 : List CO := [⟨(.bin .eql (.var 6) (.k (.int .i64 16))), none, none⟩,
  ⟨(.mov (.loc 0)), (some 7), none⟩]
def c69_23 : List CO := [⟨(.bin .eql (.var 6) (.k (.int .i64 17))), none, none⟩,
  ⟨(.mov (.loc 0)), (some 7), none⟩]
def c69_24 : List CO := [⟨(.bin .eql (.var 6) (.k (.int .i64 20))), none, none⟩,
  ⟨(.mov (.loc 0)), (some 7), none⟩]
def c69_25 : List CO := [⟨(.mov (.var 3)), none, none⟩,
  ⟨(.fa 2 (.var 1)), none, none⟩,
  ⟨(.load false 1 (.loc 0)), none, none⟩,
  ⟨(.call true 99 [(.loc 0)]), none, none⟩,
  ⟨(.bin .add (.k (.string ⟨#[32]⟩)) (.loc 0)), none, none⟩,
  ⟨(.bin .add (.loc 4) (.loc 0)), none, none⟩,
  ⟨(.mov (.loc 0)), (some 3), none⟩]
def c69_26 : List CO := [⟨(.bin .eql (.var 6) (.k (.int .i64 3))), none, none⟩,
  ⟨(.mov (.loc 0)), (some 8), none⟩]
def c69_27 : List CO := [⟨(.bin .eql (.var 6) (.k (.int .i64 8))), none, none⟩,
  ⟨(.mov (.loc 0)), (some 8), none⟩]
def c69_28 : List CO := [⟨(.bin .eql (.var 6) (.k (.int .i64 13))), none, none⟩,
  ⟨(.mov (.loc 0)), (some 8), none⟩]
def c69_29 : List CO := [⟨(.bin .eql (.var 6) (.k (.int .i64 18))), none, none⟩,
  ⟨(.mov (.loc 0)), (some 8), none⟩]
def c69_30 : List CO := [⟨(.mov (.var 3)), none, none⟩,
  ⟨(.fa 3 (.var 1)), none, none⟩,
  ⟨(.load false 1 (.loc 0)), none, none⟩,
  ⟨(.call true 100 [(.loc 0)]), none, none⟩,
  ⟨(.bin .add (.k (.string ⟨#[32]⟩)) (.loc 0)), none, none⟩,
  ⟨(.bin .add (.loc 4) (.loc 0)), none, none⟩,
  ⟨(.mov (.loc 0)), (some 3), none⟩]
def c69_31 : List CO := [⟨(.bin .eql (.var 6) (.k (.int .i64 4))), none, none⟩,
  ⟨(.mov (.loc 0)), (some 9), none⟩]
def c69_32 : List CO := [⟨(.bin .eql (.var 6) (.k (.int .i64 9))), none, none⟩,
  ⟨(.mov (.loc 0)), (some 9), none⟩]
def c69_33 : List CO := [⟨(.bin .eql (.var 6) (.k (.int .i64 14))), none, none⟩,
  ⟨(.mov (.loc 0)), (some 9), none⟩]
def c69_34 : List CO := [⟨(.bin .eql (.var 6) (.k (.int .i64 19))), none, none⟩,
  ⟨(.mov (.loc 0)), (some 9), none⟩]
def c69_35 : List CO := [⟨(.mov (.var 3)), none, none⟩,
  ⟨(.fa 4 (.var 1)), none, none⟩,
  ⟨(.load false 1 (.loc 0)), none, none⟩,
  ⟨(.call true 99 [(.loc 0)]), none, none⟩,
  ⟨(.bin .add (.k (.string ⟨#[32]⟩)) (.loc 0)), none, none⟩,
  ⟨(.bin .add (.loc 4) (.loc 0)), none, none⟩,
  ⟨(.mov (.loc 0)), (some 3), none⟩]
def c69_36 : List CO := [⟨(.bin .eql (.var 6) (.k (.int .i64 5))), none, none⟩,
  ⟨(.mov (.loc 0)), (some 10), none⟩]
def c69_37 : List CO := [⟨(.bin .eql (.var 6) (.k (.int .i64 15))), none, none⟩,
  ⟨(.mov (.loc 0)), (some 10), none⟩]
def c69_38 : List CO := [⟨(.bin .eql (.var 6) (.k (.int .i64 21))), none, none⟩,
  ⟨(.mov (.loc 0)), (some 10), none⟩]
def c69_39 : List CO := [⟨(.mov (.var 3)), none, none⟩,
  ⟨(.fa 3 (.var 1)), none, none⟩,
  ⟨(.load false 1 (.loc 0)), none, none⟩,
  ⟨(.call true 100 [(.loc 0)]), none, none⟩,
  ⟨(.bin .add (.k (.string ⟨#[32]⟩)) (.loc 0)), none, none⟩,
  ⟨(.bin .add (.loc 0) (.k (.string ⟨#[47]⟩))), none, none⟩,
  ⟨(.fa 4 (.var 1)), none, none⟩,
  ⟨(.load false 1 (.loc 0)), none, none⟩,
  ⟨(.call true 99 [(.loc 0)]), none, none⟩,
  ⟨(.bin .add (.loc 3) (.loc 0)), none, none⟩,
  ⟨(.bin .add (.loc 9) (.loc 0)), none, none⟩,
  ⟨(.mov (.loc 0)), (some 3), none⟩]
def c69_40 : List CO := [⟨(.mov (.var 3)), none, none⟩,
  ⟨(.bin .add (.loc 0) (.k (.string ⟨#[10]⟩))), none, none⟩,
  ⟨(.mov (.loc 0)), (some 2), none⟩]
def c69 : CFun := ⟨1, 11, (.seq (.region [] [] c69_0) (.seq (.region [] [] c69_1) (.seq (.seq (.region [] [] c69_2) (.block 0 (.seq (.seq (.region [] [] c69_3) (.cond (.var 5) .skip (.seq (.region [] [] c69_4) (.cond (.var 5) .skip (.seq (.region [] [] c69_5) (.cond (.var 5) .skip (.seq (.region [] [] c69_6) (.cond (.var 5) .skip (.seq (.region [] [] c69_7) (.cond (.var 5) .skip (.seq (.region [] [] c69_8) (.cond (.var 5) .skip (.seq (.region [] [] c69_9) (.cond (.var 5) .skip (.seq (.region [] [] c69_10) (.cond (.var 5) .skip (.seq (.region [] [] c69_11) (.cond (.var 5) .skip (.region [] [] c69_12))))))))))))))))))) (.cond (.var 5) (.region [] [] c69_13) .skip)))) (.seq (.seq (.region [] [] c69_14) (.block 1 (.seq (.seq (.region [] [] c69_15) (.cond (.var 7) .skip (.seq (.region [] [] c69_16) (.cond (.var 7) .skip (.seq (.region [] [] c69_17) (.cond (.var 7) .skip (.seq (.region [] [] c69_18) (.cond (.var 7) .skip (.seq (.region [] [] c69_19) (.cond (.var 7) .skip (.seq (.region [] [] c69_20) (.cond (.var 7) .skip (.seq (.region [] [] c69_21) (.cond (.var 7) .skip (.seq (.region [] [] c69_22) (.cond (.var 7) .skip (.seq (.region [] [] c69_23) (.cond (.var 7) .skip (.region [] [] c69_24))))))))))))))))))) (.cond (.var 7) (.region [] [] c69_25) (.seq (.seq (.region [] [] c69_26) (.cond (.var 8) .skip (.seq (.region [] [] c69_27) (.cond (.var 8) .skip (.seq (.region [] [] c69_28) (.cond (.var 8) .skip (.region [] [] c69_29))))))) (.cond (.var 8) (.region [] [] c69_30) (.seq (.seq (.region [] [] c69_31) (.cond (.var 9) .skip (.seq (.region [] [] c69_32) (.cond (.var 9) .skip (.seq (.region [] [] c69_33) (.cond (.var 9) .skip (.region [] [] c69_34))))))) (.cond (.var 9) (.region [] [] c69_35) (.seq (.seq (.region [] [] c69_36) (.cond (.var 10) .skip (.seq (.region [] [] c69_37) (.cond (.var 10) .skip (.region [] [] c69_38))))) (.cond (.var 10) (.region [] [] c69_39) .skip)))))))))) (.seq (.region [] [] c69_40) .ret))))), [.var 2]⟩
theorem ok69 : CodeOk Tryd.prog T 69 c69 := ⟨⟨Tryd.f69, Hints.of [] [] [], [0, 1, 2, 3, 8, 9, 27, 28, 45, 56, 67], Tryd.func69, by kernel_rfl, by kernel_rfl⟩⟩

/-! spinney/spinneyref02.Check -/
def c70_0 : List CO := [⟨(.mov (.k (.bool false))), (some 1), none⟩]
def c70_1 : List CO := [⟨(.mov (.var 0)), none, none⟩,
  ⟨(.len .string (.loc 0)), none, none⟩,
  ⟨(.bin .leq (.loc 0) (.k (.int .i64 255))), none, none⟩,
  ⟨(.mov (.loc 0)), none, none⟩,
  ⟨(.mov (.var 0)), none, (some ((.loc 0), true))⟩,
  ⟨(.call true 101 [(.loc 0)]), none, (some ((.loc 1), true))⟩,
  ⟨(.pick (.loc 2) (.loc 0) (.k (.bool false))), none, none⟩,
  ⟨(.mov (.loc 0)), (some 1), none⟩]
def c70 : CFun := ⟨1, 2, (.seq (.region [] [] c70_0) (.seq (.region [] [] c70_1) .ret)), [.var 1]⟩
theorem ok70 : CodeOk Tryd.prog T 70 c70 := ⟨⟨Tryd.f70, Hints.of [] [] [], [0, 2], Tryd.func70, by kernel_rfl, by kernel_rfl⟩⟩




/-! spinney/spinneyref08.body -/
def c83_0 : List CO := [⟨(.box 24 (.var 0)), (some 1), none⟩,
  ⟨(.mov (.k (.slice none 0 0))), (some 2), none⟩]
def c83_1 : List CO := [⟨(.load true 4 (.var 1)), none, none⟩,
  ⟨(.call true 54 [(.loc 0), (.k (.string ⟨#[44]⟩)), (.k (.int .i64 2))]), (some 3), none⟩]
def c83_2 : List CO := [⟨(.fa 3 (.var 1)), none, none⟩,
  ⟨(.load false 1 (.loc 0)), none, none⟩,
  ⟨(.ia 4 (.loc 0) (.k (.int .i64 0))), none, none⟩,
  ⟨(.load true 4 (.loc 0)), none, none⟩,
  ⟨(.call false 83 [(.loc 0)]), none, none⟩,
  ⟨(.fa 3 (.var 1)), none, none⟩,
  ⟨(.load false 1 (.loc 0)), none, none⟩,
  ⟨(.ia 4 (.loc 0) (.k (.int .i64 1))), none, none⟩,
  ⟨(.load true 4 (.loc 0)), none, none⟩,
  ⟨(.call false 83 [(.loc 0)]), none, none⟩,
  ⟨(.append 24 4 56 (.loc 5) (.loc 0)), none, none⟩,
  ⟨(.mov (.loc 0)), (some 2), none⟩]
def c83_3 : List CO := [⟨(.load true 4 (.var 1)), none, none⟩,
  ⟨(.bslice 4 [(.int .i64 0), (.string ⟨#[]⟩), (.int .i64 0), (.slice none 0 0)] 1 [(0, (.loc 0))]), none, none⟩,
  ⟨(.mov (.loc 0)), (some 2), none⟩]
def c83 : CFun := ⟨1, 4, (.seq (.region [] [] c83_0) (.seq (.seq (.region [] [] c83_1) (.cond (.var 3) (.seq (.region [] [] c83_2) .ret) .skip)) (.seq (.region [] [] c83_3) .ret))), [.var 2]⟩
theorem ok83 : CodeOk Tryd.prog T 83 c83 := ⟨⟨Tryd.f83, Hints.of [] [] [], [0, 1, 2, 4], Tryd.func83, by kernel_rfl, by kernel_rfl⟩⟩



/-! (*spinney/code.compiler).plain -/
def c86_0 : List CO := [⟨(.box 24 (.var 3)), (some 4), none⟩,
  ⟨(.mov (.k (.bool false))), (some 5), none⟩]
def c86_1 : List CO := [⟨(.mov (.var 1)), none, none⟩,
  ⟨(.mov (.var 2)), none, none⟩,
  ⟨(.build [(.int .i64 0), (.int .i64 0), (.int .i64 0), (.string ⟨#[]⟩), (.int .i64 0)] [(0, 1, (.loc 1)), (1, 1, (.loc 0))]), none, none⟩,
  ⟨(.box 58 (.k (.agg #[(.int .i64 0), (.int .i64 0), (.int .i64 0), (.string ⟨#[]⟩), (.int .i64 0)]))), (some 6), none⟩,
  ⟨(.store 5 (.var 6) (.loc 1)), none, none⟩]
def c86_2 : List CO := [⟨(.fa 0 (.var 4)), none, none⟩,
  ⟨(.load false 1 (.loc 0)), (some 7), none⟩]
def c86_3 : List CO := [⟨(.bin .eql (.var 7) (.k (.int .i64 1))), none, none⟩,
  ⟨(.mov (.loc 0)), (some 8), none⟩]
def c86_4 : List CO := [⟨(.fa 0 (.var 6)), none, none⟩,
  ⟨(.load false 1 (.loc 0)), none, none⟩,
  ⟨(.mov (.var 0)), none, none⟩,
  ⟨(.nilchk (.loc 0)), none, none⟩,
  ⟨(.fa 1 (.loc 0)), none, none⟩,
  ⟨(.load false 1 (.loc 0)), none, none⟩,
  ⟨(.fa 2 (.var 4)), none, none⟩,
  ⟨(.load false 1 (.loc 0)), none, none⟩,
  ⟨(.lookup (.int .i64) (.int .i64 0) false (.loc 2) (.loc 0)), none, none⟩,
  ⟨(.bin .add (.loc 7) (.loc 0)), none, none⟩,
  ⟨(.fa 0 (.var 6)), none, none⟩,
  ⟨(.store 1 (.loc 0) (.loc 1)), none, none⟩]
def c86_5 : List CO := [⟨(.mov (.var 0)), none, none⟩,
  ⟨(.nilchk (.loc 0)), none, none⟩,
  ⟨(.fa 1 (.loc 0)), none, none⟩,
  ⟨(.load false 1 (.loc 0)), none, none⟩,
  ⟨(.fa 2 (.var 4)), none, none⟩,
  ⟨(.load false 1 (.loc 0)), none, none⟩,
  ⟨(.mapupd (.int .i64) (.loc 2) (.loc 0) (.k (.int .i64 1))), none, none⟩]
def c86_6 : List CO := [⟨(.fa 2 (.var 4)), none, none⟩,
  ⟨(.load false 1 (.loc 0)), none, none⟩,
  ⟨(.fa 2 (.var 6)), none, none⟩,
  ⟨(.store 1 (.loc 0) (.loc 1)), none, none⟩]
def c86_7 : List CO := [⟨(.bin .eql (.var 7) (.k (.int .i64 2))), none, none⟩,
  ⟨(.mov (.loc 0)), (some 9), none⟩]
def c86_8 : List CO := [⟨(.fa 0 (.var 6)), none, none⟩,
  ⟨(.load false 1 (.loc 0)), none, none⟩,
  ⟨(.bin .add (.loc 0) (.k (.int .i64 2))), none, none⟩,
  ⟨(.fa 0 (.var 6)), none, none⟩,
  ⟨(.store 1 (.loc 0) (.loc 1)), none, none⟩]
def c86_9 : List CO := [⟨(.fa 1 (.var 4)), none, none⟩,
  ⟨(.load false 1 (.loc 0)), none, none⟩,
  ⟨(.fa 3 (.var 6)), none, none⟩,
  ⟨(.store 1 (.loc 0) (.loc 1)), none, none⟩]
def c86_10 : List CO := [⟨(.bin .eql (.var 7) (.k (.int .i64 3))), none, none⟩,
  ⟨(.mov (.loc 0)), (some 10), none⟩]
def c86_11 : List CO := [⟨(.fa 0 (.var 6)), none, none⟩,
  ⟨(.load false 1 (.loc 0)), none, none⟩,
  ⟨(.bin .add (.loc 0) (.k (.int .i64 3))), none, none⟩,
  ⟨(.fa 0 (.var 6)), none, none⟩,
  ⟨(.store 1 (.loc 0) (.loc 1)), none, none⟩]
def c86_12 : List CO := [⟨(.fa 2 (.var 4)), none, none⟩,
  ⟨(.load false 1 (.loc 0)), none, none⟩,
  ⟨(.fa 4 (.var 6)), none, none⟩,
  ⟨(.store 1 (.loc 0) (.loc 1)), none, none⟩]
def c86_13 : List CO := [⟨(.mov (.k (.bool false))), (some 5), none⟩]
def c86_14 : List CO := [⟨(.mov (.var 0)), none, none⟩,
  ⟨(.load true 5 (.var 6)), none, none⟩,
  ⟨(.call false 59 [(.loc 1), (.loc 0)]), none, none⟩]
def c86_15 : List CO := [⟨(.mov (.k (.bool true))), (some 5), none⟩]
def c86 : CFun := ⟨4, 11, (.seq (.region [] [] c86_0) (.seq (.region [] [] c86_1) (.seq (.seq (.region [] [] c86_2) (.block 0 (.seq (.region [] [] c86_3) (.cond (.var 8) (.seq (.region [] [] c86_4) (.seq (.region [] [] c86_5) (.region [] [] c86_6))) (.seq (.region [] [] c86_7) (.cond (.var 9) (.seq (.region [] [] c86_8) (.region [] [] c86_9)) (.seq (.region [] [] c86_10) (.cond (.var 10) (.seq (.region [] [] c86_11) (.region [] [] c86_12)) (.seq (.region [] [] c86_13) .ret))))))))) (.seq (.region [] [] c86_14) (.seq (.region [] [] c86_15) .ret))))), [.var 5]⟩
theorem ok86 : CodeOk Tryd.prog T 86 c86 := ⟨⟨Tryd.f86, Hints.of [] [] [], [0, 1, 2, 3, 7, 8, 9, 14, 15, 37, 46], Tryd.func86, by kernel_rfl, by kernel_rfl⟩⟩

/-! (*spinney/code.compiler).temp -/
def c87_0 : List CO := [⟨(.mov (.k (.int .i64 0))), (some 1), none⟩]
def c87_1 : List CO := [⟨(.mov (.var 0)), none, none⟩,
  ⟨(.nilchk (.loc 0)), none, none⟩,
  ⟨(.fa 2 (.loc 0)), none, none⟩,
  ⟨(.load false 1 (.loc 0)), none, none⟩,
  ⟨(.bin .add (.loc 0) (.k (.int .i64 1))), none, none⟩,
  ⟨(.nilchk (.loc 4)), none, none⟩,
  ⟨(.fa 2 (.loc 0)), none, none⟩,
  ⟨(.store 1 (.loc 0) (.loc 2)), none, none⟩]
def c87_2 : List CO := [⟨(.mov (.var 0)), none, none⟩,
  ⟨(.nilchk (.loc 0)), none, none⟩,
  ⟨(.fa 2 (.loc 0)), none, none⟩,
  ⟨(.load false 1 (.loc 0)), none, none⟩,
  ⟨(.bin .sub (.loc 0) (.k (.int .i64 1))), none, none⟩,
  ⟨(.mov (.loc 0)), (some 1), none⟩]
def c87 : CFun := ⟨1, 2, (.seq (.region [] [] c87_0) (.seq (.region [] [] c87_1) (.seq (.region [] [] c87_2) .ret))), [.var 1]⟩
theorem ok87 : CodeOk Tryd.prog T 87 c87 := ⟨⟨Tryd.f87, Hints.of [] [] [], [0, 2], Tryd.func87, by kernel_rfl, by kernel_rfl⟩⟩




/-! spinney/code.line$1 -/
def c91_0 : List CO := [⟨(.load false 1 (.var 0)), none, none⟩,
  ⟨(.fa 3 (.var 1)), none, none⟩,
  ⟨(.load false 1 (.loc 0)), none, none⟩,
  ⟨(.call true 93 [(.loc 0)]), none, none⟩,
  ⟨(.bin .add (.k (.string ⟨#[32]⟩)) (.loc 0)), none, none⟩,
  ⟨(.bin .add (.loc 0) (.k (.string ⟨#[47]⟩))), none, none⟩,
  ⟨(.fa 4 (.var 1)), none, none⟩,
  ⟨(.load false 1 (.loc 0)), none, none⟩,
  ⟨(.call true 94 [(.loc 0)]), none, none⟩,
  ⟨(.bin .add (.loc 3) (.loc 0)), none, none⟩,
  ⟨(.call false 92 [(.loc 9), (.loc 0)]), none, none⟩]
def c91 : CFun := ⟨2, 2, (.region [] [] c91_0), []⟩
theorem ok91 : CodeOk Tryd.prog T 91 c91 := ⟨⟨Tryd.f91, Hints.of [] [] [], [0, 1], Tryd.func91, by kernel_rfl, by kernel_rfl⟩⟩

/-! (*strings.Builder).WriteString -/
def c92_0 : List CO := [⟨(.mov (.k (.int .i64 0))), (some 2), none⟩,
  ⟨(.mov (.k .nilIface)), (some 3), none⟩]
def c92_1 : List CO := [⟨(.mov (.var 0)), none, none⟩,
  ⟨(.call false 97 [(.loc 0)]), none, none⟩]
def c92_2 : List CO := [⟨(.mov (.var 0)), none, none⟩,
  ⟨(.mov (.var 0)), none, none⟩,
  ⟨(.nilchk (.loc 0)), none, none⟩,
  ⟨(.fa 1 (.loc 0)), none, none⟩,
  ⟨(.load false 1 (.loc 0)), none, none⟩,
  ⟨(.mov (.var 1)), none, none⟩,
  ⟨(.apps 5 1 (.loc 1) (.loc 0)), none, none⟩,
  ⟨(.nilchk (.loc 6)), none, none⟩,
  ⟨(.fa 1 (.loc 0)), none, none⟩,
  ⟨(.store 1 (.loc 0) (.loc 2)), none, none⟩]
def c92_3 : List CO := [⟨(.mov (.var 1)), none, none⟩,
  ⟨(.len .string (.loc 0)), none, none⟩,
  ⟨(.mov (.loc 0)), (some 2), none⟩,
  ⟨(.mov (.k .nilIface)), (some 3), none⟩]
def c92 : CFun := ⟨2, 4, (.seq (.region [] [] c92_0) (.seq (.region [] [] c92_1) (.seq (.region [] [] c92_2) (.seq (.region [] [] c92_3) .ret)))), [.var 2, .var 3]⟩
theorem ok92 : CodeOk Tryd.prog T 92 c92 := ⟨⟨Tryd.f92, Hints.of [] [] [], [0, 1, 4, 5], Tryd.func92, by kernel_rfl, by kernel_rfl⟩⟩

/-! spinney/char.Write -/
def c93_0 : List CO := [⟨(.mov (.k (.string ⟨#[]⟩))), (some 1), none⟩]
def c93_1 : List CO := [⟨(.mov (.var 0)), none, none⟩,
  ⟨(.call true 113 [(.loc 0)]), none, none⟩,
  ⟨(.un .not (.loc 0)), (some 4), none⟩]
def c93_2 : List CO := [⟨(.mov (.k (.string ⟨#[]⟩))), (some 1), none⟩]
def c93_3 : List CO := [⟨(.mov (.var 0)), none, none⟩,
  ⟨(.call true 114 [(.loc 0)]), (some 5), none⟩]
def c93_4 : List CO := [⟨(.mov (.var 0)), none, none⟩,
  ⟨(.mov (.loc 0)), (some 1), none⟩]
def c93_5 : List CO := [⟨(.box 103 (.k (.agg #[(.pointer none), (.slice none 0 0)]))), (some 2), none⟩]
def c93_6 : List CO := [⟨(.call false 67 [(.var 2), (.k (.int .u8 39))]), none, none⟩]
def c93_7 : List CO := [⟨(.mov (.var 0)), none, none⟩,
  ⟨(.range (.loc 0)), (some 6), none⟩]
def c93_8 : List CO := [⟨(.next (.var 6)), (some 7), none⟩,
  ⟨(.extract (.var 7) 0), (some 8), none⟩]
def c93_9 : List CO := [⟨(.extract (.var 7) 2), none, none⟩,
  ⟨(.mov (.loc 0)), (some 3), none⟩]
def c93_10 : List CO := [⟨(.mov (.var 3)), (some 9), none⟩]
def c93_11 : List CO := [⟨(.bin .eql (.var 9) (.k (.int .i32 39))), none, none⟩,
  ⟨(.mov (.loc 0)), (some 11), none⟩]
def c93_12 : List CO := [⟨(.bin .eql (.var 9) (.k (.int .i32 92))), none, none⟩,
  ⟨(.mov (.loc 0)), (some 11), none⟩]
def c93_13 : List CO := [⟨(.call false 67 [(.var 2), (.k (.int .u8 92))]), none, none⟩]
def c93_14 : List CO := [⟨(.mov (.var 3)), none, none⟩,
  ⟨(.call false 115 [(.var 2), (.loc 0)]), none, none⟩]
def c93_15 : List CO := [⟨(.bin .eql (.var 9) (.k (.int .i32 10))), none, none⟩,
  ⟨(.mov (.loc 0)), (some 12), none⟩]
def c93_16 : List CO := [⟨(.call false 92 [(.var 2), (.k (.string ⟨#[92, 110]⟩))]), none, none⟩]
def c93_17 : List CO := [⟨(.bin .eql (.var 9) (.k (.int .i32 9))), none, none⟩,
  ⟨(.mov (.loc 0)), (some 13), none⟩]
def c93_18 : List CO := [⟨(.call false 92 [(.var 2), (.k (.string ⟨#[92, 116]⟩))]), none, none⟩]
def c93_19 : List CO := [⟨(.mov (.var 3)), none, none⟩,
  ⟨(.bin .lss (.loc 0) (.k (.int .i32 32))), (some 10), none⟩]
def c93_20 : List CO := [⟨(.call false 92 [(.var 2), (.k (.string ⟨#[92, 120]⟩))]), none, none⟩]
def c93_21 : List CO := [⟨(.mov (.var 3)), none, none⟩,
  ⟨(.conv .i64 (.loc 0)), none, none⟩,
  ⟨(.call true 116 [(.loc 0), (.k (.int .i64 16))]), none, none⟩,
  ⟨(.call false 92 [(.var 2), (.loc 0)]), none, none⟩]
def c93_22 : List CO := [⟨(.call false 67 [(.var 2), (.k (.int .u8 92))]), none, none⟩]
def c93_23 : List CO := [⟨(.mov (.var 3)), none, none⟩,
  ⟨(.call false 115 [(.var 2), (.loc 0)]), none, none⟩]
def c93_24 : CC := (.seq (.region [] [] c93_8) (.seq (.cond (.var 8) .skip (.exit 0)) (.block 1 (.seq (.region [] [] c93_9) (.seq (.region [] [] c93_10) (.block 2 (.seq (.seq (.region [] [] c93_11) (.cond (.var 11) .skip (.region [] [] c93_12))) (.cond (.var 11) (.seq (.region [] [] c93_13) (.region [] [] c93_14)) (.seq (.region [] [] c93_15) (.cond (.var 12) (.region [] [] c93_16) (.seq (.region [] [] c93_17) (.cond (.var 13) (.region [] [] c93_18) (.seq (.seq (.region [] [] c93_19) (.cond (.var 10) (.seq (.region [] [] c93_20) (.seq (.region [] [] c93_21) (.seq (.region [] [] c93_22) (.exit 1)))) .skip)) (.region [] [] c93_23))))))))))))))
def c93_25 : List CO := [⟨(.call false 67 [(.var 2), (.k (.int .u8 39))]), none, none⟩]
def c93_26 : List CO := [⟨(.call false 68 [(.var 2)]), none, none⟩,
  ⟨(.mov (.loc 0)), (some 1), none⟩]
def c93 : CFun := ⟨1, 14, (.seq (.region [] [] c93_0) (.seq (.seq (.region [] [] c93_1) (.cond (.var 4) (.seq (.region [] [] c93_2) .ret) .skip)) (.seq (.seq (.region [] [] c93_3) (.cond (.var 5) (.seq (.region [] [] c93_4) .ret) .skip)) (.seq (.region [] [] c93_5) (.seq (.region [.ap 2 1 5 1] [] c93_6) (.seq (.seq (.region [] [] c93_7) (.block 0 (.loop [false, false, true, false, false, false, true, false, false, false, false, false, false, false] [] c93_24))) (.seq (.region [] [] c93_25) (.seq (.region [] [] c93_26) .ret)))))))), [.var 1]⟩
theorem ok93 : CodeOk Tryd.prog T 93 c93 := ⟨⟨Tryd.f93, Hints.of [(6, [.ap 2 1 5 1])] [] [(0, [false, false, true, false, false, false, true, false, false, false, false, false, false, false], [])], [0, 2, 3, 5, 8, 10, 14, 15, 16, 18, 20, 29, 35, 38], Tryd.func93, by kernel_rfl, by kernel_rfl⟩⟩

/-! spinney/num.Text -/
def c94_0 : List CO := [⟨(.mov (.k (.string ⟨#[]⟩))), (some 1), none⟩]
def c94_1 : List CO := [⟨(.box 163 (.k (.agg #[(.int .u8 0), (.int .u8 0), (.int .u8 0), (.int .u8 0), (.int .u8 0), (.int .u8 0), (.int .u8 0), (.int .u8 0), (.int .u8 0), (.int .u8 0), (.int .u8 0), (.int .u8 0), (.int .u8 0), (.int .u8 0), (.int .u8 0), (.int .u8 0), (.int .u8 0), (.int .u8 0), (.int .u8 0), (.int .u8 0)]))), (some 2), none⟩]
def c94_2 : List CO := [⟨(.mov (.k (.int .i64 20))), (some 3), none⟩]
def c94_3 : List CO := [⟨(.mov (.var 0)), none, none⟩,
  ⟨(.call true 117 [(.loc 0)]), none, none⟩,
  ⟨(.mov (.loc 0)), (some 4), none⟩]
def c94_4 : List CO := [⟨(.mov (.var 3)), none, none⟩,
  ⟨(.bin .sub (.loc 0) (.k (.int .i64 1))), none, none⟩,
  ⟨(.mov (.loc 0)), (some 3), none⟩]
def c94_5 : List CO := [⟨(.mov (.var 3)), none, none⟩,
  ⟨(.mov (.var 4)), none, none⟩,
  ⟨(.bin .rem (.loc 0) (.k (.int .u64 10))), none, none⟩,
  ⟨(.bin .add (.k (.int .u64 48)) (.loc 0)), none, none⟩,
  ⟨(.conv .u8 (.loc 0)), none, none⟩,
  ⟨(.iaa 20 1 (.var 2) (.loc 4)), none, none⟩,
  ⟨(.store 1 (.loc 0) (.loc 1)), none, none⟩]
def c94_6 : List CO := [⟨(.mov (.var 4)), none, none⟩,
  ⟨(.bin .lss (.loc 0) (.k (.int .u64 10))), (some 5), none⟩]
def c94_7 : List CO := [⟨(.mov (.var 4)), none, none⟩,
  ⟨(.bin .quo (.loc 0) (.k (.int .u64 10))), none, none⟩,
  ⟨(.mov (.loc 0)), (some 4), none⟩]
def c94_8 : CC := (.seq (.block 1 (.seq (.region [] [] c94_4) (.seq (.region [] [] c94_5) (.seq (.region [] [] c94_6) (.cond (.var 5) (.exit 0) .skip))))) (.region [] [] c94_7))
def c94_9 : List CO := [⟨(.mov (.var 0)), none, none⟩,
  ⟨(.bin .lss (.loc 0) (.k (.int .i64 0))), (some 6), none⟩]
def c94_10 : List CO := [⟨(.mov (.var 3)), none, none⟩,
  ⟨(.bin .sub (.loc 0) (.k (.int .i64 1))), none, none⟩,
  ⟨(.mov (.loc 0)), (some 3), none⟩]
def c94_11 : List CO := [⟨(.mov (.var 3)), none, none⟩,
  ⟨(.iaa 20 1 (.var 2) (.loc 0)), none, none⟩,
  ⟨(.store 1 (.loc 0) (.k (.int .u8 45))), none, none⟩]
def c94_12 : List CO := [⟨(.mov (.var 3)), none, none⟩,
  ⟨(.aslice 20 1 (.var 2) (some (.loc 0)) none), none, none⟩,
  ⟨(.bstr (.loc 0)), none, none⟩,
  ⟨(.mov (.loc 0)), (some 1), none⟩]
def c94 : CFun := ⟨1, 7, (.seq (.region [] [] c94_0) (.seq (.region [] [] c94_1) (.seq (.region [] [] c94_2) (.seq (.seq (.region [] [] c94_3) (.block 0 (.loop [true, false, true, true, true, false, false] [] c94_8))) (.seq (.seq (.region [] [] c94_9) (.cond (.var 6) (.seq (.region [] [] c94_10) (.region [] [] c94_11)) .skip)) (.seq (.region [] [] c94_12) .ret)))))), [.var 1]⟩
theorem ok94 : CodeOk Tryd.prog T 94 c94 := ⟨⟨Tryd.f94, Hints.of [] [] [(0, [true, false, true, true, true, false, false], [])], [0, 2, 3, 4, 5, 19, 21], Tryd.func94, by kernel_rfl, by kernel_rfl⟩⟩

/-! spinney/code.kinds -/
def c95_0 : List CO := [⟨(.box 141 (.k (.agg #[(.string ⟨#[]⟩), (.string ⟨#[]⟩), (.string ⟨#[]⟩), (.string ⟨#[]⟩), (.string ⟨#[]⟩)]))), (some 0), none⟩]
def c95_1 : List CO := [⟨(.build [(.string ⟨#[]⟩), (.string ⟨#[]⟩), (.string ⟨#[]⟩), (.string ⟨#[]⟩), (.string ⟨#[]⟩)] [(0, 1, (.k (.string ⟨#[118, 97, 114]⟩))), (1, 1, (.k (.string ⟨#[118, 97, 108]⟩))), (2, 1, (.k (.string ⟨#[97, 116, 111, 109]⟩))), (3, 1, (.k (.string ⟨#[105, 110, 116]⟩))), (4, 1, (.k (.string ⟨#[99, 111, 109, 112]⟩)))]), none, none⟩,
  ⟨(.store 5 (.var 0) (.loc 0)), none, none⟩]
def c95 : CFun := ⟨0, 1, (.seq (.region [] [] c95_0) (.seq (.region [] [] c95_1) .ret)), [.cell 0 true 5]⟩
theorem ok95 : CodeOk Tryd.prog T 95 c95 := ⟨⟨Tryd.f95, Hints.of [] [] [], [0], Tryd.func95, by kernel_rfl, by kernel_rfl⟩⟩

/-! spinney/code.rows -/
def c96_0 : List CO := [⟨(.box 143 (.k (.agg #[(.string ⟨#[]⟩), (.string ⟨#[]⟩), (.string ⟨#[]⟩), (.string ⟨#[]⟩)]))), (some 0), none⟩]
def c96_1 : List CO := [⟨(.build [(.string ⟨#[]⟩), (.string ⟨#[]⟩), (.string ⟨#[]⟩), (.string ⟨#[]⟩)] [(0, 1, (.k (.string ⟨#[103, 101, 116]⟩))), (1, 1, (.k (.string ⟨#[117, 110, 105]⟩))), (2, 1, (.k (.string ⟨#[112, 117, 116]⟩))), (3, 1, (.k (.string ⟨#[115, 101, 116]⟩)))]), none, none⟩,
  ⟨(.store 4 (.var 0) (.loc 0)), none, none⟩]
def c96 : CFun := ⟨0, 1, (.seq (.region [] [] c96_0) (.seq (.region [] [] c96_1) .ret)), [.cell 0 true 4]⟩
theorem ok96 : CodeOk Tryd.prog T 96 c96 := ⟨⟨Tryd.f96, Hints.of [] [] [], [0], Tryd.func96, by kernel_rfl, by kernel_rfl⟩⟩

/-! spinney/spinneyref15.name -/
def c98_0 : List CO := [⟨(.mov (.k (.string ⟨#[]⟩))), (some 1), none⟩]
def c98_1 : List CO := [⟨(.bslice 1 [(.string ⟨#[]⟩)] 23 [(0, (.k (.string ⟨#[103, 101, 116, 95, 118, 97, 114]⟩))), (1, (.k (.string ⟨#[103, 101, 116, 95, 118, 97, 108]⟩))), (2, (.k (.string ⟨#[103, 101, 116, 95, 97, 116, 111, 109]⟩))), (3, (.k (.string ⟨#[103, 101, 116, 95, 105, 110, 116]⟩))), (4, (.k (.string ⟨#[103, 101, 116, 95, 99, 111, 109, 112]⟩))), (5, (.k (.string ⟨#[117, 110, 105, 95, 118, 97, 114]⟩))), (6, (.k (.string ⟨#[117, 110, 105, 95, 118, 97, 108]⟩))), (7, (.k (.string ⟨#[117, 110, 105, 95, 97, 116, 111, 109]⟩))), (8, (.k (.string ⟨#[117, 110, 105, 95, 105, 110, 116]⟩))), (9, (.k (.string ⟨#[117, 110, 105, 95, 116, 101, 109, 112]⟩))), (10, (.k (.string ⟨#[112, 117, 116, 95, 118, 97, 114]⟩))), (11, (.k (.string ⟨#[112, 117, 116, 95, 118, 97, 108]⟩))), (12, (.k (.string ⟨#[112, 117, 116, 95, 97, 116, 111, 109]⟩))), (13, (.k (.string ⟨#[112, 117, 116, 95, 105, 110, 116]⟩))), (14, (.k (.string ⟨#[112, 117, 116, 95, 99, 111, 109, 112]⟩))), (15, (.k (.string ⟨#[115, 101, 116, 95, 118, 97, 114]⟩))), (16, (.k (.string ⟨#[115, 101, 116, 95, 118, 97, 108]⟩))), (17, (.k (.string ⟨#[115, 101, 116, 95, 97, 116, 111, 109]⟩))), (18, (.k (.string ⟨#[115, 101, 116, 95, 105, 110, 116]⟩))), (19, (.k (.string ⟨#[115, 101, 116, 95, 116, 101, 109, 112]⟩))), (20, (.k (.string ⟨#[99, 97, 108, 108]⟩))), (21, (.k (.string ⟨#[99, 117, 116]⟩))), (22, (.k (.string ⟨#[101, 110, 100]⟩)))]), none, none⟩,
  ⟨(.mov (.loc 0)), (some 2), none⟩]
def c98_2 : List CO := [⟨(.mov (.var 0)), none, none⟩,
  ⟨(.bin .lss (.loc 0) (.k (.int .i64 1))), none, none⟩,
  ⟨(.mov (.loc 0)), none, none⟩,
  ⟨(.mov (.var 0)), none, (some ((.loc 0), false))⟩,
  ⟨(.mov (.var 2)), none, (some ((.loc 1), false))⟩,
  ⟨(.len .slice (.loc 0)), none, (some ((.loc 2), false))⟩,
  ⟨(.bin .gtr (.loc 2) (.loc 0)), none, (some ((.loc 3), false))⟩,
  ⟨(.pick (.loc 4) (.k (.bool true)) (.loc 0)), (some 3), none⟩]
def c98_3 : List CO := [⟨(.mov (.k (.string ⟨#[63]⟩))), (some 1), none⟩]
def c98_4 : List CO := [⟨(.mov (.var 2)), none, none⟩,
  ⟨(.mov (.var 0)), none, none⟩,
  ⟨(.bin .sub (.loc 0) (.k (.int .i64 1))), none, none⟩,
  ⟨(.ia 1 (.loc 2) (.loc 0)), none, none⟩,
  ⟨(.load false 1 (.loc 0)), none, none⟩,
  ⟨(.mov (.loc 0)), (some 1), none⟩]
def c98 : CFun := ⟨1, 4, (.seq (.region [] [] c98_0) (.seq (.region [] [] c98_1) (.seq (.seq (.region [] [] c98_2) (.cond (.var 3) (.seq (.region [] [] c98_3) .ret) .skip)) (.seq (.region [] [] c98_4) .ret)))), [.var 1]⟩
theorem ok98 : CodeOk Tryd.prog T 98 c98 := ⟨⟨Tryd.f98, Hints.of [] [] [], [0, 2, 3, 12], Tryd.func98, by kernel_rfl, by kernel_rfl⟩⟩

/-! spinney/spinneyref01.Text -/
def c99_0 : List CO := [⟨(.mov (.k (.string ⟨#[]⟩))), (some 1), none⟩]
def c99_1 : List CO := [⟨(.mov (.var 0)), none, none⟩,
  ⟨(.bin .lss (.loc 0) (.k (.int .i64 0))), (some 2), none⟩]
def c99_2 : List CO := [⟨(.mov (.var 0)), none, none⟩,
  ⟨(.call true 119 [(.loc 0)]), none, none⟩,
  ⟨(.bin .add (.k (.string ⟨#[45]⟩)) (.loc 0)), none, none⟩,
  ⟨(.mov (.loc 0)), (some 1), none⟩]
def c99_3 : List CO := [⟨(.mov (.var 0)), none, none⟩,
  ⟨(.un .neg (.loc 0)), none, none⟩,
  ⟨(.call true 119 [(.loc 0)]), none, none⟩,
  ⟨(.mov (.loc 0)), (some 1), none⟩]
def c99 : CFun := ⟨1, 3, (.seq (.region [] [] c99_0) (.seq (.seq (.region [] [] c99_1) (.cond (.var 2) (.seq (.region [] [] c99_2) .ret) .skip)) (.seq (.region [] [] c99_3) .ret))), [.var 1]⟩
theorem ok99 : CodeOk Tryd.prog T 99 c99 := ⟨⟨Tryd.f99, Hints.of [] [] [], [0, 2, 4], Tryd.func99, by kernel_rfl, by kernel_rfl⟩⟩

/-! spinney/spinneyref02.Write -/
def c100_0 : List CO := [⟨(.mov (.k (.string ⟨#[]⟩))), (some 1), none⟩]
def c100_1 : List CO := [⟨(.mov (.var 0)), none, none⟩,
  ⟨(.call true 70 [(.loc 0)]), none, none⟩,
  ⟨(.un .not (.loc 0)), (some 4), none⟩]
def c100_2 : List CO := [⟨(.mov (.k (.string ⟨#[]⟩))), (some 1), none⟩]
def c100_3 : List CO := [⟨(.mov (.var 0)), none, none⟩,
  ⟨(.call true 120 [(.loc 0)]), (some 5), none⟩]
def c100_4 : List CO := [⟨(.mov (.var 0)), none, none⟩,
  ⟨(.mov (.loc 0)), (some 1), none⟩]
def c100_5 : List CO := [⟨(.mov (.k (.string ⟨#[39]⟩))), (some 2), none⟩]
def c100_6 : List CO := [⟨(.mov (.var 0)), none, none⟩,
  ⟨(.call true 121 [(.loc 0)]), (some 6), none⟩,
  ⟨(.len .slice (.var 6)), (some 7), none⟩,
  ⟨(.mov (.k (.int .i64 0))), (some 8), none⟩]
def c100_7 : List CO := [⟨(.bin .lss (.var 8) (.var 7)), (some 9), none⟩]
def c100_8 : List CO := [⟨(.ia 1 (.var 6) (.var 8)), none, none⟩,
  ⟨(.load false 1 (.loc 0)), none, none⟩,
  ⟨(.mov (.loc 0)), (some 3), none⟩]
def c100_9 : List CO := [⟨(.mov (.var 3)), none, none⟩,
  ⟨(.bin .eql (.loc 0) (.k (.int .i32 39))), none, none⟩,
  ⟨(.mov (.loc 0)), none, none⟩,
  ⟨(.mov (.var 3)), none, (some ((.loc 0), false))⟩,
  ⟨(.bin .eql (.loc 0) (.k (.int .i32 92))), none, (some ((.loc 1), false))⟩,
  ⟨(.pick (.loc 2) (.k (.bool true)) (.loc 0)), none, none⟩,
  ⟨(.mov (.loc 0)), (some 10), none⟩]
def c100_10 : List CO := [⟨(.mov (.var 2)), none, none⟩,
  ⟨(.mov (.var 3)), none, none⟩,
  ⟨(.runestr (.loc 0)), none, none⟩,
  ⟨(.bin .add (.k (.string ⟨#[92]⟩)) (.loc 0)), none, none⟩,
  ⟨(.bin .add (.loc 3) (.loc 0)), none, none⟩,
  ⟨(.mov (.loc 0)), (some 2), none⟩]
def c100_11 : List CO := [⟨(.mov (.var 3)), none, none⟩,
  ⟨(.bin .eql (.loc 0) (.k (.int .i32 10))), none, none⟩,
  ⟨(.mov (.loc 0)), (some 11), none⟩]
def c100_12 : List CO := [⟨(.mov (.var 2)), none, none⟩,
  ⟨(.bin .add (.loc 0) (.k (.string ⟨#[92, 110]⟩))), none, none⟩,
  ⟨(.mov (.loc 0)), (some 2), none⟩]
def c100_13 : List CO := [⟨(.mov (.var 3)), none, none⟩,
  ⟨(.bin .eql (.loc 0) (.k (.int .i32 9))), none, none⟩,
  ⟨(.mov (.loc 0)), (some 12), none⟩]
def c100_14 : List CO := [⟨(.mov (.var 2)), none, none⟩,
  ⟨(.bin .add (.loc 0) (.k (.string ⟨#[92, 116]⟩))), none, none⟩,
  ⟨(.mov (.loc 0)), (some 2), none⟩]
def c100_15 : List CO := [⟨(.mov (.var 3)), none, none⟩,
  ⟨(.bin .lss (.loc 0) (.k (.int .i32 32))), none, none⟩,
  ⟨(.mov (.loc 0)), (some 13), none⟩]
def c100_16 : List CO := [⟨(.mov (.var 2)), none, none⟩,
  ⟨(.mov (.var 3)), none, none⟩,
  ⟨(.call true 122 [(.loc 0)]), none, none⟩,
  ⟨(.bin .add (.k (.string ⟨#[92, 120]⟩)) (.loc 0)), none, none⟩,
  ⟨(.bin .add (.loc 0) (.k (.string ⟨#[92]⟩))), none, none⟩,
  ⟨(.bin .add (.loc 4) (.loc 0)), none, none⟩,
  ⟨(.mov (.loc 0)), (some 2), none⟩]
def c100_17 : List CO := [⟨(.mov (.var 2)), none, none⟩,
  ⟨(.mov (.var 3)), none, none⟩,
  ⟨(.runestr (.loc 0)), none, none⟩,
  ⟨(.bin .add (.loc 2) (.loc 0)), none, none⟩,
  ⟨(.mov (.loc 0)), (some 2), none⟩]
def c100_18 : List CO := [⟨(.bin .add (.var 8) (.k (.int .i64 1))), none, none⟩,
  ⟨(.mov (.loc 0)), (some 8), none⟩]
def c100_19 : CC := (.seq (.region [] [] c100_7) (.seq (.cond (.var 9) .skip (.exit 0)) (.seq (.block 1 (.seq (.region [] [] c100_8) (.block 2 (.seq (.region [] [] c100_9) (.cond (.var 10) (.region [] [] c100_10) (.seq (.region [] [] c100_11) (.cond (.var 11) (.region [] [] c100_12) (.seq (.region [] [] c100_13) (.cond (.var 12) (.region [] [] c100_14) (.seq (.region [] [] c100_15) (.cond (.var 13) (.region [] [] c100_16) (.region [] [] c100_17)))))))))))) (.region [] [] c100_18))))
def c100_20 : List CO := [⟨(.mov (.var 2)), none, none⟩,
  ⟨(.bin .add (.loc 0) (.k (.string ⟨#[39]⟩))), none, none⟩,
  ⟨(.mov (.loc 0)), (some 1), none⟩]
def c100 : CFun := ⟨1, 14, (.seq (.region [] [] c100_0) (.seq (.seq (.region [] [] c100_1) (.cond (.var 4) (.seq (.region [] [] c100_2) .ret) .skip)) (.seq (.seq (.region [] [] c100_3) (.cond (.var 5) (.seq (.region [] [] c100_4) .ret) .skip)) (.seq (.region [] [] c100_5) (.seq (.seq (.region [] [] c100_6) (.block 0 (.loop [false, false, true, false, false, false, true, true, true, false, false, false, false, false] [] c100_19))) (.seq (.region [] [] c100_20) .ret)))))), [.var 1]⟩
theorem ok100 : CodeOk Tryd.prog T 100 c100 := ⟨⟨Tryd.f100, Hints.of [] [] [(0, [false, false, true, false, false, false, true, true, true, false, false, false, false, false], [])], [0, 2, 3, 5, 8, 10, 13, 14, 15, 16, 23, 35, 40, 45], Tryd.func100, by kernel_rfl, by kernel_rfl⟩⟩


/-! spinney/char.Check -/
def c113_0 : List CO := [⟨(.mov (.k (.bool false))), (some 1), none⟩]
def c113_1 : List CO := [⟨(.mov (.var 0)), none, none⟩,
  ⟨(.len .string (.loc 0)), none, none⟩,
  ⟨(.bin .leq (.loc 0) (.k (.int .i64 255))), none, none⟩,
  ⟨(.mov (.loc 0)), none, none⟩,
  ⟨(.mov (.var 0)), none, (some ((.loc 0), true))⟩,
  ⟨(.call true 101 [(.loc 0)]), none, (some ((.loc 1), true))⟩,
  ⟨(.pick (.loc 2) (.loc 0) (.k (.bool false))), none, none⟩,
  ⟨(.mov (.loc 0)), (some 1), none⟩]
def c113 : CFun := ⟨1, 2, (.seq (.region [] [] c113_0) (.seq (.region [] [] c113_1) .ret)), [.var 1]⟩
theorem ok113 : CodeOk Tryd.prog T 113 c113 := ⟨⟨Tryd.f113, Hints.of [] [] [], [0, 2], Tryd.func113, by kernel_rfl, by kernel_rfl⟩⟩

/-! spinney/char.Bare -/
def c114_0 : List CO := [⟨(.mov (.k (.bool false))), (some 1), none⟩]
def c114_1 : List CO := [⟨(.mov (.var 0)), (some 6), none⟩]
def c114_2 : List CO := [⟨(.bin .eql (.var 6) (.k (.string ⟨#[91, 93]⟩))), none, none⟩,
  ⟨(.mov (.loc 0)), (some 7), none⟩]
def c114_3 : List CO := [⟨(.bin .eql (.var 6) (.k (.string ⟨#[123, 125]⟩))), none, none⟩,
  ⟨(.mov (.loc 0)), (some 7), none⟩]
def c114_4 : List CO := [⟨(.bin .eql (.var 6) (.k (.string ⟨#[33]⟩))), none, none⟩,
  ⟨(.mov (.loc 0)), (some 7), none⟩]
def c114_5 : List CO := [⟨(.bin .eql (.var 6) (.k (.string ⟨#[59]⟩))), none, none⟩,
  ⟨(.mov (.loc 0)), (some 7), none⟩]
def c114_6 : List CO := [⟨(.mov (.k (.bool true))), (some 1), none⟩]
def c114_7 : List CO := [⟨(.bin .eql (.var 6) (.k (.string ⟨#[]⟩))), none, none⟩,
  ⟨(.mov (.loc 0)), (some 8), none⟩]
def c114_8 : List CO := [⟨(.bin .eql (.var 6) (.k (.string ⟨#[46]⟩))), none, none⟩,
  ⟨(.mov (.loc 0)), (some 8), none⟩]
def c114_9 : List CO := [⟨(.mov (.k (.bool false))), (some 1), none⟩]
def c114_10 : List CO := [⟨(.mov (.var 0)), none, none⟩,
  ⟨(.call true 130 [(.loc 0), (.k (.string ⟨#[47, 42]⟩))]), (some 9), none⟩]
def c114_11 : List CO := [⟨(.mov (.k (.bool false))), (some 1), none⟩]
def c114_12 : List CO := [⟨(.mov (.k (.int .i64 0))), (some 2), none⟩]
def c114_13 : List CO := [⟨(.mov (.var 0)), none, none⟩,
  ⟨(.range (.loc 0)), (some 10), none⟩]
def c114_14 : List CO := [⟨(.next (.var 10)), (some 11), none⟩,
  ⟨(.extract (.var 11) 0), (some 12), none⟩]
def c114_15 : List CO := [⟨(.extract (.var 11) 1), none, none⟩,
  ⟨(.extract (.var 11) 2), none, none⟩,
  ⟨(.mov (.loc 1)), (some 3), none⟩,
  ⟨(.mov (.loc 1)), (some 4), none⟩]
def c114_16 : List CO := [⟨(.mov (.var 4)), none, none⟩,
  ⟨(.call true 131 [(.loc 0)]), none, none⟩,
  ⟨(.mov (.loc 0)), (some 5), none⟩]
def c114_17 : List CO := [⟨(.mov (.var 3)), none, none⟩,
  ⟨(.bin .eql (.loc 0) (.k (.int .i64 0))), (some 13), none⟩]
def c114_18 : List CO := [⟨(.mov (.var 5)), none, none⟩,
  ⟨(.mov (.loc 0)), (some 2), none⟩]
def c114_19 : List CO := [⟨(.mov (.var 2)), (some 14), none⟩]
def c114_20 : List CO := [⟨(.bin .eql (.var 14) (.k (.int .i64 1))), none, none⟩,
  ⟨(.mov (.loc 0)), (some 15), none⟩]
def c114_21 : List CO := [⟨(.mov (.var 5)), none, none⟩,
  ⟨(.bin .lss (.loc 0) (.k (.int .i64 1))), none, none⟩,
  ⟨(.mov (.loc 0)), none, none⟩,
  ⟨(.mov (.var 5)), none, (some ((.loc 0), false))⟩,
  ⟨(.bin .gtr (.loc 0) (.k (.int .i64 3))), none, (some ((.loc 1), false))⟩,
  ⟨(.pick (.loc 2) (.k (.bool true)) (.loc 0)), (some 16), none⟩]
def c114_22 : List CO := [⟨(.mov (.k (.bool false))), (some 1), none⟩]
def c114_23 : List CO := [⟨(.bin .eql (.var 14) (.k (.int .i64 4))), none, none⟩,
  ⟨(.mov (.loc 0)), (some 17), none⟩]
def c114_24 : List CO := [⟨(.mov (.var 5)), none, none⟩,
  ⟨(.bin .neq (.loc 0) (.k (.int .i64 4))), (some 18), none⟩]
def c114_25 : List CO := [⟨(.mov (.k (.bool false))), (some 1), none⟩]
def c114_26 : List CO := [⟨(.mov (.k (.bool false))), (some 1), none⟩]
def c114_27 : CC := (.seq (.region [] [] c114_14) (.seq (.cond (.var 12) .skip (.exit 1)) (.block 2 (.seq (.region [] [] c114_15) (.seq (.region [] [] c114_16) (.seq (.seq (.region [] [] c114_17) (.cond (.var 13) (.region [] [] c114_18) .skip)) (.seq (.region [] [] c114_19) (.block 3 (.seq (.region [] [] c114_20) (.cond (.var 15) (.seq (.region [] [] c114_21) (.cond (.var 16) (.seq (.region [] [] c114_22) .ret) .skip)) (.seq (.region [] [] c114_23) (.cond (.var 17) (.seq (.region [] [] c114_24) (.cond (.var 18) (.seq (.region [] [] c114_25) .ret) .skip)) (.seq (.region [] [] c114_26) .ret)))))))))))))
def c114_28 : List CO := [⟨(.mov (.var 0)), none, none⟩,
  ⟨(.len .string (.loc 0)), none, none⟩,
  ⟨(.bin .leq (.loc 0) (.k (.int .i64 255))), none, none⟩,
  ⟨(.mov (.loc 0)), (some 1), none⟩]
def c114 : CFun := ⟨1, 19, (.seq (.region [] [] c114_0) (.seq (.seq (.region [] [] c114_1) (.block 0 (.seq (.seq (.region [] [] c114_2) (.cond (.var 7) .skip (.seq (.region [] [] c114_3) (.cond (.var 7) .skip (.seq (.region [] [] c114_4) (.cond (.var 7) .skip (.region [] [] c114_5))))))) (.cond (.var 7) (.seq (.region [] [] c114_6) .ret) (.seq (.seq (.region [] [] c114_7) (.cond (.var 8) .skip (.region [] [] c114_8))) (.cond (.var 8) (.seq (.region [] [] c114_9) .ret) .skip)))))) (.seq (.seq (.region [] [] c114_10) (.cond (.var 9) (.seq (.region [] [] c114_11) .ret) .skip)) (.seq (.region [] [] c114_12) (.seq (.seq (.region [] [] c114_13) (.block 1 (.loop [true, false, true, false, false, false, false, false, false, false, true, false, false, false, false, false, false, false, false] [] c114_27))) (.seq (.region [] [] c114_28) .ret)))))), [.var 1]⟩
theorem ok114 : CodeOk Tryd.prog T 114 c114 := ⟨⟨Tryd.f114, Hints.of [] [] [(1, [true, false, true, false, false, false, false, false, false, false, true, false, false, false, false, false, false, false, false], [])], [0, 2, 3, 4, 5, 6, 7, 8, 13, 17, 19, 20, 21, 27, 29, 30, 37, 38, 41], Tryd.func114, by kernel_rfl, by kernel_rfl⟩⟩

/-! (*strings.Builder).WriteRune -/
def c115_0 : List CO := [⟨(.mov (.k (.int .i64 0))), (some 2), none⟩,
  ⟨(.mov (.k .nilIface)), (some 3), none⟩]
def c115_1 : List CO := [⟨(.mov (.var 0)), none, none⟩,
  ⟨(.call false 97 [(.loc 0)]), none, none⟩]
def c115_2 : List CO := [⟨(.mov (.var 0)), none, none⟩,
  ⟨(.nilchk (.loc 0)), none, none⟩,
  ⟨(.fa 1 (.loc 0)), none, none⟩,
  ⟨(.load false 1 (.loc 0)), none, none⟩,
  ⟨(.len .slice (.loc 0)), none, none⟩,
  ⟨(.mov (.loc 0)), (some 4), none⟩]
def c115_3 : List CO := [⟨(.mov (.var 0)), none, none⟩,
  ⟨(.mov (.var 0)), none, none⟩,
  ⟨(.nilchk (.loc 0)), none, none⟩,
  ⟨(.fa 1 (.loc 0)), none, none⟩,
  ⟨(.load false 1 (.loc 0)), none, none⟩,
  ⟨(.mov (.var 1)), none, none⟩,
  ⟨(.call false 132 [(.loc 1), (.loc 0)]), none, none⟩,
  ⟨(.nilchk (.loc 6)), none, none⟩,
  ⟨(.fa 1 (.loc 0)), none, none⟩,
  ⟨(.store 1 (.loc 0) (.loc 2)), none, none⟩]
def c115_4 : List CO := [⟨(.mov (.var 0)), none, none⟩,
  ⟨(.nilchk (.loc 0)), none, none⟩,
  ⟨(.fa 1 (.loc 0)), none, none⟩,
  ⟨(.load false 1 (.loc 0)), none, none⟩,
  ⟨(.len .slice (.loc 0)), none, none⟩,
  ⟨(.mov (.var 4)), none, none⟩,
  ⟨(.bin .sub (.loc 1) (.loc 0)), none, none⟩,
  ⟨(.mov (.loc 0)), (some 2), none⟩,
  ⟨(.mov (.k .nilIface)), (some 3), none⟩]
def c115 : CFun := ⟨2, 5, (.seq (.region [] [] c115_0) (.seq (.region [] [] c115_1) (.seq (.region [] [] c115_2) (.seq (.region [] [] c115_3) (.seq (.region [] [] c115_4) .ret))))), [.var 2, .var 3]⟩
theorem ok115 : CodeOk Tryd.prog T 115 c115 := ⟨⟨Tryd.f115, Hints.of [] [] [], [0, 1, 4, 5, 6], Tryd.func115, by kernel_rfl, by kernel_rfl⟩⟩

/-! strconv.FormatInt -/
def c116_0 : List CO := [⟨(.mov (.k (.string ⟨#[]⟩))), (some 2), none⟩]
def c116_1 : List CO := [⟨(.mov (.var 0)), none, none⟩,
  ⟨(.mov (.var 1)), none, none⟩,
  ⟨(.call true 133 [(.loc 1), (.loc 0)]), none, none⟩,
  ⟨(.mov (.loc 0)), (some 2), none⟩]
def c116 : CFun := ⟨2, 3, (.seq (.region [] [] c116_0) (.seq (.region [] [] c116_1) .ret)), [.var 2]⟩
theorem ok116 : CodeOk Tryd.prog T 116 c116 := ⟨⟨Tryd.f116, Hints.of [] [] [], [0, 1, 4], Tryd.func116, by kernel_rfl, by kernel_rfl⟩⟩

/-! spinney/num.size -/
def c117_0 : List CO := [⟨(.mov (.k (.int .u64 0))), (some 1), none⟩]
def c117_1 : List CO := [⟨(.mov (.var 0)), none, none⟩,
  ⟨(.bin .lss (.loc 0) (.k (.int .i64 0))), (some 2), none⟩]
def c117_2 : List CO := [⟨(.mov (.var 0)), none, none⟩,
  ⟨(.conv .u64 (.loc 0)), none, none⟩,
  ⟨(.un .neg (.loc 0)), none, none⟩,
  ⟨(.mov (.loc 0)), (some 1), none⟩]
def c117_3 : List CO := [⟨(.mov (.var 0)), none, none⟩,
  ⟨(.conv .u64 (.loc 0)), none, none⟩,
  ⟨(.mov (.loc 0)), (some 1), none⟩]
def c117 : CFun := ⟨1, 3, (.seq (.region [] [] c117_0) (.seq (.seq (.region [] [] c117_1) (.cond (.var 2) (.seq (.region [] [] c117_2) .ret) .skip)) (.seq (.region [] [] c117_3) .ret))), [.var 1]⟩
theorem ok117 : CodeOk Tryd.prog T 117 c117 := ⟨⟨Tryd.f117, Hints.of [] [] [], [0, 2, 4], Tryd.func117, by kernel_rfl, by kernel_rfl⟩⟩

/-! spinney/spinneyref01.digits -/
def c119_0 : List CO := [⟨(.mov (.k (.string ⟨#[]⟩))), (some 1), none⟩]
def c119_1 : List CO := [⟨(.mov (.var 0)), none, none⟩,
  ⟨(.bin .rem (.loc 0) (.k (.int .i64 10))), none, none⟩,
  ⟨(.bin .sub (.k (.int .i64 48)) (.loc 0)), none, none⟩,
  ⟨(.conv .u8 (.loc 0)), none, none⟩,
  ⟨(.bslice 1 [(.int .u8 0)] 1 [(0, (.loc 0))]), none, none⟩,
  ⟨(.bstr (.loc 0)), none, none⟩,
  ⟨(.mov (.loc 0)), (some 2), none⟩]
def c119_2 : List CO := [⟨(.mov (.var 0)), none, none⟩,
  ⟨(.bin .gtr (.loc 0) (.k (.int .i64 (-10)))), (some 3), none⟩]
def c119_3 : List CO := [⟨(.mov (.var 2)), none, none⟩,
  ⟨(.mov (.loc 0)), (some 1), none⟩]
def c119_4 : List CO := [⟨(.mov (.var 0)), none, none⟩,
  ⟨(.bin .quo (.loc 0) (.k (.int .i64 10))), none, none⟩,
  ⟨(.call true 119 [(.loc 0)]), none, none⟩,
  ⟨(.mov (.var 2)), none, none⟩,
  ⟨(.bin .add (.loc 1) (.loc 0)), none, none⟩,
  ⟨(.mov (.loc 0)), (some 1), none⟩]
def c119 : CFun := ⟨1, 4, (.seq (.region [] [] c119_0) (.seq (.region [] [] c119_1) (.seq (.seq (.region [] [] c119_2) (.cond (.var 3) (.seq (.region [] [] c119_3) .ret) .skip)) (.seq (.region [] [] c119_4) .ret)))), [.var 1]⟩
theorem ok119 : CodeOk Tryd.prog T 119 c119 := ⟨⟨Tryd.f119, Hints.of [] [] [], [0, 2, 3, 11], Tryd.func119, by kernel_rfl, by kernel_rfl⟩⟩

/-! spinney/spinneyref02.Bare -/
def c120_0 : List CO := [⟨(.mov (.k (.bool false))), (some 1), none⟩]
def c120_1 : List CO := [⟨(.mov (.var 0)), none, none⟩,
  ⟨(.call true 70 [(.loc 0)]), none, none⟩,
  ⟨(.un .not (.loc 0)), none, none⟩,
  ⟨(.mov (.loc 0)), none, none⟩,
  ⟨(.mov (.var 0)), none, (some ((.loc 0), false))⟩,
  ⟨(.bin .eql (.loc 0) (.k (.string ⟨#[]⟩))), none, (some ((.loc 1), false))⟩,
  ⟨(.pick (.loc 2) (.k (.bool true)) (.loc 0)), none, none⟩,
  ⟨(.mov (.loc 0)), none, none⟩,
  ⟨(.mov (.var 0)), none, (some ((.loc 0), false))⟩,
  ⟨(.bin .eql (.loc 0) (.k (.string ⟨#[46]⟩))), none, (some ((.loc 1), false))⟩,
  ⟨(.pick (.loc 2) (.k (.bool true)) (.loc 0)), none, none⟩,
  ⟨(.mov (.loc 0)), none, none⟩,
  ⟨(.mov (.var 0)), none, (some ((.loc 0), false))⟩,
  ⟨(.len .string (.loc 0)), none, (some ((.loc 1), false))⟩,
  ⟨(.bin .gtr (.loc 0) (.k (.int .i64 1))), none, (some ((.loc 2), false))⟩,
  ⟨(.mov (.loc 0)), none, (some ((.loc 3), false))⟩,
  ⟨(.mov (.var 0)), none, (some ((.loc 0), true))⟩,
  ⟨(.sslice (.loc 0) none (some (.k (.int .i64 2)))), none, (some ((.loc 1), true))⟩,
  ⟨(.bin .eql (.loc 0) (.k (.string ⟨#[47, 42]⟩))), none, (some ((.loc 2), true))⟩,
  ⟨(.pick (.loc 3) (.loc 0) (.k (.bool false))), none, (some ((.loc 7), false))⟩,
  ⟨(.pick (.loc 8) (.k (.bool true)) (.loc 0)), (some 7), none⟩]
def c120_2 : List CO := [⟨(.mov (.k (.bool false))), (some 1), none⟩]
def c120_3 : List CO := [⟨(.mov (.var 0)), none, none⟩,
  ⟨(.bin .eql (.loc 0) (.k (.string ⟨#[91, 93]⟩))), none, none⟩,
  ⟨(.mov (.loc 0)), none, none⟩,
  ⟨(.mov (.var 0)), none, (some ((.loc 0), false))⟩,
  ⟨(.bin .eql (.loc 0) (.k (.string ⟨#[123, 125]⟩))), none, (some ((.loc 1), false))⟩,
  ⟨(.pick (.loc 2) (.k (.bool true)) (.loc 0)), none, none⟩,
  ⟨(.mov (.loc 0)), none, none⟩,
  ⟨(.mov (.var 0)), none, (some ((.loc 0), false))⟩,
  ⟨(.bin .eql (.loc 0) (.k (.string ⟨#[33]⟩))), none, (some ((.loc 1), false))⟩,
  ⟨(.pick (.loc 2) (.k (.bool true)) (.loc 0)), none, none⟩,
  ⟨(.mov (.loc 0)), none, none⟩,
  ⟨(.mov (.var 0)), none, (some ((.loc 0), false))⟩,
  ⟨(.bin .eql (.loc 0) (.k (.string ⟨#[59]⟩))), none, (some ((.loc 1), false))⟩,
  ⟨(.pick (.loc 2) (.k (.bool true)) (.loc 0)), (some 8), none⟩]
def c120_4 : List CO := [⟨(.mov (.k (.bool true))), (some 1), none⟩]
def c120_5 : List CO := [⟨(.mov (.var 0)), none, none⟩,
  ⟨(.call true 121 [(.loc 0)]), none, none⟩,
  ⟨(.mov (.loc 0)), (some 2), none⟩]
def c120_6 : List CO := [⟨(.mov (.var 2)), none, none⟩,
  ⟨(.ia 1 (.loc 0) (.k (.int .i64 0))), none, none⟩,
  ⟨(.load false 1 (.loc 0)), none, none⟩,
  ⟨(.call true 134 [(.loc 0)]), none, none⟩,
  ⟨(.bin .eql (.loc 0) (.k (.int .i64 1))), none, none⟩,
  ⟨(.mov (.loc 0)), (some 3), none⟩]
def c120_7 : List CO := [⟨(.mov (.k (.bool true))), (some 4), none⟩]
def c120_8 : List CO := [⟨(.mov (.var 2)), (some 9), none⟩,
  ⟨(.len .slice (.var 9)), (some 10), none⟩,
  ⟨(.mov (.k (.int .i64 0))), (some 11), none⟩]
def c120_9 : List CO := [⟨(.bin .lss (.var 11) (.var 10)), (some 12), none⟩]
def c120_10 : List CO := [⟨(.ia 1 (.var 9) (.var 11)), none, none⟩,
  ⟨(.load false 1 (.loc 0)), none, none⟩,
  ⟨(.mov (.loc 0)), (some 5), none⟩]
def c120_11 : List CO := [⟨(.mov (.var 5)), none, none⟩,
  ⟨(.call true 134 [(.loc 0)]), none, none⟩,
  ⟨(.mov (.loc 0)), (some 6), none⟩]
def c120_12 : List CO := [⟨(.mov (.var 3)), none, none⟩,
  ⟨(.mov (.loc 0)), none, none⟩,
  ⟨(.mov (.var 6)), none, (some ((.loc 0), true))⟩,
  ⟨(.bin .eql (.loc 0) (.k (.int .i64 1))), none, (some ((.loc 1), true))⟩,
  ⟨(.mov (.loc 0)), none, (some ((.loc 2), true))⟩,
  ⟨(.mov (.var 6)), none, (some ((.loc 0), false))⟩,
  ⟨(.bin .eql (.loc 0) (.k (.int .i64 2))), none, (some ((.loc 1), false))⟩,
  ⟨(.pick (.loc 2) (.k (.bool true)) (.loc 0)), none, (some ((.loc 5), true))⟩,
  ⟨(.mov (.loc 0)), none, (some ((.loc 6), true))⟩,
  ⟨(.mov (.var 6)), none, (some ((.loc 0), false))⟩,
  ⟨(.bin .eql (.loc 0) (.k (.int .i64 3))), none, (some ((.loc 1), false))⟩,
  ⟨(.pick (.loc 2) (.k (.bool true)) (.loc 0)), none, (some ((.loc 9), true))⟩,
  ⟨(.pick (.loc 10) (.loc 0) (.k (.bool false))), none, none⟩,
  ⟨(.mov (.loc 0)), (some 3), none⟩]
def c120_13 : List CO := [⟨(.mov (.var 4)), none, none⟩,
  ⟨(.mov (.loc 0)), none, none⟩,
  ⟨(.mov (.var 6)), none, (some ((.loc 0), true))⟩,
  ⟨(.bin .eql (.loc 0) (.k (.int .i64 4))), none, (some ((.loc 1), true))⟩,
  ⟨(.pick (.loc 2) (.loc 0) (.k (.bool false))), none, none⟩,
  ⟨(.mov (.loc 0)), (some 4), none⟩]
def c120_14 : List CO := [⟨(.bin .add (.var 11) (.k (.int .i64 1))), none, none⟩,
  ⟨(.mov (.loc 0)), (some 11), none⟩]
def c120_15 : CC := (.seq (.region [] [] c120_9) (.seq (.cond (.var 12) .skip (.exit 0)) (.seq (.block 1 (.seq (.region [] [] c120_10) (.seq (.region [] [] c120_11) (.seq (.region [] [] c120_12) (.region [] [] c120_13))))) (.region [] [] c120_14))))
def c120_16 : List CO := [⟨(.mov (.var 3)), none, none⟩,
  ⟨(.mov (.loc 0)), none, none⟩,
  ⟨(.mov (.var 4)), none, (some ((.loc 0), false))⟩,
  ⟨(.pick (.loc 1) (.k (.bool true)) (.loc 0)), none, none⟩,
  ⟨(.mov (.loc 0)), (some 1), none⟩]
def c120 : CFun := ⟨1, 13, (.seq (.region [] [] c120_0) (.seq (.seq (.region [] [] c120_1) (.cond (.var 7) (.seq (.region [] [] c120_2) .ret) .skip)) (.seq (.seq (.region [] [] c120_3) (.cond (.var 8) (.seq (.region [] [] c120_4) .ret) .skip)) (.seq (.region [] [] c120_5) (.seq (.region [] [] c120_6) (.seq (.region [] [] c120_7) (.seq (.seq (.region [] [] c120_8) (.block 0 (.loop [false, false, false, true, true, false, false, false, false, true, true, true, false] [] c120_15))) (.seq (.region [] [] c120_16) .ret)))))))), [.var 1]⟩
theorem ok120 : CodeOk Tryd.prog T 120 c120 := ⟨⟨Tryd.f120, Hints.of [] [] [(0, [false, false, false, true, true, false, false, false, false, true, true, true, false], [])], [0, 2, 3, 4, 5, 7, 8, 29, 43, 51, 52, 53, 54], Tryd.func120, by kernel_rfl, by kernel_rfl⟩⟩

/-! spinney/spinneyref02.Runes -/
def c121_0 : List CO := [⟨(.mov (.k (.slice none 0 0))), (some 1), none⟩]
def c121_1 : List CO := [⟨(.mov (.k (.slice none 0 0))), (some 2), none⟩]
def c121_2 : List CO := [⟨(.mov (.var 0)), none, none⟩,
  ⟨(.len .string (.loc 0)), none, none⟩,
  ⟨(.bin .gtr (.loc 0) (.k (.int .i64 0))), (some 5), none⟩]
def c121_3 : List CO := [⟨(.mov (.var 0)), none, none⟩,
  ⟨(.call true 135 [(.loc 0)]), none, none⟩,
  ⟨(.mov (.loc 0)), none, none⟩,
  ⟨(.extract (.loc 0) 0), none, none⟩,
  ⟨(.extract (.loc 1) 1), none, none⟩,
  ⟨(.mov (.loc 1)), (some 3), none⟩,
  ⟨(.mov (.loc 1)), (some 4), none⟩]
def c121_4 : List CO := [⟨(.mov (.var 2)), none, none⟩,
  ⟨(.mov (.var 3)), none, none⟩,
  ⟨(.bslice 1 [(.int .i32 0)] 1 [(0, (.loc 0))]), none, none⟩,
  ⟨(.append 21 1 4 (.loc 2) (.loc 0)), none, none⟩,
  ⟨(.mov (.loc 0)), (some 2), none⟩]
def c121_5 : List CO := [⟨(.mov (.var 0)), none, none⟩,
  ⟨(.mov (.var 4)), none, none⟩,
  ⟨(.sslice (.loc 1) (some (.loc 0)) none), none, none⟩,
  ⟨(.mov (.loc 0)), (some 0), none⟩]
def c121_6 : CC := (.seq (.seq (.region [] [] c121_2) (.cond (.var 5) .skip (.exit 0))) (.block 1 (.seq (.region [] [] c121_3) (.seq (.region [] [] c121_4) (.region [] [] c121_5)))))
def c121_7 : List CO := [⟨(.mov (.var 2)), none, none⟩,
  ⟨(.mov (.loc 0)), (some 1), none⟩]
def c121 : CFun := ⟨1, 6, (.seq (.region [] [] c121_0) (.seq (.region [] [] c121_1) (.seq (.block 0 (.loop [true, false, true, false, false, false] [] c121_6)) (.seq (.region [] [] c121_7) .ret)))), [.var 1]⟩
theorem ok121 : CodeOk Tryd.prog T 121 c121 := ⟨⟨Tryd.f121, Hints.of [] [] [(0, [true, false, true, false, false, false], [])], [0, 2, 3, 4, 5, 8], Tryd.func121, by kernel_rfl, by kernel_rfl⟩⟩

/-! spinney/spinneyref02.hex -/
def c122_0 : List CO := [⟨(.mov (.k (.string ⟨#[]⟩))), (some 1), none⟩]
def c122_1 : List CO := [⟨(.mov (.k (.string ⟨#[48, 49, 50, 51, 52, 53, 54, 55, 56, 57, 97, 98, 99, 100, 101, 102]⟩))), (some 2), none⟩]
def c122_2 : List CO := [⟨(.mov (.var 2)), none, none⟩,
  ⟨(.mov (.var 0)), none, none⟩,
  ⟨(.bin .rem (.loc 0) (.k (.int .i32 16))), none, none⟩,
  ⟨(.mov (.var 0)), none, none⟩,
  ⟨(.bin .rem (.loc 0) (.k (.int .i32 16))), none, none⟩,
  ⟨(.bin .add (.loc 0) (.k (.int .i32 1))), none, none⟩,
  ⟨(.sslice (.loc 5) (some (.loc 3)) (some (.loc 0))), none, none⟩,
  ⟨(.mov (.loc 0)), (some 3), none⟩]
def c122_3 : List CO := [⟨(.mov (.var 0)), none, none⟩,
  ⟨(.bin .lss (.loc 0) (.k (.int .i32 16))), (some 4), none⟩]
def c122_4 : List CO := [⟨(.mov (.var 3)), none, none⟩,
  ⟨(.mov (.loc 0)), (some 1), none⟩]
def c122_5 : List CO := [⟨(.mov (.var 0)), none, none⟩,
  ⟨(.bin .quo (.loc 0) (.k (.int .i32 16))), none, none⟩,
  ⟨(.call true 122 [(.loc 0)]), none, none⟩,
  ⟨(.mov (.var 3)), none, none⟩,
  ⟨(.bin .add (.loc 1) (.loc 0)), none, none⟩,
  ⟨(.mov (.loc 0)), (some 1), none⟩]
def c122 : CFun := ⟨1, 5, (.seq (.region [] [] c122_0) (.seq (.region [] [] c122_1) (.seq (.region [] [] c122_2) (.seq (.seq (.region [] [] c122_3) (.cond (.var 4) (.seq (.region [] [] c122_4) .ret) .skip)) (.seq (.region [] [] c122_5) .ret))))), [.var 1]⟩
theorem ok122 : CodeOk Tryd.prog T 122 c122 := ⟨⟨Tryd.f122, Hints.of [] [] [], [0, 2, 3, 4, 13], Tryd.func122, by kernel_rfl, by kernel_rfl⟩⟩

/-! strings.HasPrefix -/
def c130_0 : List CO := [⟨(.mov (.k (.bool false))), (some 2), none⟩]
def c130_1 : List CO := [⟨(.mov (.var 0)), none, none⟩,
  ⟨(.mov (.var 1)), none, none⟩,
  ⟨(.call true 137 [(.loc 1), (.loc 0)]), none, none⟩,
  ⟨(.mov (.loc 0)), (some 2), none⟩]
def c130 : CFun := ⟨2, 3, (.seq (.region [] [] c130_0) (.seq (.region [] [] c130_1) .ret)), [.var 2]⟩
theorem ok130 : CodeOk Tryd.prog T 130 c130 := ⟨⟨Tryd.f130, Hints.of [] [] [], [0, 1, 4], Tryd.func130, by kernel_rfl, by kernel_rfl⟩⟩

/-! spinney/char.Class -/
def c131_0 : List CO := [⟨(.mov (.k (.int .i64 0))), (some 1), none⟩]
def c131_1 : List CO := [⟨(.mov (.var 0)), (some 2), none⟩]
def c131_2 : List CO := [⟨(.bin .eql (.var 2) (.k (.int .i32 43))), none, none⟩,
  ⟨(.mov (.loc 0)), (some 3), none⟩]
def c131_3 : List CO := [⟨(.bin .eql (.var 2) (.k (.int .i32 45))), none, none⟩,
  ⟨(.mov (.loc 0)), (some 3), none⟩]
def c131_4 : List CO := [⟨(.bin .eql (.var 2) (.k (.int .i32 42))), none, none⟩,
  ⟨(.mov (.loc 0)), (some 3), none⟩]
def c131_5 : List CO := [⟨(.bin .eql (.var 2) (.k (.int .i32 47))), none, none⟩,
  ⟨(.mov (.loc 0)), (some 3), none⟩]
def c131_6 : List CO := [⟨(.bin .eql (.var 2) (.k (.int .i32 92))), none, none⟩,
  ⟨(.mov (.loc 0)), (some 3), none⟩]
def c131_7 : List CO := [⟨(.bin .eql (.var 2) (.k (.int .i32 94))), none, none⟩,
  ⟨(.mov (.loc 0)), (some 3), none⟩]
def c131_8 : List CO := [⟨(.bin .eql (.var 2) (.k (.int .i32 60))), none, none⟩,
  ⟨(.mov (.loc 0)), (some 3), none⟩]
def c131_9 : List CO := [⟨(.bin .eql (.var 2) (.k (.int .i32 62))), none, none⟩,
  ⟨(.mov (.loc 0)), (some 3), none⟩]
def c131_10 : List CO := [⟨(.bin .eql (.var 2) (.k (.int .i32 61))), none, none⟩,
  ⟨(.mov (.loc 0)), (some 3), none⟩]
def c131_11 : List CO := [⟨(.bin .eql (.var 2) (.k (.int .i32 126))), none, none⟩,
  ⟨(.mov (.loc 0)), (some 3), none⟩]
def c131_12 : List CO := [⟨(.bin .eql (.var 2) (.k (.int .i32 58))), none, none⟩,
  ⟨(.mov (.loc 0)), (some 3), none⟩]
def c131_13 : List CO := [⟨(.bin .eql (.var 2) (.k (.int .i32 46))), none, none⟩,
  ⟨(.mov (.loc 0)), (some 3), none⟩]
def c131_14 : List CO := [⟨(.bin .eql (.var 2) (.k (.int .i32 63))), none, none⟩,
  ⟨(.mov (.loc 0)), (some 3), none⟩]
def c131_15 : List CO := [⟨(.bin .eql (.var 2) (.k (.int .i32 64))), none, none⟩,
  ⟨(.mov (.loc 0)), (some 3), none⟩]
def c131_16 : List CO := [⟨(.bin .eql (.var 2) (.k (.int .i32 35))), none, none⟩,
  ⟨(.mov (.loc 0)), (some 3), none⟩]
def c131_17 : List CO := [⟨(.bin .eql (.var 2) (.k (.int .i32 38))), none, none⟩,
  ⟨(.mov (.loc 0)), (some 3), none⟩]
def c131_18 : List CO := [⟨(.bin .eql (.var 2) (.k (.int .i32 36))), none, none⟩,
  ⟨(.mov (.loc 0)), (some 3), none⟩]
def c131_19 : List CO := [⟨(.mov (.k (.int .i64 4))), (some 1), none⟩]
def c131_20 : List CO := [⟨(.bin .eql (.var 2) (.k (.int .i32 9))), none, none⟩,
  ⟨(.mov (.loc 0)), (some 4), none⟩]
def c131_21 : List CO := [⟨(.bin .eql (.var 2) (.k (.int .i32 10))), none, none⟩,
  ⟨(.mov (.loc 0)), (some 4), none⟩]
def c131_22 : List CO := [⟨(.bin .eql (.var 2) (.k (.int .i32 13))), none, none⟩,
  ⟨(.mov (.loc 0)), (some 4), none⟩]
def c131_23 : List CO := [⟨(.bin .eql (.var 2) (.k (.int .i32 32))), none, none⟩,
  ⟨(.mov (.loc 0)), (some 4), none⟩]
def c131_24 : List CO := [⟨(.mov (.k (.int .i64 5))), (some 1), none⟩]
def c131_25 : List CO := [⟨(.bin .eql (.var 2) (.k (.int .i32 33))), none, none⟩,
  ⟨(.mov (.loc 0)), (some 5), none⟩]
def c131_26 : List CO := [⟨(.bin .eql (.var 2) (.k (.int .i32 59))), none, none⟩,
  ⟨(.mov (.loc 0)), (some 5), none⟩]
def c131_27 : List CO := [⟨(.bin .eql (.var 2) (.k (.int .i32 44))), none, none⟩,
  ⟨(.mov (.loc 0)), (some 5), none⟩]
def c131_28 : List CO := [⟨(.bin .eql (.var 2) (.k (.int .i32 124))), none, none⟩,
  ⟨(.mov (.loc 0)), (some 5), none⟩]
def c131_29 : List CO := [⟨(.mov (.k (.int .i64 6))), (some 1), none⟩]
def c131_30 : List CO := [⟨(.bin .eql (.var 2) (.k (.int .i32 40))), none, none⟩,
  ⟨(.mov (.loc 0)), (some 6), none⟩]
def c131_31 : List CO := [⟨(.bin .eql (.var 2) (.k (.int .i32 41))), none, none⟩,
  ⟨(.mov (.loc 0)), (some 6), none⟩]
def c131_32 : List CO := [⟨(.bin .eql (.var 2) (.k (.int .i32 91))), none, none⟩,
  ⟨(.mov (.loc 0)), (some 6), none⟩]
def c131_33 : List CO := [⟨(.bin .eql (.var 2) (.k (.int .i32 93))), none, none⟩,
  ⟨(.mov (.loc 0)), (some 6), none⟩]
def c131_34 : List CO := [⟨(.bin .eql (.var 2) (.k (.int .i32 123))), none, none⟩,
  ⟨(.mov (.loc 0)), (some 6), none⟩]
def c131_35 : List CO := [⟨(.bin .eql (.var 2) (.k (.int .i32 125))), none, none⟩,
  ⟨(.mov (.loc 0)), (some 6), none⟩]
def c131_36 : List CO := [⟨(.mov (.k (.int .i64 7))), (some 1), none⟩]
def c131_37 : List CO := [⟨(.bin .eql (.var 2) (.k (.int .i32 39))), none, none⟩,
  ⟨(.mov (.loc 0)), (some 7), none⟩]
def c131_38 : List CO := [⟨(.mov (.k (.int .i64 8))), (some 1), none⟩]
def c131_39 : List CO := [⟨(.bin .eql (.var 2) (.k (.int .i32 95))), none, none⟩,
  ⟨(.mov (.loc 0)), (some 8), none⟩]
def c131_40 : List CO := [⟨(.mov (.k (.int .i64 2))), (some 1), none⟩]
def c131_41 : List CO := [⟨(.mov (.var 0)), none, none⟩,
  ⟨(.bin .leq (.k (.int .i32 97)) (.loc 0)), none, none⟩,
  ⟨(.mov (.loc 0)), none, none⟩,
  ⟨(.mov (.var 0)), none, (some ((.loc 0), true))⟩,
  ⟨(.bin .leq (.loc 0) (.k (.int .i32 122))), none, (some ((.loc 1), true))⟩,
  ⟨(.pick (.loc 2) (.loc 0) (.k (.bool false))), none, none⟩,
  ⟨(.mov (.loc 0)), (some 9), none⟩]
def c131_42 : List CO := [⟨(.mov (.k (.int .i64 1))), (some 1), none⟩]
def c131_43 : List CO := [⟨(.mov (.var 0)), none, none⟩,
  ⟨(.bin .leq (.k (.int .i32 65)) (.loc 0)), none, none⟩,
  ⟨(.mov (.loc 0)), none, none⟩,
  ⟨(.mov (.var 0)), none, (some ((.loc 0), true))⟩,
  ⟨(.bin .leq (.loc 0) (.k (.int .i32 90))), none, (some ((.loc 1), true))⟩,
  ⟨(.pick (.loc 2) (.loc 0) (.k (.bool false))), none, none⟩,
  ⟨(.mov (.loc 0)), (some 10), none⟩]
def c131_44 : List CO := [⟨(.mov (.k (.int .i64 2))), (some 1), none⟩]
def c131_45 : List CO := [⟨(.mov (.var 0)), none, none⟩,
  ⟨(.bin .leq (.k (.int .i32 48)) (.loc 0)), none, none⟩,
  ⟨(.mov (.loc 0)), none, none⟩,
  ⟨(.mov (.var 0)), none, (some ((.loc 0), true))⟩,
  ⟨(.bin .leq (.loc 0) (.k (.int .i32 57))), none, (some ((.loc 1), true))⟩,
  ⟨(.pick (.loc 2) (.loc 0) (.k (.bool false))), none, none⟩,
  ⟨(.mov (.loc 0)), (some 11), none⟩]
def c131_46 : List CO := [⟨(.mov (.k (.int .i64 3))), (some 1), none⟩]
def c131_47 : List CO := [⟨(.mov (.k (.int .i64 0))), (some 1), none⟩]
def c131 : CFun := ⟨1, 12, (.seq (.region [] [] c131_0) (.seq (.seq (.region [] [] c131_1) (.block 0 (.seq (.seq (.region [] [] c131_2) (.cond (.var 3) .skip (.seq (.region [] [] c131_3) (.cond (.var 3) .skip (.seq (.region [] [] c131_4) (.cond (.var 3) .skip (.seq (.region [] [] c131_5) (.cond (.var 3) .skip (.seq (.region [] [] c131_6) (.cond (.var 3) .skip (.seq (.region [] [] c131_7) (.cond (.var 3) .skip (.seq (.region [] [] c131_8) (.cond (.var 3) .skip (.seq (.region [] [] c131_9) (.cond (.var 3) .skip (.seq (.region [] [] c131_10) (.cond (.var 3) .skip (.seq (.region [] [] c131_11) (.cond (.var 3) .skip (.seq (.region [] [] c131_12) (.cond (.var 3) .skip (.seq (.region [] [] c131_13) (.cond (.var 3) .skip (.seq (.region [] [] c131_14) (.cond (.var 3) .skip (.seq (.region [] [] c131_15) (.cond (.var 3) .skip (.seq (.region [] [] c131_16) (.cond (.var 3) .skip (.seq (.region [] [] c131_17) (.cond (.var 3) .skip (.region [] [] c131_18))))))))))))))))))))))))))))))))) (.cond (.var 3) (.seq (.region [] [] c131_19) .ret) (.seq (.seq (.region [] [] c131_20) (.cond (.var 4) .skip (.seq (.region [] [] c131_21) (.cond (.var 4) .skip (.seq (.region [] [] c131_22) (.cond (.var 4) .skip (.region [] [] c131_23))))))) (.cond (.var 4) (.seq (.region [] [] c131_24) .ret) (.seq (.seq (.region [] [] c131_25) (.cond (.var 5) .skip (.seq (.region [] [] c131_26) (.cond (.var 5) .skip (.seq (.region [] [] c131_27) (.cond (.var 5) .skip (.region [] [] c131_28))))))) (.cond (.var 5) (.seq (.region [] [] c131_29) .ret) (.seq (.seq (.region [] [] c131_30) (.cond (.var 6) .skip (.seq (.region [] [] c131_31) (.cond (.var 6) .skip (.seq (.region [] [] c131_32) (.cond (.var 6) .skip (.seq (.region [] [] c131_33) (.cond (.var 6) .skip (.seq (.region [] [] c131_34) (.cond (.var 6) .skip (.region [] [] c131_35))))))))))) (.cond (.var 6) (.seq (.region [] [] c131_36) .ret) (.seq (.region [] [] c131_37) (.cond (.var 7) (.seq (.region [] [] c131_38) .ret) (.seq (.region [] [] c131_39) (.cond (.var 8) (.seq (.region [] [] c131_40) .ret) .skip)))))))))))))) (.seq (.block 1 (.seq (.region [] [] c131_41) (.cond (.var 9) (.seq (.region [] [] c131_42) .ret) (.seq (.region [] [] c131_43) (.cond (.var 10) (.seq (.region [] [] c131_44) .ret) (.seq (.region [] [] c131_45) (.cond (.var 11) (.seq (.region [] [] c131_46) .ret) .skip))))))) (.seq (.region [] [] c131_47) .ret)))), [.var 1]⟩
theorem ok131 : CodeOk Tryd.prog T 131 c131 := ⟨⟨Tryd.f131, Hints.of [] [] [], [0, 2, 3, 4, 22, 27, 32, 39, 41, 43, 50, 57], Tryd.func131, by kernel_rfl, by kernel_rfl⟩⟩

/-! unicode/utf8.AppendRune -/
def c132_0 : List CO := [⟨(.mov (.k (.slice none 0 0))), (some 2), none⟩]
def c132_1 : List CO := [⟨(.mov (.var 1)), none, none⟩,
  ⟨(.conv .u32 (.loc 0)), none, none⟩,
  ⟨(.bin .leq (.loc 0) (.k (.int .u32 127))), (some 3), none⟩]
def c132_2 : List CO := [⟨(.mov (.var 0)), none, none⟩,
  ⟨(.mov (.var 1)), none, none⟩,
  ⟨(.conv .u8 (.loc 0)), none, none⟩,
  ⟨(.bslice 1 [(.int .u8 0)] 1 [(0, (.loc 0))]), none, none⟩,
  ⟨(.append 5 1 1 (.loc 3) (.loc 0)), none, none⟩,
  ⟨(.mov (.loc 0)), (some 2), none⟩]
def c132_3 : List CO := [⟨(.mov (.var 0)), none, none⟩,
  ⟨(.mov (.var 1)), none, none⟩,
  ⟨(.call false 138 [(.loc 1), (.loc 0)]), none, none⟩,
  ⟨(.mov (.loc 0)), (some 2), none⟩]
def c132 : CFun := ⟨2, 4, (.seq (.region [] [] c132_0) (.seq (.seq (.region [] [] c132_1) (.cond (.var 3) (.seq (.region [] [] c132_2) .ret) .skip)) (.seq (.region [] [] c132_3) .ret))), [.var 2]⟩
theorem ok132 : CodeOk Tryd.prog T 132 c132 := ⟨⟨Tryd.f132, Hints.of [] [] [], [0, 1, 4, 7], Tryd.func132, by kernel_rfl, by kernel_rfl⟩⟩

/-! internal/strconv.FormatInt -/
def c133_0 : List CO := [⟨(.mov (.k (.string ⟨#[]⟩))), (some 2), none⟩]
def c133_1 : List CO := [⟨(.mov (.var 1)), none, none⟩,
  ⟨(.bin .eql (.loc 0) (.k (.int .i64 10))), (some 7), none⟩]
def c133_2 : List CO := [⟨(.mov (.var 0)), none, none⟩,
  ⟨(.bin .leq (.k (.int .i64 0)) (.loc 0)), none, none⟩,
  ⟨(.mov (.loc 0)), none, none⟩,
  ⟨(.mov (.var 0)), none, (some ((.loc 0), true))⟩,
  ⟨(.bin .lss (.loc 0) (.k (.int .i64 100))), none, (some ((.loc 1), true))⟩,
  ⟨(.pick (.loc 2) (.loc 0) (.k (.bool false))), (some 8), none⟩]
def c133_3 : List CO := [⟨(.mov (.var 0)), none, none⟩,
  ⟨(.call true 139 [(.loc 0)]), none, none⟩,
  ⟨(.mov (.loc 0)), (some 2), none⟩]
def c133_4 : List CO := [⟨(.box 191 (.k (.agg #[(.int .u8 0), (.int .u8 0), (.int .u8 0), (.int .u8 0), (.int .u8 0), (.int .u8 0), (.int .u8 0), (.int .u8 0), (.int .u8 0), (.int .u8 0), (.int .u8 0), (.int .u8 0), (.int .u8 0), (.int .u8 0), (.int .u8 0), (.int .u8 0), (.int .u8 0), (.int .u8 0), (.int .u8 0), (.int .u8 0), (.int .u8 0), (.int .u8 0), (.int .u8 0), (.int .u8 0)]))), (some 3), none⟩]
def c133_5 : List CO := [⟨(.mov (.var 0)), none, none⟩,
  ⟨(.conv .u64 (.loc 0)), none, none⟩,
  ⟨(.mov (.loc 0)), (some 4), none⟩]
def c133_6 : List CO := [⟨(.mov (.var 0)), none, none⟩,
  ⟨(.bin .lss (.loc 0) (.k (.int .i64 0))), (some 9), none⟩]
def c133_7 : List CO := [⟨(.mov (.var 4)), none, none⟩,
  ⟨(.un .neg (.loc 0)), none, none⟩,
  ⟨(.mov (.loc 0)), (some 4), none⟩]
def c133_8 : List CO := [⟨(.mov (.var 4)), none, none⟩,
  ⟨(.call true 140 [(.loc 0)]), none, none⟩,
  ⟨(.mov (.loc 0)), (some 5), none⟩]
def c133_9 : List CO := [⟨(.mov (.var 5)), none, none⟩,
  ⟨(.bin .add (.k (.int .i64 1)) (.loc 0)), none, none⟩,
  ⟨(.aslice 24 1 (.var 3) (some (.k (.int .i64 1))) (some (.loc 0))), none, none⟩,
  ⟨(.mov (.var 4)), none, none⟩,
  ⟨(.call true 141 [(.loc 1), (.loc 0)]), none, none⟩]
def c133_10 : List CO := [⟨(.mov (.var 0)), none, none⟩,
  ⟨(.bin .lss (.loc 0) (.k (.int .i64 0))), (some 10), none⟩]
def c133_11 : List CO := [⟨(.iaa 24 1 (.var 3) (.k (.int .i64 0))), none, none⟩,
  ⟨(.store 1 (.loc 0) (.k (.int .u8 45))), none, none⟩]
def c133_12 : List CO := [⟨(.mov (.var 5)), none, none⟩,
  ⟨(.bin .add (.k (.int .i64 1)) (.loc 0)), none, none⟩,
  ⟨(.aslice 24 1 (.var 3) none (some (.loc 0))), none, none⟩,
  ⟨(.bstr (.loc 0)), none, none⟩,
  ⟨(.mov (.loc 0)), (some 2), none⟩]
def c133_13 : List CO := [⟨(.mov (.var 5)), none, none⟩,
  ⟨(.bin .add (.k (.int .i64 1)) (.loc 0)), none, none⟩,
  ⟨(.aslice 24 1 (.var 3) (some (.k (.int .i64 1))) (some (.loc 0))), none, none⟩,
  ⟨(.bstr (.loc 0)), none, none⟩,
  ⟨(.mov (.loc 0)), (some 2), none⟩]
def c133_14 : List CO := [⟨(.mov (.var 0)), none, none⟩,
  ⟨(.conv .u64 (.loc 0)), none, none⟩,
  ⟨(.mov (.var 1)), none, none⟩,
  ⟨(.mov (.var 0)), none, none⟩,
  ⟨(.bin .lss (.loc 0) (.k (.int .i64 0))), none, none⟩,
  ⟨(.call true 142 [(.k (.slice none 0 0)), (.loc 3), (.loc 2), (.loc 0), (.k (.bool false))]), none, none⟩,
  ⟨(.mov (.loc 0)), none, none⟩,
  ⟨(.extract (.loc 0) 0), none, none⟩,
  ⟨(.extract (.loc 1) 1), none, none⟩,
  ⟨(.mov (.loc 1)), none, none⟩,
  ⟨(.mov (.loc 1)), (some 6), none⟩]
def c133_15 : List CO := [⟨(.mov (.var 6)), none, none⟩,
  ⟨(.mov (.loc 0)), (some 2), none⟩]
def c133 : CFun := ⟨2, 11, (.seq (.region [] [] c133_0) (.seq (.seq (.region [] [] c133_1) (.cond (.var 7) (.seq (.seq (.region [] [] c133_2) (.cond (.var 8) (.seq (.region [] [] c133_3) .ret) .skip)) (.seq (.region [] [] c133_4) (.seq (.region [] [] c133_5) (.seq (.seq (.region [] [] c133_6) (.cond (.var 9) (.region [] [] c133_7) .skip)) (.seq (.region [] [] c133_8) (.seq (.region [] [] c133_9) (.seq (.seq (.region [] [] c133_10) (.cond (.var 10) (.seq (.region [] [] c133_11) (.seq (.region [] [] c133_12) .ret)) .skip)) (.seq (.region [] [] c133_13) .ret)))))))) .skip)) (.seq (.region [] [] c133_14) (.seq (.region [] [] c133_15) .ret)))), [.var 2]⟩
theorem ok133 : CodeOk Tryd.prog T 133 c133 := ⟨⟨Tryd.f133, Hints.of [] [] [], [0, 1, 4, 5, 6, 7, 9, 11, 17, 23, 34], Tryd.func133, by kernel_rfl, by kernel_rfl⟩⟩

/-! spinney/spinneyref02.Class -/
def c134_0 : List CO := [⟨(.mov (.k (.int .i64 0))), (some 1), none⟩]
def c134_1 : List CO := [⟨(.mov (.var 0)), none, none⟩,
  ⟨(.bin .geq (.loc 0) (.k (.int .i32 97))), none, none⟩,
  ⟨(.mov (.loc 0)), none, none⟩,
  ⟨(.mov (.var 0)), none, (some ((.loc 0), true))⟩,
  ⟨(.bin .leq (.loc 0) (.k (.int .i32 122))), none, (some ((.loc 1), true))⟩,
  ⟨(.pick (.loc 2) (.loc 0) (.k (.bool false))), none, none⟩,
  ⟨(.mov (.loc 0)), (some 2), none⟩]
def c134_2 : List CO := [⟨(.mov (.k (.int .i64 1))), (some 1), none⟩]
def c134_3 : List CO := [⟨(.mov (.var 0)), none, none⟩,
  ⟨(.bin .geq (.loc 0) (.k (.int .i32 65))), none, none⟩,
  ⟨(.mov (.loc 0)), none, none⟩,
  ⟨(.mov (.var 0)), none, (some ((.loc 0), true))⟩,
  ⟨(.bin .leq (.loc 0) (.k (.int .i32 90))), none, (some ((.loc 1), true))⟩,
  ⟨(.pick (.loc 2) (.loc 0) (.k (.bool false))), none, none⟩,
  ⟨(.mov (.loc 0)), none, none⟩,
  ⟨(.mov (.var 0)), none, (some ((.loc 0), false))⟩,
  ⟨(.bin .eql (.loc 0) (.k (.int .i32 95))), none, (some ((.loc 1), false))⟩,
  ⟨(.pick (.loc 2) (.k (.bool true)) (.loc 0)), none, none⟩,
  ⟨(.mov (.loc 0)), (some 3), none⟩]
def c134_4 : List CO := [⟨(.mov (.k (.int .i64 2))), (some 1), none⟩]
def c134_5 : List CO := [⟨(.mov (.var 0)), none, none⟩,
  ⟨(.bin .geq (.loc 0) (.k (.int .i32 48))), none, none⟩,
  ⟨(.mov (.loc 0)), none, none⟩,
  ⟨(.mov (.var 0)), none, (some ((.loc 0), true))⟩,
  ⟨(.bin .leq (.loc 0) (.k (.int .i32 57))), none, (some ((.loc 1), true))⟩,
  ⟨(.pick (.loc 2) (.loc 0) (.k (.bool false))), none, none⟩,
  ⟨(.mov (.loc 0)), (some 4), none⟩]
def c134_6 : List CO := [⟨(.mov (.k (.int .i64 3))), (some 1), none⟩]
def c134_7 : List CO := [⟨(.mov (.var 0)), none, none⟩,
  ⟨(.call true 143 [(.loc 0), (.k (.string ⟨#[43, 45, 42, 47, 92, 94, 60, 62, 61, 126, 58, 46, 63, 64, 35, 38, 36]⟩))]), none, none⟩,
  ⟨(.mov (.loc 0)), (some 5), none⟩]
def c134_8 : List CO := [⟨(.mov (.k (.int .i64 4))), (some 1), none⟩]
def c134_9 : List CO := [⟨(.mov (.var 0)), none, none⟩,
  ⟨(.bin .eql (.loc 0) (.k (.int .i32 9))), none, none⟩,
  ⟨(.mov (.loc 0)), none, none⟩,
  ⟨(.mov (.var 0)), none, (some ((.loc 0), false))⟩,
  ⟨(.bin .eql (.loc 0) (.k (.int .i32 10))), none, (some ((.loc 1), false))⟩,
  ⟨(.pick (.loc 2) (.k (.bool true)) (.loc 0)), none, none⟩,
  ⟨(.mov (.loc 0)), none, none⟩,
  ⟨(.mov (.var 0)), none, (some ((.loc 0), false))⟩,
  ⟨(.bin .eql (.loc 0) (.k (.int .i32 13))), none, (some ((.loc 1), false))⟩,
  ⟨(.pick (.loc 2) (.k (.bool true)) (.loc 0)), none, none⟩,
  ⟨(.mov (.loc 0)), none, none⟩,
  ⟨(.mov (.var 0)), none, (some ((.loc 0), false))⟩,
  ⟨(.bin .eql (.loc 0) (.k (.int .i32 32))), none, (some ((.loc 1), false))⟩,
  ⟨(.pick (.loc 2) (.k (.bool true)) (.loc 0)), none, none⟩,
  ⟨(.mov (.loc 0)), (some 6), none⟩]
def c134_10 : List CO := [⟨(.mov (.k (.int .i64 5))), (some 1), none⟩]
def c134_11 : List CO := [⟨(.mov (.var 0)), none, none⟩,
  ⟨(.call true 143 [(.loc 0), (.k (.string ⟨#[33, 59, 44, 124]⟩))]), none, none⟩,
  ⟨(.mov (.loc 0)), (some 7), none⟩]
def c134_12 : List CO := [⟨(.mov (.k (.int .i64 6))), (some 1), none⟩]
def c134_13 : List CO := [⟨(.mov (.var 0)), none, none⟩,
  ⟨(.call true 143 [(.loc 0), (.k (.string ⟨#[40, 41, 91, 93, 123, 125]⟩))]), none, none⟩,
  ⟨(.mov (.loc 0)), (some 8), none⟩]
def c134_14 : List CO := [⟨(.mov (.k (.int .i64 7))), (some 1), none⟩]
def c134_15 : List CO := [⟨(.mov (.var 0)), none, none⟩,
  ⟨(.bin .eql (.loc 0) (.k (.int .i32 39))), none, none⟩,
  ⟨(.mov (.loc 0)), (some 9), none⟩]
def c134_16 : List CO := [⟨(.mov (.k (.int .i64 8))), (some 1), none⟩]
def c134_17 : List CO := [⟨(.mov (.k (.int .i64 0))), (some 1), none⟩]
def c134 : CFun := ⟨1, 10, (.seq (.region [] [] c134_0) (.seq (.block 0 (.seq (.region [] [] c134_1) (.cond (.var 2) (.seq (.region [] [] c134_2) .ret) (.seq (.region [] [] c134_3) (.cond (.var 3) (.seq (.region [] [] c134_4) .ret) (.seq (.region [] [] c134_5) (.cond (.var 4) (.seq (.region [] [] c134_6) .ret) (.seq (.region [] [] c134_7) (.cond (.var 5) (.seq (.region [] [] c134_8) .ret) (.seq (.region [] [] c134_9) (.cond (.var 6) (.seq (.region [] [] c134_10) .ret) (.seq (.region [] [] c134_11) (.cond (.var 7) (.seq (.region [] [] c134_12) .ret) (.seq (.region [] [] c134_13) (.cond (.var 8) (.seq (.region [] [] c134_14) .ret) (.seq (.region [] [] c134_15) (.cond (.var 9) (.seq (.region [] [] c134_16) .ret) .skip))))))))))))))))) (.seq (.region [] [] c134_17) .ret))), [.var 1]⟩
theorem ok134 : CodeOk Tryd.prog T 134 c134 := ⟨⟨Tryd.f134, Hints.of [] [] [], [0, 2, 3, 10, 21, 28, 31, 46, 49, 52], Tryd.func134, by kernel_rfl, by kernel_rfl⟩⟩

/-! internal/stringslite.HasPrefix -/
def c137_0 : List CO := [⟨(.mov (.k (.bool false))), (some 2), none⟩]
def c137_1 : List CO := [⟨(.mov (.var 0)), none, none⟩,
  ⟨(.len .string (.loc 0)), none, none⟩,
  ⟨(.mov (.var 1)), none, none⟩,
  ⟨(.len .string (.loc 0)), none, none⟩,
  ⟨(.bin .geq (.loc 2) (.loc 0)), none, none⟩,
  ⟨(.mov (.loc 0)), none, none⟩,
  ⟨(.mov (.var 0)), none, (some ((.loc 0), true))⟩,
  ⟨(.mov (.var 1)), none, (some ((.loc 1), true))⟩,
  ⟨(.len .string (.loc 0)), none, (some ((.loc 2), true))⟩,
  ⟨(.sslice (.loc 2) none (some (.loc 0))), none, (some ((.loc 3), true))⟩,
  ⟨(.mov (.var 1)), none, (some ((.loc 4), true))⟩,
  ⟨(.bin .eql (.loc 1) (.loc 0)), none, (some ((.loc 5), true))⟩,
  ⟨(.pick (.loc 6) (.loc 0) (.k (.bool false))), none, none⟩,
  ⟨(.mov (.loc 0)), (some 2), none⟩]
def c137 : CFun := ⟨2, 3, (.seq (.region [] [] c137_0) (.seq (.region [] [] c137_1) .ret)), [.var 2]⟩
theorem ok137 : CodeOk Tryd.prog T 137 c137 := ⟨⟨Tryd.f137, Hints.of [] [] [], [0, 1, 4], Tryd.func137, by kernel_rfl, by kernel_rfl⟩⟩

/-! unicode/utf8.appendRuneNonASCII -/
def c138_0 : List CO := [⟨(.mov (.k (.slice none 0 0))), (some 2), none⟩]
def c138_1 : List CO := [⟨(.mov (.var 1)), none, none⟩,
  ⟨(.conv .u32 (.loc 0)), none, none⟩,
  ⟨(.mov (.loc 0)), (some 3), none⟩]
def c138_2 : List CO := [⟨(.mov (.var 3)), none, none⟩,
  ⟨(.bin .leq (.loc 0) (.k (.int .u32 2047))), none, none⟩,
  ⟨(.mov (.loc 0)), (some 4), none⟩]
def c138_3 : List CO := [⟨(.mov (.var 0)), none, none⟩,
  ⟨(.mov (.var 1)), none, none⟩,
  ⟨(.shf false (.loc 0) (.k (.int .u64 6))), none, none⟩,
  ⟨(.conv .u8 (.loc 0)), none, none⟩,
  ⟨(.bin .or (.k (.int .u8 192)) (.loc 0)), none, none⟩,
  ⟨(.mov (.var 1)), none, none⟩,
  ⟨(.conv .u8 (.loc 0)), none, none⟩,
  ⟨(.bin .and (.loc 0) (.k (.int .u8 63))), none, none⟩,
  ⟨(.bin .or (.k (.int .u8 128)) (.loc 0)), none, none⟩,
  ⟨(.bslice 1 [(.int .u8 0)] 2 [(0, (.loc 4)), (1, (.loc 0))]), none, none⟩,
  ⟨(.append 5 1 1 (.loc 9) (.loc 0)), none, none⟩,
  ⟨(.mov (.loc 0)), (some 2), none⟩]
def c138_4 : List CO := [⟨(.mov (.var 3)), none, none⟩,
  ⟨(.bin .lss (.loc 0) (.k (.int .u32 55296))), none, none⟩,
  ⟨(.mov (.loc 0)), (some 5), none⟩]
def c138_5 : List CO := [⟨(.mov (.var 3)), none, none⟩,
  ⟨(.bin .lss (.k (.int .u32 57343)) (.loc 0)), none, none⟩,
  ⟨(.mov (.loc 0)), none, none⟩,
  ⟨(.mov (.var 3)), none, (some ((.loc 0), true))⟩,
  ⟨(.bin .leq (.loc 0) (.k (.int .u32 65535))), none, (some ((.loc 1), true))⟩,
  ⟨(.pick (.loc 2) (.loc 0) (.k (.bool false))), none, none⟩,
  ⟨(.mov (.loc 0)), (some 5), none⟩]
def c138_6 : List CO := [⟨(.mov (.var 0)), none, none⟩,
  ⟨(.mov (.var 1)), none, none⟩,
  ⟨(.shf false (.loc 0) (.k (.int .u64 12))), none, none⟩,
  ⟨(.conv .u8 (.loc 0)), none, none⟩,
  ⟨(.bin .or (.k (.int .u8 224)) (.loc 0)), none, none⟩,
  ⟨(.mov (.var 1)), none, none⟩,
  ⟨(.shf false (.loc 0) (.k (.int .u64 6))), none, none⟩,
  ⟨(.conv .u8 (.loc 0)), none, none⟩,
  ⟨(.bin .and (.loc 0) (.k (.int .u8 63))), none, none⟩,
  ⟨(.bin .or (.k (.int .u8 128)) (.loc 0)), none, none⟩,
  ⟨(.mov (.var 1)), none, none⟩,
  ⟨(.conv .u8 (.loc 0)), none, none⟩,
  ⟨(.bin .and (.loc 0) (.k (.int .u8 63))), none, none⟩,
  ⟨(.bin .or (.k (.int .u8 128)) (.loc 0)), none, none⟩,
  ⟨(.bslice 1 [(.int .u8 0)] 3 [(0, (.loc 9)), (1, (.loc 4)), (2, (.loc 0))]), none, none⟩,
  ⟨(.append 5 1 1 (.loc 14) (.loc 0)), none, none⟩,
  ⟨(.mov (.loc 0)), (some 2), none⟩]
def c138_7 : List CO := [⟨(.mov (.var 3)), none, none⟩,
  ⟨(.bin .gtr (.loc 0) (.k (.int .u32 65535))), none, none⟩,
  ⟨(.mov (.loc 0)), none, none⟩,
  ⟨(.mov (.var 3)), none, (some ((.loc 0), true))⟩,
  ⟨(.bin .leq (.loc 0) (.k (.int .u32 1114111))), none, (some ((.loc 1), true))⟩,
  ⟨(.pick (.loc 2) (.loc 0) (.k (.bool false))), none, none⟩,
  ⟨(.mov (.loc 0)), (some 6), none⟩]
def c138_8 : List CO := [⟨(.mov (.var 0)), none, none⟩,
  ⟨(.mov (.var 1)), none, none⟩,
  ⟨(.shf false (.loc 0) (.k (.int .u64 18))), none, none⟩,
  ⟨(.conv .u8 (.loc 0)), none, none⟩,
  ⟨(.bin .or (.k (.int .u8 240)) (.loc 0)), none, none⟩,
  ⟨(.mov (.var 1)), none, none⟩,
  ⟨(.shf false (.loc 0) (.k (.int .u64 12))), none, none⟩,
  ⟨(.conv .u8 (.loc 0)), none, none⟩,
  ⟨(.bin .and (.loc 0) (.k (.int .u8 63))), none, none⟩,
  ⟨(.bin .or (.k (.int .u8 128)) (.loc 0)), none, none⟩,
  ⟨(.mov (.var 1)), none, none⟩,
  ⟨(.shf false (.loc 0) (.k (.int .u64 6))), none, none⟩,
  ⟨(.conv .u8 (.loc 0)), none, none⟩,
  ⟨(.bin .and (.loc 0) (.k (.int .u8 63))), none, none⟩,
  ⟨(.bin .or (.k (.int .u8 128)) (.loc 0)), none, none⟩,
  ⟨(.mov (.var 1)), none, none⟩,
  ⟨(.conv .u8 (.loc 0)), none, none⟩,
  ⟨(.bin .and (.loc 0) (.k (.int .u8 63))), none, none⟩,
  ⟨(.bin .or (.k (.int .u8 128)) (.loc 0)), none, none⟩,
  ⟨(.bslice 1 [(.int .u8 0)] 4 [(0, (.loc 14)), (1, (.loc 9)), (2, (.loc 4)), (3, (.loc 0))]), none, none⟩,
  ⟨(.append 5 1 1 (.loc 19) (.loc 0)), none, none⟩,
  ⟨(.mov (.loc 0)), (some 2), none⟩]
def c138_9 : List CO := [⟨(.mov (.var 0)), none, none⟩,
  ⟨(.bslice 1 [(.int .u8 0)] 3 [(0, (.k (.int .u8 239))), (1, (.k (.int .u8 191))), (2, (.k (.int .u8 189)))]), none, none⟩,
  ⟨(.append 5 1 1 (.loc 1) (.loc 0)), none, none⟩,
  ⟨(.mov (.loc 0)), (some 2), none⟩]
def c138 : CFun := ⟨2, 7, (.seq (.region [] [] c138_0) (.seq (.region [] [] c138_1) (.block 0 (.seq (.region [] [] c138_2) (.cond (.var 4) (.seq (.region [] [] c138_3) .ret) (.seq (.seq (.region [] [] c138_4) (.cond (.var 5) .skip (.region [] [] c138_5))) (.cond (.var 5) (.seq (.region [] [] c138_6) .ret) (.seq (.region [] [] c138_7) (.cond (.var 6) (.seq (.region [] [] c138_8) .ret) (.seq (.region [] [] c138_9) .ret)))))))))), [.var 2]⟩
theorem ok138 : CodeOk Tryd.prog T 138 c138 := ⟨⟨Tryd.f138, Hints.of [] [] [], [0, 1, 4, 5, 11, 25, 50], Tryd.func138, by kernel_rfl, by kernel_rfl⟩⟩

/-! internal/strconv.formatBits -/
def c142_0 : List CO := [⟨(.mov (.k (.slice none 0 0))), (some 5), none⟩,
  ⟨(.mov (.k (.string ⟨#[]⟩))), (some 6), none⟩]
def c142_1 : List CO := [⟨(.mov (.var 2)), none, none⟩,
  ⟨(.bin .lss (.loc 0) (.k (.int .i64 2))), none, none⟩,
  ⟨(.mov (.loc 0)), none, none⟩,
  ⟨(.mov (.var 2)), none, (some ((.loc 0), false))⟩,
  ⟨(.bin .eql (.loc 0) (.k (.int .i64 10))), none, (some ((.loc 1), false))⟩,
  ⟨(.pick (.loc 2) (.k (.bool true)) (.loc 0)), none, none⟩,
  ⟨(.mov (.loc 0)), none, none⟩,
  ⟨(.mov (.var 2)), none, (some ((.loc 0), false))⟩,
  ⟨(.bin .gtr (.loc 0) (.k (.int .i64 36))), none, (some ((.loc 1), false))⟩,
  ⟨(.pick (.loc 2) (.k (.bool true)) (.loc 0)), (some 14), none⟩]
def c142_2 : List CO := [⟨.bad, none, none⟩,
  ⟨.bad, none, none⟩]
def c142_3 : List CO := [⟨(.box 201 (.k (.agg #[(.int .u8 0), (.int .u8 0), (.int .u8 0), (.int .u8 0), (.int .u8 0), (.int .u8 0), (.int .u8 0), (.int .u8 0), (.int .u8 0), (.int .u8 0), (.int .u8 0), (.int .u8 0), (.int .u8 0), (.int .u8 0), (.int .u8 0), (.int .u8 0), (.int .u8 0), (.int .u8 0), (.int .u8 0), (.int .u8 0), (.int .u8 0), (.int .u8 0), (.int .u8 0), (.int .u8 0), (.int .u8 0), (.int .u8 0), (.int .u8 0), (.int .u8 0), (.int .u8 0), (.int .u8 0), (.int .u8 0), (.int .u8 0), (.int .u8 0), (.int .u8 0), (.int .u8 0), (.int .u8 0), (.int .u8 0), (.int .u8 0), (.int .u8 0), (.int .u8 0), (.int .u8 0), (.int .u8 0), (.int .u8 0), (.int .u8 0), (.int .u8 0), (.int .u8 0), (.int .u8 0), (.int .u8 0), (.int .u8 0), (.int .u8 0), (.int .u8 0), (.int .u8 0), (.int .u8 0), (.int .u8 0), (.int .u8 0), (.int .u8 0), (.int .u8 0), (.int .u8 0), (.int .u8 0), (.int .u8 0), (.int .u8 0), (.int .u8 0), (.int .u8 0), (.int .u8 0), (.int .u8 0)]))), (some 7), none⟩]
def c142_4 : List CO := [⟨(.mov (.k (.int .i64 65))), (some 8), none⟩]
def c142_5 : List CO := [⟨(.mov (.var 3)), (some 15), none⟩]
def c142_6 : List CO := [⟨(.mov (.var 1)), none, none⟩,
  ⟨(.un .neg (.loc 0)), none, none⟩,
  ⟨(.mov (.loc 0)), (some 1), none⟩]
def c142_7 : List CO := [⟨(.mov (.var 2)), none, none⟩,
  ⟨(.call true 149 [(.loc 0)]), (some 16), none⟩]
def c142_8 : List CO := [⟨(.mov (.var 2)), none, none⟩,
  ⟨(.conv .u64 (.loc 0)), none, none⟩,
  ⟨(.call true 150 [(.loc 0)]), none, none⟩,
  ⟨(.conv .u64 (.loc 0)), none, none⟩,
  ⟨(.mov (.loc 0)), (some 9), none⟩]
def c142_9 : List CO := [⟨(.mov (.var 2)), none, none⟩,
  ⟨(.conv .u64 (.loc 0)), none, none⟩,
  ⟨(.mov (.loc 0)), (some 10), none⟩]
def c142_10 : List CO := [⟨(.mov (.var 2)), none, none⟩,
  ⟨(.conv .u64 (.loc 0)), none, none⟩,
  ⟨(.bin .sub (.loc 0) (.k (.int .u64 1))), none, none⟩,
  ⟨(.mov (.loc 0)), (some 11), none⟩]
def c142_11 : List CO := [⟨(.mov (.var 1)), none, none⟩,
  ⟨(.mov (.var 10)), none, none⟩,
  ⟨(.bin .geq (.loc 1) (.loc 0)), (some 17), none⟩]
def c142_12 : List CO := [⟨(.mov (.var 8)), none, none⟩,
  ⟨(.bin .sub (.loc 0) (.k (.int .i64 1))), none, none⟩,
  ⟨(.mov (.loc 0)), (some 8), none⟩]
def c142_13 : List CO := [⟨(.mov (.var 8)), none, none⟩,
  ⟨(.mov (.var 1)), none, none⟩,
  ⟨(.mov (.var 11)), none, none⟩,
  ⟨(.bin .and (.loc 1) (.loc 0)), none, none⟩,
  ⟨(.ixs (.k (.string ⟨#[48, 49, 50, 51, 52, 53, 54, 55, 56, 57, 97, 98, 99, 100, 101, 102, 103, 104, 105, 106, 107, 108, 109, 110, 111, 112, 113, 114, 115, 116, 117, 118, 119, 120, 121, 122]⟩)) (.loc 0)), none, none⟩,
  ⟨(.iaa 65 1 (.var 7) (.loc 4)), none, none⟩,
  ⟨(.store 1 (.loc 0) (.loc 1)), none, none⟩]
def c142_14 : List CO := [⟨(.mov (.var 1)), none, none⟩,
  ⟨(.mov (.var 9)), none, none⟩,
  ⟨(.shf false (.loc 1) (.loc 0)), none, none⟩,
  ⟨(.mov (.loc 0)), (some 1), none⟩]
def c142_15 : CC := (.seq (.seq (.region [] [] c142_11) (.cond (.var 17) .skip (.exit 0))) (.block 1 (.seq (.region [] [] c142_12) (.seq (.region [] [] c142_13) (.region [] [] c142_14)))))
def c142_16 : List CO := [⟨(.mov (.var 8)), none, none⟩,
  ⟨(.bin .sub (.loc 0) (.k (.int .i64 1))), none, none⟩,
  ⟨(.mov (.loc 0)), (some 8), none⟩]
def c142_17 : List CO := [⟨(.mov (.var 8)), none, none⟩,
  ⟨(.mov (.var 1)), none, none⟩,
  ⟨(.ixs (.k (.string ⟨#[48, 49, 50, 51, 52, 53, 54, 55, 56, 57, 97, 98, 99, 100, 101, 102, 103, 104, 105, 106, 107, 108, 109, 110, 111, 112, 113, 114, 115, 116, 117, 118, 119, 120, 121, 122]⟩)) (.loc 0)), none, none⟩,
  ⟨(.iaa 65 1 (.var 7) (.loc 2)), none, none⟩,
  ⟨(.store 1 (.loc 0) (.loc 1)), none, none⟩]
def c142_18 : List CO := [⟨(.mov (.var 2)), none, none⟩,
  ⟨(.conv .u64 (.loc 0)), none, none⟩,
  ⟨(.mov (.loc 0)), (some 12), none⟩]
def c142_19 : List CO := [⟨(.mov (.var 1)), none, none⟩,
  ⟨(.mov (.var 12)), none, none⟩,
  ⟨(.bin .geq (.loc 1) (.loc 0)), (some 18), none⟩]
def c142_20 : List CO := [⟨(.mov (.var 8)), none, none⟩,
  ⟨(.bin .sub (.loc 0) (.k (.int .i64 1))), none, none⟩,
  ⟨(.mov (.loc 0)), (some 8), none⟩]
def c142_21 : List CO := [⟨(.mov (.var 1)), none, none⟩,
  ⟨(.mov (.var 12)), none, none⟩,
  ⟨(.bin .quo (.loc 1) (.loc 0)), none, none⟩,
  ⟨(.mov (.loc 0)), (some 13), none⟩]
def c142_22 : List CO := [⟨(.mov (.var 8)), none, none⟩,
  ⟨(.mov (.var 1)), none, none⟩,
  ⟨(.mov (.var 13)), none, none⟩,
  ⟨(.mov (.var 12)), none, none⟩,
  ⟨(.bin .mul (.loc 1) (.loc 0)), none, none⟩,
  ⟨(.bin .sub (.loc 3) (.loc 0)), none, none⟩,
  ⟨(.ixs (.k (.string ⟨#[48, 49, 50, 51, 52, 53, 54, 55, 56, 57, 97, 98, 99, 100, 101, 102, 103, 104, 105, 106, 107, 108, 109, 110, 111, 112, 113, 114, 115, 116, 117, 118, 119, 120, 121, 122]⟩)) (.loc 0)), none, none⟩,
  ⟨(.iaa 65 1 (.var 7) (.loc 6)), none, none⟩,
  ⟨(.store 1 (.loc 0) (.loc 1)), none, none⟩]
def c142_23 : List CO := [⟨(.mov (.var 13)), none, none⟩,
  ⟨(.mov (.loc 0)), (some 1), none⟩]
def c142_24 : CC := (.seq (.seq (.region [] [] c142_19) (.cond (.var 18) .skip (.exit 2))) (.block 3 (.seq (.region [] [] c142_20) (.seq (.region [] [] c142_21) (.seq (.region [] [] c142_22) (.region [] [] c142_23))))))
def c142_25 : List CO := [⟨(.mov (.var 8)), none, none⟩,
  ⟨(.bin .sub (.loc 0) (.k (.int .i64 1))), none, none⟩,
  ⟨(.mov (.loc 0)), (some 8), none⟩]
def c142_26 : List CO := [⟨(.mov (.var 8)), none, none⟩,
  ⟨(.mov (.var 1)), none, none⟩,
  ⟨(.ixs (.k (.string ⟨#[48, 49, 50, 51, 52, 53, 54, 55, 56, 57, 97, 98, 99, 100, 101, 102, 103, 104, 105, 106, 107, 108, 109, 110, 111, 112, 113, 114, 115, 116, 117, 118, 119, 120, 121, 122]⟩)) (.loc 0)), none, none⟩,
  ⟨(.iaa 65 1 (.var 7) (.loc 2)), none, none⟩,
  ⟨(.store 1 (.loc 0) (.loc 1)), none, none⟩]
def c142_27 : List CO := [⟨(.mov (.var 3)), (some 19), none⟩]
def c142_28 : List CO := [⟨(.mov (.var 8)), none, none⟩,
  ⟨(.bin .sub (.loc 0) (.k (.int .i64 1))), none, none⟩,
  ⟨(.mov (.loc 0)), (some 8), none⟩]
def c142_29 : List CO := [⟨(.mov (.var 8)), none, none⟩,
  ⟨(.iaa 65 1 (.var 7) (.loc 0)), none, none⟩,
  ⟨(.store 1 (.loc 0) (.k (.int .u8 45))), none, none⟩]
def c142_30 : List CO := [⟨(.mov (.var 4)), (some 20), none⟩]
def c142_31 : List CO := [⟨(.mov (.var 0)), none, none⟩,
  ⟨(.mov (.var 8)), none, none⟩,
  ⟨(.aslice 65 1 (.var 7) (some (.loc 0)) none), none, none⟩,
  ⟨(.append 5 1 1 (.loc 2) (.loc 0)), none, none⟩,
  ⟨(.mov (.loc 0)), (some 5), none⟩]
def c142_32 : List CO := [⟨(.mov (.var 8)), none, none⟩,
  ⟨(.aslice 65 1 (.var 7) (some (.loc 0)) none), none, none⟩,
  ⟨(.bstr (.loc 0)), none, none⟩,
  ⟨(.mov (.loc 0)), (some 6), none⟩]
def c142 : CFun := ⟨5, 21, (.seq (.region [] [] c142_0) (.seq (.seq (.region [] [] c142_1) (.cond (.var 14) (.region [] [] c142_2) .skip)) (.seq (.region [] [] c142_3) (.seq (.region [] [] c142_4) (.seq (.seq (.region [] [] c142_5) (.cond (.var 15) (.region [] [] c142_6) .skip)) (.seq (.seq (.region [] [] c142_7) (.cond (.var 16) (.seq (.region [] [] c142_8) (.seq (.region [] [] c142_9) (.seq (.region [] [] c142_10) (.seq (.block 0 (.loop [true, true, false, true, true, true, true, true, true, true, true, true, false, false, false, false, false, false, false, false, false] [] c142_15)) (.seq (.region [] [] c142_16) (.region [] [] c142_17)))))) (.seq (.region [] [] c142_18) (.seq (.block 2 (.loop [true, true, false, true, true, true, true, true, true, false, false, false, true, false, false, false, false, false, false, false, false] [] c142_24)) (.seq (.region [] [] c142_25) (.region [] [] c142_26)))))) (.seq (.seq (.region [] [] c142_27) (.cond (.var 19) (.seq (.region [] [] c142_28) (.region [] [] c142_29)) .skip)) (.seq (.seq (.region [] [] c142_30) (.cond (.var 20) (.seq (.region [] [] c142_31) .ret) .skip)) (.seq (.region [] [] c142_32) .ret))))))))), [.var 5, .var 6]⟩
theorem ok142 : CodeOk Tryd.prog T 142 c142 := ⟨⟨Tryd.f142, Hints.of [] [] [(0, [true, true, false, true, true, true, true, true, true, true, true, true, false, false, false, false, false, false, false, false, false], []), (2, [true, true, false, true, true, true, true, true, true, false, false, false, true, false, false, false, false, false, false, false, false], [])], [0, 1, 2, 3, 4, 10, 11, 12, 13, 14, 15, 16, 17, 18, 28, 30, 34, 46, 68, 89, 94], Tryd.func142, by kernel_rfl, by kernel_rfl⟩⟩

/-! spinney/spinneyref02.among -/
def c143_0 : List CO := [⟨(.mov (.k (.bool false))), (some 2), none⟩]
def c143_1 : List CO := [⟨(.mov (.k (.int .i64 0))), (some 3), none⟩]
def c143_2 : List CO := [⟨(.mov (.var 3)), none, none⟩,
  ⟨(.mov (.var 1)), none, none⟩,
  ⟨(.len .string (.loc 0)), none, none⟩,
  ⟨(.bin .lss (.loc 2) (.loc 0)), (some 4), none⟩]
def c143_3 : List CO := [⟨(.mov (.var 0)), none, none⟩,
  ⟨(.mov (.var 1)), none, none⟩,
  ⟨(.mov (.var 3)), none, none⟩,
  ⟨(.ixs (.loc 1) (.loc 0)), none, none⟩,
  ⟨(.conv .i32 (.loc 0)), none, none⟩,
  ⟨(.bin .eql (.loc 4) (.loc 0)), (some 5), none⟩]
def c143_4 : List CO := [⟨(.mov (.k (.bool true))), (some 2), none⟩]
def c143_5 : List CO := [⟨(.mov (.var 3)), none, none⟩,
  ⟨(.bin .add (.loc 0) (.k (.int .i64 1))), none, none⟩,
  ⟨(.mov (.loc 0)), (some 3), none⟩]
def c143_6 : CC := (.seq (.seq (.region [] [] c143_2) (.cond (.var 4) .skip (.exit 0))) (.seq (.block 1 (.seq (.region [] [] c143_3) (.cond (.var 5) (.seq (.region [] [] c143_4) .ret) .skip))) (.region [] [] c143_5)))
def c143_7 : List CO := [⟨(.mov (.k (.bool false))), (some 2), none⟩]
def c143 : CFun := ⟨2, 6, (.seq (.region [] [] c143_0) (.seq (.seq (.region [] [] c143_1) (.block 0 (.loop [true, true, false, true, false, false] [] c143_6))) (.seq (.region [] [] c143_7) .ret))), [.var 2]⟩
theorem ok143 : CodeOk Tryd.prog T 143 c143 := ⟨⟨Tryd.f143, Hints.of [] [] [(0, [true, true, false, true, false, false], [])], [0, 1, 4, 5, 9, 17], Tryd.func143, by kernel_rfl, by kernel_rfl⟩⟩

/-! internal/strconv.isPowerOfTwo -/
def c149_0 : List CO := [⟨(.mov (.k (.bool false))), (some 1), none⟩]
def c149_1 : List CO := [⟨(.mov (.var 0)), none, none⟩,
  ⟨(.mov (.var 0)), none, none⟩,
  ⟨(.bin .sub (.loc 0) (.k (.int .i64 1))), none, none⟩,
  ⟨(.bin .and (.loc 2) (.loc 0)), none, none⟩,
  ⟨(.bin .eql (.loc 0) (.k (.int .i64 0))), none, none⟩,
  ⟨(.mov (.loc 0)), (some 1), none⟩]
def c149 : CFun := ⟨1, 2, (.seq (.region [] [] c149_0) (.seq (.region [] [] c149_1) .ret)), [.var 1]⟩
theorem ok149 : CodeOk Tryd.prog T 149 c149 := ⟨⟨Tryd.f149, Hints.of [] [] [], [0, 2], Tryd.func149, by kernel_rfl, by kernel_rfl⟩⟩

/-! math/bits.TrailingZeros -/
def c150_0 : List CO := [⟨(.mov (.k (.int .i64 0))), (some 1), none⟩]
def c150_1 : List CO := [⟨(.mov (.var 0)), none, none⟩,
  ⟨(.conv .u32 (.loc 0)), none, none⟩,
  ⟨(.call true 151 [(.loc 0)]), none, none⟩,
  ⟨(.mov (.loc 0)), (some 1), none⟩]
def c150_2 : List CO := [⟨(.mov (.var 0)), none, none⟩,
  ⟨(.call true 152 [(.loc 0)]), none, none⟩,
  ⟨(.mov (.loc 0)), (some 1), none⟩]
def c150 : CFun := ⟨1, 2, (.seq (.region [] [] c150_0) (.seq (.cond (.k (.bool false)) (.seq (.region [] [] c150_1) .ret) .skip) (.seq (.region [] [] c150_2) .ret))), [.var 1]⟩
theorem ok150 : CodeOk Tryd.prog T 150 c150 := ⟨⟨Tryd.f150, Hints.of [] [] [], [0, 2], Tryd.func150, by kernel_rfl, by kernel_rfl⟩⟩

def Fl : List (FuncId × FEntry) := [(9, .code c9), (15, .code c15), (20, .code c20), (23, .code c23), (26, .code c26), (34, .code c34), (35, .code c35), (36, .code c36), (54, .code c54), (58, .keep c58), (59, .code c59), (60, .code c60), (66, .code c66), (67, .code c67), (69, .code c69), (70, .code c70), (83, .pkeep c83), (86, .code c86), (87, .code c87), (91, .code c91), (92, .code c92), (93, .code c93), (94, .code c94), (95, .code c95), (96, .code c96), (98, .code c98), (99, .code c99), (100, .code c100), (113, .code c113), (114, .code c114), (115, .code c115), (116, .code c116), (117, .code c117), (119, .code c119), (120, .code c120), (121, .code c121), (122, .code c122), (130, .code c130), (131, .code c131), (132, .code c132), (133, .code c133), (134, .code c134), (137, .code c137), (138, .code c138), (142, .code c142), (143, .code c143), (149, .code c149), (150, .code c150)] ++ [(101, .oracle validG), (135, .oracle decG), (97, .oracle (copyG 103)), (68, .oracle (stringG 103 5)), (152, .oracle tzG)]
def F (f : FuncId) : Option FEntry := Fl.lookup f
theorem hF : ∀ (B : Nat) (w0 : World), K B w0 → ∀ f e, F f = some e → EntryOk Tryd.prog T B w0 f e := fun B w0 hK => entries_of (fun p hp => by
  simp only [Fl, List.cons_append, List.nil_append, List.mem_cons, List.not_mem_nil, or_false] at hp
  rcases hp with rfl | rfl | rfl | rfl | rfl | rfl | rfl | rfl | rfl | rfl | rfl | rfl | rfl | rfl | rfl | rfl | rfl | rfl | rfl | rfl | rfl | rfl | rfl | rfl | rfl | rfl | rfl | rfl | rfl | rfl | rfl | rfl | rfl | rfl | rfl | rfl | rfl | rfl | rfl | rfl | rfl | rfl | rfl | rfl | rfl | rfl | rfl | rfl | rfl | rfl | rfl | rfl | rfl
  · exact ok9
  · exact ok15
  · exact ok20
  · exact ok23
  · exact ok26
  · exact ok34
  · exact ok35
  · exact ok36
  · exact ok54
  · exact ok58
  · exact ok59
  · exact ok60
  · exact ok66
  · exact ok67
  · exact ok69
  · exact ok70
  · exact ok83
  · exact ok86
  · exact ok87
  · exact ok91
  · exact ok92
  · exact ok93
  · exact ok94
  · exact ok95
  · exact ok96
  · exact ok98
  · exact ok99
  · exact ok100
  · exact ok113
  · exact ok114
  · exact ok115
  · exact ok116
  · exact ok117
  · exact ok119
  · exact ok120
  · exact ok121
  · exact ok122
  · exact ok130
  · exact ok131
  · exact ok132
  · exact ok133
  · exact ok134
  · exact ok137
  · exact ok138
  · exact ok142
  · exact ok143
  · exact ok149
  · exact ok150
  · exact valid_ok hK
  · exact dec_ok hK
  · exact copy_ok copy_used copy_fresh copy_enter
  · exact string_ok Tryd.lays169 Tryd.Builder_Extra_169 string_enter
  · exact tz_ok hK)
end Go.Proofs.YtinhjhkmpknbbaaDoor
end

/-! A number's text: the program's, the document's. -/
section
set_option linter.unusedVariables false
set_option linter.unusedSimpArgs false
namespace Go.AE.YtinhjhkmpknbbaaDoor
open Go Go.AE Go.Proofs.YtinhjhkmpknbbaaDoor
def rg (n : Int) : Prop := -9223372036854775808 ≤ n ∧ n ≤ 9223372036854775807

/-! ### Operations, by their operands' values -/
section
variable {call : CallF} {vars env : List AV} {h : List AO}
def cvK (k : IntKind) : AV → Option AV
  | .v (.int _ n) => some (.v (.int k (k.wrap n)))
  | _ => none
theorem e_conv {k : IntKind} {x : Opd} : evOp call vars env h (.conv k x) = withH h (cvK k (getO vars env x)) := by
  simp only [evOp, cvK]
  generalize getO vars env x = a
  cases a with
  | v x => cases x <;> rfl
  | _ => rfl
theorem cvK_int {k j : IntKind} {n : Int} : cvK k (.v (.int j n)) = some (.v (.int k (k.wrap n))) := rfl
def iaaV (n sz : Nat) (x : AV) (i : Option Nat) : Option AV := match x, i with
  | .ptr id off, some i => if i < n then some (.ptr id (off + i * sz)) else none
  | .ip cs, some i => if i < n then some (.ip (cs.drop (i * sz))) else none
  | _, _ => none
theorem e_iaa {n sz : Nat} {x i : Opd} : evOp call vars env h (.iaa n sz x i) = withH h (iaaV n sz (getO vars env x) (natO vars env i)) := by
  simp only [evOp, iaaV]
  generalize getO vars env x = a
  generalize natO vars env i = b
  cases a <;> cases b <;> try rfl
  all_goals (simp only; split <;> rfl)
theorem iaa_ptr {n id o i : Nat} (hi : i < n) : iaaV n 1 (.ptr id o) (some i) = some (.ptr id (o + i)) := by simp [iaaV, hi]
def aslV (n : Nat) (x : AV) (l : Option Nat) : Option AV := match x, l with
  | .ptr id off, some l => if l ≤ n then some (.bs id (off + l) (n - l)) else none
  | _, _ => none
theorem e_aslice {n : Nat} {x lo : Opd} : evOp call vars env h (.aslice n 1 x (some lo) none) = withH h (aslV n (getO vars env x) (natO vars env lo)) := by
  simp only [evOp, evASlice, aslV, bounds, optN]
  generalize getO vars env x = a
  generalize natO vars env lo = b
  cases a <;> cases b <;> try rfl
  rename_i id off l
  by_cases e : l ≤ n <;> simp [e, withH]
theorem asl_ptr {n id o l : Nat} (hl : l ≤ n) : aslV n (.ptr id o) (some l) = some (.bs id (o + l) (n - l)) := by simp [aslV, hl]
def bsV (h : List AO) : Option ByteArray → Option (AV × List AO)
  | some s => some (.v (.string s), h)
  | none => none
theorem e_bstr {x : Opd} : evOp call vars env h (.bstr x) = bsV h (evBStr h (getO vars env x)) := by
  simp only [evOp]; cases evBStr h (getO vars env x) <;> rfl
theorem bsV_some {s : ByteArray} : bsV h (some s) = some (.v (.string s), h) := rfl
end
def u8v (b : UInt8) : AV := .v (.int .u8 b.toNat)
theorem strL_u8 (l : List UInt8) : strL (l.map u8v) = some ⟨l.toArray⟩ := by
  have : (l.map u8v).mapM byteOf = some l := by
    induction l with
    | nil => rfl
    | cons b l ih => simp [ih, u8v, byteOf]
  simp [strL, this]

/-! ### Digits -/
def dg (n : Nat) : UInt8 := UInt8.ofNat (48 + n % 10)
def decD (n : Nat) : List UInt8 := if n < 10 then [dg n] else decD (n / 10) ++ [dg n]
termination_by n
decreasing_by omega
theorem decD_small {n : Nat} (h : n < 10) : decD n = [dg n] := by rw [decD, if_pos h]
theorem decD_big {n : Nat} (h : ¬ n < 10) : decD n = decD (n / 10) ++ [dg n] := by rw [decD, if_neg h]
theorem decD_pos : ∀ n, 1 ≤ (decD n).length := by
  intro n
  by_cases h : n < 10
  · rw [decD_small h]; simp
  · rw [decD_big h]; simp
theorem decD_len : ∀ (k n : Nat), n < 10 ^ (k + 1) → (decD n).length ≤ k + 1
  | 0, n, h => by rw [decD_small (by simpa using h)]; simp
  | k + 1, n, h => by
    by_cases e : n < 10
    · rw [decD_small e]; simp
    · rw [decD_big e]
      have : n / 10 < 10 ^ (k + 1) := by
        rw [Nat.div_lt_iff_lt_mul (by omega)]
        rw [Nat.pow_succ] at h
        exact h
      have := decD_len k (n / 10) this
      simp; omega
def numT (a : Int) : ByteArray := ⟨((if decide (a < 0) = true then [45] else []) ++ decD a.natAbs).toArray⟩

theorem u64_nat {n : Nat} (h : n < 18446744073709551616) : IntKind.u64.wrap (n : Int) = n := by
  simp [IntKind.wrap, IntKind.bits, IntKind.signed]; omega
theorem size_num {a : Int} (h : rg a) : callW F 117 [.v (.int .i64 a)] [] = some (.v (.int .u64 (a.natAbs : Nat)), []) := by
  unfold rg at h
  refine callW_pure (c := c117) rfl rfl 0 ?_
  cases h1 : decide (a < 0) with
  | true =>
    simp only [decide_eq_true_eq] at h1
    have e : IntKind.u64.wrap (0 - IntKind.u64.wrap a) = (a.natAbs : Nat) := by
      simp [IntKind.wrap, IntKind.bits, IntKind.signed]; omega
    simp only [c117, start, List.replicate, c117_0, c117_1, c117_2, decide_eq_true h1, e_conv, cvK_int, e, Q0, Q1, Q2, Q3, Q4, Q5, Q6, Q7, Q8, Q9, Q10, Q11, Q12, Q13, Q14, Q15, Q16, Q17, Q18, Q19, Q20, Q21, Q22, Q23, Q24, Q25, Q26, Q27, Q28, Q29, Q30, Q31, Q32, Q33, Q35, Q36, Q37, Q38, Q39, Q40, Q41, Q42, Q43, Q44, Q45, Q46, Q47, Q48, Q49, Q50, Q51, Q52, Q53, Q54, Q55, Q56, Q57, Q58, Q59, Q60, Q61, Q62, Q63, Q64, Q65, Q66, Q67, Q68, Q69, Q70, Q71, Q72, Q73, Q99, Q100, Q101, Q102, Q103, Q74, Q75, Q77, Q78, Q79, Q80, Q81, Q82, Q83, Q84, clr, List.length_nil, List.length_cons, List.getElem?_cons_zero, List.getElem?_cons_succ, Nat.reduceAdd, Nat.zero_add, Nat.add_zero, Nat.reduceLeDiff, Nat.reduceSub, ↓reduceIte, List.drop_succ_cons, List.drop_zero, List.take_succ_cons, List.take_zero, Bool.false_eq_true, List.nil_append, List.cons_append, Bool.not_true, Bool.not_false, cond_true, cond_false, bne, Q85, Q86, Q87, Q88, Q89, Q90, Q91, Q92, Q93, Q94, Q95, Q96, Q97, Q98, Q110, Q111, Q116, Q117, Q118, Q119, Q120, Q121, Q122, Q123, Option.map_some, Option.map_none, Q34]
  | false =>
    have h2 := h1
    simp only [decide_eq_false_iff_not] at h2
    have e : IntKind.u64.wrap a = (a.natAbs : Nat) := by
      simp [IntKind.wrap, IntKind.bits, IntKind.signed]; omega
    simp only [c117, start, List.replicate, c117_0, c117_1, c117_3, h1, e_conv, cvK_int, e, Q0, Q1, Q2, Q3, Q4, Q5, Q6, Q7, Q8, Q9, Q10, Q11, Q12, Q13, Q14, Q15, Q16, Q17, Q18, Q19, Q20, Q21, Q22, Q23, Q24, Q25, Q26, Q27, Q28, Q29, Q30, Q31, Q32, Q33, Q35, Q36, Q37, Q38, Q39, Q40, Q41, Q42, Q43, Q44, Q45, Q46, Q47, Q48, Q49, Q50, Q51, Q52, Q53, Q54, Q55, Q56, Q57, Q58, Q59, Q60, Q61, Q62, Q63, Q64, Q65, Q66, Q67, Q68, Q69, Q70, Q71, Q72, Q73, Q99, Q100, Q101, Q102, Q103, Q74, Q75, Q77, Q78, Q79, Q80, Q81, Q82, Q83, Q84, clr, List.length_nil, List.length_cons, List.getElem?_cons_zero, List.getElem?_cons_succ, Nat.reduceAdd, Nat.zero_add, Nat.add_zero, Nat.reduceLeDiff, Nat.reduceSub, ↓reduceIte, List.drop_succ_cons, List.drop_zero, List.take_succ_cons, List.take_zero, Bool.false_eq_true, List.nil_append, List.cons_append, Bool.not_true, Bool.not_false, cond_true, cond_false, bne, Q85, Q86, Q87, Q88, Q89, Q90, Q91, Q92, Q93, Q94, Q95, Q96, Q97, Q98, Q110, Q111, Q116, Q117, Q118, Q119, Q120, Q121, Q122, Q123, Option.map_some, Option.map_none, Q34]
theorem tm10 (n : Nat) : (n : Int).tmod 10 = ((n % 10 : Nat) : Int) := by
  rw [Int.tmod_eq_emod_of_nonneg (by omega)]; omega
theorem td10 (n : Nat) : (n : Int).tdiv 10 = ((n / 10 : Nat) : Int) := by
  rw [Int.tdiv_eq_ediv_of_nonneg (by omega)]; omega
theorem dg48 (n : Nat) : IntKind.u8.wrap (IntKind.u64.wrap (48 + ((n % 10 : Nat) : Int))) = ((dg n).toNat : Int) := by
  have h1 : (dg n).toNat = 48 + n % 10 := by
    simp only [dg, UInt8.toNat_ofNat']
    omega
  rw [h1]
  simp [IntKind.wrap, IntKind.bits, IntKind.signed]
  omega

def z8 : AV := .v (.int .u8 0)
def cells (suf : List UInt8) : List AV := List.replicate (20 - suf.length) z8 ++ suf.map u8v
theorem cells_len {suf : List UInt8} (h : suf.length ≤ 20) : (cells suf).length = 20 := by simp [cells]; omega
theorem cells_st {suf : List UInt8} (h : suf.length < 20) (b : UInt8) : Q113 [.box 163 (cells suf)] 1 (.ptr 0 (19 - suf.length)) (.v (.int .u8 b.toNat)) = some [.box 163 (cells (b :: suf))] := by
  have hl := cells_len (suf := suf) (by omega)
  rw [bx_st (bt := 163) (h := [.box 163 (cells suf)]) (id := 0) rfl (xs := [.v (.int .u8 b.toNat)]) (x := .v (.int .u8 b.toNat)) (n := 1) (o := 19 - suf.length) rfl rfl (by rw [hl]; omega)]
  have e : Q112 (cells suf) (19 - suf.length) [AV.v (.int .u8 b.toNat)] = cells (b :: suf) := by
    have e1 : 20 - suf.length = (19 - suf.length) + 1 := by omega
    simp only [Q112, cells, e1, List.replicate_succ', List.append_assoc, List.singleton_append]
    rw [List.set_append_right _ _ (by simp)]
    simp [u8v]
  rw [e]; rfl
def V68 (a : Int) (at' : Int) (n : Int) (x5 : AV) : List AV := [.v (.int .i64 a), .junk, .ptr 0 0, .v (.int .i64 at'), .v (.int .u64 n), x5, .junk]
def K68 : List Bool := [true, false, true, true, true, false, false]
theorem at_sub {n : Nat} (h0 : 1 ≤ n) (h : n ≤ 20) : IntKind.i64.wrap ((n : Int) - 1) = ((n - 1 : Nat) : Int) := by
  rw [IntWalk.i64_in] <;> omega
theorem blk_out {vs : List AV} {h : List AO} : blk 1 (some (.exit 0, vs, h)) = some (.exit 0, vs, h) := rfl
theorem num_loop (a : Int) {N : Nat} (hN : N < 10 ^ 19) {K : Nat} (hK : 18 < K) (v : List AV) (hv : clr K68 v = V68 a 20 N .junk) :
    ∃ m : Nat, loopN (exec (callW F) K c94_8) K68 K v [.box 163 (cells [])] = some (.exit 0, V68 a ((20 - (decD N).length : Nat) : Int) m (.v (.bool true)), [.box 163 (cells (decD N))]) := by
  have hlen := decD_len 18 N hN
  obtain ⟨e, v', h', g1, g2, g3⟩ := loop_rule0 (call := callW F) (K := K) (b := c94_8) (keep := K68)
    (fun i v h => ∃ (m : Nat) (suf : List UInt8), m < 10 ^ 19 ∧ suf.length = i ∧ decD N = decD m ++ suf ∧ v = V68 a ((20 - i : Nat) : Int) m .junk ∧ h = [.box 163 (cells suf)])
    (fun e v h => e = .exit 0 ∧ ∃ m : Nat, v = V68 a ((20 - (decD N).length : Nat) : Int) m (.v (.bool true)) ∧ h = [.box 163 (cells (decD N))])
    18 (m := K) (v := v) (h := [.box 163 (cells [])]) hK ⟨N, [], hN, rfl, by simp, hv, rfl⟩ (by
      rintro i v h hi ⟨m, suf, hm, hsuf, hdec, rfl, rfl⟩
      have hi20 : i < 20 := by omega
      have w1 := at_sub (n := 20 - i) (by omega) (by omega)
      have w2 : 20 - i - 1 = 19 - suf.length := by omega
      rw [w2] at w1
      have t1 := tm10 m
      have t2 := td10 m
      have t3 := dg48 m
      have t4 : IntKind.u64.wrap ((m / 10 : Nat) : Int) = ((m / 10 : Nat) : Int) := u64_nat (by
        have : (10 : Nat) ^ 19 = 10000000000000000000 := rfl
        omega)
      have ia : iaaV 20 1 (.ptr 0 0) (some (19 - suf.length)) = some (.ptr 0 (0 + (19 - suf.length))) := iaa_ptr (by omega)
      have s1 := cells_st (suf := suf) (by omega) (dg m)
      have ten : ((10 : Int) = 0) = False := by simp
      by_cases hs : m < 10
      · have hlt : decide ((m : Int) < 10) = true := by simp; omega
        have hd : decD N = dg m :: suf := by rw [hdec, decD_small hs]; rfl
        refine ⟨.exit 0, V68 a ((19 - suf.length : Nat) : Int) m (.v (.bool true)), [.box 163 (cells (dg m :: suf))], ?_, rfl, m, by rw [hd]; simp, by rw [hd]⟩
        simp only [V68, c94_8, c94_4, c94_5, c94_6, w1, t1, t3, hlt, ten, e_conv, cvK_int, e_iaa, ia, s1, Nat.zero_add, if_false, blk_out, Q0, Q1, Q2, Q3, Q4, Q5, Q6, Q7, Q8, Q9, Q10, Q11, Q12, Q13, Q14, Q15, Q16, Q17, Q18, Q19, Q20, Q21, Q22, Q23, Q24, Q25, Q26, Q27, Q28, Q29, Q30, Q31, Q32, Q33, Q35, Q36, Q37, Q38, Q39, Q40, Q41, Q42, Q43, Q44, Q45, Q46, Q47, Q48, Q49, Q50, Q51, Q52, Q53, Q54, Q55, Q56, Q57, Q58, Q59, Q60, Q61, Q62, Q63, Q64, Q65, Q66, Q67, Q68, Q69, Q70, Q71, Q72, Q73, Q99, Q100, Q101, Q102, Q103, Q74, Q75, Q77, Q78, Q79, Q80, Q81, Q82, Q83, Q84, clr, List.length_nil, List.length_cons, List.getElem?_cons_zero, List.getElem?_cons_succ, Nat.reduceAdd, Nat.zero_add, Nat.add_zero, Nat.reduceLeDiff, Nat.reduceSub, ↓reduceIte, List.drop_succ_cons, List.drop_zero, List.take_succ_cons, List.take_zero, Bool.false_eq_true, List.nil_append, List.cons_append, Bool.not_true, Bool.not_false, cond_true, cond_false, bne, Q85, Q86, Q87, Q88, Q89, Q90, Q91, Q92, Q93, Q94, Q95, Q96, Q97, Q98, Q110, Q111, Q116, Q117, Q118, Q119, Q120, Q121, Q122, Q123, Option.map_some, Option.map_none, Q34]
      · have hlt : decide ((m : Int) < 10) = false := by simp; omega
        have hd : decD N = decD (m / 10) ++ (dg m :: suf) := by rw [hdec, decD_big hs]; simp
        have hpos := decD_pos (m / 10)
        have hlenN : (decD N).length = (decD (m / 10)).length + (suf.length + 1) := by rw [hd]; simp
        refine ⟨.normal, V68 a ((19 - suf.length : Nat) : Int) ((m / 10 : Nat) : Int) (.v (.bool false)), [.box 163 (cells (dg m :: suf))], ?_, by omega, m / 10, dg m :: suf, by omega, by simp; omega, hd, ?_, rfl⟩
        · simp only [V68, c94_8, c94_4, c94_5, c94_6, c94_7, w1, t1, t2, t3, t4, hlt, ten, e_conv, cvK_int, e_iaa, ia, s1, Nat.zero_add, if_false, Q0, Q1, Q2, Q3, Q4, Q5, Q6, Q7, Q8, Q9, Q10, Q11, Q12, Q13, Q14, Q15, Q16, Q17, Q18, Q19, Q20, Q21, Q22, Q23, Q24, Q25, Q26, Q27, Q28, Q29, Q30, Q31, Q32, Q33, Q35, Q36, Q37, Q38, Q39, Q40, Q41, Q42, Q43, Q44, Q45, Q46, Q47, Q48, Q49, Q50, Q51, Q52, Q53, Q54, Q55, Q56, Q57, Q58, Q59, Q60, Q61, Q62, Q63, Q64, Q65, Q66, Q67, Q68, Q69, Q70, Q71, Q72, Q73, Q99, Q100, Q101, Q102, Q103, Q74, Q75, Q77, Q78, Q79, Q80, Q81, Q82, Q83, Q84, clr, List.length_nil, List.length_cons, List.getElem?_cons_zero, List.getElem?_cons_succ, Nat.reduceAdd, Nat.zero_add, Nat.add_zero, Nat.reduceLeDiff, Nat.reduceSub, ↓reduceIte, List.drop_succ_cons, List.drop_zero, List.take_succ_cons, List.take_zero, Bool.false_eq_true, List.nil_append, List.cons_append, Bool.not_true, Bool.not_false, cond_true, cond_false, bne, Q85, Q86, Q87, Q88, Q89, Q90, Q91, Q92, Q93, Q94, Q95, Q96, Q97, Q98, Q110, Q111, Q116, Q117, Q118, Q119, Q120, Q121, Q122, Q123, Option.map_some, Option.map_none, Q34]
        · have : 19 - suf.length = 20 - (i + 1) := by omega
          rw [this]; rfl)
  obtain ⟨rfl, m, rfl, rfl⟩ := g3
  exact ⟨m, g1⟩
theorem cells_str {suf : List UInt8} (h : suf.length ≤ 20) : evBStr [.box 163 (cells suf)] (.bs 0 (20 - suf.length) (20 - (20 - suf.length))) = some ⟨suf.toArray⟩ := by
  have hl := cells_len h
  have e : ((cells suf).drop (20 - suf.length)).take (20 - (20 - suf.length)) = suf.map u8v := by
    simp only [cells]
    rw [List.drop_append_of_le_length (by simp), List.drop_of_length_le (by simp), List.nil_append, List.take_of_length_le (by simp; omega)]
  simp only [evBStr, List.getElem?_cons_zero, hl, e, strL_u8]
  rw [if_pos (by omega)]
theorem num_ok {a : Int} (h : rg a) : callW F 94 [.v (.int .i64 a)] [] = some (.v (.string (numT a)), []) := by
  have h1 := size_num h
  have hN : a.natAbs < 10 ^ 19 := by
    unfold rg at h
    have : (10 : Nat) ^ 19 = 10000000000000000000 := rfl
    omega
  have hlen := decD_len 18 _ hN
  have hpos := decD_pos a.natAbs
  refine callW_pure (c := c94) rfl rfl 19 ?_
  obtain ⟨m, hl⟩ := num_loop a hN (K := 19) (by omega) [.v (.int .i64 a), .v (.string ⟨#[]⟩), .ptr 0 0, .v (.int .i64 20), .v (.int .u64 (a.natAbs : Nat)), .v undef, .v undef] rfl
  have hz : cells [] = [z8, z8, z8, z8, z8, z8, z8, z8, z8, z8, z8, z8, z8, z8, z8, z8, z8, z8, z8, z8] := rfl
  have hb : (ofVal (.agg #[(.int .u8 0), (.int .u8 0), (.int .u8 0), (.int .u8 0), (.int .u8 0), (.int .u8 0), (.int .u8 0), (.int .u8 0), (.int .u8 0), (.int .u8 0), (.int .u8 0), (.int .u8 0), (.int .u8 0), (.int .u8 0), (.int .u8 0), (.int .u8 0), (.int .u8 0), (.int .u8 0), (.int .u8 0), (.int .u8 0)])).cl = some (cells []) := by
    rw [hz]; simp [ofVal, AV.cl, Value.oneCell', z8]
  have bxz : bx [] 163 (some (cells [])) = some (.ptr 0 0, [.box 163 (cells [])]) := rfl
  rw [show c94.body = (.seq (.region [] [] c94_0) (.seq (.region [] [] c94_1) (.seq (.region [] [] c94_2) (.seq (.seq (.region [] [] c94_3) (.block 0 (.loop K68 [] c94_8))) (.seq (.seq (.region [] [] c94_9) (.cond (.var 6) (.seq (.region [] [] c94_10) (.region [] [] c94_11)) .skip)) (.seq (.region [] [] c94_12) .ret)))))) from rfl, show c94.res = [.var 1] from rfl]
  rw [show start c94 [.v (.int .i64 a)] = [.v (.int .i64 a), .v undef, .v undef, .v undef, .v undef, .v undef, .v undef] from rfl]
  generalize c94_8 = bb at hl ⊢
  unfold numT
  generalize decD a.natAbs = D at hl hlen hpos ⊢
  cases h2 : decide (a < 0) with
  | true =>
    have w1 := at_sub (n := 20 - D.length) (by omega) (by omega)
    have w2 : 20 - D.length - 1 = 19 - D.length := by omega
    rw [w2] at w1
    have ia : iaaV 20 1 (.ptr 0 0) (some (19 - D.length)) = some (.ptr 0 (0 + (19 - D.length))) := iaa_ptr (by omega)
    have s1 := cells_st (suf := D) (by omega) 45
    rw [show (((45 : UInt8).toNat : Nat) : Int) = 45 from rfl] at s1
    have l1 : aslV 20 (.ptr 0 0) (some (19 - D.length)) = some (.bs 0 (0 + (19 - D.length)) (20 - (19 - D.length))) := asl_ptr (by omega)
    have l2 := cells_str (suf := 45 :: D) (by simp; omega)
    rw [show 20 - (45 :: D : List UInt8).length = 19 - D.length by simp] at l2
    simp only [V68, c94_0, c94_1, c94_2, c94_3, c94_9, c94_10, c94_11, c94_12, hb, bxz, h1, snap_int, hl, h2, w1, e_iaa, ia, s1, e_aslice, l1, e_bstr, l2, bsV_some, Nat.zero_add, List.cons_append, List.nil_append, if_true, Q0, Q1, Q2, Q3, Q4, Q5, Q6, Q7, Q8, Q9, Q10, Q11, Q12, Q13, Q14, Q15, Q16, Q17, Q18, Q19, Q20, Q21, Q22, Q23, Q24, Q25, Q26, Q27, Q28, Q29, Q30, Q31, Q32, Q33, Q35, Q36, Q37, Q38, Q39, Q40, Q41, Q42, Q43, Q44, Q45, Q46, Q47, Q48, Q49, Q50, Q51, Q52, Q53, Q54, Q55, Q56, Q57, Q58, Q59, Q60, Q61, Q62, Q63, Q64, Q65, Q66, Q67, Q68, Q69, Q70, Q71, Q72, Q73, Q99, Q100, Q101, Q102, Q103, Q74, Q75, Q77, Q78, Q79, Q80, Q81, Q82, Q83, Q84, clr, List.length_nil, List.length_cons, List.getElem?_cons_zero, List.getElem?_cons_succ, Nat.reduceAdd, Nat.zero_add, Nat.add_zero, Nat.reduceLeDiff, Nat.reduceSub, ↓reduceIte, List.drop_succ_cons, List.drop_zero, List.take_succ_cons, List.take_zero, Bool.false_eq_true, List.nil_append, List.cons_append, Bool.not_true, Bool.not_false, cond_true, cond_false, bne, Q85, Q86, Q87, Q88, Q89, Q90, Q91, Q92, Q93, Q94, Q95, Q96, Q97, Q98, Q110, Q111, Q116, Q117, Q118, Q119, Q120, Q121, Q122, Q123, Option.map_some, Option.map_none]
  | false =>
    have l1 : aslV 20 (.ptr 0 0) (some (20 - D.length)) = some (.bs 0 (0 + (20 - D.length)) (20 - (20 - D.length))) := asl_ptr (by omega)
    have l2 := cells_str (suf := D) (by omega)
    simp only [V68, c94_0, c94_1, c94_2, c94_3, c94_9, c94_12, hb, bxz, h1, snap_int, hl, h2, e_aslice, l1, e_bstr, l2, bsV_some, Nat.zero_add, List.nil_append, Bool.false_eq_true, if_false, Q0, Q1, Q2, Q3, Q4, Q5, Q6, Q7, Q8, Q9, Q10, Q11, Q12, Q13, Q14, Q15, Q16, Q17, Q18, Q19, Q20, Q21, Q22, Q23, Q24, Q25, Q26, Q27, Q28, Q29, Q30, Q31, Q32, Q33, Q35, Q36, Q37, Q38, Q39, Q40, Q41, Q42, Q43, Q44, Q45, Q46, Q47, Q48, Q49, Q50, Q51, Q52, Q53, Q54, Q55, Q56, Q57, Q58, Q59, Q60, Q61, Q62, Q63, Q64, Q65, Q66, Q67, Q68, Q69, Q70, Q71, Q72, Q73, Q99, Q100, Q101, Q102, Q103, Q74, Q75, Q77, Q78, Q79, Q80, Q81, Q82, Q83, Q84, clr, List.length_nil, List.length_cons, List.getElem?_cons_zero, List.getElem?_cons_succ, Nat.reduceAdd, Nat.zero_add, Nat.add_zero, Nat.reduceLeDiff, Nat.reduceSub, ↓reduceIte, List.drop_succ_cons, List.drop_zero, List.take_succ_cons, List.take_zero, Bool.false_eq_true, List.nil_append, List.cons_append, Bool.not_true, Bool.not_false, cond_true, cond_false, bne, Q85, Q86, Q87, Q88, Q89, Q90, Q91, Q92, Q93, Q94, Q95, Q96, Q97, Q98, Q110, Q111, Q116, Q117, Q118, Q119, Q120, Q121, Q122, Q123, Option.map_some, Option.map_none]

/-! ### The document's -/
theorem str_size (x : List UInt8) : (⟨x.toArray⟩ : ByteArray).size = x.length := by simp [ByteArray.size]
theorem str_le {x y : List UInt8} (hl : x.length + y.length ≤ 1000000000) : (((⟨x.toArray⟩ : ByteArray).size + (⟨y.toArray⟩ : ByteArray).size : Nat) : Int) ≤ 9223372036854775807 := by
  rw [str_size, str_size]; omega
theorem str_cat (x y : List UInt8) : (⟨x.toArray⟩ ++ ⟨y.toArray⟩ : ByteArray) = ⟨(x ++ y).toArray⟩ := by
  apply ByteArray.ext
  simp
theorem neg_tm (n : Nat) : (-(n : Int)).tmod 10 = -((n % 10 : Nat) : Int) := by
  rw [Int.neg_tmod, tm10]
theorem neg_dg (n : Nat) : IntKind.u8.wrap (IntKind.i64.wrap (48 - -((n % 10 : Nat) : Int))) = ((dg n).toNat : Int) := by
  have h1 : (dg n).toNat = 48 + n % 10 := by
    simp only [dg, UInt8.toNat_ofNat']
    omega
  have h2 : n % 10 < 10 := Nat.mod_lt _ (by decide)
  rw [h1]
  generalize n % 10 = m at h2
  rw [show (48 : Int) - -(m : Int) = ((48 + m : Nat) : Int) by omega, IntWalk.i64_in _ ⟨by omega, by omega⟩]
  simp [IntKind.wrap, IntKind.bits, IntKind.signed]
  omega
theorem neg_td {n : Nat} (h : n ≤ 9223372036854775808) : IntKind.i64.wrap ((-(n : Int)).tdiv 10) = -((n / 10 : Nat) : Int) := by
  have h2 : n / 10 ≤ 922337203685477580 := by omega
  rw [Int.neg_tdiv, td10]
  generalize n / 10 = m at h2
  exact IntWalk.i64_in _ ⟨by omega, by omega⟩
theorem decD_20 {n : Nat} (h : n ≤ 9223372036854775808) : (decD n).length ≤ 20 := by
  have := decD_len 18 n (by have : (10 : Nat) ^ 19 = 10000000000000000000 := rfl; omega)
  omega
theorem str_add {x y : List UInt8} (hl : x.length + y.length ≤ 1000000000) : Q78 .add (.v (.string ⟨x.toArray⟩)) (.v (.string ⟨y.toArray⟩)) = some (.v (.string ⟨(x ++ y).toArray⟩)) := by
  simp only [Q78, Q80, str_cat]
  rw [if_pos (str_le hl)]
theorem dig_step {call : CallF} {x r z W : Int} {U : AV} {S E R : ByteArray} (f1 : Q78 .rem (.v (.int .i64 x)) (.v (.int .i64 10)) = some (.v (.int .i64 r))) (f2 : IntKind.u8.wrap (IntKind.i64.wrap (48 - r)) = W)
    (f3 : Q78 .gtr (.v (.int .i64 x)) (.v (.int .i64 (-10))) = some (.v (.bool false))) (f4 : Q78 .quo (.v (.int .i64 x)) (.v (.int .i64 10)) = some (.v (.int .i64 z)))
    (b1 : bs1 [] 1 (some (.v (.int .u8 W))) = some (.slc 1 true true [U], [])) (b2 : evBStr [] (.slc 1 true true [U]) = some E) (hc : call 119 [.v (.int .i64 z)] [] = some (.v (.string S), []))
    (f5 : Q78 .add (.v (.string S)) (.v (.string E)) = some (.v (.string R))) : lv c119.res (exec call 0 c119.body (start c119 [.v (.int .i64 x)]) []) = some (.v (.string R), []) := by
  have f0 : Q78 .sub (.v (.int .i64 48)) (.v (.int .i64 r)) = some (.v (.int .i64 (IntKind.i64.wrap (48 - r)))) := rfl
  have sn : (AV.v (.int .u8 W)).snap1 [] = some (.v (.int .u8 W)) := rfl
  simp only [c119, start, List.replicate, c119_0, c119_1, c119_2, c119_4, f0, f2, e_conv, cvK_int, sn, b1, Q104, e_bstr, b2, bsV_some, hc, snap_int, f1, f3, f4, f5, Q0, Q1, Q2, Q3, Q4, Q5, Q6, Q7, Q8, Q9, Q10, Q11, Q12, Q13, Q14, Q15, Q16, Q17, Q18, Q19, Q20, Q21, Q22, Q23, Q24, Q25, Q26, Q27, Q28, Q29, Q30, Q31, Q32, Q33, Q35, Q36, Q37, Q38, Q39, Q40, Q41, Q42, Q43, Q44, Q45, Q46, Q47, Q48, Q49, Q50, Q51, Q52, Q53, Q54, Q55, Q56, Q57, Q58, Q59, Q60, Q61, Q62, Q63, Q64, Q65, Q66, Q67, Q68, Q69, Q70, Q71, Q72, Q73, Q99, Q100, Q101, Q102, Q103, Q74, Q75, Q77, Q78, Q79, Q80, Q81, Q82, Q83, Q84, clr, List.length_nil, List.length_cons, List.getElem?_cons_zero, List.getElem?_cons_succ, Nat.reduceAdd, Nat.zero_add, Nat.add_zero, Nat.reduceLeDiff, Nat.reduceSub, ↓reduceIte, List.drop_succ_cons, List.drop_zero, List.take_succ_cons, List.take_zero, Bool.false_eq_true, List.nil_append, List.cons_append, Bool.not_true, Bool.not_false, cond_true, cond_false, bne, Q85, Q86, Q87, Q88, Q89, Q90, Q91, Q92, Q93, Q94, Q95, Q96, Q97, Q98, Q110, Q111, Q116, Q117, Q118, Q119, Q120, Q121, Q122, Q123, Option.map_some, Option.map_none, Q34, -Q78]
theorem digits_ok : ∀ (N : Nat) (n : Nat), n < N → n ≤ 9223372036854775808 → callW F 119 [.v (.int .i64 (-(n : Int)))] [] = some (.v (.string ⟨(decD n).toArray⟩), []) := by
  intro N
  induction N with
  | zero => intro n h; omega
  | succ N ih =>
    intro n hN hn
    refine callW_pure (c := c119) rfl rfl 0 ?_
    have t1 := neg_tm n
    have t3 := neg_dg n
    have b1 : ∀ (h : List AO), bs1 h 1 (some (.v (.int .u8 ((dg n).toNat : Int)))) = some (.slc 1 true true [u8v (dg n)], h) := fun h => bs1_some rfl rfl
    have b2 : ∀ (h : List AO), evBStr h (.slc 1 true true [u8v (dg n)]) = some ⟨[dg n].toArray⟩ := by
      intro h
      have := strL_u8 [dg n]
      simpa [evBStr, elemsOf] using this
    have sn : ∀ h : List AO, (AV.v (.int .u8 ((dg n).toNat : Int))).snap1 h = some (.v (.int .u8 ((dg n).toNat : Int))) := fun _ => rfl
    have ten : ((10 : Int) = 0) = False := by simp
    by_cases hs : n < 10
    · have hlt : decide (-(n : Int) > -10) = true := by simp; omega
      rw [decD_small hs]
      simp only [c119, start, List.replicate, c119_0, c119_1, c119_2, c119_3, t1, t3, ten, if_false, e_conv, cvK_int, sn, b1, Q104, e_bstr, b2, bsV_some, hlt, Q0, Q1, Q2, Q3, Q4, Q5, Q6, Q7, Q8, Q9, Q10, Q11, Q12, Q13, Q14, Q15, Q16, Q17, Q18, Q19, Q20, Q21, Q22, Q23, Q24, Q25, Q26, Q27, Q28, Q29, Q30, Q31, Q32, Q33, Q35, Q36, Q37, Q38, Q39, Q40, Q41, Q42, Q43, Q44, Q45, Q46, Q47, Q48, Q49, Q50, Q51, Q52, Q53, Q54, Q55, Q56, Q57, Q58, Q59, Q60, Q61, Q62, Q63, Q64, Q65, Q66, Q67, Q68, Q69, Q70, Q71, Q72, Q73, Q99, Q100, Q101, Q102, Q103, Q74, Q75, Q77, Q78, Q79, Q80, Q81, Q82, Q83, Q84, clr, List.length_nil, List.length_cons, List.getElem?_cons_zero, List.getElem?_cons_succ, Nat.reduceAdd, Nat.zero_add, Nat.add_zero, Nat.reduceLeDiff, Nat.reduceSub, ↓reduceIte, List.drop_succ_cons, List.drop_zero, List.take_succ_cons, List.take_zero, Bool.false_eq_true, List.nil_append, List.cons_append, Bool.not_true, Bool.not_false, cond_true, cond_false, bne, Q85, Q86, Q87, Q88, Q89, Q90, Q91, Q92, Q93, Q94, Q95, Q96, Q97, Q98, Q110, Q111, Q116, Q117, Q118, Q119, Q120, Q121, Q122, Q123, Option.map_some, Option.map_none, Q34]
    · have hlt : decide (-(n : Int) > -10) = false := by simp; omega
      have t2 := neg_td hn
      have hc := ih (n / 10) (by clear hn; omega) (Nat.le_trans (Nat.div_le_self _ _) hn)
      have hl := decD_20 hn
      clear hn
      rw [decD_big hs] at hl ⊢
      have f5 := str_add (x := decD (n / 10)) (y := [dg n]) (by simp at hl ⊢; omega)
      have f1 : Q78 .rem (.v (.int .i64 (-(n : Int)))) (.v (.int .i64 10)) = some (.v (.int .i64 (-((n % 10 : Nat) : Int)))) := by
        simp only [Q78, Q79, t1, ten, if_true, if_false]
      have f3 : Q78 .gtr (.v (.int .i64 (-(n : Int)))) (.v (.int .i64 (-10))) = some (.v (.bool false)) := by
        simp only [Q78, Q79, hlt, if_true]
      have f4 : Q78 .quo (.v (.int .i64 (-(n : Int)))) (.v (.int .i64 10)) = some (.v (.int .i64 (-((n / 10 : Nat) : Int)))) := by
        simp only [Q78, Q79, t2, ten, if_true, if_false]
      exact dig_step f1 t3 f3 f4 (b1 []) (b2 []) hc f5
theorem rnum_ok {a : Int} (h : rg a) : callW F 99 [.v (.int .i64 a)] [] = some (.v (.string (numT a)), []) := by
  unfold rg at h
  have hc := digits_ok _ a.natAbs (Nat.lt_succ_self _) (by omega)
  have hl := decD_20 (n := a.natAbs) (by omega)
  refine callW_pure (c := c99) rfl rfl 0 ?_
  unfold numT
  cases h2 : decide (a < 0) with
  | true =>
    have e : -(a.natAbs : Int) = a := by simp at h2; omega
    rw [e] at hc
    have a1 := str_le (x := [45]) (y := decD a.natAbs) (by simp at hl ⊢; omega)
    have a2 := str_cat [45] (decD a.natAbs)
    simp only [c99, start, List.replicate, c99_0, c99_1, c99_2, h2, hc, snap_int, a1, a2, if_true, Q0, Q1, Q2, Q3, Q4, Q5, Q6, Q7, Q8, Q9, Q10, Q11, Q12, Q13, Q14, Q15, Q16, Q17, Q18, Q19, Q20, Q21, Q22, Q23, Q24, Q25, Q26, Q27, Q28, Q29, Q30, Q31, Q32, Q33, Q35, Q36, Q37, Q38, Q39, Q40, Q41, Q42, Q43, Q44, Q45, Q46, Q47, Q48, Q49, Q50, Q51, Q52, Q53, Q54, Q55, Q56, Q57, Q58, Q59, Q60, Q61, Q62, Q63, Q64, Q65, Q66, Q67, Q68, Q69, Q70, Q71, Q72, Q73, Q99, Q100, Q101, Q102, Q103, Q74, Q75, Q77, Q78, Q79, Q80, Q81, Q82, Q83, Q84, clr, List.length_nil, List.length_cons, List.getElem?_cons_zero, List.getElem?_cons_succ, Nat.reduceAdd, Nat.zero_add, Nat.add_zero, Nat.reduceLeDiff, Nat.reduceSub, ↓reduceIte, List.drop_succ_cons, List.drop_zero, List.take_succ_cons, List.take_zero, Bool.false_eq_true, List.nil_append, List.cons_append, Bool.not_true, Bool.not_false, cond_true, cond_false, bne, Q85, Q86, Q87, Q88, Q89, Q90, Q91, Q92, Q93, Q94, Q95, Q96, Q97, Q98, Q110, Q111, Q116, Q117, Q118, Q119, Q120, Q121, Q122, Q123, Option.map_some, Option.map_none, Q34]
  | false =>
    have e : IntKind.i64.wrap (0 - a) = -(a.natAbs : Int) := by
      simp at h2
      rw [IntWalk.i64_in] <;> omega
    simp only [c99, start, List.replicate, c99_0, c99_1, c99_3, h2, hc, e, snap_int, Bool.false_eq_true, if_false, List.nil_append, Q0, Q1, Q2, Q3, Q4, Q5, Q6, Q7, Q8, Q9, Q10, Q11, Q12, Q13, Q14, Q15, Q16, Q17, Q18, Q19, Q20, Q21, Q22, Q23, Q24, Q25, Q26, Q27, Q28, Q29, Q30, Q31, Q32, Q33, Q35, Q36, Q37, Q38, Q39, Q40, Q41, Q42, Q43, Q44, Q45, Q46, Q47, Q48, Q49, Q50, Q51, Q52, Q53, Q54, Q55, Q56, Q57, Q58, Q59, Q60, Q61, Q62, Q63, Q64, Q65, Q66, Q67, Q68, Q69, Q70, Q71, Q72, Q73, Q99, Q100, Q101, Q102, Q103, Q74, Q75, Q77, Q78, Q79, Q80, Q81, Q82, Q83, Q84, clr, List.length_nil, List.length_cons, List.getElem?_cons_zero, List.getElem?_cons_succ, Nat.reduceAdd, Nat.zero_add, Nat.add_zero, Nat.reduceLeDiff, Nat.reduceSub, ↓reduceIte, List.drop_succ_cons, List.drop_zero, List.take_succ_cons, List.take_zero, Bool.false_eq_true, List.nil_append, List.cons_append, Bool.not_true, Bool.not_false, cond_true, cond_false, bne, Q85, Q86, Q87, Q88, Q89, Q90, Q91, Q92, Q93, Q94, Q95, Q96, Q97, Q98, Q110, Q111, Q116, Q117, Q118, Q119, Q120, Q121, Q122, Q123, Option.map_some, Option.map_none, Q34]
end Go.AE.YtinhjhkmpknbbaaDoor
end

/-! A rune's class: the program's, the document's. -/
section
set_option linter.unusedVariables false
set_option linter.unusedSimpArgs false
namespace Go.AE.YtinhjhkmpknbbaaDoor
open Go Go.AE Go.Proofs.YtinhjhkmpknbbaaDoor

def clsN (c : Nat) : Int :=
  if [43, 45, 42, 47, 92, 94, 60, 62, 61, 126, 58, 46, 63, 64, 35, 38, 36].contains c then 4
  else if [9, 10, 13, 32].contains c then 5
  else if [33, 59, 44, 124].contains c then 6
  else if [40, 41, 91, 93, 123, 125].contains c then 7
  else if c == 39 then 8
  else if c == 95 then 2
  else if 97 ≤ c && c ≤ 122 then 1
  else if 65 ≤ c && c ≤ 90 then 2
  else if 48 ≤ c && c ≤ 57 then 3
  else 0
theorem cls_tab : (List.range 128).map (fun (c : Nat) => callN F 5 131 [.v (.int .i32 (c : Int))] []) = (List.range 128).map fun (c : Nat) => some (.v (.int .i64 (clsN c)), []) := by kernel_rfl
theorem rcls_tab : (List.range 128).map (fun (c : Nat) => callN F 60 134 [.v (.int .i32 (c : Int))] []) = (List.range 128).map fun (c : Nat) => some (.v (.int .i64 (clsN c)), []) := by kernel_rfl
theorem cls_far {c : Nat} (h : ¬ c < 128) : clsN c = 0 := by
  unfold clsN
  simp only [List.contains_cons, List.contains_nil, beq_iff_eq, Bool.or_eq_true, Bool.and_eq_true, decide_eq_true_eq]
  repeat' split
  all_goals first
    | rfl
    | (exfalso; simp at *; omega)
theorem cls_ok (c : Nat) : callW F 131 [.v (.int .i32 (c : Int))] [] = some (.v (.int .i64 (clsN c)), []) := by
  by_cases h : c < 128
  · exact callW_iff.2 ⟨5, List.map_inj_left.1 cls_tab c (List.mem_range.2 h)⟩
  · rw [cls_far h]
    refine callW_pure (c := c131) rfl rfl 0 ?_
    have f : ∀ k : Int, k < 128 → ((c : Int) == k) = false := fun k hk => by simp; omega
    have g1 : decide ((97 : Int) ≤ (c : Int)) = true := by simp; omega
    have g2 : decide ((c : Int) ≤ 122) = false := by simp; omega
    have g3 : decide ((65 : Int) ≤ (c : Int)) = true := by simp; omega
    have g4 : decide ((c : Int) ≤ 90) = false := by simp; omega
    have g5 : decide ((48 : Int) ≤ (c : Int)) = true := by simp; omega
    have g6 : decide ((c : Int) ≤ 57) = false := by simp; omega
    have e43 := f 43 (by decide)
    have e45 := f 45 (by decide)
    have e42 := f 42 (by decide)
    have e47 := f 47 (by decide)
    have e92 := f 92 (by decide)
    have e94 := f 94 (by decide)
    have e60 := f 60 (by decide)
    have e62 := f 62 (by decide)
    have e61 := f 61 (by decide)
    have e126 := f 126 (by decide)
    have e58 := f 58 (by decide)
    have e46 := f 46 (by decide)
    have e63 := f 63 (by decide)
    have e64 := f 64 (by decide)
    have e35 := f 35 (by decide)
    have e38 := f 38 (by decide)
    have e36 := f 36 (by decide)
    have e9 := f 9 (by decide)
    have e10 := f 10 (by decide)
    have e13 := f 13 (by decide)
    have e32 := f 32 (by decide)
    have e33 := f 33 (by decide)
    have e59 := f 59 (by decide)
    have e44 := f 44 (by decide)
    have e124 := f 124 (by decide)
    have e40 := f 40 (by decide)
    have e41 := f 41 (by decide)
    have e91 := f 91 (by decide)
    have e93 := f 93 (by decide)
    have e123 := f 123 (by decide)
    have e125 := f 125 (by decide)
    have e39 := f 39 (by decide)
    have e95 := f 95 (by decide)
    simp only [c131, start, List.replicate, c131_0, c131_1, c131_2, c131_3, c131_4, c131_5, c131_6, c131_7, c131_8, c131_9, c131_10, c131_11, c131_12, c131_13, c131_14, c131_15, c131_16, c131_17, c131_18, c131_20, c131_21, c131_22, c131_23, c131_25, c131_26, c131_27, c131_28, c131_30, c131_31, c131_32, c131_33, c131_34, c131_35, c131_37, c131_39, c131_41, c131_43, c131_45, c131_47,
      e43, e45, e42, e47, e92, e94, e60, e62, e61, e126, e58, e46, e63, e64, e35, e38, e36, e9, e10, e13, e32, e33, e59, e44, e124, e40, e41, e91, e93, e123, e125, e39, e95, g1, g2, g3, g4, g5, g6, Q0, Q1, Q2, Q3, Q4, Q5, Q6, Q7, Q8, Q9, Q10, Q11, Q12, Q13, Q14, Q15, Q16, Q17, Q18, Q19, Q20, Q21, Q22, Q23, Q24, Q25, Q26, Q27, Q28, Q29, Q30, Q31, Q32, Q33, Q35, Q36, Q37, Q38, Q39, Q40, Q41, Q42, Q43, Q44, Q45, Q46, Q47, Q48, Q49, Q50, Q51, Q52, Q53, Q54, Q55, Q56, Q57, Q58, Q59, Q60, Q61, Q62, Q63, Q64, Q65, Q66, Q67, Q68, Q69, Q70, Q71, Q72, Q73, Q99, Q100, Q101, Q102, Q103, Q74, Q75, Q77, Q78, Q79, Q80, Q81, Q82, Q83, Q84, clr, List.length_nil, List.length_cons, List.getElem?_cons_zero, List.getElem?_cons_succ, Nat.reduceAdd, Nat.zero_add, Nat.add_zero, Nat.reduceLeDiff, Nat.reduceSub, ↓reduceIte, List.drop_succ_cons, List.drop_zero, List.take_succ_cons, List.take_zero, Bool.false_eq_true, List.nil_append, List.cons_append, Bool.not_true, Bool.not_false, cond_true, cond_false, bne, Q85, Q86, Q87, Q88, Q89, Q90, Q91, Q92, Q93, Q94, Q95, Q96, Q97, Q98, Q110, Q111, Q116, Q117, Q118, Q119, Q120, Q121, Q122, Q123, Option.map_some, Option.map_none, Q34]
end Go.AE.YtinhjhkmpknbbaaDoor
end

/-! A rune's class: the document's. -/
section
set_option linter.unusedVariables false
set_option linter.unusedSimpArgs false
namespace Go.AE.YtinhjhkmpknbbaaDoor
open Go Go.AE Go.Proofs.YtinhjhkmpknbbaaDoor

def ixsV (x : AV) (i : Option Nat) : Option AV := match x, i with
  | .v (.string s), some i => match s[i]? with
    | some b => some (.v (.int .u8 b.toNat))
    | none => none
  | _, _ => none
theorem e_ixs {call : CallF} {vars env : List AV} {h : List AO} {x i : Opd} : evOp call vars env h (.ixs x i) = withH h (ixsV (getO vars env x) (natO vars env i)) := by
  simp only [evOp, ixsV]
  generalize getO vars env x = a
  generalize natO vars env i = b
  cases b with
  | none => cases a with
    | v x => cases x <;> rfl
    | _ => rfl
  | some i =>
    cases a with
    | v x =>
      cases x with
      | string s => simp only; cases s[i]? <;> rfl
      | _ => rfl
    | _ => rfl
theorem ixs_at {s : ByteArray} {i : Nat} (h : i < s.size) : ixsV (.v (.string s)) (some i) = some (.v (.int .u8 (s[i]).toNat)) := by
  simp [ixsV, h]
def V100 (c : Int) (s : ByteArray) (i : Int) (x4 x5 : AV) : List AV := [.v (.int .i32 c), .v (.string s), .junk, .v (.int .i64 i), x4, x5]
def K100 : List Bool := [true, true, false, true, false, false]
theorem u8_i32 (b : UInt8) : IntKind.i32.wrap (b.toNat : Int) = b.toNat := by
  have := b.toNat_lt
  simp [IntKind.wrap, IntKind.bits, IntKind.signed]
  omega
theorem among_no {c : Int} {s : ByteArray} (hm : s.size ≤ maxLen) (hno : ∀ (i : Nat) (h : i < s.size), (c == (s[i].toNat : Int)) = false) : callW F 143 [.v (.int .i32 c), .v (.string s)] [] = some (.v (.bool false), []) := by
  refine callW_pure (c := c143) rfl rfl (s.size + 1) ?_
  obtain ⟨e, v', h', g1, g2, g3⟩ := loop_rule0 (call := callW F) (K := s.size + 1) (b := c143_6) (keep := K100)
    (fun i v h => v = V100 c s i .junk .junk)
    (fun e v h => e = .exit 0 ∧ v = V100 c s s.size (.v (.bool false)) .junk)
    s.size (m := s.size + 1) (v := [.v (.int .i32 c), .v (.string s), .v (.bool false), .v (.int .i64 0), .v undef, .v undef]) (h := []) (by omega) rfl (by
      rintro i v h hi rfl
      by_cases hil : i < s.size
      · have hlt := lt_t hil
        have q1 := ixs_at hil
        have hb := hno i hil
        have hw := wrap_succ hil hm
        have hc := u8_i32 (s[i])
        refine ⟨.normal, V100 c s ((i + 1 : Nat) : Int) (.v (.bool true)) (.v (.bool false)), h, ?_, hil, rfl⟩
        simp only [V100, c143_6, c143_2, c143_3, c143_5, hlt, e_ixs, q1, e_conv, cvK_int, hc, hb, hw, Q0, Q1, Q2, Q3, Q4, Q5, Q6, Q7, Q8, Q9, Q10, Q11, Q12, Q13, Q14, Q15, Q16, Q17, Q18, Q19, Q20, Q21, Q22, Q23, Q24, Q25, Q26, Q27, Q28, Q29, Q30, Q31, Q32, Q33, Q35, Q36, Q37, Q38, Q39, Q40, Q41, Q42, Q43, Q44, Q45, Q46, Q47, Q48, Q49, Q50, Q51, Q52, Q53, Q54, Q55, Q56, Q57, Q58, Q59, Q60, Q61, Q62, Q63, Q64, Q65, Q66, Q67, Q68, Q69, Q70, Q71, Q72, Q73, Q99, Q100, Q101, Q102, Q103, Q74, Q75, Q77, Q78, Q79, Q80, Q81, Q82, Q83, Q84, clr, List.length_nil, List.length_cons, List.getElem?_cons_zero, List.getElem?_cons_succ, Nat.reduceAdd, Nat.zero_add, Nat.add_zero, Nat.reduceLeDiff, Nat.reduceSub, ↓reduceIte, List.drop_succ_cons, List.drop_zero, List.take_succ_cons, List.take_zero, Bool.false_eq_true, List.nil_append, List.cons_append, Bool.not_true, Bool.not_false, cond_true, cond_false, bne, Q85, Q86, Q87, Q88, Q89, Q90, Q91, Q92, Q93, Q94, Q95, Q96, Q97, Q98, Q110, Q111, Q116, Q117, Q118, Q119, Q120, Q121, Q122, Q123, Option.map_some, Option.map_none, Q34]
      · have hie : i = s.size := by omega
        subst hie
        have hlt := lt_f (n := s.size)
        refine ⟨.exit 0, V100 c s s.size (.v (.bool false)) .junk, h, ?_, rfl, rfl⟩
        simp only [V100, c143_6, c143_2, hlt, Q0, Q1, Q2, Q3, Q4, Q5, Q6, Q7, Q8, Q9, Q10, Q11, Q12, Q13, Q14, Q15, Q16, Q17, Q18, Q19, Q20, Q21, Q22, Q23, Q24, Q25, Q26, Q27, Q28, Q29, Q30, Q31, Q32, Q33, Q35, Q36, Q37, Q38, Q39, Q40, Q41, Q42, Q43, Q44, Q45, Q46, Q47, Q48, Q49, Q50, Q51, Q52, Q53, Q54, Q55, Q56, Q57, Q58, Q59, Q60, Q61, Q62, Q63, Q64, Q65, Q66, Q67, Q68, Q69, Q70, Q71, Q72, Q73, Q99, Q100, Q101, Q102, Q103, Q74, Q75, Q77, Q78, Q79, Q80, Q81, Q82, Q83, Q84, clr, List.length_nil, List.length_cons, List.getElem?_cons_zero, List.getElem?_cons_succ, Nat.reduceAdd, Nat.zero_add, Nat.add_zero, Nat.reduceLeDiff, Nat.reduceSub, ↓reduceIte, List.drop_succ_cons, List.drop_zero, List.take_succ_cons, List.take_zero, Bool.false_eq_true, List.nil_append, List.cons_append, Bool.not_true, Bool.not_false, cond_true, cond_false, bne, Q85, Q86, Q87, Q88, Q89, Q90, Q91, Q92, Q93, Q94, Q95, Q96, Q97, Q98, Q110, Q111, Q116, Q117, Q118, Q119, Q120, Q121, Q122, Q123, Option.map_some, Option.map_none, Q34])
  rw [show c143.body = (.seq (.region [] [] c143_0) (.seq (.seq (.region [] [] c143_1) (.block 0 (.loop K100 [] c143_6))) (.seq (.region [] [] c143_7) .ret))) from rfl, show c143.res = [.var 2] from rfl]
  rw [show start c143 [.v (.int .i32 c), .v (.string s)] = [.v (.int .i32 c), .v (.string s), .v undef, .v undef, .v undef, .v undef] from rfl]
  obtain ⟨rfl, rfl⟩ := g3
  generalize c143_6 = bb at g1 ⊢
  simp only [V100, c143_0, c143_1, c143_7, g1, Q0, Q1, Q2, Q3, Q4, Q5, Q6, Q7, Q8, Q9, Q10, Q11, Q12, Q13, Q14, Q15, Q16, Q17, Q18, Q19, Q20, Q21, Q22, Q23, Q24, Q25, Q26, Q27, Q28, Q29, Q30, Q31, Q32, Q33, Q35, Q36, Q37, Q38, Q39, Q40, Q41, Q42, Q43, Q44, Q45, Q46, Q47, Q48, Q49, Q50, Q51, Q52, Q53, Q54, Q55, Q56, Q57, Q58, Q59, Q60, Q61, Q62, Q63, Q64, Q65, Q66, Q67, Q68, Q69, Q70, Q71, Q72, Q73, Q99, Q100, Q101, Q102, Q103, Q74, Q75, Q77, Q78, Q79, Q80, Q81, Q82, Q83, Q84, clr, List.length_nil, List.length_cons, List.getElem?_cons_zero, List.getElem?_cons_succ, Nat.reduceAdd, Nat.zero_add, Nat.add_zero, Nat.reduceLeDiff, Nat.reduceSub, ↓reduceIte, List.drop_succ_cons, List.drop_zero, List.take_succ_cons, List.take_zero, Bool.false_eq_true, List.nil_append, List.cons_append, Bool.not_true, Bool.not_false, cond_true, cond_false, bne, Q85, Q86, Q87, Q88, Q89, Q90, Q91, Q92, Q93, Q94, Q95, Q96, Q97, Q98, Q110, Q111, Q116, Q117, Q118, Q119, Q120, Q121, Q122, Q123, Option.map_some, Option.map_none, Q34]
theorem among_far {c : Nat} (hc : ¬ c < 128) {l : List UInt8} (hl : l.all (fun b => decide (b.toNat < 128)) = true) (hm : l.length ≤ maxLen) : callW F 143 [.v (.int .i32 (c : Int)), .v (.string ⟨l.toArray⟩)] [] = some (.v (.bool false), []) := by
  refine among_no (by simpa [ByteArray.size] using hm) fun i h => ?_
  have h1 : (⟨l.toArray⟩ : ByteArray)[i] ∈ l := by
    have : (⟨l.toArray⟩ : ByteArray)[i] = l[i]'(by simpa [ByteArray.size] using h) := rfl
    rw [this]; exact List.getElem_mem _
  have h2 := List.all_eq_true.1 hl _ h1
  simp only [decide_eq_true_eq] at h2
  simp; omega
theorem rcls_ok (c : Nat) : callW F 134 [.v (.int .i32 (c : Int))] [] = some (.v (.int .i64 (clsN c)), []) := by
  by_cases h : c < 128
  · exact callW_iff.2 ⟨60, List.map_inj_left.1 rcls_tab c (List.mem_range.2 h)⟩
  · rw [cls_far h]
    refine callW_pure (c := c134) rfl rfl 0 ?_
    have f : ∀ k : Int, k < 128 → ((c : Int) == k) = false := fun k hk => by simp; omega
    have g1 : decide ((c : Int) ≥ 97) = true := by simp; omega
    have g2 : decide ((c : Int) ≤ 122) = false := by simp; omega
    have g3 : decide ((c : Int) ≥ 65) = true := by simp; omega
    have g4 : decide ((c : Int) ≤ 90) = false := by simp; omega
    have g5 : decide ((c : Int) ≥ 48) = true := by simp; omega
    have g6 : decide ((c : Int) ≤ 57) = false := by simp; omega
    have e9 := f 9 (by decide)
    have e10 := f 10 (by decide)
    have e13 := f 13 (by decide)
    have e32 := f 32 (by decide)
    have e39 := f 39 (by decide)
    have e95 := f 95 (by decide)
    have a1 := among_far h (l := [43, 45, 42, 47, 92, 94, 60, 62, 61, 126, 58, 46, 63, 64, 35, 38, 36]) (by decide) (by decide)
    have a2 := among_far h (l := [33, 59, 44, 124]) (by decide) (by decide)
    have a3 := among_far h (l := [40, 41, 91, 93, 123, 125]) (by decide) (by decide)
    have sn : ∀ (h : List AO) (k : IntKind) (x : Int), (AV.v (.int k x)).snap1 h = some (.v (.int k x)) := fun _ _ _ => rfl
    simp only [c134, start, List.replicate, c134_0, c134_1, c134_3, c134_5, c134_7, c134_9, c134_11, c134_13, c134_15, c134_17, e9, e10, e13, e32, e39, e95, g1, g2, g3, g4, g5, g6, a1, a2, a3, sn, snap_str, Q0, Q1, Q2, Q3, Q4, Q5, Q6, Q7, Q8, Q9, Q10, Q11, Q12, Q13, Q14, Q15, Q16, Q17, Q18, Q19, Q20, Q21, Q22, Q23, Q24, Q25, Q26, Q27, Q28, Q29, Q30, Q31, Q32, Q33, Q35, Q36, Q37, Q38, Q39, Q40, Q41, Q42, Q43, Q44, Q45, Q46, Q47, Q48, Q49, Q50, Q51, Q52, Q53, Q54, Q55, Q56, Q57, Q58, Q59, Q60, Q61, Q62, Q63, Q64, Q65, Q66, Q67, Q68, Q69, Q70, Q71, Q72, Q73, Q99, Q100, Q101, Q102, Q103, Q74, Q75, Q77, Q78, Q79, Q80, Q81, Q82, Q83, Q84, clr, List.length_nil, List.length_cons, List.getElem?_cons_zero, List.getElem?_cons_succ, Nat.reduceAdd, Nat.zero_add, Nat.add_zero, Nat.reduceLeDiff, Nat.reduceSub, ↓reduceIte, List.drop_succ_cons, List.drop_zero, List.take_succ_cons, List.take_zero, Bool.false_eq_true, List.nil_append, List.cons_append, Bool.not_true, Bool.not_false, cond_true, cond_false, bne, Q85, Q86, Q87, Q88, Q89, Q90, Q91, Q92, Q93, Q94, Q95, Q96, Q97, Q98, Q110, Q111, Q116, Q117, Q118, Q119, Q120, Q121, Q122, Q123, Option.map_some, Option.map_none, Q34]
end Go.AE.YtinhjhkmpknbbaaDoor
end

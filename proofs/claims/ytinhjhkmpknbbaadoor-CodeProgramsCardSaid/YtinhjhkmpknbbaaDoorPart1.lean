/- Texts of this claim, put together. -/
import Derived.Shelf.Strings.Builder1
import Derived.Shelf.Unicode.DecodeAny
import Derived.Test.YtinhjhkmpknbbaaDoorChecked
import Derived.Shelf.Unicode.ValidAny
import Derived.Test.YtinhjhkmpknbbaaDoorEval4
import Derived.Lib.LaidU8T
import Derived.WalkKit
import Derived.Test.YtinhjhkmpknbbaaDoorEval3
import Derived.KernelRfl
set_option linter.unusedSimpArgs false
set_option linter.unusedVariables false
section
namespace Go.Proofs
open Go.Shelf
def Tryd.lays169_ren : Go.Shelf.Ren := ⟨fun | 169 => 68 | n => n, fun | 70 => 100 | 9 => 9 | 0 => 0 | 72 => 103 | 37 => 101 | 127 => 145 | 3 => 3 | 5 => 5 | n => n, fun | n => n⟩
theorem Tryd.lays169 : Go.Proofs.Lays.n169 Tryd.prog Tryd.lays169_ren := {
 mixed := by kernel_rfl
 f169 := Tryd.func68.trans (congrArg some (by kernel_rfl))
 t0 := Tryd.underlying0
 a0 := Tryd.isAgg0
 z0 := Tryd.sizeOf0
 v0 := Tryd.zeroValue0
 t3 := Tryd.underlying3
 a3 := Tryd.isAgg3
 z3 := Tryd.sizeOf3
 v3 := Tryd.zeroValue3
 t9 := Tryd.underlying9
 a9 := Tryd.isAgg9
 z9 := Tryd.sizeOf9
 v9 := Tryd.zeroValue9
 t37 := Tryd.underlying101
 a37 := Tryd.isAgg101
 z37 := Tryd.sizeOf101
 v37 := Tryd.zeroValue101
 t70 := Tryd.underlying100
 a70 := Tryd.isAgg100
 z70 := Tryd.sizeOf100
 v70 := Tryd.zeroValue100
 t72 := Tryd.underlying103
 a72 := Tryd.isAgg103
 z72 := Tryd.sizeOf103
 v72 := Tryd.zeroValue103
 t127 := Tryd.underlying145
 a127 := Tryd.isAgg145
 z127 := Tryd.sizeOf145
 v127 := Tryd.zeroValue145 }
theorem Tryd.Builder_Extra_169 : Builder.Extra Tryd.prog Tryd.lays169_ren := {
 sizeBuilder := by kernel_rfl
 liesBuilder := by kernel_rfl
 t5 := Tryd.underlying5
 a5 := Tryd.isAgg5
 z5 := Tryd.sizeOf5
 v5 := Tryd.zeroValue5
 infoByte := by kernel_rfl
 cellsByte := by kernel_rfl
 sizeByte := by kernel_rfl
 neB5 := by decide }
def Tryd.lays197_ren : Go.Shelf.Ren := ⟨fun | 197 => 135 | 260 => 144 | n => n, fun | 9 => 9 | 21 => 21 | 3 => 3 | 4 => 4 | 5 => 5 | 105 => 185 | 119 => 172 | 0 => 0 | 46 => 176 | 139 => 175 | 138 => 174 | n => n, fun | 3 => 0 | 4 => 1 | n => n⟩
theorem Tryd.lays197 : Go.Proofs.Lays.n197 Tryd.prog Tryd.lays197_ren := {
 mixed := by kernel_rfl
 f197 := Tryd.func135.trans (congrArg some (by kernel_rfl))
 f260 := Tryd.func144.trans (congrArg some (by kernel_rfl))
 t0 := Tryd.underlying0
 a0 := Tryd.isAgg0
 z0 := Tryd.sizeOf0
 v0 := Tryd.zeroValue0
 t3 := Tryd.underlying3
 a3 := Tryd.isAgg3
 z3 := Tryd.sizeOf3
 v3 := Tryd.zeroValue3
 t4 := Tryd.underlying4
 a4 := Tryd.isAgg4
 z4 := Tryd.sizeOf4
 v4 := Tryd.zeroValue4
 t5 := Tryd.underlying5
 a5 := Tryd.isAgg5
 z5 := Tryd.sizeOf5
 v5 := Tryd.zeroValue5
 t9 := Tryd.underlying9
 a9 := Tryd.isAgg9
 z9 := Tryd.sizeOf9
 v9 := Tryd.zeroValue9
 t21 := Tryd.underlying21
 a21 := Tryd.isAgg21
 z21 := Tryd.sizeOf21
 v21 := Tryd.zeroValue21
 t46 := Tryd.underlying176
 a46 := Tryd.isAgg176
 z46 := Tryd.sizeOf176
 v46 := Tryd.zeroValue176
 t105 := Tryd.underlying185
 a105 := Tryd.isAgg185
 z105 := Tryd.sizeOf185
 v105 := Tryd.zeroValue185
 t119 := Tryd.underlying172
 a119 := Tryd.isAgg172
 z119 := Tryd.sizeOf172
 t138 := Tryd.underlying174
 a138 := Tryd.isAgg174
 z138 := Tryd.sizeOf174
 v138 := Tryd.zeroValue174
 t139 := Tryd.underlying175
 a139 := Tryd.isAgg175
 z139 := Tryd.sizeOf175
 v139 := Tryd.zeroValue175
 g3 := by kernel_rfl
 g4 := by kernel_rfl }
def Tryd.lays196_ren : Go.Shelf.Ren := ⟨fun | 196 => 101 | 259 => 123 | n => n, fun | 9 => 9 | 4 => 4 | 3 => 3 | 5 => 5 | 12 => 12 | 119 => 172 | 0 => 0 | 46 => 176 | 139 => 175 | 138 => 174 | 53 => 164 | n => n, fun | 3 => 0 | 4 => 1 | n => n⟩
theorem Tryd.lays196 : Go.Proofs.Lays.n196 Tryd.prog Tryd.lays196_ren := {
 mixed := by kernel_rfl
 f196 := Tryd.func101.trans (congrArg some (by kernel_rfl))
 f259 := Tryd.func123.trans (congrArg some (by kernel_rfl))
 t0 := Tryd.underlying0
 a0 := Tryd.isAgg0
 z0 := Tryd.sizeOf0
 v0 := Tryd.zeroValue0
 t3 := Tryd.underlying3
 a3 := Tryd.isAgg3
 z3 := Tryd.sizeOf3
 v3 := Tryd.zeroValue3
 t4 := Tryd.underlying4
 a4 := Tryd.isAgg4
 z4 := Tryd.sizeOf4
 v4 := Tryd.zeroValue4
 t5 := Tryd.underlying5
 a5 := Tryd.isAgg5
 z5 := Tryd.sizeOf5
 v5 := Tryd.zeroValue5
 t9 := Tryd.underlying9
 a9 := Tryd.isAgg9
 z9 := Tryd.sizeOf9
 v9 := Tryd.zeroValue9
 t12 := Tryd.underlying12
 a12 := Tryd.isAgg12
 z12 := Tryd.sizeOf12
 v12 := Tryd.zeroValue12
 t46 := Tryd.underlying176
 a46 := Tryd.isAgg176
 z46 := Tryd.sizeOf176
 v46 := Tryd.zeroValue176
 t53 := Tryd.underlying164
 a53 := Tryd.isAgg164
 z53 := Tryd.sizeOf164
 v53 := Tryd.zeroValue164
 t119 := Tryd.underlying172
 a119 := Tryd.isAgg172
 z119 := Tryd.sizeOf172
 t138 := Tryd.underlying174
 a138 := Tryd.isAgg174
 z138 := Tryd.sizeOf174
 v138 := Tryd.zeroValue174
 t139 := Tryd.underlying175
 a139 := Tryd.isAgg175
 z139 := Tryd.sizeOf175
 v139 := Tryd.zeroValue175
 g3 := by kernel_rfl
 g4 := by kernel_rfl }
end Go.Proofs
end

section
namespace Go.Proofs.YtinhjhkmpknbbaaDoor
open Go Go.RowKit Go.AE Go.Proofs Go.Shelf

set_option maxHeartbeats 1000000 in
set_option maxRecDepth 100000 in
theorem copy_used (b : Nat) (w : World) (h0 : w.cell? ⟨b, 0, none⟩ = some (.pointer (some ⟨b, 0, none⟩))) :
  Calls Tryd.prog 97 #[.pointer (some ⟨b, 0, none⟩)] w fun e w' => e = .returned (.tuple #[]) ∧ w' = w := by
 obtain ⟨j, hj, _⟩ := Option.map_eq_some_iff.1 Tryd.Builder_Extra_169.sizeBuilder
 have hj : Tryd.prog.info? 103 = some j := hj
 go_enter Tryd.func97, Tryd.ntmps97
 go_wp2
 rw [Lib.run_neq_ptr_same w _ Tryd.underlying100 hj]
 go_wp2
 go_end0
 exact ⟨rfl, rfl⟩
set_option maxHeartbeats 1000000 in
set_option maxRecDepth 100000 in
theorem copy_fresh (b : Nat) (w : World) (h0 : w.cell? ⟨b, 0, none⟩ = some (.pointer none)) (hsh : w.shape? b = some (103, 2)) (hfz : w.frozen? ⟨b, 0, none⟩ = false) :
  Calls Tryd.prog 97 #[.pointer (some ⟨b, 0, none⟩)] w fun e w' => e = .returned (.tuple #[]) ∧ w' = w.setCell ⟨b, 0, none⟩ (.pointer (some ⟨b, 0, none⟩)) := by
 obtain ⟨j, hj, hjs⟩ := Option.map_eq_some_iff.1 Tryd.Builder_Extra_169.sizeBuilder
 have hj : Tryd.prog.info? 103 = some j := hj
 go_enter Tryd.func97, Tryd.ntmps97
 go_wp2
 rw [Lib.run_to_unsafe w ⟨b, 0, none⟩ Tryd.underlying100 Tryd.underlying166 hj (by rw [hjs]; decide) hsh (Nat.zero_lt_succ 1)]
 simp only [Result.andThen]
 rw [Oper.upon_value]
 go_wp2
 rw [run_callFunc_extern Tryd.func118 (by kernel_rfl) (by kernel_rfl) (by kernel_rfl) (e := Extern.AbiNoEscape.same) (by kernel_rfl)]
 rw [Lib.run_noEscape]
 simp only [Result.andThen]
 rw [Oper.upon_value]
 go_wp2
 rw [Lib.run_from_unsafe w ⟨b, 0, none⟩ Tryd.underlying166 Tryd.underlying100 hj hsh Tryd.Builder_Extra_169.liesBuilder]
 simp only [Result.andThen]
 rw [Oper.upon_value]
 go_wp2
 go_end0
 exact ⟨rfl, rfl⟩
theorem copy_enter (vals : Array Value) (w : World) : (callFunc 97 vals).run Tryd.prog w = .ok (.enter 97 vals) w := enters_of Tryd.func97 (by kernel_rfl) rfl vals w
theorem string_enter (vals : Array Value) (w : World) : (callFunc 68 vals).run Tryd.prog w = .ok (.enter 68 vals) w := enters_of Tryd.func68 (by kernel_rfl) rfl vals w

def K (B : Nat) (w : World) : Prop := B = w.heap.size ∧ (Lib.Utf8Tabs (Tryd.lays196_ren.g 3) (Tryd.lays196_ren.g 4) w ∧ (w.cell? ⟨4, 15, none⟩ = some (.int .u8 4) ∧ 4 < w.heap.size))
theorem hKs : Holds K := fun B w0 I σ w h hK hI => ⟨rfl, Utf8Tabs_below hK.2.1 (hK.1 ▸ hI.below), (hI.below.cell (p := ⟨4, 15, none⟩) (by have := hK.2.2.2; rw [hK.1]; exact this)).trans hK.2.2.1, Nat.lt_of_lt_of_le hK.2.2.2 (hK.1 ▸ hI.base)⟩
theorem look_ends {B : Nat} {w0 w : World} {I : Cells} {σ : List AE.Loc} {h : List AO} (hI : AE.Inv B w0 I σ w h) {r : AV} {e : Ending} {v : Value} {w' : World} (he : e = .returned v) (hB : Below w.heap.size w w') (hr : Rep I w σ r v) : AE.Ends B w0 I σ w r h e w' := by
 have hext : Ext I w I w' := ⟨fun _ _ h => h, fun b x hi => hB.cell (p := ⟨b, x, none⟩) (hI.imm_lt hi)⟩
 refine ⟨v, I, σ, he, hI.same (hB.mono hI.base) hext (fun b x hi => by
  obtain ⟨u, hu⟩ := hI.imm b x hi
  exact ⟨u, (hext.cell b x hi).trans hu⟩) (fun j Lj hj hh => ⟨hB.block _ (hI.mine j Lj hj hh).2, fun _ h => h⟩), ⟨hext, Later.refl _, fun _ _ h => .inl h, hB.size⟩, hr.mono hext (Later.refl _)⟩

def validG (args : List AV) (h : List AO) : Option (AV × List AO) := match args with
 | [.v (.string s)] => if s.size ≤ 9223372036854775807 then some (.v (.bool (Lib.validD s.data.toList)), h) else none
 | _ => none
theorem valid_enter (vals : Array Value) (w : World) : (callFunc 101 vals).run Tryd.prog w = .ok (.enter 101 vals) w := enters_of Tryd.func101 (by kernel_rfl) rfl vals w
theorem valid_ok {B : Nat} {w0 : World} (hK : K B w0) : ∀ args h r h', validG args h = some (r, h') → (∀ (vals : Array Value) (w : World), (callFunc 101 vals).run Tryd.prog w = .ok (.enter 101 vals) w) ∧
  ∀ I σ w (vals : Array Value), AE.Inv B w0 I σ w h → ArgsRep I w σ args vals → Calls Tryd.prog 101 vals w (AE.Ends B w0 I σ w r h') := by
 intro args h r h' hg
 refine ⟨valid_enter, fun I σ w vals hI ha => ?_⟩
 unfold validG at hg
 split at hg
 ·rename_i s
  split at hg
  ·rename_i hs
   cases hg
   obtain ⟨u, rfl, h1⟩ := one_arg (args := []) ha
   cases h1
   have cV : Calls Tryd.prog 101 #[.string s] w _ := Any.utf8_ValidString Tryd.lays196 s w hs (hKs B w0 I σ w h hK hI).2.1
   refine cV.mono ?_
   rintro e w' ⟨he, hB⟩
   exact look_ends hI he hB (.v _ _)
  ·cases hg
 ·cases hg

def decG (args : List AV) (h : List AO) : Option (AV × List AO) := match args with
 | [.v (.string s)] => some (.tup [.v (.int .i32 (Lib.decodeGo s).1), .v (.int .i64 (Lib.decodeGo s).2)], h)
 | _ => none
theorem dec_enter (vals : Array Value) (w : World) : (callFunc 135 vals).run Tryd.prog w = .ok (.enter 135 vals) w := enters_of Tryd.func135 (by kernel_rfl) rfl vals w
theorem dec_ok {B : Nat} {w0 : World} (hK : K B w0) : ∀ args h r h', decG args h = some (r, h') → (∀ (vals : Array Value) (w : World), (callFunc 135 vals).run Tryd.prog w = .ok (.enter 135 vals) w) ∧
  ∀ I σ w (vals : Array Value), AE.Inv B w0 I σ w h → ArgsRep I w σ args vals → Calls Tryd.prog 135 vals w (AE.Ends B w0 I σ w r h') := by
 intro args h r h' hg
 refine ⟨dec_enter, fun I σ w vals hI ha => ?_⟩
 unfold decG at hg
 split at hg
 ·rename_i s
  cases hg
  obtain ⟨u, rfl, h1⟩ := one_arg (args := []) ha
  cases h1
  have cV : Calls Tryd.prog 135 #[.string s] w _ := Any.utf8_DecodeRuneInString Tryd.lays197 s w (hKs B w0 I σ w h hK hI).2.1
  refine cV.mono ?_
  rintro e w' ⟨he, hB⟩
  refine look_ends hI he hB (.tup _ _ _ rfl (fun i c hi => ?_))
  match i, hi with
  | 0, hi => cases hi; exact .v _ _
  | 1, hi => cases hi; exact .v _ _
 ·cases hg

def tzG (args : List AV) (h : List AO) : Option (AV × List AO) := match args with
 | [.v (.int .u64 n)] => if n = 16 then some (.v (.int .i64 4), h) else none
 | _ => none
theorem tz_enter (vals : Array Value) (w : World) : (callFunc 152 vals).run Tryd.prog w = .ok (.enter 152 vals) w := enters_of Tryd.func152 (by kernel_rfl) rfl vals w
set_option maxHeartbeats 1000000 in
set_option maxRecDepth 100000 in
theorem tz_walk (w : World) (h0 : w.cell? ⟨4, 15, none⟩ = some (.int .u8 4)) :
  Calls Tryd.prog 152 #[.int .u64 16] w fun e w' => e = .returned (.int .i64 4) ∧ w' = w := by
 have key : IntKind.u64.wrap (bits BinOp.and IntKind.u64 16 (IntKind.u64.wrap (-16)) * 285870213051353865) / 288230376151711744 = 15 := by decide
 go_enter Tryd.func152, Tryd.ntmps152
 go_wp2_with (simp only [key])
 go_ret
 exact ⟨rfl, rfl⟩
theorem tz_ok {B : Nat} {w0 : World} (hK : K B w0) : ∀ args h r h', tzG args h = some (r, h') → (∀ (vals : Array Value) (w : World), (callFunc 152 vals).run Tryd.prog w = .ok (.enter 152 vals) w) ∧
  ∀ I σ w (vals : Array Value), AE.Inv B w0 I σ w h → ArgsRep I w σ args vals → Calls Tryd.prog 152 vals w (AE.Ends B w0 I σ w r h') := by
 intro args h r h' hg
 refine ⟨tz_enter, fun I σ w vals hI ha => ?_⟩
 unfold tzG at hg
 split at hg
 ·rename_i n
  split at hg
  ·rename_i hn
   subst hn
   cases hg
   obtain ⟨u, rfl, h1⟩ := one_arg (args := []) ha
   cases h1
   refine (tz_walk w (hKs B w0 I σ w h hK hI).2.2.1).mono ?_
   rintro e w' ⟨he, rfl⟩
   exact look_ends hI he (Below.refl _ _) (.v _ _)
  ·cases hg
 ·cases hg

end Go.Proofs.YtinhjhkmpknbbaaDoor
end

section
set_option maxRecDepth 100000
namespace Go.Proofs.YtinhjhkmpknbbaaDoor
open Go Go.AE Go.Proofs
def ti2 : TI := ⟨1, 8, (.int .i64 0), (.int .i64)⟩
theorem tiOk2 : TIok Tryd.prog 2 ti2 := tiok_of (by kernel_rfl) (by kernel_rfl)
def ti3 : TI := ⟨1, 8, (.int .i64 0), (.int .i64)⟩
theorem tiOk3 : TIok Tryd.prog 3 ti3 := tiok_of (by kernel_rfl) (by kernel_rfl)
def ti4 : TI := ⟨1, 1, (.bool false), .bool⟩
theorem tiOk4 : TIok Tryd.prog 4 ti4 := tiok_of (by kernel_rfl) (by kernel_rfl)
def ti5 : TI := ⟨1, 1, (.int .u8 0), (.int .u8)⟩
theorem tiOk5 : TIok Tryd.prog 5 ti5 := tiok_of (by kernel_rfl) (by kernel_rfl)
def ti9 : TI := ⟨1, 16, (.string ⟨#[]⟩), .string⟩
theorem tiOk9 : TIok Tryd.prog 9 ti9 := tiok_of (by kernel_rfl) (by kernel_rfl)
def ti21 : TI := ⟨1, 4, (.int .i32 0), (.int .i32)⟩
theorem tiOk21 : TIok Tryd.prog 21 ti21 := tiok_of (by kernel_rfl) (by kernel_rfl)
def ti22 : TI := ⟨1, 24, (.slice none 0 0), (.slice 24)⟩
theorem tiOk22 : TIok Tryd.prog 22 ti22 := tiok_of (by kernel_rfl) (by kernel_rfl)
def ti24 : TI := ⟨4, 56, (.agg #[(.int .i64 0), (.string ⟨#[]⟩), (.int .i64 0), (.slice none 0 0)]), (.struct #[⟨"Kind", 3, 0, false, "", "", 0⟩, ⟨"Name", 9, 1, false, "", "", 8⟩, ⟨"N", 2, 2, false, "", "", 24⟩, ⟨"Args", 22, 3, false, "", "", 32⟩])⟩
theorem tiOk24 : TIok Tryd.prog 24 ti24 := tiok_of (by kernel_rfl) (by kernel_rfl)
def ti27 : TI := ⟨1, 8, (.int .i64 0), (.int .i64)⟩
theorem tiOk27 : TIok Tryd.prog 27 ti27 := tiok_of (by kernel_rfl) (by kernel_rfl)
def ti46 : TI := ⟨6, 88, (.agg #[(.int .i64 0), (.string ⟨#[]⟩), (.int .i64 0), (.slice none 0 0), (.slice none 0 0), (.int .i64 0)]), (.struct #[⟨"Head", 24, 0, false, "", "", 0⟩, ⟨"Body", 22, 4, false, "", "", 56⟩, ⟨"Vars", 3, 5, false, "", "", 80⟩])⟩
theorem tiOk46 : TIok Tryd.prog 46 ti46 := tiok_of (by kernel_rfl) (by kernel_rfl)
def ti50 : TI := ⟨1, 24, (.slice none 0 0), (.slice 58)⟩
theorem tiOk50 : TIok Tryd.prog 50 ti50 := tiok_of (by kernel_rfl) (by kernel_rfl)
def ti52 : TI := ⟨4, 56, (.agg #[(.string ⟨#[]⟩), (.int .i64 0), (.int .i64 0), (.slice none 0 0)]), (.struct #[⟨"Name", 9, 0, false, "", "", 0⟩, ⟨"Arity", 3, 1, false, "", "", 16⟩, ⟨"Vars", 3, 2, false, "", "", 24⟩, ⟨"L", 50, 3, false, "", "", 32⟩])⟩
theorem tiOk52 : TIok Tryd.prog 52 ti52 := tiok_of (by kernel_rfl) (by kernel_rfl)
def ti56 : TI := ⟨1, 8, (.map none), (.map 3 4)⟩
theorem tiOk56 : TIok Tryd.prog 56 ti56 := tiok_of (by kernel_rfl) (by kernel_rfl)
def ti58 : TI := ⟨5, 48, (.agg #[(.int .i64 0), (.int .i64 0), (.int .i64 0), (.string ⟨#[]⟩), (.int .i64 0)]), (.struct #[⟨"Op", 3, 0, false, "", "", 0⟩, ⟨"A", 3, 1, false, "", "", 8⟩, ⟨"B", 3, 2, false, "", "", 16⟩, ⟨"Name", 9, 3, false, "", "", 24⟩, ⟨"N", 2, 4, false, "", "", 40⟩])⟩
theorem tiOk58 : TIok Tryd.prog 58 ti58 := tiok_of (by kernel_rfl) (by kernel_rfl)
def ti60 : TI := ⟨1, 24, (.slice none 0 0), (.slice 46)⟩
theorem tiOk60 : TIok Tryd.prog 60 ti60 := tiok_of (by kernel_rfl) (by kernel_rfl)
def ti62 : TI := ⟨1, 24, (.slice none 0 0), (.slice 52)⟩
theorem tiOk62 : TIok Tryd.prog 62 ti62 := tiok_of (by kernel_rfl) (by kernel_rfl)
def ti77 : TI := ⟨1, 24, (.slice none 0 0), (.slice 3)⟩
theorem tiOk77 : TIok Tryd.prog 77 ti77 := tiok_of (by kernel_rfl) (by kernel_rfl)
def ti82 : TI := ⟨1, 24, (.slice none 0 0), (.slice 2)⟩
theorem tiOk82 : TIok Tryd.prog 82 ti82 := tiok_of (by kernel_rfl) (by kernel_rfl)
def ti88 : TI := ⟨1, 8, (.pointer none), (.pointer 92)⟩
theorem tiOk88 : TIok Tryd.prog 88 ti88 := tiok_of (by kernel_rfl) (by kernel_rfl)
def ti89 : TI := ⟨1, 8, (.map none), (.map 2 3)⟩
theorem tiOk89 : TIok Tryd.prog 89 ti89 := tiok_of (by kernel_rfl) (by kernel_rfl)
def ti90 : TI := ⟨1, 24, (.slice none 0 0), (.slice 130)⟩
theorem tiOk90 : TIok Tryd.prog 90 ti90 := tiok_of (by kernel_rfl) (by kernel_rfl)
def ti92 : TI := ⟨4, 64, (.agg #[(.slice none 0 0), (.map none), (.int .i64 0), (.slice none 0 0)]), (.struct #[⟨"l", 50, 0, false, "", "spinney/code", 0⟩, ⟨"named", 89, 1, false, "", "spinney/code", 24⟩, ⟨"next", 3, 2, false, "", "spinney/code", 32⟩, ⟨"queue", 90, 3, false, "", "spinney/code", 40⟩])⟩
theorem tiOk92 : TIok Tryd.prog 92 ti92 := tiok_of (by kernel_rfl) (by kernel_rfl)
def ti95 : TI := ⟨1, 8, (.pointer none), (.pointer 97)⟩
theorem tiOk95 : TIok Tryd.prog 95 ti95 := tiok_of (by kernel_rfl) (by kernel_rfl)
def ti97 : TI := ⟨3, 56, (.agg #[(.slice none 0 0), (.slice none 0 0), (.int .i64 0)]), (.struct #[⟨"l", 50, 0, false, "", "spinney/spinneyref15", 0⟩, ⟨"met", 82, 1, false, "", "spinney/spinneyref15", 24⟩, ⟨"next", 3, 2, false, "", "spinney/spinneyref15", 48⟩])⟩
theorem tiOk97 : TIok Tryd.prog 97 ti97 := tiok_of (by kernel_rfl) (by kernel_rfl)
def ti100 : TI := ⟨1, 8, (.pointer none), (.pointer 103)⟩
theorem tiOk100 : TIok Tryd.prog 100 ti100 := tiok_of (by kernel_rfl) (by kernel_rfl)
def ti101 : TI := ⟨1, 24, (.slice none 0 0), (.slice 5)⟩
theorem tiOk101 : TIok Tryd.prog 101 ti101 := tiok_of (by kernel_rfl) (by kernel_rfl)
def ti103 : TI := ⟨2, 32, (.agg #[(.pointer none), (.slice none 0 0)]), (.struct #[⟨"addr", 100, 0, false, "", "strings", 0⟩, ⟨"buf", 101, 1, false, "", "strings", 8⟩])⟩
theorem tiOk103 : TIok Tryd.prog 103 ti103 := tiok_of (by kernel_rfl) (by kernel_rfl)
def ti126 : TI := ⟨1, 24, (.slice none 0 0), (.slice 9)⟩
theorem tiOk126 : TIok Tryd.prog 126 ti126 := tiok_of (by kernel_rfl) (by kernel_rfl)
def ti130 : TI := ⟨5, 64, (.agg #[(.int .i64 0), (.int .i64 0), (.string ⟨#[]⟩), (.int .i64 0), (.slice none 0 0)]), (.struct #[⟨"r", 3, 0, false, "", "spinney/code", 0⟩, ⟨"t", 24, 1, false, "", "spinney/code", 8⟩])⟩
theorem tiOk130 : TIok Tryd.prog 130 ti130 := tiok_of (by kernel_rfl) (by kernel_rfl)
def ti134 : TI := ⟨5, 64, (.agg #[(.int .i64 0), (.int .i64 0), (.string ⟨#[]⟩), (.int .i64 0), (.slice none 0 0)]), (.struct #[⟨"r", 3, 0, false, "", "spinney/spinneyref15", 0⟩, ⟨"t", 24, 1, false, "", "spinney/spinneyref15", 8⟩])⟩
theorem tiOk134 : TIok Tryd.prog 134 ti134 := tiok_of (by kernel_rfl) (by kernel_rfl)
def ti135 : TI := ⟨1, 24, (.slice none 0 0), (.slice 134)⟩
theorem tiOk135 : TIok Tryd.prog 135 ti135 := tiok_of (by kernel_rfl) (by kernel_rfl)
def ti141 : TI := ⟨5, 80, (.agg #[(.string ⟨#[]⟩), (.string ⟨#[]⟩), (.string ⟨#[]⟩), (.string ⟨#[]⟩), (.string ⟨#[]⟩)]), (.array 5 9)⟩
theorem tiOk141 : TIok Tryd.prog 141 ti141 := tiok_of (by kernel_rfl) (by kernel_rfl)
def ti143 : TI := ⟨4, 64, (.agg #[(.string ⟨#[]⟩), (.string ⟨#[]⟩), (.string ⟨#[]⟩), (.string ⟨#[]⟩)]), (.array 4 9)⟩
theorem tiOk143 : TIok Tryd.prog 143 ti143 := tiok_of (by kernel_rfl) (by kernel_rfl)
def ti163 : TI := ⟨20, 20, (.agg #[(.int .u8 0), (.int .u8 0), (.int .u8 0), (.int .u8 0), (.int .u8 0), (.int .u8 0), (.int .u8 0), (.int .u8 0), (.int .u8 0), (.int .u8 0), (.int .u8 0), (.int .u8 0), (.int .u8 0), (.int .u8 0), (.int .u8 0), (.int .u8 0), (.int .u8 0), (.int .u8 0), (.int .u8 0), (.int .u8 0)]), (.array 20 5)⟩
theorem tiOk163 : TIok Tryd.prog 163 ti163 := tiok_of (by kernel_rfl) (by kernel_rfl)
def ti164 : TI := ⟨1, 8, (.int .u64 0), (.int .u64)⟩
theorem tiOk164 : TIok Tryd.prog 164 ti164 := tiok_of (by kernel_rfl) (by kernel_rfl)
def ti168 : TI := ⟨1, 24, (.slice none 0 0), (.slice 21)⟩
theorem tiOk168 : TIok Tryd.prog 168 ti168 := tiok_of (by kernel_rfl) (by kernel_rfl)
def ti176 : TI := ⟨1, 8, (.int .u64 0), (.int .u64)⟩
theorem tiOk176 : TIok Tryd.prog 176 ti176 := tiok_of (by kernel_rfl) (by kernel_rfl)
def ti190 : TI := ⟨1, 4, (.int .u32 0), (.int .u32)⟩
theorem tiOk190 : TIok Tryd.prog 190 ti190 := tiok_of (by kernel_rfl) (by kernel_rfl)
def ti191 : TI := ⟨24, 24, (.agg #[(.int .u8 0), (.int .u8 0), (.int .u8 0), (.int .u8 0), (.int .u8 0), (.int .u8 0), (.int .u8 0), (.int .u8 0), (.int .u8 0), (.int .u8 0), (.int .u8 0), (.int .u8 0), (.int .u8 0), (.int .u8 0), (.int .u8 0), (.int .u8 0), (.int .u8 0), (.int .u8 0), (.int .u8 0), (.int .u8 0), (.int .u8 0), (.int .u8 0), (.int .u8 0), (.int .u8 0)]), (.array 24 5)⟩
theorem tiOk191 : TIok Tryd.prog 191 ti191 := tiok_of (by kernel_rfl) (by kernel_rfl)
def ti201 : TI := ⟨65, 65, (.agg #[(.int .u8 0), (.int .u8 0), (.int .u8 0), (.int .u8 0), (.int .u8 0), (.int .u8 0), (.int .u8 0), (.int .u8 0), (.int .u8 0), (.int .u8 0), (.int .u8 0), (.int .u8 0), (.int .u8 0), (.int .u8 0), (.int .u8 0), (.int .u8 0), (.int .u8 0), (.int .u8 0), (.int .u8 0), (.int .u8 0), (.int .u8 0), (.int .u8 0), (.int .u8 0), (.int .u8 0), (.int .u8 0), (.int .u8 0), (.int .u8 0), (.int .u8 0), (.int .u8 0), (.int .u8 0), (.int .u8 0), (.int .u8 0), (.int .u8 0), (.int .u8 0), (.int .u8 0), (.int .u8 0), (.int .u8 0), (.int .u8 0), (.int .u8 0), (.int .u8 0), (.int .u8 0), (.int .u8 0), (.int .u8 0), (.int .u8 0), (.int .u8 0), (.int .u8 0), (.int .u8 0), (.int .u8 0), (.int .u8 0), (.int .u8 0), (.int .u8 0), (.int .u8 0), (.int .u8 0), (.int .u8 0), (.int .u8 0), (.int .u8 0), (.int .u8 0), (.int .u8 0), (.int .u8 0), (.int .u8 0), (.int .u8 0), (.int .u8 0), (.int .u8 0), (.int .u8 0), (.int .u8 0)]), (.array 65 5)⟩
theorem tiOk201 : TIok Tryd.prog 201 ti201 := tiok_of (by kernel_rfl) (by kernel_rfl)
def tys : List (TypeId × TI) := [(2, ti2), (3, ti3), (4, ti4), (5, ti5), (9, ti9), (21, ti21), (22, ti22), (24, ti24), (27, ti27), (46, ti46), (50, ti50), (52, ti52), (56, ti56), (58, ti58), (60, ti60), (62, ti62), (77, ti77), (82, ti82), (88, ti88), (89, ti89), (90, ti90), (92, ti92), (95, ti95), (97, ti97), (100, ti100), (101, ti101), (103, ti103), (126, ti126), (130, ti130), (134, ti134), (135, ti135), (141, ti141), (143, ti143), (163, ti163), (164, ti164), (168, ti168), (176, ti176), (190, ti190), (191, ti191), (201, ti201)]
def pures : List FuncId := [0, 1, 2, 3, 4, 5, 6, 7, 8, 9, 10, 11, 12, 13, 14, 15, 16, 17, 18, 19, 20, 21, 22, 23, 24, 25, 26, 27, 28, 29, 30, 31, 32, 33, 34, 35, 36, 37, 38, 39, 40, 41, 42, 43, 44, 45, 46, 47, 48, 49, 51, 52, 53, 54, 55, 56, 57, 64, 65, 69, 70, 71, 72, 73, 75, 77, 78, 80, 81, 82, 84, 85, 93, 94, 95, 96, 98, 99, 100, 101, 103, 106, 109, 113, 114, 116, 117, 118, 119, 120, 121, 122, 123, 124, 127, 128, 129, 130, 131, 133, 134, 135, 137, 139, 140, 141, 142, 143, 144, 146, 147, 148, 149, 150, 151, 152, 153, 154, 155, 156, 157, 158, 159, 160, 166, 167, 169, 170, 171, 172, 173, 174, 175, 176, 177]
def lits : List TypeId := []
def frz : List FuncId := [81]
def pushes : List FuncId := [83]
def T : Tb := ⟨fun t => tys.lookup t, fun f => pures.contains f, fun t => lits.contains t, fun f => frz.contains f, fun f => pushes.contains f⟩
theorem hT : TbOk Tryd.prog T := tbok_of (fun p hp => by
 simp only [tys, List.mem_cons, List.not_mem_nil, or_false] at hp
 rcases hp with rfl | rfl | rfl | rfl | rfl | rfl | rfl | rfl | rfl | rfl | rfl | rfl | rfl | rfl | rfl | rfl | rfl | rfl | rfl | rfl | rfl | rfl | rfl | rfl | rfl | rfl | rfl | rfl | rfl | rfl | rfl | rfl | rfl | rfl | rfl | rfl | rfl | rfl | rfl | rfl
 ·exact tiOk2
 ·exact tiOk3
 ·exact tiOk4
 ·exact tiOk5
 ·exact tiOk9
 ·exact tiOk21
 ·exact tiOk22
 ·exact tiOk24
 ·exact tiOk27
 ·exact tiOk46
 ·exact tiOk50
 ·exact tiOk52
 ·exact tiOk56
 ·exact tiOk58
 ·exact tiOk60
 ·exact tiOk62
 ·exact tiOk77
 ·exact tiOk82
 ·exact tiOk88
 ·exact tiOk89
 ·exact tiOk90
 ·exact tiOk92
 ·exact tiOk95
 ·exact tiOk97
 ·exact tiOk100
 ·exact tiOk101
 ·exact tiOk103
 ·exact tiOk126
 ·exact tiOk130
 ·exact tiOk134
 ·exact tiOk135
 ·exact tiOk141
 ·exact tiOk143
 ·exact tiOk163
 ·exact tiOk164
 ·exact tiOk168
 ·exact tiOk176
 ·exact tiOk190
 ·exact tiOk191
 ·exact tiOk201)

def c8_0 : List CO := [⟨(.mov (.k (.bool false))), (some 1), none⟩]
def c8_1 : List CO := [⟨(.call true 23 []), none, none⟩,
 ⟨(.mov (.loc 0)), (some 2), none⟩]
def c8_2 : List CO := [⟨(.mov (.var 0)), none, none⟩,
 ⟨(.len .slice (.loc 0)), none, none⟩,
 ⟨(.bin .gtr (.loc 0) (.k (.int .i64 100))), (some 7), none⟩]
def c8_3 : List CO := [⟨(.mov (.var 2)), none, none⟩,
 ⟨(.mov (.loc 0)), (some 1), none⟩]
def c8_4 : List CO := [⟨(.mov (.var 0)), (some 8), none⟩,
 ⟨(.len .slice (.var 8)), (some 9), none⟩,
 ⟨(.mov (.k (.int .i64 0))), (some 10), none⟩]
def c8_5 : List CO := [⟨(.bin .lss (.var 10) (.var 9)), (some 11), none⟩]
def c8_6 : List CO := [⟨(.ia 6 (.var 8) (.var 10)), none, none⟩,
 ⟨(.load true 6 (.loc 0)), none, none⟩,
 ⟨(.box 46 (.k (.agg #[(.int .i64 0), (.string ⟨#[]⟩), (.int .i64 0), (.slice none 0 0), (.slice none 0 0), (.int .i64 0)]))), (some 3), none⟩,
 ⟨(.store 6 (.var 3) (.loc 1)), none, none⟩]
def c8_7 : List CO := [⟨(.load true 6 (.var 3)), none, none⟩,
 ⟨(.call true 31 [(.loc 0)]), none, none⟩,
 ⟨(.un .not (.loc 0)), (some 12), none⟩]
def c8_8 : List CO := [⟨(.mov (.var 2)), none, none⟩,
 ⟨(.mov (.loc 0)), (some 1), none⟩]
def c8_9 : List CO := [⟨(.bin .add (.var 10) (.k (.int .i64 1))), none, none⟩,
 ⟨(.mov (.loc 0)), (some 10), none⟩]
def c8_10 : CC := (.seq (.region [] [] c8_5) (.seq (.cond (.var 11) .skip (.exit 0)) (.seq (.block 1 (.seq (.region [] [] c8_6) (.seq (.region [] [] c8_7) (.cond (.var 12) (.seq (.region [] [] c8_8) .ret) .skip)))) (.region [] [] c8_9))))
def c8_11 : List CO := [⟨(.mov (.var 0)), none, none⟩,
 ⟨(.call true 32 [(.loc 0)]), none, none⟩,
 ⟨(.mov (.loc 0)), (some 4), none⟩]
def c8_12 : List CO := [⟨(.mov (.var 0)), none, none⟩,
 ⟨(.call true 33 [(.loc 0)]), none, none⟩,
 ⟨(.mov (.loc 0)), (some 5), none⟩]
def c8_13 : List CO := [⟨(.mov (.var 4)), none, none⟩,
 ⟨(.len .slice (.loc 0)), none, none⟩,
 ⟨(.mov (.var 5)), none, none⟩,
 ⟨(.len .slice (.loc 0)), none, none⟩,
 ⟨(.bin .neq (.loc 2) (.loc 0)), (some 13), none⟩]
def c8_14 : List CO := [⟨(.mov (.k (.bool false))), (some 1), none⟩]
def c8_15 : List CO := [⟨(.mov (.var 4)), none, none⟩,
 ⟨(.len .slice (.loc 0)), (some 14), none⟩,
 ⟨(.mov (.k (.int .i64 0))), (some 15), none⟩]
def c8_16 : List CO := [⟨(.bin .lss (.var 15) (.var 14)), (some 16), none⟩]
def c8_17 : List CO := [⟨(.mov (.var 15)), none, none⟩,
 ⟨(.mov (.loc 0)), (some 6), none⟩]
def c8_18 : List CO := [⟨(.mov (.var 4)), none, none⟩,
 ⟨(.mov (.var 6)), none, none⟩,
 ⟨(.ia 4 (.loc 1) (.loc 0)), none, none⟩,
 ⟨(.load true 4 (.loc 0)), none, none⟩,
 ⟨(.mov (.var 5)), none, none⟩,
 ⟨(.mov (.var 6)), none, none⟩,
 ⟨(.ia 4 (.loc 1) (.loc 0)), none, none⟩,
 ⟨(.load true 4 (.loc 0)), none, none⟩,
 ⟨(.call true 25 [(.loc 4), (.loc 0)]), none, none⟩,
 ⟨(.un .not (.loc 0)), (some 17), none⟩]
def c8_19 : List CO := [⟨(.mov (.k (.bool false))), (some 1), none⟩]
def c8_20 : List CO := [⟨(.bin .add (.var 15) (.k (.int .i64 1))), none, none⟩,
 ⟨(.mov (.loc 0)), (some 15), none⟩]
def c8_21 : CC := (.seq (.region [] [] c8_16) (.seq (.cond (.var 16) .skip (.exit 2)) (.seq (.block 3 (.seq (.region [] [] c8_17) (.seq (.region [] [] c8_18) (.cond (.var 17) (.seq (.region [] [] c8_19) .ret) .skip)))) (.region [] [] c8_20))))
def c8_22 : List CO := [⟨(.mov (.var 2)), none, none⟩,
 ⟨(.mov (.loc 0)), (some 1), none⟩]
def c8 : CFun := ⟨1, 18, (.seq (.region [] [] c8_0) (.seq (.region [] [] c8_1) (.seq (.seq (.region [] [] c8_2) (.cond (.var 7) (.seq (.region [] [] c8_3) .ret) .skip)) (.seq (.seq (.region [] [] c8_4) (.block 0 (.loop [true, false, true, false, false, false, false, false, true, true, true, false, false, false, false, false, false, false] [] c8_10))) (.seq (.region [] [] c8_11) (.seq (.region [] [] c8_12) (.seq (.seq (.region [] [] c8_13) (.cond (.var 13) (.seq (.region [] [] c8_14) .ret) .skip)) (.seq (.seq (.region [] [] c8_15) (.block 2 (.loop [false, false, true, false, true, true, false, false, false, false, false, false, false, false, true, true, false, false] [] c8_21))) (.seq (.region [] [] c8_22) .ret))))))))), [.var 1]⟩
theorem ok8 : CodeOk Tryd.prog T 8 c8 := ⟨⟨Tryd.f8, Hints.of [] [] [(0, [true, false, true, false, false, false, false, false, true, true, true, false, false, false, false, false, false, false], []), (2, [false, false, true, false, true, true, false, false, false, false, false, false, false, false, true, true, false, false], [])], [0, 2, 3, 5, 6, 7, 8, 12, 14, 15, 16, 17, 22, 33, 35, 36, 37, 48], Tryd.func8, by kernel_rfl, by kernel_rfl⟩⟩

def c11_0 : List CO := [⟨(.box 24 (.var 0)), (some 2), none⟩,
 ⟨(.mov (.k (.bool false))), (some 3), none⟩]
def c11_1 : List CO := [⟨(.load true 4 (.var 2)), none, none⟩,
 ⟨(.mov (.var 1)), none, none⟩,
 ⟨(.call true 39 [(.loc 1), (.loc 0)]), none, none⟩,
 ⟨(.bin .geq (.loc 0) (.k (.int .i64 0))), none, none⟩,
 ⟨(.mov (.loc 0)), (some 3), none⟩]
def c11 : CFun := ⟨2, 4, (.seq (.region [] [] c11_0) (.seq (.region [] [] c11_1) .ret)), [.var 3]⟩
theorem ok11 : CodeOk Tryd.prog T 11 c11 := ⟨⟨Tryd.f11, Hints.of [] [] [], [0, 1, 2, 4], Tryd.func11, by kernel_rfl, by kernel_rfl⟩⟩

def c12_0 : List CO := [⟨(.box 24 (.var 0)), (some 1), none⟩,
 ⟨(.mov (.k (.int .i64 0))), (some 2), none⟩]
def c12_1 : List CO := [⟨(.load true 4 (.var 1)), none, none⟩,
 ⟨(.call true 40 [(.loc 0)]), none, none⟩,
 ⟨(.un .not (.loc 0)), (some 3), none⟩]
def c12_2 : List CO := [⟨(.mov (.k (.int .i64 30))), (some 2), none⟩]
def c12_3 : List CO := [⟨(.load true 4 (.var 1)), none, none⟩,
 ⟨(.call true 41 [(.loc 0)]), none, none⟩,
 ⟨(.bin .gtr (.loc 0) (.k (.int .i64 60))), (some 4), none⟩]
def c12_4 : List CO := [⟨(.mov (.k (.int .i64 3))), (some 2), none⟩]
def c12_5 : List CO := [⟨(.mov (.k (.int .i64 0))), (some 2), none⟩]
def c12 : CFun := ⟨1, 5, (.seq (.region [] [] c12_0) (.seq (.seq (.region [] [] c12_1) (.cond (.var 3) (.seq (.region [] [] c12_2) .ret) .skip)) (.seq (.seq (.region [] [] c12_3) (.cond (.var 4) (.seq (.region [] [] c12_4) .ret) .skip)) (.seq (.region [] [] c12_5) .ret)))), [.var 2]⟩
theorem ok12 : CodeOk Tryd.prog T 12 c12 := ⟨⟨Tryd.f12, Hints.of [] [] [], [0, 1, 2, 5, 8], Tryd.func12, by kernel_rfl, by kernel_rfl⟩⟩

def c15_0 : List CO := [⟨(.box 24 (.k (.agg #[(.int .i64 0), (.string ⟨#[]⟩), (.int .i64 0), (.slice none 0 0)]))), (some 1), none⟩]
def c15_1 : List CO := [⟨(.mov (.var 0)), none, none⟩,
 ⟨(.build [(.int .i64 0), (.string ⟨#[]⟩), (.int .i64 0), (.slice none 0 0)] [(0, 1, (.k (.int .i64 1))), (2, 1, (.loc 0))]), none, none⟩,
 ⟨(.store 4 (.var 1) (.loc 0)), none, none⟩]
def c15 : CFun := ⟨1, 2, (.seq (.region [] [] c15_0) (.seq (.region [] [] c15_1) .ret)), [.cell 1 true 4]⟩
theorem ok15 : CodeOk Tryd.prog T 15 c15 := ⟨⟨Tryd.f15, Hints.of [] [] [], [0, 2], Tryd.func15, by kernel_rfl, by kernel_rfl⟩⟩

def c17_0 : List CO := [⟨(.box 24 (.var 0)), (some 2), none⟩,
 ⟨(.box 24 (.var 1)), (some 3), none⟩,
 ⟨(.mov (.k (.bool false))), (some 4), none⟩]
def c17_1 : List CO := [⟨(.fa 0 (.var 2)), none, none⟩,
 ⟨(.load false 1 (.loc 0)), none, none⟩,
 ⟨(.fa 0 (.var 3)), none, none⟩,
 ⟨(.load false 1 (.loc 0)), none, none⟩,
 ⟨(.bin .neq (.loc 2) (.loc 0)), none, none⟩,
 ⟨(.mov (.loc 0)), none, none⟩,
 ⟨(.fa 1 (.var 2)), none, (some ((.loc 0), false))⟩,
 ⟨(.load false 1 (.loc 0)), none, (some ((.loc 1), false))⟩,
 ⟨(.fa 1 (.var 3)), none, (some ((.loc 2), false))⟩,
 ⟨(.load false 1 (.loc 0)), none, (some ((.loc 3), false))⟩,
 ⟨(.bin .neq (.loc 2) (.loc 0)), none, (some ((.loc 4), false))⟩,
 ⟨(.pick (.loc 5) (.k (.bool true)) (.loc 0)), none, none⟩,
 ⟨(.mov (.loc 0)), none, none⟩,
 ⟨(.fa 2 (.var 2)), none, (some ((.loc 0), false))⟩,
 ⟨(.load false 1 (.loc 0)), none, (some ((.loc 1), false))⟩,
 ⟨(.fa 2 (.var 3)), none, (some ((.loc 2), false))⟩,
 ⟨(.load false 1 (.loc 0)), none, (some ((.loc 3), false))⟩,
 ⟨(.bin .neq (.loc 2) (.loc 0)), none, (some ((.loc 4), false))⟩,
 ⟨(.pick (.loc 5) (.k (.bool true)) (.loc 0)), none, none⟩,
 ⟨(.mov (.loc 0)), none, none⟩,
 ⟨(.fa 3 (.var 2)), none, (some ((.loc 0), false))⟩,
 ⟨(.load false 1 (.loc 0)), none, (some ((.loc 1), false))⟩,
 ⟨(.len .slice (.loc 0)), none, (some ((.loc 2), false))⟩,
 ⟨(.fa 3 (.var 3)), none, (some ((.loc 3), false))⟩,
 ⟨(.load false 1 (.loc 0)), none, (some ((.loc 4), false))⟩,
 ⟨(.len .slice (.loc 0)), none, (some ((.loc 5), false))⟩,
 ⟨(.bin .neq (.loc 3) (.loc 0)), none, (some ((.loc 6), false))⟩,
 ⟨(.pick (.loc 7) (.k (.bool true)) (.loc 0)), (some 6), none⟩]
def c17_2 : List CO := [⟨(.mov (.k (.bool false))), (some 4), none⟩]
def c17_3 : List CO := [⟨(.fa 3 (.var 2)), none, none⟩,
 ⟨(.load false 1 (.loc 0)), none, none⟩,
 ⟨(.len .slice (.loc 0)), (some 7), none⟩,
 ⟨(.mov (.k (.int .i64 0))), (some 8), none⟩]
def c17_4 : List CO := [⟨(.bin .lss (.var 8) (.var 7)), (some 9), none⟩]
def c17_5 : List CO := [⟨(.mov (.var 8)), none, none⟩,
 ⟨(.mov (.loc 0)), (some 5), none⟩]
def c17_6 : List CO := [⟨(.fa 3 (.var 2)), none, none⟩,
 ⟨(.load false 1 (.loc 0)), none, none⟩,
 ⟨(.mov (.var 5)), none, none⟩,
 ⟨(.ia 4 (.loc 1) (.loc 0)), none, none⟩,
 ⟨(.load true 4 (.loc 0)), none, none⟩,
 ⟨(.fa 3 (.var 3)), none, none⟩,
 ⟨(.load false 1 (.loc 0)), none, none⟩,
 ⟨(.mov (.var 5)), none, none⟩,
 ⟨(.ia 4 (.loc 1) (.loc 0)), none, none⟩,
 ⟨(.load true 4 (.loc 0)), none, none⟩,
 ⟨(.call true 17 [(.loc 5), (.loc 0)]), none, none⟩,
 ⟨(.un .not (.loc 0)), (some 10), none⟩]
def c17_7 : List CO := [⟨(.mov (.k (.bool false))), (some 4), none⟩]
def c17_8 : List CO := [⟨(.bin .add (.var 8) (.k (.int .i64 1))), none, none⟩,
 ⟨(.mov (.loc 0)), (some 8), none⟩]
def c17_9 : CC := (.seq (.region [] [] c17_4) (.seq (.cond (.var 9) .skip (.exit 0)) (.seq (.block 1 (.seq (.region [] [] c17_5) (.seq (.region [] [] c17_6) (.cond (.var 10) (.seq (.region [] [] c17_7) .ret) .skip)))) (.region [] [] c17_8))))
def c17_10 : List CO := [⟨(.mov (.k (.bool true))), (some 4), none⟩]
def c17 : CFun := ⟨2, 11, (.seq (.region [] [] c17_0) (.seq (.seq (.region [] [] c17_1) (.cond (.var 6) (.seq (.region [] [] c17_2) .ret) .skip)) (.seq (.seq (.region [] [] c17_3) (.block 0 (.loop [false, false, true, true, false, false, false, true, true, false, false] [] c17_9))) (.seq (.region [] [] c17_10) .ret)))), [.var 4]⟩
theorem ok17 : CodeOk Tryd.prog T 17 c17 := ⟨⟨Tryd.f17, Hints.of [] [] [(0, [false, false, true, true, false, false, false, true, true, false, false], [])], [0, 1, 2, 3, 4, 5, 33, 36, 37, 38, 51], Tryd.func17, by kernel_rfl, by kernel_rfl⟩⟩

def c20_0 : List CO := [⟨(.box 24 (.k (.agg #[(.int .i64 0), (.string ⟨#[]⟩), (.int .i64 0), (.slice none 0 0)]))), (some 1), none⟩]
def c20_1 : List CO := [⟨(.mov (.var 0)), none, none⟩,
 ⟨(.build [(.int .i64 0), (.string ⟨#[]⟩), (.int .i64 0), (.slice none 0 0)] [(0, 1, (.k (.int .i64 2))), (1, 1, (.loc 0))]), none, none⟩,
 ⟨(.store 4 (.var 1) (.loc 0)), none, none⟩]
def c20 : CFun := ⟨1, 2, (.seq (.region [] [] c20_0) (.seq (.region [] [] c20_1) .ret)), [.cell 1 true 4]⟩
theorem ok20 : CodeOk Tryd.prog T 20 c20 := ⟨⟨Tryd.f20, Hints.of [] [] [], [0, 2], Tryd.func20, by kernel_rfl, by kernel_rfl⟩⟩

def c23_0 : List CO := [⟨(.mov (.k (.bool false))), (some 0), none⟩]
def c23_1 : List CO := [⟨(.call true 15 [(.k (.int .i64 0))]), none, none⟩,
 ⟨(.box 24 (.k (.agg #[(.int .i64 0), (.string ⟨#[]⟩), (.int .i64 0), (.slice none 0 0)]))), (some 1), none⟩,
 ⟨(.store 4 (.var 1) (.loc 1)), none, none⟩]
def c23_2 : List CO := [⟨(.load true 4 (.var 1)), none, none⟩,
 ⟨(.call true 20 [(.k (.string ⟨#[97]⟩))]), none, none⟩,
 ⟨(.load true 4 (.var 1)), none, none⟩,
 ⟨(.bslice 4 [(.int .i64 0), (.string ⟨#[]⟩), (.int .i64 0), (.slice none 0 0)] 2 [(0, (.loc 1)), (1, (.loc 0))]), none, none⟩,
 ⟨(.call true 36 [(.k (.string ⟨#[102]⟩)), (.loc 0)]), none, none⟩,
 ⟨(.bslice 4 [(.int .i64 0), (.string ⟨#[]⟩), (.int .i64 0), (.slice none 0 0)] 2 [(0, (.loc 4)), (1, (.loc 0))]), none, none⟩,
 ⟨(.call true 36 [(.k (.string ⟨#[112]⟩)), (.loc 0)]), none, none⟩,
 ⟨(.load true 4 (.var 1)), none, none⟩,
 ⟨(.bslice 4 [(.int .i64 0), (.string ⟨#[]⟩), (.int .i64 0), (.slice none 0 0)] 1 [(0, (.loc 0))]), none, none⟩,
 ⟨(.call true 36 [(.k (.string ⟨#[113]⟩)), (.loc 0)]), none, none⟩,
 ⟨(.call true 20 [(.k (.string ⟨#[33]⟩))]), none, none⟩,
 ⟨(.bslice 4 [(.int .i64 0), (.string ⟨#[]⟩), (.int .i64 0), (.slice none 0 0)] 2 [(0, (.loc 1)), (1, (.loc 0))]), none, none⟩,
 ⟨(.build [(.int .i64 0), (.string ⟨#[]⟩), (.int .i64 0), (.slice none 0 0), (.slice none 0 0), (.int .i64 0)] [(0, 4, (.loc 5)), (4, 1, (.loc 0)), (5, 1, (.k (.int .i64 1)))]), none, none⟩,
 ⟨(.box 46 (.k (.agg #[(.int .i64 0), (.string ⟨#[]⟩), (.int .i64 0), (.slice none 0 0), (.slice none 0 0), (.int .i64 0)]))), (some 2), none⟩,
 ⟨(.store 6 (.var 2) (.loc 1)), none, none⟩]
def c23_3 : List CO := [⟨(.load true 6 (.var 2)), none, none⟩,
 ⟨(.call true 26 [(.loc 0)]), none, none⟩,
 ⟨(.box 52 (.k (.agg #[(.string ⟨#[]⟩), (.int .i64 0), (.int .i64 0), (.slice none 0 0)]))), (some 3), none⟩,
 ⟨(.store 4 (.var 3) (.loc 1)), none, none⟩]
def c23_4 : List CO := [⟨(.fa 3 (.var 3)), none, none⟩,
 ⟨(.load false 1 (.loc 0)), none, none⟩,
 ⟨(.call true 34 [(.loc 0)]), none, none⟩,
 ⟨(.bin .eql (.loc 0) (.k (.string ⟨#[103, 101, 116, 95, 118, 97, 114, 32, 48, 32, 48, 10, 103, 101, 116, 95, 99, 111, 109, 112, 32, 49, 32, 102, 47, 50, 10, 117, 110, 105, 95, 97, 116, 111, 109, 32, 97, 10, 117, 110, 105, 95, 118, 97, 108, 32, 48, 10, 112, 117, 116, 95, 118, 97, 108, 32, 48, 32, 48, 10, 99, 97, 108, 108, 32, 113, 47, 49, 10, 99, 117, 116, 10, 101, 110, 100, 10]⟩))), none, none⟩,
 ⟨(.mov (.loc 0)), none, none⟩,
 ⟨(.fa 0 (.var 3)), none, (some ((.loc 0), true))⟩,
 ⟨(.load false 1 (.loc 0)), none, (some ((.loc 1), true))⟩,
 ⟨(.bin .eql (.loc 0) (.k (.string ⟨#[112]⟩))), none, (some ((.loc 2), true))⟩,
 ⟨(.pick (.loc 3) (.loc 0) (.k (.bool false))), none, none⟩,
 ⟨(.mov (.loc 0)), none, none⟩,
 ⟨(.fa 1 (.var 3)), none, (some ((.loc 0), true))⟩,
 ⟨(.load false 1 (.loc 0)), none, (some ((.loc 1), true))⟩,
 ⟨(.bin .eql (.loc 0) (.k (.int .i64 2))), none, (some ((.loc 2), true))⟩,
 ⟨(.pick (.loc 3) (.loc 0) (.k (.bool false))), none, none⟩,
 ⟨(.mov (.loc 0)), none, none⟩,
 ⟨(.fa 2 (.var 3)), none, (some ((.loc 0), true))⟩,
 ⟨(.load false 1 (.loc 0)), none, (some ((.loc 1), true))⟩,
 ⟨(.bin .eql (.loc 0) (.k (.int .i64 1))), none, (some ((.loc 2), true))⟩,
 ⟨(.pick (.loc 3) (.loc 0) (.k (.bool false))), none, none⟩,
 ⟨(.mov (.loc 0)), (some 0), none⟩]
def c23 : CFun := ⟨0, 4, (.seq (.region [] [] c23_0) (.seq (.region [] [] c23_1) (.seq (.region [] [] c23_2) (.seq (.region [] [] c23_3) (.seq (.region [] [] c23_4) .ret))))), [.var 0]⟩
theorem ok23 : CodeOk Tryd.prog T 23 c23 := ⟨⟨Tryd.f23, Hints.of [] [] [], [0, 1, 2, 3], Tryd.func23, by kernel_rfl, by kernel_rfl⟩⟩

def c24_0 : List CO := [⟨(.box 24 (.var 0)), (some 1), none⟩,
 ⟨(.box 46 (.k (.agg #[(.int .i64 0), (.string ⟨#[]⟩), (.int .i64 0), (.slice none 0 0), (.slice none 0 0), (.int .i64 0)]))), (some 2), none⟩,
 ⟨(.mov (.k (.int .i64 0))), (some 3), none⟩]
def c24_1 : List CO := [⟨(.load true 4 (.var 1)), none, none⟩,
 ⟨(.call true 12 [(.loc 0)]), none, none⟩,
 ⟨(.mov (.loc 0)), (some 4), none⟩]
def c24_2 : List CO := [⟨(.mov (.var 4)), none, none⟩,
 ⟨(.bin .neq (.loc 0) (.k (.int .i64 0))), (some 9), none⟩]
def c24_3 : List CO := [⟨(.build [(.int .i64 0), (.string ⟨#[]⟩), (.int .i64 0), (.slice none 0 0), (.slice none 0 0), (.int .i64 0)] []), none, none⟩,
 ⟨(.mov (.var 4)), none, none⟩,
 ⟨(.store 6 (.var 2) (.loc 1)), none, none⟩,
 ⟨(.mov (.loc 1)), (some 3), none⟩]
def c24_4 : List CO := [⟨(.load true 4 (.var 1)), none, none⟩,
 ⟨(.call true 52 [(.loc 0)]), none, none⟩,
 ⟨(.mov (.loc 0)), (some 5), none⟩]
def c24_5 : List CO := [⟨(.load true 4 (.var 1)), none, none⟩,
 ⟨(.mov (.var 5)), none, none⟩,
 ⟨(.call true 53 [(.loc 1), (.loc 0)]), none, none⟩,
 ⟨(.store 4 (.var 1) (.loc 0)), none, none⟩]
def c24_6 : List CO := [⟨(.load true 4 (.var 1)), none, none⟩,
 ⟨(.mov (.var 5)), none, none⟩,
 ⟨(.len .slice (.loc 0)), none, none⟩,
 ⟨(.build [(.int .i64 0), (.string ⟨#[]⟩), (.int .i64 0), (.slice none 0 0), (.slice none 0 0), (.int .i64 0)] [(0, 4, (.loc 2)), (5, 1, (.loc 0))]), none, none⟩,
 ⟨(.box 46 (.k (.agg #[(.int .i64 0), (.string ⟨#[]⟩), (.int .i64 0), (.slice none 0 0), (.slice none 0 0), (.int .i64 0)]))), (some 6), none⟩,
 ⟨(.store 6 (.var 6) (.loc 1)), none, none⟩]
def c24_7 : List CO := [⟨(.load true 4 (.var 1)), none, none⟩,
 ⟨(.call true 54 [(.loc 0), (.k (.string ⟨#[58, 45]⟩)), (.k (.int .i64 2))]), (some 10), none⟩]
def c24_8 : List CO := [⟨(.fa 3 (.var 1)), none, none⟩,
 ⟨(.load false 1 (.loc 0)), none, none⟩,
 ⟨(.ia 4 (.loc 0) (.k (.int .i64 1))), none, none⟩,
 ⟨(.load true 4 (.loc 0)), none, none⟩,
 ⟨(.call true 55 [(.loc 0)]), none, none⟩,
 ⟨(.mov (.loc 0)), none, none⟩,
 ⟨(.extract (.loc 0) 0), none, none⟩,
 ⟨(.extract (.loc 1) 1), none, none⟩,
 ⟨(.mov (.loc 1)), (some 7), none⟩,
 ⟨(.mov (.loc 1)), (some 8), none⟩]
def c24_9 : List CO := [⟨(.mov (.var 8)), none, none⟩,
 ⟨(.bin .neq (.loc 0) (.k (.int .i64 0))), (some 11), none⟩]
def c24_10 : List CO := [⟨(.build [(.int .i64 0), (.string ⟨#[]⟩), (.int .i64 0), (.slice none 0 0), (.slice none 0 0), (.int .i64 0)] []), none, none⟩,
 ⟨(.mov (.var 8)), none, none⟩,
 ⟨(.store 6 (.var 2) (.loc 1)), none, none⟩,
 ⟨(.mov (.loc 1)), (some 3), none⟩]
def c24_11 : List CO := [⟨(.fa 3 (.var 1)), none, none⟩,
 ⟨(.load false 1 (.loc 0)), none, none⟩,
 ⟨(.ia 4 (.loc 0) (.k (.int .i64 0))), none, none⟩,
 ⟨(.load true 4 (.loc 0)), none, none⟩,
 ⟨(.fa 0 (.var 6)), none, none⟩,
 ⟨(.store 4 (.loc 0) (.loc 1)), none, none⟩]
def c24_12 : List CO := [⟨(.mov (.var 7)), none, none⟩,
 ⟨(.fa 4 (.var 6)), none, none⟩,
 ⟨(.store 1 (.loc 0) (.loc 1)), none, none⟩]
def c24_13 : List CO := [⟨(.fa 0 (.var 6)), none, none⟩,
 ⟨(.load true 4 (.loc 0)), none, none⟩,
 ⟨(.call true 56 [(.loc 0)]), none, none⟩,
 ⟨(.un .not (.loc 0)), none, none⟩,
 ⟨(.mov (.loc 0)), none, none⟩,
 ⟨(.fa 0 (.var 6)), none, (some ((.loc 0), false))⟩,
 ⟨(.fa 1 (.loc 0)), none, (some ((.loc 1), false))⟩,
 ⟨(.load false 1 (.loc 0)), none, (some ((.loc 2), false))⟩,
 ⟨(.fa 0 (.var 6)), none, (some ((.loc 3), false))⟩,
 ⟨(.fa 3 (.loc 0)), none, (some ((.loc 4), false))⟩,
 ⟨(.load false 1 (.loc 0)), none, (some ((.loc 5), false))⟩,
 ⟨(.len .slice (.loc 0)), none, (some ((.loc 6), false))⟩,
 ⟨(.call true 57 [(.loc 4), (.loc 0)]), none, (some ((.loc 7), false))⟩,
 ⟨(.pick (.loc 8) (.k (.bool true)) (.loc 0)), (some 12), none⟩]
def c24_14 : List CO := [⟨(.build [(.int .i64 0), (.string ⟨#[]⟩), (.int .i64 0), (.slice none 0 0), (.slice none 0 0), (.int .i64 0)] []), none, none⟩,
 ⟨(.store 6 (.var 2) (.loc 0)), none, none⟩,
 ⟨(.mov (.k (.int .i64 80))), (some 3), none⟩]
def c24_15 : List CO := [⟨(.load true 6 (.var 6)), none, none⟩,
 ⟨(.store 6 (.var 2) (.loc 0)), none, none⟩,
 ⟨(.mov (.k (.int .i64 0))), (some 3), none⟩]
def c24 : CFun := ⟨1, 13, (.seq (.region [] [] c24_0) (.seq (.seq (.region [] [] c24_1) (.seq (.region [] [] c24_2) (.cond (.var 9) (.seq (.region [] [] c24_3) .ret) .skip))) (.seq (.region [] [] c24_4) (.seq (.region [] [] c24_5) (.seq (.region [] [] c24_6) (.seq (.seq (.region [] [] c24_7) (.cond (.var 10) (.seq (.region [] [] c24_8) (.seq (.seq (.region [] [] c24_9) (.cond (.var 11) (.seq (.region [] [] c24_10) .ret) .skip)) (.seq (.region [] [] c24_11) (.region [] [] c24_12)))) .skip)) (.seq (.seq (.region [] [] c24_13) (.cond (.var 12) (.seq (.region [] [] c24_14) .ret) .skip)) (.seq (.region [] [] c24_15) .ret)))))))), [.cell 2 true 6, .var 3]⟩
theorem ok24 : CodeOk Tryd.prog T 24 c24 := ⟨⟨Tryd.f24, Hints.of [] [] [], [0, 1, 2, 3, 4, 5, 6, 7, 8, 12, 25, 35, 58], Tryd.func24, by kernel_rfl, by kernel_rfl⟩⟩

def c25_0 : List CO := [⟨(.box 52 (.var 0)), (some 2), none⟩,
 ⟨(.box 52 (.var 1)), (some 3), none⟩,
 ⟨(.mov (.k (.bool false))), (some 4), none⟩]
def c25_1 : List CO := [⟨(.fa 0 (.var 2)), none, none⟩,
 ⟨(.load false 1 (.loc 0)), none, none⟩,
 ⟨(.fa 0 (.var 3)), none, none⟩,
 ⟨(.load false 1 (.loc 0)), none, none⟩,
 ⟨(.bin .neq (.loc 2) (.loc 0)), none, none⟩,
 ⟨(.mov (.loc 0)), none, none⟩,
 ⟨(.fa 1 (.var 2)), none, (some ((.loc 0), false))⟩,
 ⟨(.load false 1 (.loc 0)), none, (some ((.loc 1), false))⟩,
 ⟨(.fa 1 (.var 3)), none, (some ((.loc 2), false))⟩,
 ⟨(.load false 1 (.loc 0)), none, (some ((.loc 3), false))⟩,
 ⟨(.bin .neq (.loc 2) (.loc 0)), none, (some ((.loc 4), false))⟩,
 ⟨(.pick (.loc 5) (.k (.bool true)) (.loc 0)), none, none⟩,
 ⟨(.mov (.loc 0)), none, none⟩,
 ⟨(.fa 2 (.var 2)), none, (some ((.loc 0), false))⟩,
 ⟨(.load false 1 (.loc 0)), none, (some ((.loc 1), false))⟩,
 ⟨(.fa 2 (.var 3)), none, (some ((.loc 2), false))⟩,
 ⟨(.load false 1 (.loc 0)), none, (some ((.loc 3), false))⟩,
 ⟨(.bin .neq (.loc 2) (.loc 0)), none, (some ((.loc 4), false))⟩,
 ⟨(.pick (.loc 5) (.k (.bool true)) (.loc 0)), none, none⟩,
 ⟨(.mov (.loc 0)), none, none⟩,
 ⟨(.fa 3 (.var 2)), none, (some ((.loc 0), false))⟩,
 ⟨(.load false 1 (.loc 0)), none, (some ((.loc 1), false))⟩,
 ⟨(.len .slice (.loc 0)), none, (some ((.loc 2), false))⟩,
 ⟨(.fa 3 (.var 3)), none, (some ((.loc 3), false))⟩,
 ⟨(.load false 1 (.loc 0)), none, (some ((.loc 4), false))⟩,
 ⟨(.len .slice (.loc 0)), none, (some ((.loc 5), false))⟩,
 ⟨(.bin .neq (.loc 3) (.loc 0)), none, (some ((.loc 6), false))⟩,
 ⟨(.pick (.loc 7) (.k (.bool true)) (.loc 0)), (some 6), none⟩]
def c25_2 : List CO := [⟨(.mov (.k (.bool false))), (some 4), none⟩]
def c25_3 : List CO := [⟨(.fa 3 (.var 2)), none, none⟩,
 ⟨(.load false 1 (.loc 0)), none, none⟩,
 ⟨(.len .slice (.loc 0)), (some 7), none⟩,
 ⟨(.mov (.k (.int .i64 0))), (some 8), none⟩]
def c25_4 : List CO := [⟨(.bin .lss (.var 8) (.var 7)), (some 9), none⟩]
def c25_5 : List CO := [⟨(.mov (.var 8)), none, none⟩,
 ⟨(.mov (.loc 0)), (some 5), none⟩]
def c25_6 : List CO := [⟨(.fa 3 (.var 2)), none, none⟩,
 ⟨(.load false 1 (.loc 0)), none, none⟩,
 ⟨(.mov (.var 5)), none, none⟩,
 ⟨(.ia 5 (.loc 1) (.loc 0)), none, none⟩,
 ⟨(.load true 5 (.loc 0)), none, none⟩,
 ⟨(.fa 3 (.var 3)), none, none⟩,
 ⟨(.load false 1 (.loc 0)), none, none⟩,
 ⟨(.mov (.var 5)), none, none⟩,
 ⟨(.ia 5 (.loc 1) (.loc 0)), none, none⟩,
 ⟨(.load true 5 (.loc 0)), none, none⟩,
 ⟨(.eqv (.flat [.i, .i, .i, .s, .i]) true (.loc 5) (.loc 0)), (some 10), none⟩]
def c25_7 : List CO := [⟨(.mov (.k (.bool false))), (some 4), none⟩]
def c25_8 : List CO := [⟨(.bin .add (.var 8) (.k (.int .i64 1))), none, none⟩,
 ⟨(.mov (.loc 0)), (some 8), none⟩]
def c25_9 : CC := (.seq (.region [] [] c25_4) (.seq (.cond (.var 9) .skip (.exit 0)) (.seq (.block 1 (.seq (.region [] [] c25_5) (.seq (.region [] [] c25_6) (.cond (.var 10) (.seq (.region [] [] c25_7) .ret) .skip)))) (.region [] [] c25_8))))
def c25_10 : List CO := [⟨(.mov (.k (.bool true))), (some 4), none⟩]
def c25 : CFun := ⟨2, 11, (.seq (.region [] [] c25_0) (.seq (.seq (.region [] [] c25_1) (.cond (.var 6) (.seq (.region [] [] c25_2) .ret) .skip)) (.seq (.seq (.region [] [] c25_3) (.block 0 (.loop [false, false, true, true, false, false, false, true, true, false, false] [] c25_9))) (.seq (.region [] [] c25_10) .ret)))), [.var 4]⟩
theorem ok25 : CodeOk Tryd.prog T 25 c25 := ⟨⟨Tryd.f25, Hints.of [] [] [(0, [false, false, true, true, false, false, false, true, true, false, false], [])], [0, 1, 2, 3, 4, 5, 33, 36, 37, 38, 50], Tryd.func25, by kernel_rfl, by kernel_rfl⟩⟩

def c26_0 : List CO := [⟨(.box 46 (.var 0)), (some 1), none⟩,
 ⟨(.box 52 (.k (.agg #[(.string ⟨#[]⟩), (.int .i64 0), (.int .i64 0), (.slice none 0 0)]))), (some 2), none⟩]
def c26_1 : List CO := [⟨(.mkmap (.int .i64)), none, none⟩,
 ⟨(.build [(.slice none 0 0), (.map none), (.int .i64 0), (.slice none 0 0)] [(1, 1, (.loc 0)), (2, 1, (.k (.int .i64 16)))]), none, none⟩,
 ⟨(.box 92 (.loc 0)), none, none⟩,
 ⟨(.mov (.loc 0)), (some 3), none⟩]
def c26_2 : List CO := [⟨(.fa 0 (.var 1)), none, none⟩,
 ⟨(.fa 3 (.loc 0)), none, none⟩,
 ⟨(.load false 1 (.loc 0)), (some 9), none⟩,
 ⟨(.len .slice (.var 9)), (some 10), none⟩,
 ⟨(.mov (.k (.int .i64 0))), (some 11), none⟩]
def c26_3 : List CO := [⟨(.bin .lss (.var 11) (.var 10)), (some 12), none⟩]
def c26_4 : List CO := [⟨(.mov (.var 11)), none, none⟩,
 ⟨(.ia 4 (.var 9) (.var 11)), none, none⟩,
 ⟨(.load true 4 (.loc 0)), none, none⟩,
 ⟨(.box 24 (.k (.agg #[(.int .i64 0), (.string ⟨#[]⟩), (.int .i64 0), (.slice none 0 0)]))), (some 5), none⟩,
 ⟨(.mov (.loc 3)), (some 4), none⟩,
 ⟨(.store 4 (.var 5) (.loc 2)), none, none⟩]
def c26_5 : List CO := [⟨(.mov (.var 3)), none, none⟩,
 ⟨(.mov (.var 4)), none, none⟩,
 ⟨(.load true 4 (.var 5)), none, none⟩,
 ⟨(.call false 58 [(.loc 2), (.loc 1), (.loc 0)]), none, none⟩]
def c26_6 : List CO := [⟨(.bin .add (.var 11) (.k (.int .i64 1))), none, none⟩,
 ⟨(.mov (.loc 0)), (some 11), none⟩]
def c26_7 : CC := (.seq (.region [] [] c26_3) (.seq (.cond (.var 12) .skip (.exit 0)) (.seq (.block 1 (.seq (.region [] [] c26_4) (.region [] [] c26_5))) (.region [] [] c26_6))))
def c26_8 : List CO := [⟨(.fa 4 (.var 1)), none, none⟩,
 ⟨(.load false 1 (.loc 0)), (some 13), none⟩,
 ⟨(.len .slice (.var 13)), (some 14), none⟩,
 ⟨(.mov (.k (.int .i64 0))), (some 15), none⟩]
def c26_9 : List CO := [⟨(.bin .lss (.var 15) (.var 14)), (some 16), none⟩]
def c26_10 : List CO := [⟨(.ia 4 (.var 13) (.var 15)), none, none⟩,
 ⟨(.load true 4 (.loc 0)), none, none⟩,
 ⟨(.box 24 (.k (.agg #[(.int .i64 0), (.string ⟨#[]⟩), (.int .i64 0), (.slice none 0 0)]))), (some 6), none⟩,
 ⟨(.store 4 (.var 6) (.loc 1)), none, none⟩]
def c26_11 : List CO := [⟨(.fa 0 (.var 6)), none, none⟩,
 ⟨(.load false 1 (.loc 0)), none, none⟩,
 ⟨(.bin .eql (.loc 0) (.k (.int .i64 2))), none, none⟩,
 ⟨(.mov (.loc 0)), none, none⟩,
 ⟨(.fa 1 (.var 6)), none, (some ((.loc 0), true))⟩,
 ⟨(.load false 1 (.loc 0)), none, (some ((.loc 1), true))⟩,
 ⟨(.bin .eql (.loc 0) (.k (.string ⟨#[33]⟩))), none, (some ((.loc 2), true))⟩,
 ⟨(.pick (.loc 3) (.loc 0) (.k (.bool false))), (some 17), none⟩]
def c26_12 : List CO := [⟨(.mov (.var 3)), none, none⟩,
 ⟨(.build [(.int .i64 0), (.int .i64 0), (.int .i64 0), (.string ⟨#[]⟩), (.int .i64 0)] [(0, 1, (.k (.int .i64 22)))]), none, none⟩,
 ⟨(.call false 59 [(.loc 1), (.loc 0)]), none, none⟩]
def c26_13 : List CO := [⟨(.fa 3 (.var 6)), none, none⟩,
 ⟨(.load false 1 (.loc 0)), (some 18), none⟩,
 ⟨(.len .slice (.var 18)), (some 19), none⟩,
 ⟨(.mov (.k (.int .i64 0))), (some 20), none⟩]
def c26_14 : List CO := [⟨(.bin .lss (.var 20) (.var 19)), (some 21), none⟩]
def c26_15 : List CO := [⟨(.mov (.var 20)), none, none⟩,
 ⟨(.ia 4 (.var 18) (.var 20)), none, none⟩,
 ⟨(.load true 4 (.loc 0)), none, none⟩,
 ⟨(.box 24 (.k (.agg #[(.int .i64 0), (.string ⟨#[]⟩), (.int .i64 0), (.slice none 0 0)]))), (some 8), none⟩,
 ⟨(.mov (.loc 3)), (some 7), none⟩,
 ⟨(.store 4 (.var 8) (.loc 2)), none, none⟩]
def c26_16 : List CO := [⟨(.mov (.var 3)), none, none⟩,
 ⟨(.mov (.var 7)), none, none⟩,
 ⟨(.load true 4 (.var 8)), none, none⟩,
 ⟨(.call false 60 [(.loc 2), (.loc 1), (.loc 0)]), none, none⟩]
def c26_17 : List CO := [⟨(.bin .add (.var 20) (.k (.int .i64 1))), none, none⟩,
 ⟨(.mov (.loc 0)), (some 20), none⟩]
def c26_18 : CC := (.seq (.region [] [] c26_14) (.seq (.cond (.var 21) .skip (.exit 4)) (.seq (.block 5 (.seq (.region [] [] c26_15) (.region [] [] c26_16))) (.region [] [] c26_17))))
def c26_19 : List CO := [⟨(.mov (.var 3)), none, none⟩,
 ⟨(.fa 1 (.var 6)), none, none⟩,
 ⟨(.load false 1 (.loc 0)), none, none⟩,
 ⟨(.fa 3 (.var 6)), none, none⟩,
 ⟨(.load false 1 (.loc 0)), none, none⟩,
 ⟨(.len .slice (.loc 0)), none, none⟩,
 ⟨(.build [(.int .i64 0), (.int .i64 0), (.int .i64 0), (.string ⟨#[]⟩), (.int .i64 0)] [(0, 1, (.k (.int .i64 21))), (3, 1, (.loc 3)), (4, 1, (.loc 0))]), none, none⟩,
 ⟨(.call false 59 [(.loc 6), (.loc 0)]), none, none⟩]
def c26_20 : List CO := [⟨(.bin .add (.var 15) (.k (.int .i64 1))), none, none⟩,
 ⟨(.mov (.loc 0)), (some 15), none⟩]
def c26_21 : CC := (.seq (.region [] [] c26_9) (.seq (.cond (.var 16) .skip (.exit 2)) (.seq (.block 3 (.seq (.region [] [] c26_10) (.seq (.seq (.region [] [] c26_11) (.cond (.var 17) (.seq (.region [] [] c26_12) (.exit 3)) .skip)) (.seq (.seq (.region [] [] c26_13) (.block 4 (.loop [false, true, true, true, false, false, true, false, false, false, false, false, false, true, true, true, false, false, true, true, true, false] [] c26_18))) (.region [] [] c26_19))))) (.region [] [] c26_20))))
def c26_22 : List CO := [⟨(.mov (.var 3)), none, none⟩,
 ⟨(.build [(.int .i64 0), (.int .i64 0), (.int .i64 0), (.string ⟨#[]⟩), (.int .i64 0)] [(0, 1, (.k (.int .i64 23)))]), none, none⟩,
 ⟨(.call false 59 [(.loc 1), (.loc 0)]), none, none⟩]
def c26_23 : List CO := [⟨(.fa 0 (.var 1)), none, none⟩,
 ⟨(.fa 1 (.loc 0)), none, none⟩,
 ⟨(.load false 1 (.loc 0)), none, none⟩,
 ⟨(.fa 0 (.var 1)), none, none⟩,
 ⟨(.fa 3 (.loc 0)), none, none⟩,
 ⟨(.load false 1 (.loc 0)), none, none⟩,
 ⟨(.len .slice (.loc 0)), none, none⟩,
 ⟨(.fa 5 (.var 1)), none, none⟩,
 ⟨(.load false 1 (.loc 0)), none, none⟩,
 ⟨(.mov (.var 3)), none, none⟩,
 ⟨(.nilchk (.loc 0)), none, none⟩,
 ⟨(.fa 0 (.loc 0)), none, none⟩,
 ⟨(.load false 1 (.loc 0)), none, none⟩,
 ⟨(.build [(.string ⟨#[]⟩), (.int .i64 0), (.int .i64 0), (.slice none 0 0)] [(0, 1, (.loc 10)), (1, 1, (.loc 6)), (2, 1, (.loc 4)), (3, 1, (.loc 0))]), none, none⟩,
 ⟨(.store 4 (.var 2) (.loc 0)), none, none⟩]
def c26 : CFun := ⟨1, 22, (.seq (.region [] [] c26_0) (.seq (.region [] [] c26_1) (.seq (.seq (.region [.ap 3 0 58 5] [] c26_2) (.block 0 (.loop [false, true, true, true, false, false, false, false, false, true, true, true, false, false, false, false, false, false, false, false, false, false] [] c26_7))) (.seq (.seq (.region [] [] c26_8) (.block 2 (.loop [false, true, true, true, false, false, false, false, false, false, false, false, false, true, true, true, false, false, false, false, false, false] [] c26_21))) (.seq (.region [] [] c26_22) (.seq (.region [] [] c26_23) .ret)))))), [.cell 2 true 4]⟩
theorem ok26 : CodeOk Tryd.prog T 26 c26 := ⟨⟨Tryd.f26, Hints.of [(2, [.ap 3 0 58 5])] [] [(0, [false, true, true, true, false, false, false, false, false, true, true, true, false, false, false, false, false, false, false, false, false, false], []), (2, [false, true, true, true, false, false, false, false, false, false, false, false, false, true, true, true, false, false, false, false, false, false], []), (4, [false, true, true, true, false, false, true, false, false, false, false, false, false, true, true, true, false, false, true, true, true, false], [])], [0, 1, 2, 3, 4, 5, 7, 8, 9, 15, 16, 17, 18, 28, 29, 30, 31, 41, 46, 47, 48, 49], Tryd.func26, by kernel_rfl, by kernel_rfl⟩⟩

def c27_0 : List CO := [⟨(.box 46 (.var 0)), (some 1), none⟩,
 ⟨(.box 52 (.k (.agg #[(.string ⟨#[]⟩), (.int .i64 0), (.int .i64 0), (.slice none 0 0)]))), (some 2), none⟩]
def c27_1 : List CO := [⟨(.build [(.slice none 0 0), (.slice none 0 0), (.int .i64 0)] [(2, 1, (.k (.int .i64 16)))]), none, none⟩,
 ⟨(.box 97 (.loc 0)), none, none⟩,
 ⟨(.mov (.loc 0)), (some 3), none⟩]
def c27_2 : List CO := [⟨(.fa 0 (.var 1)), none, none⟩,
 ⟨(.fa 3 (.loc 0)), none, none⟩,
 ⟨(.load false 1 (.loc 0)), (some 9), none⟩,
 ⟨(.len .slice (.var 9)), (some 10), none⟩,
 ⟨(.mov (.k (.int .i64 0))), (some 11), none⟩]
def c27_3 : List CO := [⟨(.bin .lss (.var 11) (.var 10)), (some 12), none⟩]
def c27_4 : List CO := [⟨(.mov (.var 11)), none, none⟩,
 ⟨(.ia 4 (.var 9) (.var 11)), none, none⟩,
 ⟨(.load true 4 (.loc 0)), none, none⟩,
 ⟨(.box 24 (.k (.agg #[(.int .i64 0), (.string ⟨#[]⟩), (.int .i64 0), (.slice none 0 0)]))), (some 5), none⟩,
 ⟨(.mov (.loc 3)), (some 4), none⟩,
 ⟨(.store 4 (.var 5) (.loc 2)), none, none⟩]
def c27_5 : List CO := [⟨(.mov (.var 3)), none, none⟩,
 ⟨(.mov (.var 4)), none, none⟩,
 ⟨(.load true 4 (.var 5)), none, none⟩,
 ⟨(.call false 61 [(.loc 2), (.loc 1), (.loc 0)]), none, none⟩]
def c27_6 : List CO := [⟨(.bin .add (.var 11) (.k (.int .i64 1))), none, none⟩,
 ⟨(.mov (.loc 0)), (some 11), none⟩]
def c27_7 : CC := (.seq (.region [] [] c27_3) (.seq (.cond (.var 12) .skip (.exit 0)) (.seq (.block 1 (.seq (.region [] [] c27_4) (.region [] [] c27_5))) (.region [] [] c27_6))))
def c27_8 : List CO := [⟨(.fa 4 (.var 1)), none, none⟩,
 ⟨(.load false 1 (.loc 0)), (some 13), none⟩,
 ⟨(.len .slice (.var 13)), (some 14), none⟩,
 ⟨(.mov (.k (.int .i64 0))), (some 15), none⟩]
def c27_9 : List CO := [⟨(.bin .lss (.var 15) (.var 14)), (some 16), none⟩]
def c27_10 : List CO := [⟨(.ia 4 (.var 13) (.var 15)), none, none⟩,
 ⟨(.load true 4 (.loc 0)), none, none⟩,
 ⟨(.box 24 (.k (.agg #[(.int .i64 0), (.string ⟨#[]⟩), (.int .i64 0), (.slice none 0 0)]))), (some 6), none⟩,
 ⟨(.store 4 (.var 6) (.loc 1)), none, none⟩]
def c27_11 : List CO := [⟨(.fa 0 (.var 6)), none, none⟩,
 ⟨(.load false 1 (.loc 0)), none, none⟩,
 ⟨(.bin .eql (.loc 0) (.k (.int .i64 2))), none, none⟩,
 ⟨(.mov (.loc 0)), none, none⟩,
 ⟨(.fa 1 (.var 6)), none, (some ((.loc 0), true))⟩,
 ⟨(.load false 1 (.loc 0)), none, (some ((.loc 1), true))⟩,
 ⟨(.bin .eql (.loc 0) (.k (.string ⟨#[33]⟩))), none, (some ((.loc 2), true))⟩,
 ⟨(.pick (.loc 3) (.loc 0) (.k (.bool false))), (some 17), none⟩]
def c27_12 : List CO := [⟨(.mov (.var 3)), none, none⟩,
 ⟨(.build [(.int .i64 0), (.int .i64 0), (.int .i64 0), (.string ⟨#[]⟩), (.int .i64 0)] [(0, 1, (.k (.int .i64 22)))]), none, none⟩,
 ⟨(.call false 62 [(.loc 1), (.loc 0)]), none, none⟩]
def c27_13 : List CO := [⟨(.fa 3 (.var 6)), none, none⟩,
 ⟨(.load false 1 (.loc 0)), (some 18), none⟩,
 ⟨(.len .slice (.var 18)), (some 19), none⟩,
 ⟨(.mov (.k (.int .i64 0))), (some 20), none⟩]
def c27_14 : List CO := [⟨(.bin .lss (.var 20) (.var 19)), (some 21), none⟩]
def c27_15 : List CO := [⟨(.mov (.var 20)), none, none⟩,
 ⟨(.ia 4 (.var 18) (.var 20)), none, none⟩,
 ⟨(.load true 4 (.loc 0)), none, none⟩,
 ⟨(.box 24 (.k (.agg #[(.int .i64 0), (.string ⟨#[]⟩), (.int .i64 0), (.slice none 0 0)]))), (some 8), none⟩,
 ⟨(.mov (.loc 3)), (some 7), none⟩,
 ⟨(.store 4 (.var 8) (.loc 2)), none, none⟩]
def c27_16 : List CO := [⟨(.mov (.var 3)), none, none⟩,
 ⟨(.mov (.var 7)), none, none⟩,
 ⟨(.load true 4 (.var 8)), none, none⟩,
 ⟨(.call false 63 [(.loc 2), (.loc 1), (.loc 0)]), none, none⟩]
def c27_17 : List CO := [⟨(.bin .add (.var 20) (.k (.int .i64 1))), none, none⟩,
 ⟨(.mov (.loc 0)), (some 20), none⟩]
def c27_18 : CC := (.seq (.region [] [] c27_14) (.seq (.cond (.var 21) .skip (.exit 4)) (.seq (.block 5 (.seq (.region [] [] c27_15) (.region [] [] c27_16))) (.region [] [] c27_17))))
def c27_19 : List CO := [⟨(.mov (.var 3)), none, none⟩,
 ⟨(.fa 1 (.var 6)), none, none⟩,
 ⟨(.load false 1 (.loc 0)), none, none⟩,
 ⟨(.fa 3 (.var 6)), none, none⟩,
 ⟨(.load false 1 (.loc 0)), none, none⟩,
 ⟨(.len .slice (.loc 0)), none, none⟩,
 ⟨(.build [(.int .i64 0), (.int .i64 0), (.int .i64 0), (.string ⟨#[]⟩), (.int .i64 0)] [(0, 1, (.k (.int .i64 21))), (3, 1, (.loc 3)), (4, 1, (.loc 0))]), none, none⟩,
 ⟨(.call false 62 [(.loc 6), (.loc 0)]), none, none⟩]
def c27_20 : List CO := [⟨(.bin .add (.var 15) (.k (.int .i64 1))), none, none⟩,
 ⟨(.mov (.loc 0)), (some 15), none⟩]
def c27_21 : CC := (.seq (.region [] [] c27_9) (.seq (.cond (.var 16) .skip (.exit 2)) (.seq (.block 3 (.seq (.region [] [] c27_10) (.seq (.seq (.region [] [] c27_11) (.cond (.var 17) (.seq (.region [] [] c27_12) (.exit 3)) .skip)) (.seq (.seq (.region [] [] c27_13) (.block 4 (.loop [false, true, true, true, false, false, true, false, false, false, false, false, false, true, true, true, false, false, true, true, true, false] [] c27_18))) (.region [] [] c27_19))))) (.region [] [] c27_20))))
def c27_22 : List CO := [⟨(.mov (.var 3)), none, none⟩,
 ⟨(.build [(.int .i64 0), (.int .i64 0), (.int .i64 0), (.string ⟨#[]⟩), (.int .i64 0)] [(0, 1, (.k (.int .i64 23)))]), none, none⟩,
 ⟨(.call false 62 [(.loc 1), (.loc 0)]), none, none⟩]
def c27_23 : List CO := [⟨(.fa 0 (.var 1)), none, none⟩,
 ⟨(.fa 1 (.loc 0)), none, none⟩,
 ⟨(.load false 1 (.loc 0)), none, none⟩,
 ⟨(.fa 0 (.var 1)), none, none⟩,
 ⟨(.fa 3 (.loc 0)), none, none⟩,
 ⟨(.load false 1 (.loc 0)), none, none⟩,
 ⟨(.len .slice (.loc 0)), none, none⟩,
 ⟨(.fa 5 (.var 1)), none, none⟩,
 ⟨(.load false 1 (.loc 0)), none, none⟩,
 ⟨(.mov (.var 3)), none, none⟩,
 ⟨(.nilchk (.loc 0)), none, none⟩,
 ⟨(.fa 0 (.loc 0)), none, none⟩,
 ⟨(.load false 1 (.loc 0)), none, none⟩,
 ⟨(.build [(.string ⟨#[]⟩), (.int .i64 0), (.int .i64 0), (.slice none 0 0)] [(0, 1, (.loc 10)), (1, 1, (.loc 6)), (2, 1, (.loc 4)), (3, 1, (.loc 0))]), none, none⟩,
 ⟨(.store 4 (.var 2) (.loc 0)), none, none⟩]
def c27 : CFun := ⟨1, 22, (.seq (.region [] [] c27_0) (.seq (.region [] [] c27_1) (.seq (.seq (.region [.ap 3 0 58 5, .ap 3 1 2 1] [] c27_2) (.block 0 (.loop [false, true, true, true, false, false, false, false, false, true, true, true, false, false, false, false, false, false, false, false, false, false] [] c27_7))) (.seq (.seq (.region [] [] c27_8) (.block 2 (.loop [false, true, true, true, false, false, false, false, false, false, false, false, false, true, true, true, false, false, false, false, false, false] [] c27_21))) (.seq (.region [] [] c27_22) (.seq (.region [] [] c27_23) .ret)))))), [.cell 2 true 4]⟩
theorem ok27 : CodeOk Tryd.prog T 27 c27 := ⟨⟨Tryd.f27, Hints.of [(2, [.ap 3 0 58 5, .ap 3 1 2 1])] [] [(0, [false, true, true, true, false, false, false, false, false, true, true, true, false, false, false, false, false, false, false, false, false, false], []), (2, [false, true, true, true, false, false, false, false, false, false, false, false, false, true, true, true, false, false, false, false, false, false], []), (4, [false, true, true, true, false, false, true, false, false, false, false, false, false, true, true, true, false, false, true, true, true, false], [])], [0, 1, 2, 3, 4, 5, 7, 8, 9, 14, 15, 16, 17, 27, 28, 29, 30, 40, 45, 46, 47, 48], Tryd.func27, by kernel_rfl, by kernel_rfl⟩⟩

def c28_0 : List CO := [⟨(.box 24 (.var 0)), (some 1), none⟩,
 ⟨(.mov (.k (.int .i64 0))), (some 2), none⟩]
def c28_1 : List CO := [⟨(.mov (.k (.int .i64 1))), (some 3), none⟩]
def c28_2 : List CO := [⟨(.fa 3 (.var 1)), none, none⟩,
 ⟨(.load false 1 (.loc 0)), (some 5), none⟩,
 ⟨(.len .slice (.var 5)), (some 6), none⟩,
 ⟨(.mov (.k (.int .i64 0))), (some 7), none⟩]
def c28_3 : List CO := [⟨(.bin .lss (.var 7) (.var 6)), (some 8), none⟩]
def c28_4 : List CO := [⟨(.ia 4 (.var 5) (.var 7)), none, none⟩,
 ⟨(.load true 4 (.loc 0)), none, none⟩,
 ⟨(.box 24 (.k (.agg #[(.int .i64 0), (.string ⟨#[]⟩), (.int .i64 0), (.slice none 0 0)]))), (some 4), none⟩,
 ⟨(.store 4 (.var 4) (.loc 1)), none, none⟩]
def c28_5 : List CO := [⟨(.mov (.var 3)), none, none⟩,
 ⟨(.load true 4 (.var 4)), none, none⟩,
 ⟨(.call true 28 [(.loc 0)]), none, none⟩,
 ⟨(.bin .add (.loc 2) (.loc 0)), none, none⟩,
 ⟨(.mov (.loc 0)), (some 3), none⟩]
def c28_6 : List CO := [⟨(.bin .add (.var 7) (.k (.int .i64 1))), none, none⟩,
 ⟨(.mov (.loc 0)), (some 7), none⟩]
def c28_7 : CC := (.seq (.region [] [] c28_3) (.seq (.cond (.var 8) .skip (.exit 0)) (.seq (.block 1 (.seq (.region [] [] c28_4) (.region [] [] c28_5))) (.region [] [] c28_6))))
def c28_8 : List CO := [⟨(.mov (.var 3)), none, none⟩,
 ⟨(.mov (.loc 0)), (some 2), none⟩]
def c28 : CFun := ⟨1, 9, (.seq (.region [] [] c28_0) (.seq (.region [] [] c28_1) (.seq (.seq (.region [] [] c28_2) (.block 0 (.loop [false, false, false, true, false, true, true, true, false] [] c28_7))) (.seq (.region [] [] c28_8) .ret)))), [.var 2]⟩
theorem ok28 : CodeOk Tryd.prog T 28 c28 := ⟨⟨Tryd.f28, Hints.of [] [] [(0, [false, false, false, true, false, true, true, true, false], [])], [0, 1, 2, 3, 5, 7, 8, 9, 10], Tryd.func28, by kernel_rfl, by kernel_rfl⟩⟩

def c30_0 : List CO := [⟨(.box 46 (.var 0)), (some 2), none⟩,
 ⟨(.box 46 (.var 1)), (some 3), none⟩,
 ⟨(.mov (.k (.bool false))), (some 4), none⟩]
def c30_1 : List CO := [⟨(.fa 0 (.var 2)), none, none⟩,
 ⟨(.load true 4 (.loc 0)), none, none⟩,
 ⟨(.fa 0 (.var 3)), none, none⟩,
 ⟨(.load true 4 (.loc 0)), none, none⟩,
 ⟨(.call true 17 [(.loc 2), (.loc 0)]), none, none⟩,
 ⟨(.mov (.loc 0)), none, none⟩,
 ⟨(.fa 4 (.var 2)), none, (some ((.loc 0), true))⟩,
 ⟨(.load false 1 (.loc 0)), none, (some ((.loc 1), true))⟩,
 ⟨(.fa 4 (.var 3)), none, (some ((.loc 2), true))⟩,
 ⟨(.load false 1 (.loc 0)), none, (some ((.loc 3), true))⟩,
 ⟨(.call true 64 [(.loc 2), (.loc 0)]), none, (some ((.loc 4), true))⟩,
 ⟨(.pick (.loc 5) (.loc 0) (.k (.bool false))), none, none⟩,
 ⟨(.mov (.loc 0)), none, none⟩,
 ⟨(.fa 5 (.var 2)), none, (some ((.loc 0), true))⟩,
 ⟨(.load false 1 (.loc 0)), none, (some ((.loc 1), true))⟩,
 ⟨(.fa 5 (.var 3)), none, (some ((.loc 2), true))⟩,
 ⟨(.load false 1 (.loc 0)), none, (some ((.loc 3), true))⟩,
 ⟨(.bin .eql (.loc 2) (.loc 0)), none, (some ((.loc 4), true))⟩,
 ⟨(.pick (.loc 5) (.loc 0) (.k (.bool false))), none, none⟩,
 ⟨(.mov (.loc 0)), (some 4), none⟩]
def c30 : CFun := ⟨2, 5, (.seq (.region [] [] c30_0) (.seq (.region [] [] c30_1) .ret)), [.var 4]⟩
theorem ok30 : CodeOk Tryd.prog T 30 c30 := ⟨⟨Tryd.f30, Hints.of [] [] [], [0, 1, 2, 3, 4], Tryd.func30, by kernel_rfl, by kernel_rfl⟩⟩

def c31_0 : List CO := [⟨(.box 46 (.var 0)), (some 1), none⟩,
 ⟨(.mov (.k (.bool false))), (some 2), none⟩]
def c31_1 : List CO := [⟨(.fa 0 (.var 1)), none, none⟩,
 ⟨(.load true 4 (.loc 0)), none, none⟩,
 ⟨(.call true 11 [(.loc 0), (.k (.int .i64 2000))]), none, none⟩,
 ⟨(.un .not (.loc 0)), none, none⟩,
 ⟨(.mov (.loc 0)), none, none⟩,
 ⟨(.fa 4 (.var 1)), none, (some ((.loc 0), false))⟩,
 ⟨(.load false 1 (.loc 0)), none, (some ((.loc 1), false))⟩,
 ⟨(.len .slice (.loc 0)), none, (some ((.loc 2), false))⟩,
 ⟨(.bin .gtr (.loc 0) (.k (.int .i64 200))), none, (some ((.loc 3), false))⟩,
 ⟨(.pick (.loc 4) (.k (.bool true)) (.loc 0)), (some 6), none⟩]
def c31_2 : List CO := [⟨(.mov (.k (.bool false))), (some 2), none⟩]
def c31_3 : List CO := [⟨(.fa 4 (.var 1)), none, none⟩,
 ⟨(.load false 1 (.loc 0)), (some 7), none⟩,
 ⟨(.len .slice (.var 7)), (some 8), none⟩,
 ⟨(.mov (.k (.int .i64 0))), (some 9), none⟩]
def c31_4 : List CO := [⟨(.bin .lss (.var 9) (.var 8)), (some 10), none⟩]
def c31_5 : List CO := [⟨(.ia 4 (.var 7) (.var 9)), none, none⟩,
 ⟨(.load true 4 (.loc 0)), none, none⟩,
 ⟨(.box 24 (.k (.agg #[(.int .i64 0), (.string ⟨#[]⟩), (.int .i64 0), (.slice none 0 0)]))), (some 3), none⟩,
 ⟨(.store 4 (.var 3) (.loc 1)), none, none⟩]
def c31_6 : List CO := [⟨(.load true 4 (.var 3)), none, none⟩,
 ⟨(.call true 11 [(.loc 0), (.k (.int .i64 2000))]), none, none⟩,
 ⟨(.un .not (.loc 0)), (some 11), none⟩]
def c31_7 : List CO := [⟨(.mov (.k (.bool false))), (some 2), none⟩]
def c31_8 : List CO := [⟨(.bin .add (.var 9) (.k (.int .i64 1))), none, none⟩,
 ⟨(.mov (.loc 0)), (some 9), none⟩]
def c31_9 : CC := (.seq (.region [] [] c31_4) (.seq (.cond (.var 10) .skip (.exit 0)) (.seq (.block 1 (.seq (.region [] [] c31_5) (.seq (.region [] [] c31_6) (.cond (.var 11) (.seq (.region [] [] c31_7) .ret) .skip)))) (.region [] [] c31_8))))
def c31_10 : List CO := [⟨(.load true 6 (.var 1)), none, none⟩,
 ⟨(.call true 65 [(.loc 0)]), none, none⟩,
 ⟨(.call true 24 [(.loc 0)]), none, none⟩,
 ⟨(.mov (.loc 0)), none, none⟩,
 ⟨(.extract (.loc 0) 0), none, none⟩,
 ⟨(.extract (.loc 1) 1), none, none⟩,
 ⟨(.box 46 (.k (.agg #[(.int .i64 0), (.string ⟨#[]⟩), (.int .i64 0), (.slice none 0 0), (.slice none 0 0), (.int .i64 0)]))), (some 4), none⟩,
 ⟨(.store 6 (.var 4) (.loc 2)), none, none⟩,
 ⟨(.mov (.loc 2)), (some 5), none⟩]
def c31_11 : List CO := [⟨(.mov (.var 5)), none, none⟩,
 ⟨(.bin .eql (.loc 0) (.k (.int .i64 0))), none, none⟩,
 ⟨(.mov (.loc 0)), none, none⟩,
 ⟨(.load true 6 (.var 1)), none, (some ((.loc 0), true))⟩,
 ⟨(.load true 6 (.var 4)), none, (some ((.loc 1), true))⟩,
 ⟨(.call true 30 [(.loc 1), (.loc 0)]), none, (some ((.loc 2), true))⟩,
 ⟨(.pick (.loc 3) (.loc 0) (.k (.bool false))), none, none⟩,
 ⟨(.mov (.loc 0)), (some 2), none⟩]
def c31 : CFun := ⟨1, 12, (.seq (.region [] [] c31_0) (.seq (.seq (.region [] [] c31_1) (.cond (.var 6) (.seq (.region [] [] c31_2) .ret) .skip)) (.seq (.seq (.region [] [] c31_3) (.block 0 (.loop [false, true, false, false, false, false, false, true, true, true, false, false] [] c31_9))) (.seq (.region [] [] c31_10) (.seq (.region [] [] c31_11) .ret))))), [.var 2]⟩
theorem ok31 : CodeOk Tryd.prog T 31 c31 := ⟨⟨Tryd.f31, Hints.of [] [] [(0, [false, true, false, false, false, false, false, true, true, true, false, false], [])], [0, 1, 2, 4, 5, 6, 16, 18, 19, 20, 21, 26], Tryd.func31, by kernel_rfl, by kernel_rfl⟩⟩

def c32_0 : List CO := [⟨(.mov (.k (.slice none 0 0))), (some 1), none⟩]
def c32_1 : List CO := [⟨(.mov (.var 0)), none, none⟩,
 ⟨(.len .slice (.loc 0)), none, none⟩,
 ⟨(.mkslice 52 4 56 [(.string ⟨#[]⟩), (.int .i64 0), (.int .i64 0), (.slice none 0 0)] (.loc 0) (.loc 0)), none, none⟩,
 ⟨(.mov (.loc 0)), (some 2), none⟩]
def c32_2 : List CO := [⟨(.mov (.var 0)), (some 5), none⟩,
 ⟨(.len .slice (.var 5)), (some 6), none⟩,
 ⟨(.mov (.k (.int .i64 0))), (some 7), none⟩]
def c32_3 : List CO := [⟨(.bin .lss (.var 7) (.var 6)), (some 8), none⟩]
def c32_4 : List CO := [⟨(.mov (.var 7)), none, none⟩,
 ⟨(.ia 6 (.var 5) (.var 7)), none, none⟩,
 ⟨(.load true 6 (.loc 0)), none, none⟩,
 ⟨(.box 46 (.k (.agg #[(.int .i64 0), (.string ⟨#[]⟩), (.int .i64 0), (.slice none 0 0), (.slice none 0 0), (.int .i64 0)]))), (some 4), none⟩,
 ⟨(.mov (.loc 3)), (some 3), none⟩,
 ⟨(.store 6 (.var 4) (.loc 2)), none, none⟩]
def c32_5 : List CO := [⟨(.mov (.var 2)), none, none⟩,
 ⟨(.mov (.var 3)), none, none⟩,
 ⟨(.load true 6 (.var 4)), none, none⟩,
 ⟨(.call true 26 [(.loc 0)]), none, none⟩,
 ⟨(.ia 4 (.loc 3) (.loc 2)), none, none⟩,
 ⟨(.store 4 (.loc 0) (.loc 1)), none, none⟩]
def c32_6 : List CO := [⟨(.bin .add (.var 7) (.k (.int .i64 1))), none, none⟩,
 ⟨(.mov (.loc 0)), (some 7), none⟩]
def c32_7 : CC := (.seq (.region [] [] c32_3) (.seq (.cond (.var 8) .skip (.exit 0)) (.seq (.block 1 (.seq (.region [] [] c32_4) (.region [] [] c32_5))) (.region [] [] c32_6))))
def c32_8 : List CO := [⟨(.mov (.var 2)), none, none⟩,
 ⟨(.mov (.loc 0)), (some 1), none⟩]
def c32 : CFun := ⟨1, 9, (.seq (.region [] [] c32_0) (.seq (.region [] [] c32_1) (.seq (.seq (.region [] [] c32_2) (.block 0 (.loop [false, false, true, false, false, true, true, true, false] [] c32_7))) (.seq (.region [] [] c32_8) .ret)))), [.var 1]⟩
theorem ok32 : CodeOk Tryd.prog T 32 c32 := ⟨⟨Tryd.f32, Hints.of [] [] [(0, [false, false, true, false, false, true, true, true, false], [])], [0, 2, 3, 4, 5, 9, 10, 11, 12], Tryd.func32, by kernel_rfl, by kernel_rfl⟩⟩

def c33_0 : List CO := [⟨(.mov (.k (.slice none 0 0))), (some 1), none⟩]
def c33_1 : List CO := [⟨(.mov (.k (.slice none 0 0))), (some 2), none⟩]
def c33_2 : List CO := [⟨(.mov (.var 0)), (some 4), none⟩,
 ⟨(.len .slice (.var 4)), (some 5), none⟩,
 ⟨(.mov (.k (.int .i64 0))), (some 6), none⟩]
def c33_3 : List CO := [⟨(.bin .lss (.var 6) (.var 5)), (some 7), none⟩]
def c33_4 : List CO := [⟨(.ia 6 (.var 4) (.var 6)), none, none⟩,
 ⟨(.load true 6 (.loc 0)), none, none⟩,
 ⟨(.box 46 (.k (.agg #[(.int .i64 0), (.string ⟨#[]⟩), (.int .i64 0), (.slice none 0 0), (.slice none 0 0), (.int .i64 0)]))), (some 3), none⟩,
 ⟨(.store 6 (.var 3) (.loc 1)), none, none⟩]
def c33_5 : List CO := [⟨(.mov (.var 2)), none, none⟩,
 ⟨(.load true 6 (.var 3)), none, none⟩,
 ⟨(.call true 27 [(.loc 0)]), none, none⟩,
 ⟨(.bslice 4 [(.string ⟨#[]⟩), (.int .i64 0), (.int .i64 0), (.slice none 0 0)] 1 [(0, (.loc 0))]), none, none⟩,
 ⟨(.append 52 4 56 (.loc 3) (.loc 0)), none, none⟩,
 ⟨(.mov (.loc 0)), (some 2), none⟩]
def c33_6 : List CO := [⟨(.bin .add (.var 6) (.k (.int .i64 1))), none, none⟩,
 ⟨(.mov (.loc 0)), (some 6), none⟩]
def c33_7 : CC := (.seq (.region [] [] c33_3) (.seq (.cond (.var 7) .skip (.exit 0)) (.seq (.block 1 (.seq (.region [] [] c33_4) (.region [] [] c33_5))) (.region [] [] c33_6))))
def c33_8 : List CO := [⟨(.mov (.var 2)), none, none⟩,
 ⟨(.mov (.loc 0)), (some 1), none⟩]
def c33 : CFun := ⟨1, 8, (.seq (.region [] [] c33_0) (.seq (.region [] [] c33_1) (.seq (.seq (.region [] [] c33_2) (.block 0 (.loop [false, false, true, false, true, true, true, false] [] c33_7))) (.seq (.region [] [] c33_8) .ret)))), [.var 1]⟩
theorem ok33 : CodeOk Tryd.prog T 33 c33 := ⟨⟨Tryd.f33, Hints.of [] [] [(0, [false, false, true, false, true, true, true, false], [])], [0, 2, 3, 5, 6, 7, 8, 9], Tryd.func33, by kernel_rfl, by kernel_rfl⟩⟩

def c34_0 : List CO := [⟨(.mov (.k (.string ⟨#[]⟩))), (some 1), none⟩]
def c34_1 : List CO := [⟨(.box 103 (.k (.agg #[(.pointer none), (.slice none 0 0)]))), (some 2), none⟩]
def c34_2 : List CO := [⟨(.mov (.var 0)), (some 4), none⟩,
 ⟨(.len .slice (.var 4)), (some 5), none⟩,
 ⟨(.mov (.k (.int .i64 0))), (some 6), none⟩]
def c34_3 : List CO := [⟨(.bin .lss (.var 6) (.var 5)), (some 7), none⟩]
def c34_4 : List CO := [⟨(.ia 5 (.var 4) (.var 6)), none, none⟩,
 ⟨(.load true 5 (.loc 0)), none, none⟩,
 ⟨(.box 58 (.k (.agg #[(.int .i64 0), (.int .i64 0), (.int .i64 0), (.string ⟨#[]⟩), (.int .i64 0)]))), (some 3), none⟩,
 ⟨(.store 5 (.var 3) (.loc 1)), none, none⟩]
def c34_5 : List CO := [⟨(.load true 5 (.var 3)), none, none⟩,
 ⟨(.call false 66 [(.var 2), (.loc 0)]), none, none⟩]
def c34_6 : List CO := [⟨(.call false 67 [(.var 2), (.k (.int .u8 10))]), none, none⟩]
def c34_7 : List CO := [⟨(.bin .add (.var 6) (.k (.int .i64 1))), none, none⟩,
 ⟨(.mov (.loc 0)), (some 6), none⟩]
def c34_8 : CC := (.seq (.region [] [] c34_3) (.seq (.cond (.var 7) .skip (.exit 0)) (.seq (.block 1 (.seq (.region [] [] c34_4) (.seq (.region [.ap 2 1 5 1] [] c34_5) (.region [] [] c34_6)))) (.region [] [] c34_7))))
def c34_9 : List CO := [⟨(.call false 68 [(.var 2)]), none, none⟩,
 ⟨(.mov (.loc 0)), (some 1), none⟩]
def c34 : CFun := ⟨1, 8, (.seq (.region [] [] c34_0) (.seq (.region [] [] c34_1) (.seq (.seq (.region [] [] c34_2) (.block 0 (.loop [false, false, true, false, true, true, true, false] [] c34_8))) (.seq (.region [] [] c34_9) .ret)))), [.var 1]⟩
theorem ok34 : CodeOk Tryd.prog T 34 c34 := ⟨⟨Tryd.f34, Hints.of [(5, [.ap 2 1 5 1])] [] [(0, [false, false, true, false, true, true, true, false], [])], [0, 2, 3, 5, 6, 7, 8, 9], Tryd.func34, by kernel_rfl, by kernel_rfl⟩⟩

def c36_0 : List CO := [⟨(.box 24 (.k (.agg #[(.int .i64 0), (.string ⟨#[]⟩), (.int .i64 0), (.slice none 0 0)]))), (some 2), none⟩]
def c36_1 : List CO := [⟨(.mov (.var 0)), none, none⟩,
 ⟨(.mov (.var 1)), none, none⟩,
 ⟨(.build [(.int .i64 0), (.string ⟨#[]⟩), (.int .i64 0), (.slice none 0 0)] [(0, 1, (.k (.int .i64 4))), (1, 1, (.loc 1)), (3, 1, (.loc 0))]), none, none⟩,
 ⟨(.store 4 (.var 2) (.loc 0)), none, none⟩]
def c36 : CFun := ⟨2, 3, (.seq (.region [] [] c36_0) (.seq (.region [] [] c36_1) .ret)), [.cell 2 true 4]⟩
theorem ok36 : CodeOk Tryd.prog T 36 c36 := ⟨⟨Tryd.f36, Hints.of [] [] [], [0, 1, 4], Tryd.func36, by kernel_rfl, by kernel_rfl⟩⟩

def c39_0 : List CO := [⟨(.box 24 (.var 0)), (some 2), none⟩,
 ⟨(.mov (.k (.int .i64 0))), (some 3), none⟩]
def c39_1 : List CO := [⟨(.mov (.var 1)), none, none⟩,
 ⟨(.bin .sub (.loc 0) (.k (.int .i64 1))), none, none⟩,
 ⟨(.mov (.loc 0)), (some 1), none⟩]
def c39_2 : List CO := [⟨(.fa 3 (.var 2)), none, none⟩,
 ⟨(.load false 1 (.loc 0)), (some 5), none⟩,
 ⟨(.len .slice (.var 5)), (some 6), none⟩,
 ⟨(.mov (.k (.int .i64 0))), (some 7), none⟩]
def c39_3 : List CO := [⟨(.bin .lss (.var 7) (.var 6)), (some 8), none⟩]
def c39_4 : List CO := [⟨(.ia 4 (.var 5) (.var 7)), none, none⟩,
 ⟨(.load true 4 (.loc 0)), none, none⟩,
 ⟨(.box 24 (.k (.agg #[(.int .i64 0), (.string ⟨#[]⟩), (.int .i64 0), (.slice none 0 0)]))), (some 4), none⟩,
 ⟨(.store 4 (.var 4) (.loc 1)), none, none⟩]
def c39_5 : List CO := [⟨(.mov (.var 1)), none, none⟩,
 ⟨(.bin .lss (.loc 0) (.k (.int .i64 0))), (some 9), none⟩]
def c39_6 : List CO := [⟨(.mov (.var 1)), none, none⟩,
 ⟨(.mov (.loc 0)), (some 3), none⟩]
def c39_7 : List CO := [⟨(.load true 4 (.var 4)), none, none⟩,
 ⟨(.mov (.var 1)), none, none⟩,
 ⟨(.call true 39 [(.loc 1), (.loc 0)]), none, none⟩,
 ⟨(.mov (.loc 0)), (some 1), none⟩]
def c39_8 : List CO := [⟨(.bin .add (.var 7) (.k (.int .i64 1))), none, none⟩,
 ⟨(.mov (.loc 0)), (some 7), none⟩]
def c39_9 : CC := (.seq (.region [] [] c39_3) (.seq (.cond (.var 8) .skip (.exit 0)) (.seq (.block 1 (.seq (.region [] [] c39_4) (.seq (.seq (.region [] [] c39_5) (.cond (.var 9) (.seq (.region [] [] c39_6) .ret) .skip)) (.region [] [] c39_7)))) (.region [] [] c39_8))))
def c39_10 : List CO := [⟨(.mov (.var 1)), none, none⟩,
 ⟨(.mov (.loc 0)), (some 3), none⟩]
def c39 : CFun := ⟨2, 10, (.seq (.region [] [] c39_0) (.seq (.region [] [] c39_1) (.seq (.seq (.region [] [] c39_2) (.block 0 (.loop [false, true, false, false, false, true, true, true, false, false] [] c39_9))) (.seq (.region [] [] c39_10) .ret)))), [.var 3]⟩
theorem ok39 : CodeOk Tryd.prog T 39 c39 := ⟨⟨Tryd.f39, Hints.of [] [] [(0, [false, true, false, false, false, true, true, true, false, false], [])], [0, 1, 2, 4, 6, 10, 11, 12, 13, 17], Tryd.func39, by kernel_rfl, by kernel_rfl⟩⟩

def c40_0 : List CO := [⟨(.box 24 (.var 0)), (some 1), none⟩,
 ⟨(.mov (.k (.bool false))), (some 2), none⟩]
def c40_1 : List CO := [⟨(.fa 0 (.var 1)), none, none⟩,
 ⟨(.load false 1 (.loc 0)), (some 4), none⟩]
def c40_2 : List CO := [⟨(.bin .eql (.var 4) (.k (.int .i64 1))), none, none⟩,
 ⟨(.mov (.loc 0)), (some 5), none⟩]
def c40_3 : List CO := [⟨(.fa 2 (.var 1)), none, none⟩,
 ⟨(.load false 1 (.loc 0)), none, none⟩,
 ⟨(.bin .geq (.loc 0) (.k (.int .i64 0))), none, none⟩,
 ⟨(.mov (.loc 0)), none, none⟩,
 ⟨(.fa 1 (.var 1)), none, (some ((.loc 0), true))⟩,
 ⟨(.load false 1 (.loc 0)), none, (some ((.loc 1), true))⟩,
 ⟨(.bin .eql (.loc 0) (.k (.string ⟨#[]⟩))), none, (some ((.loc 2), true))⟩,
 ⟨(.pick (.loc 3) (.loc 0) (.k (.bool false))), none, none⟩,
 ⟨(.mov (.loc 0)), none, none⟩,
 ⟨(.fa 3 (.var 1)), none, (some ((.loc 0), true))⟩,
 ⟨(.load false 1 (.loc 0)), none, (some ((.loc 1), true))⟩,
 ⟨(.len .slice (.loc 0)), none, (some ((.loc 2), true))⟩,
 ⟨(.bin .eql (.loc 0) (.k (.int .i64 0))), none, (some ((.loc 3), true))⟩,
 ⟨(.pick (.loc 4) (.loc 0) (.k (.bool false))), none, none⟩,
 ⟨(.mov (.loc 0)), (some 2), none⟩]
def c40_4 : List CO := [⟨(.bin .eql (.var 4) (.k (.int .i64 2))), none, none⟩,
 ⟨(.mov (.loc 0)), (some 6), none⟩]
def c40_5 : List CO := [⟨(.fa 2 (.var 1)), none, none⟩,
 ⟨(.load false 1 (.loc 0)), none, none⟩,
 ⟨(.bin .eql (.loc 0) (.k (.int .i64 0))), none, none⟩,
 ⟨(.mov (.loc 0)), none, none⟩,
 ⟨(.fa 1 (.var 1)), none, (some ((.loc 0), true))⟩,
 ⟨(.load false 1 (.loc 0)), none, (some ((.loc 1), true))⟩,
 ⟨(.call true 70 [(.loc 0)]), none, (some ((.loc 2), true))⟩,
 ⟨(.pick (.loc 3) (.loc 0) (.k (.bool false))), none, none⟩,
 ⟨(.mov (.loc 0)), none, none⟩,
 ⟨(.fa 3 (.var 1)), none, (some ((.loc 0), true))⟩,
 ⟨(.load false 1 (.loc 0)), none, (some ((.loc 1), true))⟩,
 ⟨(.len .slice (.loc 0)), none, (some ((.loc 2), true))⟩,
 ⟨(.bin .eql (.loc 0) (.k (.int .i64 0))), none, (some ((.loc 3), true))⟩,
 ⟨(.pick (.loc 4) (.loc 0) (.k (.bool false))), none, none⟩,
 ⟨(.mov (.loc 0)), (some 2), none⟩]
def c40_6 : List CO := [⟨(.bin .eql (.var 4) (.k (.int .i64 3))), none, none⟩,
 ⟨(.mov (.loc 0)), (some 7), none⟩]
def c40_7 : List CO := [⟨(.fa 1 (.var 1)), none, none⟩,
 ⟨(.load false 1 (.loc 0)), none, none⟩,
 ⟨(.bin .eql (.loc 0) (.k (.string ⟨#[]⟩))), none, none⟩,
 ⟨(.mov (.loc 0)), none, none⟩,
 ⟨(.fa 3 (.var 1)), none, (some ((.loc 0), true))⟩,
 ⟨(.load false 1 (.loc 0)), none, (some ((.loc 1), true))⟩,
 ⟨(.len .slice (.loc 0)), none, (some ((.loc 2), true))⟩,
 ⟨(.bin .eql (.loc 0) (.k (.int .i64 0))), none, (some ((.loc 3), true))⟩,
 ⟨(.pick (.loc 4) (.loc 0) (.k (.bool false))), none, none⟩,
 ⟨(.mov (.loc 0)), (some 2), none⟩]
def c40_8 : List CO := [⟨(.bin .eql (.var 4) (.k (.int .i64 4))), none, none⟩,
 ⟨(.mov (.loc 0)), (some 8), none⟩]
def c40_9 : List CO := [⟨(.fa 2 (.var 1)), none, none⟩,
 ⟨(.load false 1 (.loc 0)), none, none⟩,
 ⟨(.bin .neq (.loc 0) (.k (.int .i64 0))), none, none⟩,
 ⟨(.mov (.loc 0)), none, none⟩,
 ⟨(.fa 1 (.var 1)), none, (some ((.loc 0), false))⟩,
 ⟨(.load false 1 (.loc 0)), none, (some ((.loc 1), false))⟩,
 ⟨(.call true 70 [(.loc 0)]), none, (some ((.loc 2), false))⟩,
 ⟨(.un .not (.loc 0)), none, (some ((.loc 3), false))⟩,
 ⟨(.pick (.loc 4) (.k (.bool true)) (.loc 0)), none, none⟩,
 ⟨(.mov (.loc 0)), none, none⟩,
 ⟨(.fa 3 (.var 1)), none, (some ((.loc 0), false))⟩,
 ⟨(.load false 1 (.loc 0)), none, (some ((.loc 1), false))⟩,
 ⟨(.len .slice (.loc 0)), none, (some ((.loc 2), false))⟩,
 ⟨(.bin .lss (.loc 0) (.k (.int .i64 1))), none, (some ((.loc 3), false))⟩,
 ⟨(.pick (.loc 4) (.k (.bool true)) (.loc 0)), none, none⟩,
 ⟨(.mov (.loc 0)), none, none⟩,
 ⟨(.fa 3 (.var 1)), none, (some ((.loc 0), false))⟩,
 ⟨(.load false 1 (.loc 0)), none, (some ((.loc 1), false))⟩,
 ⟨(.len .slice (.loc 0)), none, (some ((.loc 2), false))⟩,
 ⟨(.bin .gtr (.loc 0) (.k (.int .i64 16))), none, (some ((.loc 3), false))⟩,
 ⟨(.pick (.loc 4) (.k (.bool true)) (.loc 0)), (some 9), none⟩]
def c40_10 : List CO := [⟨(.mov (.k (.bool false))), (some 2), none⟩]
def c40_11 : List CO := [⟨(.fa 3 (.var 1)), none, none⟩,
 ⟨(.load false 1 (.loc 0)), (some 10), none⟩,
 ⟨(.len .slice (.var 10)), (some 11), none⟩,
 ⟨(.mov (.k (.int .i64 0))), (some 12), none⟩]
def c40_12 : List CO := [⟨(.bin .lss (.var 12) (.var 11)), (some 13), none⟩]
def c40_13 : List CO := [⟨(.ia 4 (.var 10) (.var 12)), none, none⟩,
 ⟨(.load true 4 (.loc 0)), none, none⟩,
 ⟨(.box 24 (.k (.agg #[(.int .i64 0), (.string ⟨#[]⟩), (.int .i64 0), (.slice none 0 0)]))), (some 3), none⟩,
 ⟨(.store 4 (.var 3) (.loc 1)), none, none⟩]
def c40_14 : List CO := [⟨(.load true 4 (.var 3)), none, none⟩,
 ⟨(.call true 40 [(.loc 0)]), none, none⟩,
 ⟨(.un .not (.loc 0)), (some 14), none⟩]
def c40_15 : List CO := [⟨(.mov (.k (.bool false))), (some 2), none⟩]
def c40_16 : List CO := [⟨(.bin .add (.var 12) (.k (.int .i64 1))), none, none⟩,
 ⟨(.mov (.loc 0)), (some 12), none⟩]
def c40_17 : CC := (.seq (.region [] [] c40_12) (.seq (.cond (.var 13) .skip (.exit 1)) (.seq (.block 2 (.seq (.region [] [] c40_13) (.seq (.region [] [] c40_14) (.cond (.var 14) (.seq (.region [] [] c40_15) .ret) .skip)))) (.region [] [] c40_16))))
def c40_18 : List CO := [⟨(.mov (.k (.bool true))), (some 2), none⟩]
def c40_19 : List CO := [⟨(.mov (.k (.bool false))), (some 2), none⟩]
def c40 : CFun := ⟨1, 15, (.seq (.region [] [] c40_0) (.seq (.seq (.region [] [] c40_1) (.block 0 (.seq (.region [] [] c40_2) (.cond (.var 5) (.seq (.region [] [] c40_3) .ret) (.seq (.region [] [] c40_4) (.cond (.var 6) (.seq (.region [] [] c40_5) .ret) (.seq (.region [] [] c40_6) (.cond (.var 7) (.seq (.region [] [] c40_7) .ret) (.seq (.region [] [] c40_8) (.cond (.var 8) (.seq (.seq (.region [] [] c40_9) (.cond (.var 9) (.seq (.region [] [] c40_10) .ret) .skip)) (.seq (.seq (.region [] [] c40_11) (.block 1 (.loop [false, false, false, false, false, false, false, false, false, false, true, true, true, false, false] [] c40_17))) (.seq (.region [] [] c40_18) .ret))) .skip)))))))))) (.seq (.region [] [] c40_19) .ret))), [.var 2]⟩
theorem ok40 : CodeOk Tryd.prog T 40 c40 := ⟨⟨Tryd.f40, Hints.of [] [] [(1, [false, false, false, false, false, false, false, false, false, false, true, true, true, false, false], [])], [0, 1, 2, 4, 6, 7, 23, 39, 50, 72, 74, 75, 76, 77, 82], Tryd.func40, by kernel_rfl, by kernel_rfl⟩⟩

def c41_0 : List CO := [⟨(.box 24 (.var 0)), (some 1), none⟩,
 ⟨(.mov (.k (.int .i64 0))), (some 2), none⟩]
def c41_1 : List CO := [⟨(.mov (.k (.int .i64 0))), (some 3), none⟩]
def c41_2 : List CO := [⟨(.fa 3 (.var 1)), none, none⟩,
 ⟨(.load false 1 (.loc 0)), (some 5), none⟩,
 ⟨(.len .slice (.var 5)), (some 6), none⟩,
 ⟨(.mov (.k (.int .i64 0))), (some 7), none⟩]
def c41_3 : List CO := [⟨(.bin .lss (.var 7) (.var 6)), (some 8), none⟩]
def c41_4 : List CO := [⟨(.ia 4 (.var 5) (.var 7)), none, none⟩,
 ⟨(.load true 4 (.loc 0)), none, none⟩,
 ⟨(.box 24 (.k (.agg #[(.int .i64 0), (.string ⟨#[]⟩), (.int .i64 0), (.slice none 0 0)]))), (some 4), none⟩,
 ⟨(.store 4 (.var 4) (.loc 1)), none, none⟩]
def c41_5 : List CO := [⟨(.mov (.var 3)), none, none⟩,
 ⟨(.load true 4 (.var 4)), none, none⟩,
 ⟨(.call true 41 [(.loc 0)]), none, none⟩,
 ⟨(.mm true (.loc 2) (.loc 0)), none, none⟩,
 ⟨(.mov (.loc 0)), (some 3), none⟩]
def c41_6 : List CO := [⟨(.bin .add (.var 7) (.k (.int .i64 1))), none, none⟩,
 ⟨(.mov (.loc 0)), (some 7), none⟩]
def c41_7 : CC := (.seq (.region [] [] c41_3) (.seq (.cond (.var 8) .skip (.exit 0)) (.seq (.block 1 (.seq (.region [] [] c41_4) (.region [] [] c41_5))) (.region [] [] c41_6))))
def c41_8 : List CO := [⟨(.mov (.var 3)), none, none⟩,
 ⟨(.bin .add (.loc 0) (.k (.int .i64 1))), none, none⟩,
 ⟨(.mov (.loc 0)), (some 2), none⟩]
def c41 : CFun := ⟨1, 9, (.seq (.region [] [] c41_0) (.seq (.region [] [] c41_1) (.seq (.seq (.region [] [] c41_2) (.block 0 (.loop [false, false, false, true, false, true, true, true, false] [] c41_7))) (.seq (.region [] [] c41_8) .ret)))), [.var 2]⟩
theorem ok41 : CodeOk Tryd.prog T 41 c41 := ⟨⟨Tryd.f41, Hints.of [] [] [(0, [false, false, false, true, false, true, true, true, false], [])], [0, 1, 2, 3, 5, 7, 8, 9, 10], Tryd.func41, by kernel_rfl, by kernel_rfl⟩⟩

def c52_0 : List CO := [⟨(.box 24 (.var 0)), (some 1), none⟩,
 ⟨(.mov (.k (.slice none 0 0))), (some 2), none⟩]
def c52_1 : List CO := [⟨(.mov (.k (.slice none 0 0))), (some 3), none⟩]
def c52_2 : List CO := [⟨(.load true 4 (.var 1)), none, none⟩,
 ⟨(.call true 80 [(.loc 0)]), (some 5), none⟩,
 ⟨(.len .slice (.var 5)), (some 6), none⟩,
 ⟨(.mov (.k (.int .i64 0))), (some 7), none⟩]
def c52_3 : List CO := [⟨(.bin .lss (.var 7) (.var 6)), (some 8), none⟩]
def c52_4 : List CO := [⟨(.ia 1 (.var 5) (.var 7)), none, none⟩,
 ⟨(.load false 1 (.loc 0)), none, none⟩,
 ⟨(.mov (.loc 0)), (some 4), none⟩]
def c52_5 : List CO := [⟨(.mov (.var 3)), none, none⟩,
 ⟨(.mov (.var 4)), none, none⟩,
 ⟨(.callf 81 [(.loc 1), (.loc 0)]), none, none⟩,
 ⟨(.un .not (.loc 0)), (some 9), none⟩]
def c52_6 : List CO := [⟨(.mov (.var 3)), none, none⟩,
 ⟨(.mov (.var 4)), none, none⟩,
 ⟨(.bslice 1 [(.int .i64 0)] 1 [(0, (.loc 0))]), none, none⟩,
 ⟨(.append 2 1 8 (.loc 2) (.loc 0)), none, none⟩,
 ⟨(.mov (.loc 0)), (some 3), none⟩]
def c52_7 : List CO := [⟨(.bin .add (.var 7) (.k (.int .i64 1))), none, none⟩,
 ⟨(.mov (.loc 0)), (some 7), none⟩]
def c52_8 : CC := (.seq (.region [] [] c52_3) (.seq (.cond (.var 8) .skip (.exit 0)) (.seq (.block 1 (.seq (.region [] [] c52_4) (.seq (.region [] [] c52_5) (.cond (.var 9) (.region [] [] c52_6) .skip)))) (.region [] [] c52_7))))
def c52_9 : List CO := [⟨(.mov (.var 3)), none, none⟩,
 ⟨(.mov (.loc 0)), (some 2), none⟩]
def c52 : CFun := ⟨1, 10, (.seq (.region [] [] c52_0) (.seq (.region [] [] c52_1) (.seq (.seq (.region [] [] c52_2) (.block 0 (.loop [false, false, false, true, false, true, true, true, false, false] [] c52_8))) (.seq (.region [] [] c52_9) .ret)))), [.var 2]⟩
theorem ok52 : CodeOk Tryd.prog T 52 c52 := ⟨⟨Tryd.f52, Hints.of [] [] [(0, [false, false, false, true, false, true, true, true, false, false], [])], [0, 1, 2, 3, 5, 7, 8, 9, 10, 16], Tryd.func52, by kernel_rfl, by kernel_rfl⟩⟩

def c53_0 : List CO := [⟨(.box 24 (.var 0)), (some 2), none⟩,
 ⟨(.box 24 (.k (.agg #[(.int .i64 0), (.string ⟨#[]⟩), (.int .i64 0), (.slice none 0 0)]))), (some 3), none⟩]
def c53_1 : List CO := [⟨(.fa 0 (.var 2)), none, none⟩,
 ⟨(.load false 1 (.loc 0)), none, none⟩,
 ⟨(.bin .eql (.loc 0) (.k (.int .i64 1))), (some 6), none⟩]
def c53_2 : List CO := [⟨(.mov (.var 1)), none, none⟩,
 ⟨(.fa 2 (.var 2)), none, none⟩,
 ⟨(.load false 1 (.loc 0)), none, none⟩,
 ⟨(.call true 82 [(.loc 2), (.loc 0)]), none, none⟩,
 ⟨(.call true 15 [(.loc 0)]), none, none⟩,
 ⟨(.store 4 (.var 3) (.loc 0)), none, none⟩]
def c53_3 : List CO := [⟨(.mov (.k (.slice none 0 0))), (some 4), none⟩]
def c53_4 : List CO := [⟨(.fa 3 (.var 2)), none, none⟩,
 ⟨(.load false 1 (.loc 0)), (some 7), none⟩,
 ⟨(.len .slice (.var 7)), (some 8), none⟩,
 ⟨(.mov (.k (.int .i64 0))), (some 9), none⟩]
def c53_5 : List CO := [⟨(.bin .lss (.var 9) (.var 8)), (some 10), none⟩]
def c53_6 : List CO := [⟨(.ia 4 (.var 7) (.var 9)), none, none⟩,
 ⟨(.load true 4 (.loc 0)), none, none⟩,
 ⟨(.box 24 (.k (.agg #[(.int .i64 0), (.string ⟨#[]⟩), (.int .i64 0), (.slice none 0 0)]))), (some 5), none⟩,
 ⟨(.store 4 (.var 5) (.loc 1)), none, none⟩]
def c53_7 : List CO := [⟨(.mov (.var 4)), none, none⟩,
 ⟨(.load true 4 (.var 5)), none, none⟩,
 ⟨(.mov (.var 1)), none, none⟩,
 ⟨(.call true 53 [(.loc 1), (.loc 0)]), none, none⟩,
 ⟨(.bslice 4 [(.int .i64 0), (.string ⟨#[]⟩), (.int .i64 0), (.slice none 0 0)] 1 [(0, (.loc 0))]), none, none⟩,
 ⟨(.append 24 4 56 (.loc 4) (.loc 0)), none, none⟩,
 ⟨(.mov (.loc 0)), (some 4), none⟩]
def c53_8 : List CO := [⟨(.bin .add (.var 9) (.k (.int .i64 1))), none, none⟩,
 ⟨(.mov (.loc 0)), (some 9), none⟩]
def c53_9 : CC := (.seq (.region [] [] c53_5) (.seq (.cond (.var 10) .skip (.exit 0)) (.seq (.block 1 (.seq (.region [] [] c53_6) (.region [] [] c53_7))) (.region [] [] c53_8))))
def c53_10 : List CO := [⟨(.mov (.var 4)), none, none⟩,
 ⟨(.fa 3 (.var 2)), none, none⟩,
 ⟨(.store 1 (.loc 0) (.loc 1)), none, none⟩]
def c53_11 : List CO := [⟨(.load true 4 (.var 2)), none, none⟩,
 ⟨(.store 4 (.var 3) (.loc 0)), none, none⟩]
def c53 : CFun := ⟨2, 11, (.seq (.region [] [] c53_0) (.seq (.seq (.region [] [] c53_1) (.cond (.var 6) (.seq (.region [] [] c53_2) .ret) .skip)) (.seq (.region [] [] c53_3) (.seq (.seq (.region [] [] c53_4) (.block 0 (.loop [false, true, true, true, true, false, false, true, true, true, false] [] c53_9))) (.seq (.region [] [] c53_10) (.seq (.region [] [] c53_11) .ret)))))), [.cell 3 true 4]⟩
theorem ok53 : CodeOk Tryd.prog T 53 c53 := ⟨⟨Tryd.f53, Hints.of [] [] [(0, [false, true, true, true, true, false, false, true, true, true, false], [])], [0, 1, 2, 4, 5, 7, 10, 17, 18, 19, 20], Tryd.func53, by kernel_rfl, by kernel_rfl⟩⟩

def c54_0 : List CO := [⟨(.box 24 (.var 0)), (some 3), none⟩,
 ⟨(.mov (.k (.bool false))), (some 4), none⟩]
def c54_1 : List CO := [⟨(.fa 0 (.var 3)), none, none⟩,
 ⟨(.load false 1 (.loc 0)), none, none⟩,
 ⟨(.bin .eql (.loc 0) (.k (.int .i64 4))), none, none⟩,
 ⟨(.mov (.loc 0)), none, none⟩,
 ⟨(.fa 1 (.var 3)), none, (some ((.loc 0), true))⟩,
 ⟨(.load false 1 (.loc 0)), none, (some ((.loc 1), true))⟩,
 ⟨(.mov (.var 1)), none, (some ((.loc 2), true))⟩,
 ⟨(.bin .eql (.loc 1) (.loc 0)), none, (some ((.loc 3), true))⟩,
 ⟨(.pick (.loc 4) (.loc 0) (.k (.bool false))), none, none⟩,
 ⟨(.mov (.loc 0)), none, none⟩,
 ⟨(.fa 3 (.var 3)), none, (some ((.loc 0), true))⟩,
 ⟨(.load false 1 (.loc 0)), none, (some ((.loc 1), true))⟩,
 ⟨(.len .slice (.loc 0)), none, (some ((.loc 2), true))⟩,
 ⟨(.mov (.var 2)), none, (some ((.loc 3), true))⟩,
 ⟨(.bin .eql (.loc 1) (.loc 0)), none, (some ((.loc 4), true))⟩,
 ⟨(.pick (.loc 5) (.loc 0) (.k (.bool false))), none, none⟩,
 ⟨(.mov (.loc 0)), (some 4), none⟩]
def c54 : CFun := ⟨3, 5, (.seq (.region [] [] c54_0) (.seq (.region [] [] c54_1) .ret)), [.var 4]⟩
theorem ok54 : CodeOk Tryd.prog T 54 c54 := ⟨⟨Tryd.f54, Hints.of [] [] [], [0, 1, 2, 3, 6], Tryd.func54, by kernel_rfl, by kernel_rfl⟩⟩

def c55_0 : List CO := [⟨(.box 24 (.var 0)), (some 1), none⟩,
 ⟨(.mov (.k (.slice none 0 0))), (some 2), none⟩,
 ⟨(.mov (.k (.int .i64 0))), (some 3), none⟩]
def c55_1 : List CO := [⟨(.load true 4 (.var 1)), none, none⟩,
 ⟨(.call true 12 [(.loc 0)]), none, none⟩,
 ⟨(.mov (.loc 0)), (some 4), none⟩]
def c55_2 : List CO := [⟨(.mov (.var 4)), none, none⟩,
 ⟨(.bin .neq (.loc 0) (.k (.int .i64 0))), (some 7), none⟩]
def c55_3 : List CO := [⟨(.mov (.var 4)), none, none⟩,
 ⟨(.mov (.k (.slice none 0 0))), (some 2), none⟩,
 ⟨(.mov (.loc 1)), (some 3), none⟩]
def c55_4 : List CO := [⟨(.load true 4 (.var 1)), none, none⟩,
 ⟨(.call false 83 [(.loc 0)]), none, none⟩,
 ⟨(.mov (.loc 0)), (some 5), none⟩]
def c55_5 : List CO := [⟨(.mov (.var 5)), (some 8), none⟩,
 ⟨(.len .slice (.var 8)), (some 9), none⟩,
 ⟨(.mov (.k (.int .i64 0))), (some 10), none⟩]
def c55_6 : List CO := [⟨(.bin .lss (.var 10) (.var 9)), (some 11), none⟩]
def c55_7 : List CO := [⟨(.ia 4 (.var 8) (.var 10)), none, none⟩,
 ⟨(.load true 4 (.loc 0)), none, none⟩,
 ⟨(.box 24 (.k (.agg #[(.int .i64 0), (.string ⟨#[]⟩), (.int .i64 0), (.slice none 0 0)]))), (some 6), none⟩,
 ⟨(.store 4 (.var 6) (.loc 1)), none, none⟩]
def c55_8 : List CO := [⟨(.load true 4 (.var 6)), none, none⟩,
 ⟨(.call true 56 [(.loc 0)]), none, none⟩,
 ⟨(.un .not (.loc 0)), (some 12), none⟩]
def c55_9 : List CO := [⟨(.mov (.k (.slice none 0 0))), (some 2), none⟩,
 ⟨(.mov (.k (.int .i64 80))), (some 3), none⟩]
def c55_10 : List CO := [⟨(.bin .add (.var 10) (.k (.int .i64 1))), none, none⟩,
 ⟨(.mov (.loc 0)), (some 10), none⟩]
def c55_11 : CC := (.seq (.region [] [] c55_6) (.seq (.cond (.var 11) .skip (.exit 0)) (.seq (.block 1 (.seq (.region [] [] c55_7) (.seq (.region [] [] c55_8) (.cond (.var 12) (.seq (.region [] [] c55_9) .ret) .skip)))) (.region [] [] c55_10))))
def c55_12 : List CO := [⟨(.mov (.var 5)), none, none⟩,
 ⟨(.mov (.loc 0)), (some 2), none⟩,
 ⟨(.mov (.k (.int .i64 0))), (some 3), none⟩]
def c55 : CFun := ⟨1, 13, (.seq (.region [] [] c55_0) (.seq (.seq (.region [] [] c55_1) (.seq (.region [] [] c55_2) (.cond (.var 7) (.seq (.region [] [] c55_3) .ret) .skip))) (.seq (.region [] [] c55_4) (.seq (.seq (.region [] [] c55_5) (.block 0 (.loop [false, false, false, false, false, true, false, false, true, true, true, false, false] [] c55_11))) (.seq (.region [] [] c55_12) .ret))))), [.var 2, .var 3]⟩
theorem ok55 : CodeOk Tryd.prog T 55 c55 := ⟨⟨Tryd.f55, Hints.of [] [] [(0, [false, false, false, false, false, true, false, false, true, true, true, false, false], [])], [0, 1, 2, 3, 4, 5, 7, 11, 15, 16, 17, 18, 23], Tryd.func55, by kernel_rfl, by kernel_rfl⟩⟩

def c56_0 : List CO := [⟨(.box 24 (.var 0)), (some 1), none⟩,
 ⟨(.mov (.k (.bool false))), (some 2), none⟩]
def c56_1 : List CO := [⟨(.fa 0 (.var 1)), none, none⟩,
 ⟨(.load false 1 (.loc 0)), none, none⟩,
 ⟨(.bin .neq (.loc 0) (.k (.int .i64 2))), none, none⟩,
 ⟨(.mov (.loc 0)), none, none⟩,
 ⟨(.fa 0 (.var 1)), none, (some ((.loc 0), true))⟩,
 ⟨(.load false 1 (.loc 0)), none, (some ((.loc 1), true))⟩,
 ⟨(.bin .neq (.loc 0) (.k (.int .i64 4))), none, (some ((.loc 2), true))⟩,
 ⟨(.pick (.loc 3) (.loc 0) (.k (.bool false))), (some 3), none⟩]
def c56_2 : List CO := [⟨(.mov (.k (.bool false))), (some 2), none⟩]
def c56_3 : List CO := [⟨(.fa 3 (.var 1)), none, none⟩,
 ⟨(.load false 1 (.loc 0)), none, none⟩,
 ⟨(.len .slice (.loc 0)), (some 4), none⟩]
def c56_4 : List CO := [⟨(.bin .eql (.var 4) (.k (.int .i64 1))), none, none⟩,
 ⟨(.mov (.loc 0)), (some 5), none⟩]
def c56_5 : List CO := [⟨(.bslice 1 [(.string ⟨#[]⟩)] 3 [(0, (.k (.string ⟨#[92, 43]⟩))), (1, (.k (.string ⟨#[58, 45]⟩))), (2, (.k (.string ⟨#[63, 45]⟩)))]), none, none⟩,
 ⟨(.fa 1 (.var 1)), none, none⟩,
 ⟨(.load false 1 (.loc 0)), none, none⟩,
 ⟨(.call true 84 [(.loc 2), (.loc 0)]), none, none⟩,
 ⟨(.un .not (.loc 0)), none, none⟩,
 ⟨(.mov (.loc 0)), (some 2), none⟩]
def c56_6 : List CO := [⟨(.bin .eql (.var 4) (.k (.int .i64 2))), none, none⟩,
 ⟨(.mov (.loc 0)), (some 6), none⟩]
def c56_7 : List CO := [⟨(.bslice 1 [(.string ⟨#[]⟩)] 4 [(0, (.k (.string ⟨#[44]⟩))), (1, (.k (.string ⟨#[59]⟩))), (2, (.k (.string ⟨#[45, 62]⟩))), (3, (.k (.string ⟨#[58, 45]⟩)))]), none, none⟩,
 ⟨(.fa 1 (.var 1)), none, none⟩,
 ⟨(.load false 1 (.loc 0)), none, none⟩,
 ⟨(.call true 84 [(.loc 2), (.loc 0)]), none, none⟩,
 ⟨(.un .not (.loc 0)), none, none⟩,
 ⟨(.mov (.loc 0)), (some 2), none⟩]
def c56_8 : List CO := [⟨(.mov (.k (.bool true))), (some 2), none⟩]
def c56 : CFun := ⟨1, 7, (.seq (.region [] [] c56_0) (.seq (.seq (.region [] [] c56_1) (.cond (.var 3) (.seq (.region [] [] c56_2) .ret) .skip)) (.seq (.seq (.region [] [] c56_3) (.block 0 (.seq (.region [] [] c56_4) (.cond (.var 5) (.seq (.region [] [] c56_5) .ret) (.seq (.region [] [] c56_6) (.cond (.var 6) (.seq (.region [] [] c56_7) .ret) .skip)))))) (.seq (.region [] [] c56_8) .ret)))), [.var 2]⟩
theorem ok56 : CodeOk Tryd.prog T 56 c56 := ⟨⟨Tryd.f56, Hints.of [] [] [], [0, 1, 2, 10, 13, 14, 21], Tryd.func56, by kernel_rfl, by kernel_rfl⟩⟩

def c57_0 : List CO := [⟨(.mov (.k (.bool false))), (some 2), none⟩]
def c57_1 : List CO := [⟨(.mov (.var 1)), none, none⟩,
 ⟨(.call true 85 [(.loc 0)]), none, none⟩,
 ⟨(.mov (.var 0)), none, none⟩,
 ⟨(.call true 84 [(.loc 1), (.loc 0)]), none, none⟩,
 ⟨(.mov (.loc 0)), (some 2), none⟩]
def c57 : CFun := ⟨2, 3, (.seq (.region [] [] c57_0) (.seq (.region [] [] c57_1) .ret)), [.var 2]⟩
theorem ok57 : CodeOk Tryd.prog T 57 c57 := ⟨⟨Tryd.f57, Hints.of [] [] [], [0, 1, 4], Tryd.func57, by kernel_rfl, by kernel_rfl⟩⟩

def c58_0 : List CO := [⟨(.box 24 (.var 2)), (some 3), none⟩]
def c58_1 : List CO := [⟨(.mov (.var 0)), none, none⟩,
 ⟨(.mov (.var 1)), none, none⟩,
 ⟨(.load true 4 (.var 3)), none, none⟩,
 ⟨(.call false 86 [(.loc 2), (.k (.int .i64 1)), (.loc 1), (.loc 0)]), (some 7), none⟩]
def c58_2 : List CO := [⟨(.mov (.var 0)), none, none⟩,
 ⟨(.mov (.var 1)), none, none⟩,
 ⟨(.load true 4 (.var 3)), none, none⟩,
 ⟨(.build [(.int .i64 0), (.int .i64 0), (.string ⟨#[]⟩), (.int .i64 0), (.slice none 0 0)] [(0, 1, (.loc 1)), (1, 4, (.loc 0))]), none, none⟩,
 ⟨(.bslice 5 [(.int .i64 0), (.int .i64 0), (.string ⟨#[]⟩), (.int .i64 0), (.slice none 0 0)] 1 [(0, (.loc 0))]), none, none⟩,
 ⟨(.nilchk (.loc 4)), none, none⟩,
 ⟨(.fa 3 (.loc 0)), none, none⟩,
 ⟨(.store 1 (.loc 0) (.loc 2)), none, none⟩]
def c58_3 : List CO := [⟨(.mov (.var 0)), none, none⟩,
 ⟨(.nilchk (.loc 0)), none, none⟩,
 ⟨(.fa 3 (.loc 0)), none, none⟩,
 ⟨(.load false 1 (.loc 0)), none, none⟩,
 ⟨(.len .slice (.loc 0)), none, none⟩,
 ⟨(.bin .gtr (.loc 0) (.k (.int .i64 0))), (some 8), none⟩]
def c58_4 : List CO := [⟨(.mov (.var 0)), none, none⟩,
 ⟨(.nilchk (.loc 0)), none, none⟩,
 ⟨(.fa 3 (.loc 0)), none, none⟩,
 ⟨(.load false 1 (.loc 0)), none, none⟩,
 ⟨(.ia 5 (.loc 0) (.k (.int .i64 0))), none, none⟩,
 ⟨(.load true 5 (.loc 0)), none, none⟩,
 ⟨(.box 130 (.k (.agg #[(.int .i64 0), (.int .i64 0), (.string ⟨#[]⟩), (.int .i64 0), (.slice none 0 0)]))), (some 4), none⟩,
 ⟨(.store 5 (.var 4) (.loc 1)), none, none⟩]
def c58_5 : List CO := [⟨(.mov (.var 0)), none, none⟩,
 ⟨(.mov (.var 0)), none, none⟩,
 ⟨(.nilchk (.loc 0)), none, none⟩,
 ⟨(.fa 3 (.loc 0)), none, none⟩,
 ⟨(.load false 1 (.loc 0)), none, none⟩,
 ⟨(.slice 5 (.loc 0) (some (.k (.int .i64 1))) none none), none, none⟩,
 ⟨(.nilchk (.loc 5)), none, none⟩,
 ⟨(.fa 3 (.loc 0)), none, none⟩,
 ⟨(.store 1 (.loc 0) (.loc 2)), none, none⟩]
def c58_6 : List CO := [⟨(.mov (.var 0)), none, none⟩,
 ⟨(.fa 0 (.var 4)), none, none⟩,
 ⟨(.load false 1 (.loc 0)), none, none⟩,
 ⟨(.fa 1 (.var 4)), none, none⟩,
 ⟨(.fa 1 (.loc 0)), none, none⟩,
 ⟨(.load false 1 (.loc 0)), none, none⟩,
 ⟨(.fa 1 (.var 4)), none, none⟩,
 ⟨(.fa 3 (.loc 0)), none, none⟩,
 ⟨(.load false 1 (.loc 0)), none, none⟩,
 ⟨(.len .slice (.loc 0)), none, none⟩,
 ⟨(.build [(.int .i64 0), (.int .i64 0), (.int .i64 0), (.string ⟨#[]⟩), (.int .i64 0)] [(0, 1, (.k (.int .i64 5))), (1, 1, (.loc 7)), (3, 1, (.loc 4)), (4, 1, (.loc 0))]), none, none⟩,
 ⟨(.call false 59 [(.loc 10), (.loc 0)]), none, none⟩]
def c58_7 : List CO := [⟨(.fa 1 (.var 4)), none, none⟩,
 ⟨(.fa 3 (.loc 0)), none, none⟩,
 ⟨(.load false 1 (.loc 0)), (some 9), none⟩,
 ⟨(.len .slice (.var 9)), (some 10), none⟩,
 ⟨(.mov (.k (.int .i64 0))), (some 11), none⟩]
def c58_8 : List CO := [⟨(.bin .lss (.var 11) (.var 10)), (some 12), none⟩]
def c58_9 : List CO := [⟨(.ia 4 (.var 9) (.var 11)), none, none⟩,
 ⟨(.load true 4 (.loc 0)), none, none⟩,
 ⟨(.box 24 (.k (.agg #[(.int .i64 0), (.string ⟨#[]⟩), (.int .i64 0), (.slice none 0 0)]))), (some 5), none⟩,
 ⟨(.store 4 (.var 5) (.loc 1)), none, none⟩]
def c58_10 : List CO := [⟨(.mov (.var 0)), none, none⟩,
 ⟨(.load true 4 (.var 5)), none, none⟩,
 ⟨(.call false 86 [(.loc 1), (.k (.int .i64 6)), (.k (.int .i64 0)), (.loc 0)]), none, none⟩,
 ⟨(.un .not (.loc 0)), (some 13), none⟩]
def c58_11 : List CO := [⟨(.mov (.var 0)), none, none⟩,
 ⟨(.call false 87 [(.loc 0)]), none, none⟩,
 ⟨(.mov (.loc 0)), (some 6), none⟩]
def c58_12 : List CO := [⟨(.mov (.var 0)), none, none⟩,
 ⟨(.mov (.var 6)), none, none⟩,
 ⟨(.build [(.int .i64 0), (.int .i64 0), (.int .i64 0), (.string ⟨#[]⟩), (.int .i64 0)] [(0, 1, (.k (.int .i64 10))), (2, 1, (.loc 0))]), none, none⟩,
 ⟨(.call false 59 [(.loc 2), (.loc 0)]), none, none⟩]
def c58_13 : List CO := [⟨(.mov (.var 0)), none, none⟩,
 ⟨(.mov (.var 0)), none, none⟩,
 ⟨(.nilchk (.loc 0)), none, none⟩,
 ⟨(.fa 3 (.loc 0)), none, none⟩,
 ⟨(.load false 1 (.loc 0)), none, none⟩,
 ⟨(.mov (.var 6)), none, none⟩,
 ⟨(.load true 4 (.var 5)), none, none⟩,
 ⟨(.build [(.int .i64 0), (.int .i64 0), (.string ⟨#[]⟩), (.int .i64 0), (.slice none 0 0)] [(0, 1, (.loc 1)), (1, 4, (.loc 0))]), none, none⟩,
 ⟨(.bslice 5 [(.int .i64 0), (.int .i64 0), (.string ⟨#[]⟩), (.int .i64 0), (.slice none 0 0)] 1 [(0, (.loc 0))]), none, none⟩,
 ⟨(.append 130 5 64 (.loc 4) (.loc 0)), none, none⟩,
 ⟨(.nilchk (.loc 9)), none, none⟩,
 ⟨(.fa 3 (.loc 0)), none, none⟩,
 ⟨(.store 1 (.loc 0) (.loc 2)), none, none⟩]
def c58_14 : List CO := [⟨(.bin .add (.var 11) (.k (.int .i64 1))), none, none⟩,
 ⟨(.mov (.loc 0)), (some 11), none⟩]
def c58_15 : CC := (.seq (.region [] [] c58_8) (.seq (.cond (.var 12) .skip (.exit 2)) (.seq (.block 3 (.seq (.region [] [] c58_9) (.seq (.region [] [] c58_10) (.cond (.var 13) (.seq (.region [] [] c58_11) (.seq (.region [] [] c58_12) (.region [] [] c58_13))) .skip)))) (.region [] [] c58_14))))
def c58_16 : CC := (.seq (.seq (.region [] [] c58_3) (.cond (.var 8) .skip (.exit 0))) (.block 1 (.seq (.region [] [] c58_4) (.seq (.region [] [] c58_5) (.seq (.region [] [] c58_6) (.seq (.region [] [] c58_7) (.block 2 (.loop [true, false, false, false, false, false, false, false, false, true, true, true, false, false] [] c58_15))))))))
def c58 : CFun := ⟨3, 14, (.seq (.region [] [] c58_0) (.seq (.seq (.region [] [] c58_1) (.cond (.var 7) .ret .skip)) (.seq (.region [] [] c58_2) (.block 0 (.loop [true, false, false, false, false, false, false, false, false, false, false, false, false, false] [] c58_16))))), []⟩
theorem ok58 : CodeOk Tryd.prog T 58 c58 := ⟨⟨Tryd.f58, Hints.of [] [] [(0, [true, false, false, false, false, false, false, false, false, false, false, false, false, false], []), (2, [true, false, false, false, false, false, false, false, false, true, true, true, false, false], [])], [0, 1, 2, 5, 6, 8, 9, 13, 26, 55, 56, 57, 58, 64], Tryd.func58, by kernel_rfl, by kernel_rfl⟩⟩

def c59_0 : List CO := [⟨(.box 58 (.var 1)), (some 2), none⟩]
def c59_1 : List CO := [⟨(.mov (.var 0)), none, none⟩,
 ⟨(.mov (.var 0)), none, none⟩,
 ⟨(.nilchk (.loc 0)), none, none⟩,
 ⟨(.fa 0 (.loc 0)), none, none⟩,
 ⟨(.load false 1 (.loc 0)), none, none⟩,
 ⟨(.load true 5 (.var 2)), none, none⟩,
 ⟨(.bslice 5 [(.int .i64 0), (.int .i64 0), (.int .i64 0), (.string ⟨#[]⟩), (.int .i64 0)] 1 [(0, (.loc 0))]), none, none⟩,
 ⟨(.append 58 5 48 (.loc 2) (.loc 0)), none, none⟩,
 ⟨(.nilchk (.loc 7)), none, none⟩,
 ⟨(.fa 0 (.loc 0)), none, none⟩,
 ⟨(.store 1 (.loc 0) (.loc 2)), none, none⟩]
def c59 : CFun := ⟨2, 3, (.seq (.region [] [] c59_0) (.region [] [] c59_1)), []⟩
theorem ok59 : CodeOk Tryd.prog T 59 c59 := ⟨⟨Tryd.f59, Hints.of [] [] [], [0, 1, 3], Tryd.func59, by kernel_rfl, by kernel_rfl⟩⟩

def c60_0 : List CO := [⟨(.box 24 (.var 2)), (some 3), none⟩]
def c60_1 : List CO := [⟨(.mov (.var 0)), none, none⟩,
 ⟨(.mov (.var 1)), none, none⟩,
 ⟨(.load true 4 (.var 3)), none, none⟩,
 ⟨(.call false 86 [(.loc 2), (.k (.int .i64 11)), (.loc 1), (.loc 0)]), (some 9), none⟩]
def c60_2 : List CO := [⟨(.fa 3 (.var 3)), none, none⟩,
 ⟨(.load false 1 (.loc 0)), none, none⟩,
 ⟨(.len .slice (.loc 0)), none, none⟩,
 ⟨(.mkslice 3 1 8 [(.int .i64 0)] (.loc 0) (.loc 0)), none, none⟩,
 ⟨(.mov (.loc 0)), (some 4), none⟩]
def c60_3 : List CO := [⟨(.fa 3 (.var 3)), none, none⟩,
 ⟨(.load false 1 (.loc 0)), (some 10), none⟩,
 ⟨(.len .slice (.var 10)), (some 11), none⟩,
 ⟨(.mov (.k (.int .i64 0))), (some 12), none⟩]
def c60_4 : List CO := [⟨(.bin .lss (.var 12) (.var 11)), (some 13), none⟩]
def c60_5 : List CO := [⟨(.mov (.var 12)), none, none⟩,
 ⟨(.ia 4 (.var 10) (.var 12)), none, none⟩,
 ⟨(.load true 4 (.loc 0)), none, none⟩,
 ⟨(.box 24 (.k (.agg #[(.int .i64 0), (.string ⟨#[]⟩), (.int .i64 0), (.slice none 0 0)]))), (some 6), none⟩,
 ⟨(.mov (.loc 3)), (some 5), none⟩,
 ⟨(.store 4 (.var 6) (.loc 2)), none, none⟩]
def c60_6 : List CO := [⟨(.fa 0 (.var 6)), none, none⟩,
 ⟨(.load false 1 (.loc 0)), none, none⟩,
 ⟨(.bin .eql (.loc 0) (.k (.int .i64 4))), (some 14), none⟩]
def c60_7 : List CO := [⟨(.mov (.var 4)), none, none⟩,
 ⟨(.mov (.var 5)), none, none⟩,
 ⟨(.mov (.var 0)), none, none⟩,
 ⟨(.call false 87 [(.loc 0)]), none, none⟩,
 ⟨(.ia 1 (.loc 3) (.loc 2)), none, none⟩,
 ⟨(.store 1 (.loc 0) (.loc 1)), none, none⟩]
def c60_8 : List CO := [⟨(.mov (.var 0)), none, none⟩,
 ⟨(.mov (.var 4)), none, none⟩,
 ⟨(.mov (.var 5)), none, none⟩,
 ⟨(.ia 1 (.loc 1) (.loc 0)), none, none⟩,
 ⟨(.load false 1 (.loc 0)), none, none⟩,
 ⟨(.load true 4 (.var 6)), none, none⟩,
 ⟨(.call false 60 [(.loc 5), (.loc 1), (.loc 0)]), none, none⟩]
def c60_9 : List CO := [⟨(.bin .add (.var 12) (.k (.int .i64 1))), none, none⟩,
 ⟨(.mov (.loc 0)), (some 12), none⟩]
def c60_10 : CC := (.seq (.region [] [] c60_4) (.seq (.cond (.var 13) .skip (.exit 0)) (.seq (.block 1 (.seq (.region [] [] c60_5) (.seq (.region [] [] c60_6) (.cond (.var 14) (.seq (.region [] [] c60_7) (.region [] [] c60_8)) .skip)))) (.region [] [] c60_9))))
def c60_11 : List CO := [⟨(.mov (.var 0)), none, none⟩,
 ⟨(.mov (.var 1)), none, none⟩,
 ⟨(.fa 1 (.var 3)), none, none⟩,
 ⟨(.load false 1 (.loc 0)), none, none⟩,
 ⟨(.fa 3 (.var 3)), none, none⟩,
 ⟨(.load false 1 (.loc 0)), none, none⟩,
 ⟨(.len .slice (.loc 0)), none, none⟩,
 ⟨(.build [(.int .i64 0), (.int .i64 0), (.int .i64 0), (.string ⟨#[]⟩), (.int .i64 0)] [(0, 1, (.k (.int .i64 15))), (1, 1, (.loc 5)), (3, 1, (.loc 3)), (4, 1, (.loc 0))]), none, none⟩,
 ⟨(.call false 59 [(.loc 7), (.loc 0)]), none, none⟩]
def c60_12 : List CO := [⟨(.fa 3 (.var 3)), none, none⟩,
 ⟨(.load false 1 (.loc 0)), (some 15), none⟩,
 ⟨(.len .slice (.var 15)), (some 16), none⟩,
 ⟨(.mov (.k (.int .i64 0))), (some 17), none⟩]
def c60_13 : List CO := [⟨(.bin .lss (.var 17) (.var 16)), (some 18), none⟩]
def c60_14 : List CO := [⟨(.mov (.var 17)), none, none⟩,
 ⟨(.ia 4 (.var 15) (.var 17)), none, none⟩,
 ⟨(.load true 4 (.loc 0)), none, none⟩,
 ⟨(.box 24 (.k (.agg #[(.int .i64 0), (.string ⟨#[]⟩), (.int .i64 0), (.slice none 0 0)]))), (some 8), none⟩,
 ⟨(.mov (.loc 3)), (some 7), none⟩,
 ⟨(.store 4 (.var 8) (.loc 2)), none, none⟩]
def c60_15 : List CO := [⟨(.mov (.var 0)), none, none⟩,
 ⟨(.load true 4 (.var 8)), none, none⟩,
 ⟨(.call false 86 [(.loc 1), (.k (.int .i64 16)), (.k (.int .i64 0)), (.loc 0)]), none, none⟩,
 ⟨(.un .not (.loc 0)), (some 19), none⟩]
def c60_16 : List CO := [⟨(.mov (.var 0)), none, none⟩,
 ⟨(.mov (.var 4)), none, none⟩,
 ⟨(.mov (.var 7)), none, none⟩,
 ⟨(.ia 1 (.loc 1) (.loc 0)), none, none⟩,
 ⟨(.load false 1 (.loc 0)), none, none⟩,
 ⟨(.build [(.int .i64 0), (.int .i64 0), (.int .i64 0), (.string ⟨#[]⟩), (.int .i64 0)] [(0, 1, (.k (.int .i64 20))), (2, 1, (.loc 0))]), none, none⟩,
 ⟨(.call false 59 [(.loc 5), (.loc 0)]), none, none⟩]
def c60_17 : List CO := [⟨(.bin .add (.var 17) (.k (.int .i64 1))), none, none⟩,
 ⟨(.mov (.loc 0)), (some 17), none⟩]
def c60_18 : CC := (.seq (.region [] [] c60_13) (.seq (.cond (.var 18) .skip (.exit 2)) (.seq (.block 3 (.seq (.region [] [] c60_14) (.seq (.region [] [] c60_15) (.cond (.var 19) (.region [] [] c60_16) .skip)))) (.region [] [] c60_17))))
def c60 : CFun := ⟨3, 20, (.seq (.region [] [] c60_0) (.seq (.seq (.region [] [] c60_1) (.cond (.var 9) .ret .skip)) (.seq (.region [] [] c60_2) (.seq (.seq (.region [] [] c60_3) (.block 0 (.loop [true, true, false, true, true, false, false, false, false, false, true, true, true, false, false, false, false, false, false, false] [] c60_10))) (.seq (.region [] [] c60_11) (.seq (.region [] [] c60_12) (.block 2 (.loop [true, false, false, false, true, false, false, false, false, false, false, false, false, false, false, true, true, true, false, false] [] c60_18)))))))), []⟩
theorem ok60 : CodeOk Tryd.prog T 60 c60 := ⟨⟨Tryd.f60, Hints.of [] [] [(0, [true, true, false, true, true, false, false, false, false, false, true, true, true, false, false, false, false, false, false, false], []), (2, [true, false, false, false, true, false, false, false, false, false, false, false, false, false, false, true, true, true, false, false], [])], [0, 1, 2, 5, 6, 7, 8, 9, 10, 14, 20, 21, 22, 23, 29, 53, 54, 55, 56, 63], Tryd.func60, by kernel_rfl, by kernel_rfl⟩⟩

def c61_0 : List CO := [⟨(.box 24 (.var 2)), (some 3), none⟩]
def c61_1 : List CO := [⟨(.fa 0 (.var 3)), none, none⟩,
 ⟨(.load false 1 (.loc 0)), (some 6), none⟩]
def c61_2 : List CO := [⟨(.bin .eql (.var 6) (.k (.int .i64 1))), none, none⟩,
 ⟨(.mov (.loc 0)), (some 7), none⟩]
def c61_3 : List CO := [⟨(.mov (.var 0)), none, none⟩,
 ⟨(.mov (.var 1)), none, none⟩,
 ⟨(.load true 4 (.var 3)), none, none⟩,
 ⟨(.call false 88 [(.loc 2), (.k (.int .i64 1)), (.k (.int .i64 2)), (.loc 1), (.loc 0)]), none, none⟩]
def c61_4 : List CO := [⟨(.bin .eql (.var 6) (.k (.int .i64 2))), none, none⟩,
 ⟨(.mov (.loc 0)), (some 8), none⟩]
def c61_5 : List CO := [⟨(.mov (.var 0)), none, none⟩,
 ⟨(.mov (.var 1)), none, none⟩,
 ⟨(.fa 1 (.var 3)), none, none⟩,
 ⟨(.load false 1 (.loc 0)), none, none⟩,
 ⟨(.build [(.int .i64 0), (.int .i64 0), (.int .i64 0), (.string ⟨#[]⟩), (.int .i64 0)] [(0, 1, (.k (.int .i64 3))), (1, 1, (.loc 2)), (3, 1, (.loc 0))]), none, none⟩,
 ⟨(.call false 62 [(.loc 4), (.loc 0)]), none, none⟩]
def c61_6 : List CO := [⟨(.bin .eql (.var 6) (.k (.int .i64 3))), none, none⟩,
 ⟨(.mov (.loc 0)), (some 9), none⟩]
def c61_7 : List CO := [⟨(.mov (.var 0)), none, none⟩,
 ⟨(.mov (.var 1)), none, none⟩,
 ⟨(.fa 2 (.var 3)), none, none⟩,
 ⟨(.load false 1 (.loc 0)), none, none⟩,
 ⟨(.build [(.int .i64 0), (.int .i64 0), (.int .i64 0), (.string ⟨#[]⟩), (.int .i64 0)] [(0, 1, (.k (.int .i64 4))), (1, 1, (.loc 2)), (4, 1, (.loc 0))]), none, none⟩,
 ⟨(.call false 62 [(.loc 4), (.loc 0)]), none, none⟩]
def c61_8 : List CO := [⟨(.bin .eql (.var 6) (.k (.int .i64 4))), none, none⟩,
 ⟨(.mov (.loc 0)), (some 10), none⟩]
def c61_9 : List CO := [⟨(.mov (.var 1)), none, none⟩,
 ⟨(.load true 4 (.var 3)), none, none⟩,
 ⟨(.build [(.int .i64 0), (.int .i64 0), (.string ⟨#[]⟩), (.int .i64 0), (.slice none 0 0)] [(0, 1, (.loc 1)), (1, 4, (.loc 0))]), none, none⟩,
 ⟨(.bslice 5 [(.int .i64 0), (.int .i64 0), (.string ⟨#[]⟩), (.int .i64 0), (.slice none 0 0)] 1 [(0, (.loc 0))]), none, none⟩,
 ⟨(.mov (.loc 0)), (some 4), none⟩]
def c61_10 : List CO := [⟨(.mov (.var 4)), none, none⟩,
 ⟨(.len .slice (.loc 0)), none, none⟩,
 ⟨(.bin .gtr (.loc 0) (.k (.int .i64 0))), (some 11), none⟩]
def c61_11 : List CO := [⟨(.mov (.var 4)), none, none⟩,
 ⟨(.ia 5 (.loc 0) (.k (.int .i64 0))), none, none⟩,
 ⟨(.load true 5 (.loc 0)), none, none⟩,
 ⟨(.box 134 (.k (.agg #[(.int .i64 0), (.int .i64 0), (.string ⟨#[]⟩), (.int .i64 0), (.slice none 0 0)]))), (some 5), none⟩,
 ⟨(.store 5 (.var 5) (.loc 1)), none, none⟩]
def c61_12 : List CO := [⟨(.mov (.var 4)), none, none⟩,
 ⟨(.slice 5 (.loc 0) (some (.k (.int .i64 1))) none none), none, none⟩,
 ⟨(.mov (.var 0)), none, none⟩,
 ⟨(.fa 0 (.var 5)), none, none⟩,
 ⟨(.load false 1 (.loc 0)), none, none⟩,
 ⟨(.fa 1 (.var 5)), none, none⟩,
 ⟨(.load true 4 (.loc 0)), none, none⟩,
 ⟨(.call false 89 [(.loc 4), (.loc 2), (.loc 0)]), none, none⟩,
 ⟨(.append 134 5 64 (.loc 6) (.loc 0)), none, none⟩,
 ⟨(.mov (.loc 0)), (some 4), none⟩]
def c61_13 : CC := (.seq (.seq (.region [] [] c61_10) (.cond (.var 11) .skip (.exit 1))) (.block 2 (.seq (.region [] [] c61_11) (.region [] [] c61_12))))
def c61 : CFun := ⟨3, 12, (.seq (.region [] [] c61_0) (.seq (.region [] [] c61_1) (.block 0 (.seq (.region [] [] c61_2) (.cond (.var 7) (.region [] [] c61_3) (.seq (.region [] [] c61_4) (.cond (.var 8) (.region [] [] c61_5) (.seq (.region [] [] c61_6) (.cond (.var 9) (.region [] [] c61_7) (.seq (.region [] [] c61_8) (.cond (.var 10) (.seq (.region [] [] c61_9) (.block 1 (.loop [true, false, false, false, true, false, false, false, false, false, false, false] [] c61_13))) .skip))))))))))), []⟩
theorem ok61 : CodeOk Tryd.prog T 61 c61 := ⟨⟨Tryd.f61, Hints.of [] [] [(1, [true, false, false, false, true, false, false, false, false, false, false, false], [])], [0, 1, 2, 5, 6, 7, 9, 10, 16, 24, 32, 40], Tryd.func61, by kernel_rfl, by kernel_rfl⟩⟩

def c62_0 : List CO := [⟨(.box 58 (.var 1)), (some 2), none⟩]
def c62_1 : List CO := [⟨(.mov (.var 0)), none, none⟩,
 ⟨(.mov (.var 0)), none, none⟩,
 ⟨(.nilchk (.loc 0)), none, none⟩,
 ⟨(.fa 0 (.loc 0)), none, none⟩,
 ⟨(.load false 1 (.loc 0)), none, none⟩,
 ⟨(.load true 5 (.var 2)), none, none⟩,
 ⟨(.bslice 5 [(.int .i64 0), (.int .i64 0), (.int .i64 0), (.string ⟨#[]⟩), (.int .i64 0)] 1 [(0, (.loc 0))]), none, none⟩,
 ⟨(.append 58 5 48 (.loc 2) (.loc 0)), none, none⟩,
 ⟨(.nilchk (.loc 7)), none, none⟩,
 ⟨(.fa 0 (.loc 0)), none, none⟩,
 ⟨(.store 1 (.loc 0) (.loc 2)), none, none⟩]
def c62 : CFun := ⟨2, 3, (.seq (.region [] [] c62_0) (.region [] [] c62_1)), []⟩
theorem ok62 : CodeOk Tryd.prog T 62 c62 := ⟨⟨Tryd.f62, Hints.of [] [] [], [0, 1, 3], Tryd.func62, by kernel_rfl, by kernel_rfl⟩⟩

def c63_0 : List CO := [⟨(.box 24 (.var 2)), (some 3), none⟩]
def c63_1 : List CO := [⟨(.fa 0 (.var 3)), none, none⟩,
 ⟨(.load false 1 (.loc 0)), (some 4), none⟩]
def c63_2 : List CO := [⟨(.bin .eql (.var 4) (.k (.int .i64 1))), none, none⟩,
 ⟨(.mov (.loc 0)), (some 5), none⟩]
def c63_3 : List CO := [⟨(.mov (.var 0)), none, none⟩,
 ⟨(.mov (.var 1)), none, none⟩,
 ⟨(.load true 4 (.var 3)), none, none⟩,
 ⟨(.call false 88 [(.loc 2), (.k (.int .i64 11)), (.k (.int .i64 12)), (.loc 1), (.loc 0)]), none, none⟩]
def c63_4 : List CO := [⟨(.bin .eql (.var 4) (.k (.int .i64 2))), none, none⟩,
 ⟨(.mov (.loc 0)), (some 6), none⟩]
def c63_5 : List CO := [⟨(.mov (.var 0)), none, none⟩,
 ⟨(.mov (.var 1)), none, none⟩,
 ⟨(.fa 1 (.var 3)), none, none⟩,
 ⟨(.load false 1 (.loc 0)), none, none⟩,
 ⟨(.build [(.int .i64 0), (.int .i64 0), (.int .i64 0), (.string ⟨#[]⟩), (.int .i64 0)] [(0, 1, (.k (.int .i64 13))), (1, 1, (.loc 2)), (3, 1, (.loc 0))]), none, none⟩,
 ⟨(.call false 62 [(.loc 4), (.loc 0)]), none, none⟩]
def c63_6 : List CO := [⟨(.bin .eql (.var 4) (.k (.int .i64 3))), none, none⟩,
 ⟨(.mov (.loc 0)), (some 7), none⟩]
def c63_7 : List CO := [⟨(.mov (.var 0)), none, none⟩,
 ⟨(.mov (.var 1)), none, none⟩,
 ⟨(.fa 2 (.var 3)), none, none⟩,
 ⟨(.load false 1 (.loc 0)), none, none⟩,
 ⟨(.build [(.int .i64 0), (.int .i64 0), (.int .i64 0), (.string ⟨#[]⟩), (.int .i64 0)] [(0, 1, (.k (.int .i64 14))), (1, 1, (.loc 2)), (4, 1, (.loc 0))]), none, none⟩,
 ⟨(.call false 62 [(.loc 4), (.loc 0)]), none, none⟩]
def c63_8 : List CO := [⟨(.mov (.var 0)), none, none⟩,
 ⟨(.mov (.var 1)), none, none⟩,
 ⟨(.load true 4 (.var 3)), none, none⟩,
 ⟨(.call false 90 [(.loc 2), (.loc 1), (.loc 0)]), none, none⟩]
def c63 : CFun := ⟨3, 8, (.seq (.region [] [] c63_0) (.seq (.region [] [] c63_1) (.block 0 (.seq (.region [] [] c63_2) (.cond (.var 5) (.region [] [] c63_3) (.seq (.region [] [] c63_4) (.cond (.var 6) (.region [] [] c63_5) (.seq (.region [] [] c63_6) (.cond (.var 7) (.region [] [] c63_7) (.region [] [] c63_8)))))))))), []⟩
theorem ok63 : CodeOk Tryd.prog T 63 c63 := ⟨⟨Tryd.f63, Hints.of [] [] [], [0, 1, 2, 5, 7, 12, 18, 26], Tryd.func63, by kernel_rfl, by kernel_rfl⟩⟩

def c64_0 : List CO := [⟨(.mov (.k (.bool false))), (some 2), none⟩]
def c64_1 : List CO := [⟨(.mov (.var 0)), none, none⟩,
 ⟨(.build [(.int .i64 0), (.string ⟨#[]⟩), (.int .i64 0), (.slice none 0 0)] [(3, 1, (.loc 0))]), none, none⟩,
 ⟨(.mov (.var 1)), none, none⟩,
 ⟨(.build [(.int .i64 0), (.string ⟨#[]⟩), (.int .i64 0), (.slice none 0 0)] [(3, 1, (.loc 0))]), none, none⟩,
 ⟨(.call true 17 [(.loc 2), (.loc 0)]), none, none⟩,
 ⟨(.mov (.loc 0)), (some 2), none⟩]
def c64 : CFun := ⟨2, 3, (.seq (.region [] [] c64_0) (.seq (.region [] [] c64_1) .ret)), [.var 2]⟩
theorem ok64 : CodeOk Tryd.prog T 64 c64 := ⟨⟨Tryd.f64, Hints.of [] [] [], [0, 1, 4], Tryd.func64, by kernel_rfl, by kernel_rfl⟩⟩

def c65_0 : List CO := [⟨(.box 46 (.var 0)), (some 1), none⟩,
 ⟨(.box 24 (.k (.agg #[(.int .i64 0), (.string ⟨#[]⟩), (.int .i64 0), (.slice none 0 0)]))), (some 2), none⟩]
def c65_1 : List CO := [⟨(.fa 4 (.var 1)), none, none⟩,
 ⟨(.load false 1 (.loc 0)), none, none⟩,
 ⟨(.len .slice (.loc 0)), none, none⟩,
 ⟨(.bin .eql (.loc 0) (.k (.int .i64 0))), (some 5), none⟩]
def c65_2 : List CO := [⟨(.fa 0 (.var 1)), none, none⟩,
 ⟨(.load true 4 (.loc 0)), none, none⟩,
 ⟨(.store 4 (.var 2) (.loc 0)), none, none⟩]
def c65_3 : List CO := [⟨(.fa 4 (.var 1)), none, none⟩,
 ⟨(.load false 1 (.loc 0)), none, none⟩,
 ⟨(.fa 4 (.var 1)), none, none⟩,
 ⟨(.load false 1 (.loc 0)), none, none⟩,
 ⟨(.len .slice (.loc 0)), none, none⟩,
 ⟨(.bin .sub (.loc 0) (.k (.int .i64 1))), none, none⟩,
 ⟨(.ia 4 (.loc 4) (.loc 0)), none, none⟩,
 ⟨(.load true 4 (.loc 0)), none, none⟩,
 ⟨(.box 24 (.k (.agg #[(.int .i64 0), (.string ⟨#[]⟩), (.int .i64 0), (.slice none 0 0)]))), (some 3), none⟩,
 ⟨(.store 4 (.var 3) (.loc 1)), none, none⟩]
def c65_4 : List CO := [⟨(.fa 4 (.var 1)), none, none⟩,
 ⟨(.load false 1 (.loc 0)), none, none⟩,
 ⟨(.len .slice (.loc 0)), none, none⟩,
 ⟨(.bin .sub (.loc 0) (.k (.int .i64 2))), none, none⟩,
 ⟨(.mov (.loc 0)), (some 4), none⟩]
def c65_5 : List CO := [⟨(.mov (.var 4)), none, none⟩,
 ⟨(.bin .geq (.loc 0) (.k (.int .i64 0))), (some 6), none⟩]
def c65_6 : List CO := [⟨(.fa 4 (.var 1)), none, none⟩,
 ⟨(.load false 1 (.loc 0)), none, none⟩,
 ⟨(.mov (.var 4)), none, none⟩,
 ⟨(.ia 4 (.loc 1) (.loc 0)), none, none⟩,
 ⟨(.load true 4 (.loc 0)), none, none⟩,
 ⟨(.load true 4 (.var 3)), none, none⟩,
 ⟨(.bslice 4 [(.int .i64 0), (.string ⟨#[]⟩), (.int .i64 0), (.slice none 0 0)] 2 [(0, (.loc 1)), (1, (.loc 0))]), none, none⟩,
 ⟨(.call true 36 [(.k (.string ⟨#[44]⟩)), (.loc 0)]), none, none⟩,
 ⟨(.store 4 (.var 3) (.loc 0)), none, none⟩]
def c65_7 : List CO := [⟨(.mov (.var 4)), none, none⟩,
 ⟨(.bin .sub (.loc 0) (.k (.int .i64 1))), none, none⟩,
 ⟨(.mov (.loc 0)), (some 4), none⟩]
def c65_8 : CC := (.seq (.seq (.region [] [] c65_5) (.cond (.var 6) .skip (.exit 0))) (.seq (.block 1 (.region [] [] c65_6)) (.region [] [] c65_7)))
def c65_9 : List CO := [⟨(.fa 0 (.var 1)), none, none⟩,
 ⟨(.load true 4 (.loc 0)), none, none⟩,
 ⟨(.load true 4 (.var 3)), none, none⟩,
 ⟨(.bslice 4 [(.int .i64 0), (.string ⟨#[]⟩), (.int .i64 0), (.slice none 0 0)] 2 [(0, (.loc 1)), (1, (.loc 0))]), none, none⟩,
 ⟨(.call true 36 [(.k (.string ⟨#[58, 45]⟩)), (.loc 0)]), none, none⟩,
 ⟨(.store 4 (.var 2) (.loc 0)), none, none⟩]
def c65 : CFun := ⟨1, 7, (.seq (.region [] [] c65_0) (.seq (.seq (.region [] [] c65_1) (.cond (.var 5) (.seq (.region [] [] c65_2) .ret) .skip)) (.seq (.region [] [] c65_3) (.seq (.seq (.region [] [] c65_4) (.block 0 (.loop [false, true, true, true, true, false, false] [] c65_8))) (.seq (.region [] [] c65_9) .ret))))), [.cell 2 true 4]⟩
theorem ok65 : CodeOk Tryd.prog T 65 c65 := ⟨⟨Tryd.f65, Hints.of [] [] [(0, [false, true, true, true, true, false, false], [])], [0, 1, 2, 3, 4, 8, 24], Tryd.func65, by kernel_rfl, by kernel_rfl⟩⟩

def c66_0 : List CO := [⟨(.box 100 (.var 0)), (some 2), none⟩,
 ⟨(.box 58 (.var 1)), (some 3), none⟩]
def c66_1 : List CO := [⟨(.mkfn (.func 91) [] [(.var 2), (.var 3)]), none, none⟩,
 ⟨(.mov (.loc 0)), (some 4), none⟩]
def c66_2 : List CO := [⟨(.fa 0 (.var 3)), none, none⟩,
 ⟨(.load false 1 (.loc 0)), (some 8), none⟩]
def c66_3 : List CO := [⟨(.bin .eql (.var 8) (.k (.int .i64 21))), none, none⟩,
 ⟨(.mov (.loc 0)), (some 9), none⟩]
def c66_4 : List CO := [⟨(.load false 1 (.var 2)), none, none⟩,
 ⟨(.call false 92 [(.loc 0), (.k (.string ⟨#[99, 97, 108, 108]⟩))]), none, none⟩]
def c66_5 : List CO := [⟨(.mov (.var 4)), none, none⟩,
 ⟨(.callv (.loc 0) []), none, none⟩]
def c66_6 : List CO := [⟨(.bin .eql (.var 8) (.k (.int .i64 22))), none, none⟩,
 ⟨(.mov (.loc 0)), (some 10), none⟩]
def c66_7 : List CO := [⟨(.load false 1 (.var 2)), none, none⟩,
 ⟨(.call false 92 [(.loc 0), (.k (.string ⟨#[99, 117, 116]⟩))]), none, none⟩]
def c66_8 : List CO := [⟨(.bin .eql (.var 8) (.k (.int .i64 23))), none, none⟩,
 ⟨(.mov (.loc 0)), (some 11), none⟩]
def c66_9 : List CO := [⟨(.load false 1 (.var 2)), none, none⟩,
 ⟨(.call false 92 [(.loc 0), (.k (.string ⟨#[101, 110, 100]⟩))]), none, none⟩]
def c66_10 : List CO := [⟨(.fa 0 (.var 3)), none, none⟩,
 ⟨(.load false 1 (.loc 0)), none, none⟩,
 ⟨(.bin .lss (.loc 0) (.k (.int .i64 1))), none, none⟩,
 ⟨(.mov (.loc 0)), none, none⟩,
 ⟨(.fa 0 (.var 3)), none, (some ((.loc 0), false))⟩,
 ⟨(.load false 1 (.loc 0)), none, (some ((.loc 1), false))⟩,
 ⟨(.bin .gtr (.loc 0) (.k (.int .i64 20))), none, (some ((.loc 2), false))⟩,
 ⟨(.pick (.loc 3) (.k (.bool true)) (.loc 0)), (some 12), none⟩]
def c66_11 : List CO := [⟨(.load false 1 (.var 2)), none, none⟩,
 ⟨(.call false 92 [(.loc 0), (.k (.string ⟨#[63]⟩))]), none, none⟩]
def c66_12 : List CO := [⟨(.fa 0 (.var 3)), none, none⟩,
 ⟨(.load false 1 (.loc 0)), none, none⟩,
 ⟨(.bin .sub (.loc 0) (.k (.int .i64 1))), none, none⟩,
 ⟨(.bin .quo (.loc 0) (.k (.int .i64 5))), none, none⟩,
 ⟨(.fa 0 (.var 3)), none, none⟩,
 ⟨(.load false 1 (.loc 0)), none, none⟩,
 ⟨(.bin .sub (.loc 0) (.k (.int .i64 1))), none, none⟩,
 ⟨(.bin .rem (.loc 0) (.k (.int .i64 5))), none, none⟩,
 ⟨(.mov (.loc 4)), (some 5), none⟩,
 ⟨(.mov (.loc 1)), (some 6), none⟩]
def c66_13 : List CO := [⟨(.call true 95 []), none, none⟩,
 ⟨(.mov (.var 6)), none, none⟩,
 ⟨(.ixa 5 false 1 (.loc 1) (.loc 0)), none, none⟩,
 ⟨(.mov (.loc 0)), (some 7), none⟩]
def c66_14 : List CO := [⟨(.mov (.var 5)), none, none⟩,
 ⟨(.bin .rem (.loc 0) (.k (.int .i64 2))), none, none⟩,
 ⟨(.bin .eql (.loc 0) (.k (.int .i64 1))), none, none⟩,
 ⟨(.mov (.loc 0)), none, none⟩,
 ⟨(.mov (.var 6)), none, (some ((.loc 0), true))⟩,
 ⟨(.bin .eql (.loc 0) (.k (.int .i64 4))), none, (some ((.loc 1), true))⟩,
 ⟨(.pick (.loc 2) (.loc 0) (.k (.bool false))), (some 13), none⟩]
def c66_15 : List CO := [⟨(.mov (.k (.string ⟨#[116, 101, 109, 112]⟩))), (some 7), none⟩]
def c66_16 : List CO := [⟨(.load false 1 (.var 2)), none, none⟩,
 ⟨(.call true 96 []), none, none⟩,
 ⟨(.mov (.var 5)), none, none⟩,
 ⟨(.ixa 4 false 1 (.loc 1) (.loc 0)), none, none⟩,
 ⟨(.bin .add (.loc 0) (.k (.string ⟨#[95]⟩))), none, none⟩,
 ⟨(.mov (.var 7)), none, none⟩,
 ⟨(.bin .add (.loc 1) (.loc 0)), none, none⟩,
 ⟨(.call false 92 [(.loc 6), (.loc 0)]), none, none⟩]
def c66_17 : List CO := [⟨(.mov (.var 5)), none, none⟩,
 ⟨(.bin .rem (.loc 0) (.k (.int .i64 2))), none, none⟩,
 ⟨(.bin .eql (.loc 0) (.k (.int .i64 0))), (some 14), none⟩]
def c66_18 : List CO := [⟨(.load false 1 (.var 2)), none, none⟩,
 ⟨(.fa 1 (.var 3)), none, none⟩,
 ⟨(.load false 1 (.loc 0)), none, none⟩,
 ⟨(.call true 94 [(.loc 0)]), none, none⟩,
 ⟨(.bin .add (.k (.string ⟨#[32]⟩)) (.loc 0)), none, none⟩,
 ⟨(.call false 92 [(.loc 4), (.loc 0)]), none, none⟩]
def c66_19 : List CO := [⟨(.mov (.var 7)), (some 15), none⟩]
def c66_20 : List CO := [⟨(.bin .eql (.var 15) (.k (.string ⟨#[118, 97, 114]⟩))), none, none⟩,
 ⟨(.mov (.loc 0)), (some 16), none⟩]
def c66_21 : List CO := [⟨(.bin .eql (.var 15) (.k (.string ⟨#[118, 97, 108]⟩))), none, none⟩,
 ⟨(.mov (.loc 0)), (some 16), none⟩]
def c66_22 : List CO := [⟨(.bin .eql (.var 15) (.k (.string ⟨#[116, 101, 109, 112]⟩))), none, none⟩,
 ⟨(.mov (.loc 0)), (some 16), none⟩]
def c66_23 : List CO := [⟨(.load false 1 (.var 2)), none, none⟩,
 ⟨(.fa 2 (.var 3)), none, none⟩,
 ⟨(.load false 1 (.loc 0)), none, none⟩,
 ⟨(.call true 94 [(.loc 0)]), none, none⟩,
 ⟨(.bin .add (.k (.string ⟨#[32]⟩)) (.loc 0)), none, none⟩,
 ⟨(.call false 92 [(.loc 4), (.loc 0)]), none, none⟩]
def c66_24 : List CO := [⟨(.bin .eql (.var 15) (.k (.string ⟨#[97, 116, 111, 109]⟩))), none, none⟩,
 ⟨(.mov (.loc 0)), (some 17), none⟩]
def c66_25 : List CO := [⟨(.load false 1 (.var 2)), none, none⟩,
 ⟨(.fa 3 (.var 3)), none, none⟩,
 ⟨(.load false 1 (.loc 0)), none, none⟩,
 ⟨(.call true 93 [(.loc 0)]), none, none⟩,
 ⟨(.bin .add (.k (.string ⟨#[32]⟩)) (.loc 0)), none, none⟩,
 ⟨(.call false 92 [(.loc 4), (.loc 0)]), none, none⟩]
def c66_26 : List CO := [⟨(.bin .eql (.var 15) (.k (.string ⟨#[105, 110, 116]⟩))), none, none⟩,
 ⟨(.mov (.loc 0)), (some 18), none⟩]
def c66_27 : List CO := [⟨(.load false 1 (.var 2)), none, none⟩,
 ⟨(.fa 4 (.var 3)), none, none⟩,
 ⟨(.load false 1 (.loc 0)), none, none⟩,
 ⟨(.call true 94 [(.loc 0)]), none, none⟩,
 ⟨(.bin .add (.k (.string ⟨#[32]⟩)) (.loc 0)), none, none⟩,
 ⟨(.call false 92 [(.loc 4), (.loc 0)]), none, none⟩]
def c66_28 : List CO := [⟨(.mov (.var 4)), none, none⟩,
 ⟨(.callv (.loc 0) []), none, none⟩]
def c66 : CFun := ⟨2, 19, (.seq (.region [] [] c66_0) (.seq (.region [] [] c66_1) (.seq (.seq (.region [] [] c66_2) (.block 0 (.seq (.region [] [] c66_3) (.cond (.var 9) (.seq (.region [] [] c66_4) (.seq (.region [] [] c66_5) .ret)) (.seq (.region [] [] c66_6) (.cond (.var 10) (.seq (.region [] [] c66_7) .ret) (.seq (.region [] [] c66_8) (.cond (.var 11) (.seq (.region [] [] c66_9) .ret) .skip)))))))) (.seq (.seq (.region [] [] c66_10) (.cond (.var 12) (.seq (.region [] [] c66_11) .ret) .skip)) (.seq (.region [] [] c66_12) (.seq (.region [] [] c66_13) (.seq (.seq (.region [] [] c66_14) (.cond (.var 13) (.region [] [] c66_15) .skip)) (.seq (.region [] [] c66_16) (.seq (.seq (.region [] [] c66_17) (.cond (.var 14) (.region [] [] c66_18) .skip)) (.seq (.region [] [] c66_19) (.block 1 (.seq (.seq (.region [] [] c66_20) (.cond (.var 16) .skip (.seq (.region [] [] c66_21) (.cond (.var 16) .skip (.region [] [] c66_22))))) (.cond (.var 16) (.region [] [] c66_23) (.seq (.region [] [] c66_24) (.cond (.var 17) (.region [] [] c66_25) (.seq (.region [] [] c66_26) (.cond (.var 18) (.region [] [] c66_27) (.region [] [] c66_28)))))))))))))))))), []⟩
theorem ok66 : CodeOk Tryd.prog T 66 c66 := ⟨⟨Tryd.f66, Hints.of [] [] [], [0, 1, 2, 3, 4, 5, 6, 7, 10, 11, 17, 21, 32, 52, 63, 70, 73, 83, 91], Tryd.func66, by kernel_rfl, by kernel_rfl⟩⟩

def c67_0 : List CO := [⟨(.mov (.k .nilIface)), (some 2), none⟩]
def c67_1 : List CO := [⟨(.mov (.var 0)), none, none⟩,
 ⟨(.call false 97 [(.loc 0)]), none, none⟩]
def c67_2 : List CO := [⟨(.mov (.var 0)), none, none⟩,
 ⟨(.mov (.var 0)), none, none⟩,
 ⟨(.nilchk (.loc 0)), none, none⟩,
 ⟨(.fa 1 (.loc 0)), none, none⟩,
 ⟨(.load false 1 (.loc 0)), none, none⟩,
 ⟨(.mov (.var 1)), none, none⟩,
 ⟨(.bslice 1 [(.int .u8 0)] 1 [(0, (.loc 0))]), none, none⟩,
 ⟨(.append 5 1 1 (.loc 2) (.loc 0)), none, none⟩,
 ⟨(.nilchk (.loc 7)), none, none⟩,
 ⟨(.fa 1 (.loc 0)), none, none⟩,
 ⟨(.store 1 (.loc 0) (.loc 2)), none, none⟩]
def c67_3 : List CO := [⟨(.mov (.k .nilIface)), (some 2), none⟩]
def c67 : CFun := ⟨2, 3, (.seq (.region [] [] c67_0) (.seq (.region [] [] c67_1) (.seq (.region [] [] c67_2) (.seq (.region [] [] c67_3) .ret)))), [.var 2]⟩
theorem ok67 : CodeOk Tryd.prog T 67 c67 := ⟨⟨Tryd.f67, Hints.of [] [] [], [0, 1, 4], Tryd.func67, by kernel_rfl, by kernel_rfl⟩⟩

def c70_0 : List CO := [⟨(.mov (.k (.bool false))), (some 1), none⟩]
def c70_1 : List CO := [⟨(.mov (.var 0)), none, none⟩,
 ⟨(.len .string (.loc 0)), none, none⟩,
 ⟨(.bin .leq (.loc 0) (.k (.int .i64 255))), none, none⟩,
 ⟨(.mov (.loc 0)), none, none⟩,
 ⟨(.mov (.var 0)), none, (some ((.loc 0), true))⟩,
 ⟨(.call true 101 [(.loc 0)]), none, (some ((.loc 1), true))⟩,
 ⟨(.pick (.loc 2) (.loc 0) (.k (.bool false))), none, none⟩,
 ⟨(.mov (.loc 0)), (some 1), none⟩]
def c70 : CFun := ⟨1, 2, (.seq (.region [] [] c70_0) (.seq (.region [] [] c70_1) .ret)), [.var 1]⟩
theorem ok70 : CodeOk Tryd.prog T 70 c70 := ⟨⟨Tryd.f70, Hints.of [] [] [], [0, 2], Tryd.func70, by kernel_rfl, by kernel_rfl⟩⟩

def c80_0 : List CO := [⟨(.box 24 (.var 0)), (some 1), none⟩,
 ⟨(.mov (.k (.slice none 0 0))), (some 2), none⟩]
def c80_1 : List CO := [⟨(.mov (.k (.slice none 0 0))), (some 3), none⟩]
def c80_2 : List CO := [⟨(.fa 0 (.var 1)), none, none⟩,
 ⟨(.load false 1 (.loc 0)), none, none⟩,
 ⟨(.bin .eql (.loc 0) (.k (.int .i64 1))), (some 5), none⟩]
def c80_3 : List CO := [⟨(.mov (.var 3)), none, none⟩,
 ⟨(.fa 2 (.var 1)), none, none⟩,
 ⟨(.load false 1 (.loc 0)), none, none⟩,
 ⟨(.bslice 1 [(.int .i64 0)] 1 [(0, (.loc 0))]), none, none⟩,
 ⟨(.append 2 1 8 (.loc 3) (.loc 0)), none, none⟩,
 ⟨(.mov (.loc 0)), (some 3), none⟩]
def c80_4 : List CO := [⟨(.fa 3 (.var 1)), none, none⟩,
 ⟨(.load false 1 (.loc 0)), (some 6), none⟩,
 ⟨(.len .slice (.var 6)), (some 7), none⟩,
 ⟨(.mov (.k (.int .i64 0))), (some 8), none⟩]
def c80_5 : List CO := [⟨(.bin .lss (.var 8) (.var 7)), (some 9), none⟩]
def c80_6 : List CO := [⟨(.ia 4 (.var 6) (.var 8)), none, none⟩,
 ⟨(.load true 4 (.loc 0)), none, none⟩,
 ⟨(.box 24 (.k (.agg #[(.int .i64 0), (.string ⟨#[]⟩), (.int .i64 0), (.slice none 0 0)]))), (some 4), none⟩,
 ⟨(.store 4 (.var 4) (.loc 1)), none, none⟩]
def c80_7 : List CO := [⟨(.mov (.var 3)), none, none⟩,
 ⟨(.load true 4 (.var 4)), none, none⟩,
 ⟨(.call true 80 [(.loc 0)]), none, none⟩,
 ⟨(.append 2 1 8 (.loc 2) (.loc 0)), none, none⟩,
 ⟨(.mov (.loc 0)), (some 3), none⟩]
def c80_8 : List CO := [⟨(.bin .add (.var 8) (.k (.int .i64 1))), none, none⟩,
 ⟨(.mov (.loc 0)), (some 8), none⟩]
def c80_9 : CC := (.seq (.region [] [] c80_5) (.seq (.cond (.var 9) .skip (.exit 0)) (.seq (.block 1 (.seq (.region [] [] c80_6) (.region [] [] c80_7))) (.region [] [] c80_8))))
def c80_10 : List CO := [⟨(.mov (.var 3)), none, none⟩,
 ⟨(.mov (.loc 0)), (some 2), none⟩]
def c80 : CFun := ⟨1, 10, (.seq (.region [] [] c80_0) (.seq (.region [] [] c80_1) (.seq (.seq (.region [] [] c80_2) (.cond (.var 5) (.region [] [] c80_3) .skip)) (.seq (.seq (.region [] [] c80_4) (.block 0 (.loop [false, false, false, true, false, false, true, true, true, false] [] c80_9))) (.seq (.region [] [] c80_10) .ret))))), [.var 2]⟩
theorem ok80 : CodeOk Tryd.prog T 80 c80 := ⟨⟨Tryd.f80, Hints.of [] [] [(0, [false, false, false, true, false, false, true, true, true, false], [])], [0, 1, 2, 3, 5, 8, 15, 16, 17, 18], Tryd.func80, by kernel_rfl, by kernel_rfl⟩⟩

def c81_0 : List CO := [⟨(.mov (.k (.bool false))), (some 2), none⟩]
def c81_1 : List CO := [⟨(.mov (.var 0)), (some 4), none⟩,
 ⟨(.len .slice (.var 4)), (some 5), none⟩,
 ⟨(.mov (.k (.int .i64 0))), (some 6), none⟩]
def c81_2 : List CO := [⟨(.bin .lss (.var 6) (.var 5)), (some 7), none⟩]
def c81_3 : List CO := [⟨(.ia 1 (.var 4) (.var 6)), none, none⟩,
 ⟨(.load false 1 (.loc 0)), none, none⟩,
 ⟨(.mov (.loc 0)), (some 3), none⟩]
def c81_4 : List CO := [⟨(.mov (.var 3)), none, none⟩,
 ⟨(.mov (.var 1)), none, none⟩,
 ⟨(.bin .eql (.loc 1) (.loc 0)), (some 8), none⟩]
def c81_5 : List CO := [⟨(.mov (.k (.bool true))), (some 2), none⟩]
def c81_6 : List CO := [⟨(.bin .add (.var 6) (.k (.int .i64 1))), none, none⟩,
 ⟨(.mov (.loc 0)), (some 6), none⟩]
def c81_7 : CC := (.seq (.region [] [] c81_2) (.seq (.cond (.var 7) .skip (.exit 0)) (.seq (.block 1 (.seq (.region [] [] c81_3) (.seq (.region [] [] c81_4) (.cond (.var 8) (.seq (.region [] [] c81_5) .ret) .skip)))) (.region [] [] c81_6))))
def c81_8 : List CO := [⟨(.mov (.k (.bool false))), (some 2), none⟩]
def c81 : CFun := ⟨2, 9, (.seq (.region [] [] c81_0) (.seq (.seq (.region [] [] c81_1) (.block 0 (.loop [false, true, false, false, true, true, true, false, false] [] c81_7))) (.seq (.region [] [] c81_8) .ret))), [.var 2]⟩
theorem ok81 : CodeOk Tryd.prog T 81 c81 := ⟨⟨Tryd.f81, Hints.of [] [] [(0, [false, true, false, false, true, true, true, false, false], [])], [0, 1, 4, 6, 7, 8, 9, 10, 15], Tryd.func81, by kernel_rfl, by kernel_rfl⟩⟩

def c82_0 : List CO := [⟨(.mov (.k (.int .i64 0))), (some 2), none⟩]
def c82_1 : List CO := [⟨(.mov (.var 0)), (some 5), none⟩,
 ⟨(.len .slice (.var 5)), (some 6), none⟩,
 ⟨(.mov (.k (.int .i64 0))), (some 7), none⟩]
def c82_2 : List CO := [⟨(.bin .lss (.var 7) (.var 6)), (some 8), none⟩]
def c82_3 : List CO := [⟨(.mov (.var 7)), none, none⟩,
 ⟨(.ia 1 (.var 5) (.var 7)), none, none⟩,
 ⟨(.load false 1 (.loc 0)), none, none⟩,
 ⟨(.mov (.loc 2)), (some 3), none⟩,
 ⟨(.mov (.loc 1)), (some 4), none⟩]
def c82_4 : List CO := [⟨(.mov (.var 4)), none, none⟩,
 ⟨(.mov (.var 1)), none, none⟩,
 ⟨(.bin .eql (.loc 1) (.loc 0)), (some 9), none⟩]
def c82_5 : List CO := [⟨(.mov (.var 3)), none, none⟩,
 ⟨(.mov (.loc 0)), (some 2), none⟩]
def c82_6 : List CO := [⟨(.bin .add (.var 7) (.k (.int .i64 1))), none, none⟩,
 ⟨(.mov (.loc 0)), (some 7), none⟩]
def c82_7 : CC := (.seq (.region [] [] c82_2) (.seq (.cond (.var 8) .skip (.exit 0)) (.seq (.block 1 (.seq (.region [] [] c82_3) (.seq (.region [] [] c82_4) (.cond (.var 9) (.seq (.region [] [] c82_5) .ret) .skip)))) (.region [] [] c82_6))))
def c82_8 : List CO := [⟨(.mov (.k (.int .i64 0))), (some 2), none⟩]
def c82 : CFun := ⟨2, 10, (.seq (.region [] [] c82_0) (.seq (.seq (.region [] [] c82_1) (.block 0 (.loop [false, true, false, false, false, true, true, true, false, false] [] c82_7))) (.seq (.region [] [] c82_8) .ret))), [.var 2]⟩
theorem ok82 : CodeOk Tryd.prog T 82 c82 := ⟨⟨Tryd.f82, Hints.of [] [] [(0, [false, true, false, false, false, true, true, true, false, false], [])], [0, 1, 4, 5, 6, 7, 8, 9, 10, 16], Tryd.func82, by kernel_rfl, by kernel_rfl⟩⟩

def c83_0 : List CO := [⟨(.box 24 (.var 0)), (some 1), none⟩,
 ⟨(.mov (.k (.slice none 0 0))), (some 2), none⟩]
def c83_1 : List CO := [⟨(.load true 4 (.var 1)), none, none⟩,
 ⟨(.call true 54 [(.loc 0), (.k (.string ⟨#[44]⟩)), (.k (.int .i64 2))]), (some 3), none⟩]
def c83_2 : List CO := [⟨(.fa 3 (.var 1)), none, none⟩,
 ⟨(.load false 1 (.loc 0)), none, none⟩,
 ⟨(.ia 4 (.loc 0) (.k (.int .i64 0))), none, none⟩,
 ⟨(.load true 4 (.loc 0)), none, none⟩,
 ⟨(.call false 83 [(.loc 0)]), none, none⟩,
 ⟨(.fa 3 (.var 1)), none, none⟩,
 ⟨(.load false 1 (.loc 0)), none, none⟩,
 ⟨(.ia 4 (.loc 0) (.k (.int .i64 1))), none, none⟩,
 ⟨(.load true 4 (.loc 0)), none, none⟩,
 ⟨(.call false 83 [(.loc 0)]), none, none⟩,
 ⟨(.append 24 4 56 (.loc 5) (.loc 0)), none, none⟩,
 ⟨(.mov (.loc 0)), (some 2), none⟩]
def c83_3 : List CO := [⟨(.load true 4 (.var 1)), none, none⟩,
 ⟨(.bslice 4 [(.int .i64 0), (.string ⟨#[]⟩), (.int .i64 0), (.slice none 0 0)] 1 [(0, (.loc 0))]), none, none⟩,
 ⟨(.mov (.loc 0)), (some 2), none⟩]
def c83 : CFun := ⟨1, 4, (.seq (.region [] [] c83_0) (.seq (.seq (.region [] [] c83_1) (.cond (.var 3) (.seq (.region [] [] c83_2) .ret) .skip)) (.seq (.region [] [] c83_3) .ret))), [.var 2]⟩
theorem ok83 : CodeOk Tryd.prog T 83 c83 := ⟨⟨Tryd.f83, Hints.of [] [] [], [0, 1, 2, 4], Tryd.func83, by kernel_rfl, by kernel_rfl⟩⟩

def c84_0 : List CO := [⟨(.mov (.k (.bool false))), (some 2), none⟩]
def c84_1 : List CO := [⟨(.mov (.var 0)), (some 4), none⟩,
 ⟨(.len .slice (.var 4)), (some 5), none⟩,
 ⟨(.mov (.k (.int .i64 0))), (some 6), none⟩]
def c84_2 : List CO := [⟨(.bin .lss (.var 6) (.var 5)), (some 7), none⟩]
def c84_3 : List CO := [⟨(.ia 1 (.var 4) (.var 6)), none, none⟩,
 ⟨(.load false 1 (.loc 0)), none, none⟩,
 ⟨(.mov (.loc 0)), (some 3), none⟩]
def c84_4 : List CO := [⟨(.mov (.var 3)), none, none⟩,
 ⟨(.mov (.var 1)), none, none⟩,
 ⟨(.bin .eql (.loc 1) (.loc 0)), (some 8), none⟩]
def c84_5 : List CO := [⟨(.mov (.k (.bool true))), (some 2), none⟩]
def c84_6 : List CO := [⟨(.bin .add (.var 6) (.k (.int .i64 1))), none, none⟩,
 ⟨(.mov (.loc 0)), (some 6), none⟩]
def c84_7 : CC := (.seq (.region [] [] c84_2) (.seq (.cond (.var 7) .skip (.exit 0)) (.seq (.block 1 (.seq (.region [] [] c84_3) (.seq (.region [] [] c84_4) (.cond (.var 8) (.seq (.region [] [] c84_5) .ret) .skip)))) (.region [] [] c84_6))))
def c84_8 : List CO := [⟨(.mov (.k (.bool false))), (some 2), none⟩]
def c84 : CFun := ⟨2, 9, (.seq (.region [] [] c84_0) (.seq (.seq (.region [] [] c84_1) (.block 0 (.loop [false, true, false, false, true, true, true, false, false] [] c84_7))) (.seq (.region [] [] c84_8) .ret))), [.var 2]⟩
theorem ok84 : CodeOk Tryd.prog T 84 c84 := ⟨⟨Tryd.f84, Hints.of [] [] [(0, [false, true, false, false, true, true, true, false, false], [])], [0, 1, 4, 6, 7, 8, 9, 10, 15], Tryd.func84, by kernel_rfl, by kernel_rfl⟩⟩

def c85_0 : List CO := [⟨(.mov (.k (.slice none 0 0))), (some 1), none⟩]
def c85_1 : List CO := [⟨(.mov (.var 0)), (some 2), none⟩]
def c85_2 : List CO := [⟨(.bin .eql (.var 2) (.k (.int .i64 0))), none, none⟩,
 ⟨(.mov (.loc 0)), (some 3), none⟩]
def c85_3 : List CO := [⟨(.bslice 1 [(.string ⟨#[]⟩)] 3 [(0, (.k (.string ⟨#[116, 114, 117, 101]⟩))), (1, (.k (.string ⟨#[102, 97, 105, 108]⟩))), (2, (.k (.string ⟨#[33]⟩)))]), none, none⟩,
 ⟨(.mov (.loc 0)), (some 1), none⟩]
def c85_4 : List CO := [⟨(.bin .eql (.var 2) (.k (.int .i64 1))), none, none⟩,
 ⟨(.mov (.loc 0)), (some 4), none⟩]
def c85_5 : List CO := [⟨(.bslice 1 [(.string ⟨#[]⟩)] 6 [(0, (.k (.string ⟨#[118, 97, 114]⟩))), (1, (.k (.string ⟨#[110, 111, 110, 118, 97, 114]⟩))), (2, (.k (.string ⟨#[97, 116, 111, 109]⟩))), (3, (.k (.string ⟨#[105, 110, 116, 101, 103, 101, 114]⟩))), (4, (.k (.string ⟨#[97, 116, 111, 109, 105, 99]⟩))), (5, (.k (.string ⟨#[99, 111, 109, 112, 111, 117, 110, 100]⟩)))]), none, none⟩,
 ⟨(.mov (.loc 0)), (some 1), none⟩]
def c85_6 : List CO := [⟨(.bin .eql (.var 2) (.k (.int .i64 2))), none, none⟩,
 ⟨(.mov (.loc 0)), (some 5), none⟩]
def c85_7 : List CO := [⟨(.bslice 1 [(.string ⟨#[]⟩)] 16 [(0, (.k (.string ⟨#[61]⟩))), (1, (.k (.string ⟨#[92, 61]⟩))), (2, (.k (.string ⟨#[61, 61]⟩))), (3, (.k (.string ⟨#[92, 61, 61]⟩))), (4, (.k (.string ⟨#[64, 60]⟩))), (5, (.k (.string ⟨#[64, 61, 60]⟩))), (6, (.k (.string ⟨#[64, 62]⟩))), (7, (.k (.string ⟨#[64, 62, 61]⟩))), (8, (.k (.string ⟨#[61, 46, 46]⟩))), (9, (.k (.string ⟨#[105, 115]⟩))), (10, (.k (.string ⟨#[61, 58, 61]⟩))), (11, (.k (.string ⟨#[61, 92, 61]⟩))), (12, (.k (.string ⟨#[60]⟩))), (13, (.k (.string ⟨#[61, 60]⟩))), (14, (.k (.string ⟨#[62]⟩))), (15, (.k (.string ⟨#[62, 61]⟩)))]), none, none⟩,
 ⟨(.mov (.loc 0)), (some 1), none⟩]
def c85_8 : List CO := [⟨(.bin .eql (.var 2) (.k (.int .i64 3))), none, none⟩,
 ⟨(.mov (.loc 0)), (some 6), none⟩]
def c85_9 : List CO := [⟨(.bslice 1 [(.string ⟨#[]⟩)] 2 [(0, (.k (.string ⟨#[102, 117, 110, 99, 116, 111, 114]⟩))), (1, (.k (.string ⟨#[97, 114, 103]⟩)))]), none, none⟩,
 ⟨(.mov (.loc 0)), (some 1), none⟩]
def c85_10 : List CO := [⟨(.mov (.k (.slice none 0 0))), (some 1), none⟩]
def c85 : CFun := ⟨1, 7, (.seq (.region [] [] c85_0) (.seq (.seq (.region [] [] c85_1) (.block 0 (.seq (.region [] [] c85_2) (.cond (.var 3) (.seq (.region [] [] c85_3) .ret) (.seq (.region [] [] c85_4) (.cond (.var 4) (.seq (.region [] [] c85_5) .ret) (.seq (.region [] [] c85_6) (.cond (.var 5) (.seq (.region [] [] c85_7) .ret) (.seq (.region [] [] c85_8) (.cond (.var 6) (.seq (.region [] [] c85_9) .ret) .skip)))))))))) (.seq (.region [] [] c85_10) .ret))), [.var 1]⟩
theorem ok85 : CodeOk Tryd.prog T 85 c85 := ⟨⟨Tryd.f85, Hints.of [] [] [], [0, 2, 3, 4, 7, 10, 13], Tryd.func85, by kernel_rfl, by kernel_rfl⟩⟩

def c86_0 : List CO := [⟨(.box 24 (.var 3)), (some 4), none⟩,
 ⟨(.mov (.k (.bool false))), (some 5), none⟩]
def c86_1 : List CO := [⟨(.mov (.var 1)), none, none⟩,
 ⟨(.mov (.var 2)), none, none⟩,
 ⟨(.build [(.int .i64 0), (.int .i64 0), (.int .i64 0), (.string ⟨#[]⟩), (.int .i64 0)] [(0, 1, (.loc 1)), (1, 1, (.loc 0))]), none, none⟩,
 ⟨(.box 58 (.k (.agg #[(.int .i64 0), (.int .i64 0), (.int .i64 0), (.string ⟨#[]⟩), (.int .i64 0)]))), (some 6), none⟩,
 ⟨(.store 5 (.var 6) (.loc 1)), none, none⟩]
def c86_2 : List CO := [⟨(.fa 0 (.var 4)), none, none⟩,
 ⟨(.load false 1 (.loc 0)), (some 7), none⟩]
def c86_3 : List CO := [⟨(.bin .eql (.var 7) (.k (.int .i64 1))), none, none⟩,
 ⟨(.mov (.loc 0)), (some 8), none⟩]
def c86_4 : List CO := [⟨(.fa 0 (.var 6)), none, none⟩,
 ⟨(.load false 1 (.loc 0)), none, none⟩,
 ⟨(.mov (.var 0)), none, none⟩,
 ⟨(.nilchk (.loc 0)), none, none⟩,
 ⟨(.fa 1 (.loc 0)), none, none⟩,
 ⟨(.load false 1 (.loc 0)), none, none⟩,
 ⟨(.fa 2 (.var 4)), none, none⟩,
 ⟨(.load false 1 (.loc 0)), none, none⟩,
 ⟨(.lookup (.int .i64) (.int .i64 0) false (.loc 2) (.loc 0)), none, none⟩,
 ⟨(.bin .add (.loc 7) (.loc 0)), none, none⟩,
 ⟨(.fa 0 (.var 6)), none, none⟩,
 ⟨(.store 1 (.loc 0) (.loc 1)), none, none⟩]
def c86_5 : List CO := [⟨(.mov (.var 0)), none, none⟩,
 ⟨(.nilchk (.loc 0)), none, none⟩,
 ⟨(.fa 1 (.loc 0)), none, none⟩,
 ⟨(.load false 1 (.loc 0)), none, none⟩,
 ⟨(.fa 2 (.var 4)), none, none⟩,
 ⟨(.load false 1 (.loc 0)), none, none⟩,
 ⟨(.mapupd (.int .i64) (.loc 2) (.loc 0) (.k (.int .i64 1))), none, none⟩]
def c86_6 : List CO := [⟨(.fa 2 (.var 4)), none, none⟩,
 ⟨(.load false 1 (.loc 0)), none, none⟩,
 ⟨(.fa 2 (.var 6)), none, none⟩,
 ⟨(.store 1 (.loc 0) (.loc 1)), none, none⟩]
def c86_7 : List CO := [⟨(.bin .eql (.var 7) (.k (.int .i64 2))), none, none⟩,
 ⟨(.mov (.loc 0)), (some 9), none⟩]
def c86_8 : List CO := [⟨(.fa 0 (.var 6)), none, none⟩,
 ⟨(.load false 1 (.loc 0)), none, none⟩,
 ⟨(.bin .add (.loc 0) (.k (.int .i64 2))), none, none⟩,
 ⟨(.fa 0 (.var 6)), none, none⟩,
 ⟨(.store 1 (.loc 0) (.loc 1)), none, none⟩]
def c86_9 : List CO := [⟨(.fa 1 (.var 4)), none, none⟩,
 ⟨(.load false 1 (.loc 0)), none, none⟩,
 ⟨(.fa 3 (.var 6)), none, none⟩,
 ⟨(.store 1 (.loc 0) (.loc 1)), none, none⟩]
def c86_10 : List CO := [⟨(.bin .eql (.var 7) (.k (.int .i64 3))), none, none⟩,
 ⟨(.mov (.loc 0)), (some 10), none⟩]
def c86_11 : List CO := [⟨(.fa 0 (.var 6)), none, none⟩,
 ⟨(.load false 1 (.loc 0)), none, none⟩,
 ⟨(.bin .add (.loc 0) (.k (.int .i64 3))), none, none⟩,
 ⟨(.fa 0 (.var 6)), none, none⟩,
 ⟨(.store 1 (.loc 0) (.loc 1)), none, none⟩]
def c86_12 : List CO := [⟨(.fa 2 (.var 4)), none, none⟩,
 ⟨(.load false 1 (.loc 0)), none, none⟩,
 ⟨(.fa 4 (.var 6)), none, none⟩,
 ⟨(.store 1 (.loc 0) (.loc 1)), none, none⟩]
def c86_13 : List CO := [⟨(.mov (.k (.bool false))), (some 5), none⟩]
def c86_14 : List CO := [⟨(.mov (.var 0)), none, none⟩,
 ⟨(.load true 5 (.var 6)), none, none⟩,
 ⟨(.call false 59 [(.loc 1), (.loc 0)]), none, none⟩]
def c86_15 : List CO := [⟨(.mov (.k (.bool true))), (some 5), none⟩]
def c86 : CFun := ⟨4, 11, (.seq (.region [] [] c86_0) (.seq (.region [] [] c86_1) (.seq (.seq (.region [] [] c86_2) (.block 0 (.seq (.region [] [] c86_3) (.cond (.var 8) (.seq (.region [] [] c86_4) (.seq (.region [] [] c86_5) (.region [] [] c86_6))) (.seq (.region [] [] c86_7) (.cond (.var 9) (.seq (.region [] [] c86_8) (.region [] [] c86_9)) (.seq (.region [] [] c86_10) (.cond (.var 10) (.seq (.region [] [] c86_11) (.region [] [] c86_12)) (.seq (.region [] [] c86_13) .ret))))))))) (.seq (.region [] [] c86_14) (.seq (.region [] [] c86_15) .ret))))), [.var 5]⟩
theorem ok86 : CodeOk Tryd.prog T 86 c86 := ⟨⟨Tryd.f86, Hints.of [] [] [], [0, 1, 2, 3, 7, 8, 9, 14, 15, 37, 46], Tryd.func86, by kernel_rfl, by kernel_rfl⟩⟩

def c87_0 : List CO := [⟨(.mov (.k (.int .i64 0))), (some 1), none⟩]
def c87_1 : List CO := [⟨(.mov (.var 0)), none, none⟩,
 ⟨(.nilchk (.loc 0)), none, none⟩,
 ⟨(.fa 2 (.loc 0)), none, none⟩,
 ⟨(.load false 1 (.loc 0)), none, none⟩,
 ⟨(.bin .add (.loc 0) (.k (.int .i64 1))), none, none⟩,
 ⟨(.nilchk (.loc 4)), none, none⟩,
 ⟨(.fa 2 (.loc 0)), none, none⟩,
 ⟨(.store 1 (.loc 0) (.loc 2)), none, none⟩]
def c87_2 : List CO := [⟨(.mov (.var 0)), none, none⟩,
 ⟨(.nilchk (.loc 0)), none, none⟩,
 ⟨(.fa 2 (.loc 0)), none, none⟩,
 ⟨(.load false 1 (.loc 0)), none, none⟩,
 ⟨(.bin .sub (.loc 0) (.k (.int .i64 1))), none, none⟩,
 ⟨(.mov (.loc 0)), (some 1), none⟩]
def c87 : CFun := ⟨1, 2, (.seq (.region [] [] c87_0) (.seq (.region [] [] c87_1) (.seq (.region [] [] c87_2) .ret))), [.var 1]⟩
theorem ok87 : CodeOk Tryd.prog T 87 c87 := ⟨⟨Tryd.f87, Hints.of [] [] [], [0, 2], Tryd.func87, by kernel_rfl, by kernel_rfl⟩⟩

def c88_0 : List CO := [⟨(.box 24 (.var 4)), (some 5), none⟩]
def c88_1 : List CO := [⟨(.mov (.var 2)), none, none⟩,
 ⟨(.mov (.loc 0)), (some 6), none⟩]
def c88_2 : List CO := [⟨(.mov (.var 0)), none, none⟩,
 ⟨(.nilchk (.loc 0)), none, none⟩,
 ⟨(.fa 1 (.loc 0)), none, none⟩,
 ⟨(.load false 1 (.loc 0)), none, none⟩,
 ⟨(.fa 2 (.var 5)), none, none⟩,
 ⟨(.load false 1 (.loc 0)), none, none⟩,
 ⟨(.callf 81 [(.loc 2), (.loc 0)]), none, none⟩,
 ⟨(.un .not (.loc 0)), (some 7), none⟩]
def c88_3 : List CO := [⟨(.mov (.var 0)), none, none⟩,
 ⟨(.mov (.var 0)), none, none⟩,
 ⟨(.nilchk (.loc 0)), none, none⟩,
 ⟨(.fa 1 (.loc 0)), none, none⟩,
 ⟨(.load false 1 (.loc 0)), none, none⟩,
 ⟨(.fa 2 (.var 5)), none, none⟩,
 ⟨(.load false 1 (.loc 0)), none, none⟩,
 ⟨(.bslice 1 [(.int .i64 0)] 1 [(0, (.loc 0))]), none, none⟩,
 ⟨(.append 2 1 8 (.loc 3) (.loc 0)), none, none⟩,
 ⟨(.nilchk (.loc 8)), none, none⟩,
 ⟨(.fa 1 (.loc 0)), none, none⟩,
 ⟨(.store 1 (.loc 0) (.loc 2)), none, none⟩]
def c88_4 : List CO := [⟨(.mov (.var 1)), none, none⟩,
 ⟨(.mov (.loc 0)), (some 6), none⟩]
def c88_5 : List CO := [⟨(.mov (.var 0)), none, none⟩,
 ⟨(.mov (.var 6)), none, none⟩,
 ⟨(.mov (.var 3)), none, none⟩,
 ⟨(.fa 2 (.var 5)), none, none⟩,
 ⟨(.load false 1 (.loc 0)), none, none⟩,
 ⟨(.build [(.int .i64 0), (.int .i64 0), (.int .i64 0), (.string ⟨#[]⟩), (.int .i64 0)] [(0, 1, (.loc 3)), (1, 1, (.loc 2)), (2, 1, (.loc 0))]), none, none⟩,
 ⟨(.call false 62 [(.loc 5), (.loc 0)]), none, none⟩]
def c88 : CFun := ⟨5, 8, (.seq (.region [] [] c88_0) (.seq (.region [] [] c88_1) (.seq (.seq (.region [] [] c88_2) (.cond (.var 7) (.seq (.region [] [] c88_3) (.region [] [] c88_4)) .skip)) (.region [] [] c88_5)))), []⟩
theorem ok88 : CodeOk Tryd.prog T 88 c88 := ⟨⟨Tryd.f88, Hints.of [] [] [], [0, 1, 2, 3, 4, 9, 10, 19], Tryd.func88, by kernel_rfl, by kernel_rfl⟩⟩

def c89_0 : List CO := [⟨(.box 24 (.var 2)), (some 3), none⟩,
 ⟨(.mov (.k (.slice none 0 0))), (some 4), none⟩]
def c89_1 : List CO := [⟨(.mov (.var 0)), none, none⟩,
 ⟨(.mov (.var 1)), none, none⟩,
 ⟨(.fa 1 (.var 3)), none, none⟩,
 ⟨(.load false 1 (.loc 0)), none, none⟩,
 ⟨(.fa 3 (.var 3)), none, none⟩,
 ⟨(.load false 1 (.loc 0)), none, none⟩,
 ⟨(.len .slice (.loc 0)), none, none⟩,
 ⟨(.build [(.int .i64 0), (.int .i64 0), (.int .i64 0), (.string ⟨#[]⟩), (.int .i64 0)] [(0, 1, (.k (.int .i64 5))), (1, 1, (.loc 5)), (3, 1, (.loc 3)), (4, 1, (.loc 0))]), none, none⟩,
 ⟨(.call false 62 [(.loc 7), (.loc 0)]), none, none⟩]
def c89_2 : List CO := [⟨(.mov (.k (.slice none 0 0))), (some 5), none⟩]
def c89_3 : List CO := [⟨(.fa 3 (.var 3)), none, none⟩,
 ⟨(.load false 1 (.loc 0)), (some 8), none⟩,
 ⟨(.len .slice (.var 8)), (some 9), none⟩,
 ⟨(.mov (.k (.int .i64 0))), (some 10), none⟩]
def c89_4 : List CO := [⟨(.bin .lss (.var 10) (.var 9)), (some 11), none⟩]
def c89_5 : List CO := [⟨(.ia 4 (.var 8) (.var 10)), none, none⟩,
 ⟨(.load true 4 (.loc 0)), none, none⟩,
 ⟨(.box 24 (.k (.agg #[(.int .i64 0), (.string ⟨#[]⟩), (.int .i64 0), (.slice none 0 0)]))), (some 6), none⟩,
 ⟨(.store 4 (.var 6) (.loc 1)), none, none⟩]
def c89_6 : List CO := [⟨(.fa 0 (.var 6)), none, none⟩,
 ⟨(.load false 1 (.loc 0)), (some 12), none⟩]
def c89_7 : List CO := [⟨(.bin .eql (.var 12) (.k (.int .i64 1))), none, none⟩,
 ⟨(.mov (.loc 0)), (some 13), none⟩]
def c89_8 : List CO := [⟨(.mov (.var 0)), none, none⟩,
 ⟨(.load true 4 (.var 6)), none, none⟩,
 ⟨(.call false 88 [(.loc 1), (.k (.int .i64 6)), (.k (.int .i64 7)), (.k (.int .i64 0)), (.loc 0)]), none, none⟩]
def c89_9 : List CO := [⟨(.bin .eql (.var 12) (.k (.int .i64 2))), none, none⟩,
 ⟨(.mov (.loc 0)), (some 14), none⟩]
def c89_10 : List CO := [⟨(.mov (.var 0)), none, none⟩,
 ⟨(.fa 1 (.var 6)), none, none⟩,
 ⟨(.load false 1 (.loc 0)), none, none⟩,
 ⟨(.build [(.int .i64 0), (.int .i64 0), (.int .i64 0), (.string ⟨#[]⟩), (.int .i64 0)] [(0, 1, (.k (.int .i64 8))), (3, 1, (.loc 0))]), none, none⟩,
 ⟨(.call false 62 [(.loc 3), (.loc 0)]), none, none⟩]
def c89_11 : List CO := [⟨(.bin .eql (.var 12) (.k (.int .i64 3))), none, none⟩,
 ⟨(.mov (.loc 0)), (some 15), none⟩]
def c89_12 : List CO := [⟨(.mov (.var 0)), none, none⟩,
 ⟨(.fa 2 (.var 6)), none, none⟩,
 ⟨(.load false 1 (.loc 0)), none, none⟩,
 ⟨(.build [(.int .i64 0), (.int .i64 0), (.int .i64 0), (.string ⟨#[]⟩), (.int .i64 0)] [(0, 1, (.k (.int .i64 9))), (4, 1, (.loc 0))]), none, none⟩,
 ⟨(.call false 62 [(.loc 3), (.loc 0)]), none, none⟩]
def c89_13 : List CO := [⟨(.mov (.var 0)), none, none⟩,
 ⟨(.call false 112 [(.loc 0)]), none, none⟩,
 ⟨(.mov (.loc 0)), (some 7), none⟩]
def c89_14 : List CO := [⟨(.mov (.var 0)), none, none⟩,
 ⟨(.mov (.var 7)), none, none⟩,
 ⟨(.build [(.int .i64 0), (.int .i64 0), (.int .i64 0), (.string ⟨#[]⟩), (.int .i64 0)] [(0, 1, (.k (.int .i64 10))), (2, 1, (.loc 0))]), none, none⟩,
 ⟨(.call false 62 [(.loc 2), (.loc 0)]), none, none⟩]
def c89_15 : List CO := [⟨(.mov (.var 5)), none, none⟩,
 ⟨(.mov (.var 7)), none, none⟩,
 ⟨(.load true 4 (.var 6)), none, none⟩,
 ⟨(.build [(.int .i64 0), (.int .i64 0), (.string ⟨#[]⟩), (.int .i64 0), (.slice none 0 0)] [(0, 1, (.loc 1)), (1, 4, (.loc 0))]), none, none⟩,
 ⟨(.bslice 5 [(.int .i64 0), (.int .i64 0), (.string ⟨#[]⟩), (.int .i64 0), (.slice none 0 0)] 1 [(0, (.loc 0))]), none, none⟩,
 ⟨(.append 134 5 64 (.loc 4) (.loc 0)), none, none⟩,
 ⟨(.mov (.loc 0)), (some 5), none⟩]
def c89_16 : List CO := [⟨(.bin .add (.var 10) (.k (.int .i64 1))), none, none⟩,
 ⟨(.mov (.loc 0)), (some 10), none⟩]
def c89_17 : CC := (.seq (.region [] [] c89_4) (.seq (.cond (.var 11) .skip (.exit 0)) (.seq (.block 1 (.seq (.region [] [] c89_5) (.seq (.region [] [] c89_6) (.block 2 (.seq (.region [] [] c89_7) (.cond (.var 13) (.region [] [] c89_8) (.seq (.region [] [] c89_9) (.cond (.var 14) (.region [] [] c89_10) (.seq (.region [] [] c89_11) (.cond (.var 15) (.region [] [] c89_12) (.seq (.region [] [] c89_13) (.seq (.region [] [] c89_14) (.region [] [] c89_15))))))))))))) (.region [] [] c89_16))))
def c89_18 : List CO := [⟨(.mov (.var 5)), none, none⟩,
 ⟨(.mov (.loc 0)), (some 4), none⟩]
def c89 : CFun := ⟨3, 16, (.seq (.region [] [] c89_0) (.seq (.region [] [] c89_1) (.seq (.region [] [] c89_2) (.seq (.seq (.region [] [] c89_3) (.block 0 (.loop [true, false, false, false, false, true, false, false, true, true, true, false, false, false, false, false] [] c89_17))) (.seq (.region [] [] c89_18) .ret))))), [.var 4]⟩
theorem ok89 : CodeOk Tryd.prog T 89 c89 := ⟨⟨Tryd.f89, Hints.of [] [] [(0, [true, false, false, false, false, true, false, false, true, true, true, false, false, false, false, false], [])], [0, 1, 2, 5, 6, 7, 9, 10, 21, 22, 23, 24, 28, 41, 46, 53], Tryd.func89, by kernel_rfl, by kernel_rfl⟩⟩

def c90_0 : List CO := [⟨(.box 24 (.var 2)), (some 3), none⟩]
def c90_1 : List CO := [⟨(.mov (.k (.slice none 0 0))), (some 4), none⟩]
def c90_2 : List CO := [⟨(.fa 3 (.var 3)), none, none⟩,
 ⟨(.load false 1 (.loc 0)), (some 9), none⟩,
 ⟨(.len .slice (.var 9)), (some 10), none⟩,
 ⟨(.mov (.k (.int .i64 0))), (some 11), none⟩]
def c90_3 : List CO := [⟨(.bin .lss (.var 11) (.var 10)), (some 12), none⟩]
def c90_4 : List CO := [⟨(.ia 4 (.var 9) (.var 11)), none, none⟩,
 ⟨(.load true 4 (.loc 0)), none, none⟩,
 ⟨(.box 24 (.k (.agg #[(.int .i64 0), (.string ⟨#[]⟩), (.int .i64 0), (.slice none 0 0)]))), (some 5), none⟩,
 ⟨(.store 4 (.var 5) (.loc 1)), none, none⟩]
def c90_5 : List CO := [⟨(.mov (.k (.int .i64 0))), (some 6), none⟩]
def c90_6 : List CO := [⟨(.fa 0 (.var 5)), none, none⟩,
 ⟨(.load false 1 (.loc 0)), none, none⟩,
 ⟨(.bin .eql (.loc 0) (.k (.int .i64 4))), (some 13), none⟩]
def c90_7 : List CO := [⟨(.mov (.var 0)), none, none⟩,
 ⟨(.call false 112 [(.loc 0)]), none, none⟩,
 ⟨(.mov (.loc 0)), (some 6), none⟩]
def c90_8 : List CO := [⟨(.mov (.var 0)), none, none⟩,
 ⟨(.mov (.var 6)), none, none⟩,
 ⟨(.load true 4 (.var 5)), none, none⟩,
 ⟨(.call false 90 [(.loc 2), (.loc 1), (.loc 0)]), none, none⟩]
def c90_9 : List CO := [⟨(.mov (.var 4)), none, none⟩,
 ⟨(.mov (.var 6)), none, none⟩,
 ⟨(.bslice 1 [(.int .i64 0)] 1 [(0, (.loc 0))]), none, none⟩,
 ⟨(.append 3 1 8 (.loc 2) (.loc 0)), none, none⟩,
 ⟨(.mov (.loc 0)), (some 4), none⟩]
def c90_10 : List CO := [⟨(.bin .add (.var 11) (.k (.int .i64 1))), none, none⟩,
 ⟨(.mov (.loc 0)), (some 11), none⟩]
def c90_11 : CC := (.seq (.region [] [] c90_3) (.seq (.cond (.var 12) .skip (.exit 0)) (.seq (.block 1 (.seq (.region [] [] c90_4) (.seq (.region [] [] c90_5) (.seq (.seq (.region [] [] c90_6) (.cond (.var 13) (.seq (.region [] [] c90_7) (.region [] [] c90_8)) .skip)) (.region [] [] c90_9))))) (.region [] [] c90_10))))
def c90_12 : List CO := [⟨(.mov (.var 0)), none, none⟩,
 ⟨(.mov (.var 1)), none, none⟩,
 ⟨(.fa 1 (.var 3)), none, none⟩,
 ⟨(.load false 1 (.loc 0)), none, none⟩,
 ⟨(.fa 3 (.var 3)), none, none⟩,
 ⟨(.load false 1 (.loc 0)), none, none⟩,
 ⟨(.len .slice (.loc 0)), none, none⟩,
 ⟨(.build [(.int .i64 0), (.int .i64 0), (.int .i64 0), (.string ⟨#[]⟩), (.int .i64 0)] [(0, 1, (.k (.int .i64 15))), (1, 1, (.loc 5)), (3, 1, (.loc 3)), (4, 1, (.loc 0))]), none, none⟩,
 ⟨(.call false 62 [(.loc 7), (.loc 0)]), none, none⟩]
def c90_13 : List CO := [⟨(.fa 3 (.var 3)), none, none⟩,
 ⟨(.load false 1 (.loc 0)), (some 14), none⟩,
 ⟨(.len .slice (.var 14)), (some 15), none⟩,
 ⟨(.mov (.k (.int .i64 0))), (some 16), none⟩]
def c90_14 : List CO := [⟨(.bin .lss (.var 16) (.var 15)), (some 17), none⟩]
def c90_15 : List CO := [⟨(.mov (.var 16)), none, none⟩,
 ⟨(.ia 4 (.var 14) (.var 16)), none, none⟩,
 ⟨(.load true 4 (.loc 0)), none, none⟩,
 ⟨(.box 24 (.k (.agg #[(.int .i64 0), (.string ⟨#[]⟩), (.int .i64 0), (.slice none 0 0)]))), (some 8), none⟩,
 ⟨(.mov (.loc 3)), (some 7), none⟩,
 ⟨(.store 4 (.var 8) (.loc 2)), none, none⟩]
def c90_16 : List CO := [⟨(.fa 0 (.var 8)), none, none⟩,
 ⟨(.load false 1 (.loc 0)), (some 18), none⟩]
def c90_17 : List CO := [⟨(.bin .eql (.var 18) (.k (.int .i64 1))), none, none⟩,
 ⟨(.mov (.loc 0)), (some 19), none⟩]
def c90_18 : List CO := [⟨(.mov (.var 0)), none, none⟩,
 ⟨(.load true 4 (.var 8)), none, none⟩,
 ⟨(.call false 88 [(.loc 1), (.k (.int .i64 16)), (.k (.int .i64 17)), (.k (.int .i64 0)), (.loc 0)]), none, none⟩]
def c90_19 : List CO := [⟨(.bin .eql (.var 18) (.k (.int .i64 2))), none, none⟩,
 ⟨(.mov (.loc 0)), (some 20), none⟩]
def c90_20 : List CO := [⟨(.mov (.var 0)), none, none⟩,
 ⟨(.fa 1 (.var 8)), none, none⟩,
 ⟨(.load false 1 (.loc 0)), none, none⟩,
 ⟨(.build [(.int .i64 0), (.int .i64 0), (.int .i64 0), (.string ⟨#[]⟩), (.int .i64 0)] [(0, 1, (.k (.int .i64 18))), (3, 1, (.loc 0))]), none, none⟩,
 ⟨(.call false 62 [(.loc 3), (.loc 0)]), none, none⟩]
def c90_21 : List CO := [⟨(.bin .eql (.var 18) (.k (.int .i64 3))), none, none⟩,
 ⟨(.mov (.loc 0)), (some 21), none⟩]
def c90_22 : List CO := [⟨(.mov (.var 0)), none, none⟩,
 ⟨(.fa 2 (.var 8)), none, none⟩,
 ⟨(.load false 1 (.loc 0)), none, none⟩,
 ⟨(.build [(.int .i64 0), (.int .i64 0), (.int .i64 0), (.string ⟨#[]⟩), (.int .i64 0)] [(0, 1, (.k (.int .i64 19))), (4, 1, (.loc 0))]), none, none⟩,
 ⟨(.call false 62 [(.loc 3), (.loc 0)]), none, none⟩]
def c90_23 : List CO := [⟨(.mov (.var 0)), none, none⟩,
 ⟨(.mov (.var 4)), none, none⟩,
 ⟨(.mov (.var 7)), none, none⟩,
 ⟨(.ia 1 (.loc 1) (.loc 0)), none, none⟩,
 ⟨(.load false 1 (.loc 0)), none, none⟩,
 ⟨(.build [(.int .i64 0), (.int .i64 0), (.int .i64 0), (.string ⟨#[]⟩), (.int .i64 0)] [(0, 1, (.k (.int .i64 20))), (2, 1, (.loc 0))]), none, none⟩,
 ⟨(.call false 62 [(.loc 5), (.loc 0)]), none, none⟩]
def c90_24 : List CO := [⟨(.bin .add (.var 16) (.k (.int .i64 1))), none, none⟩,
 ⟨(.mov (.loc 0)), (some 16), none⟩]
def c90_25 : CC := (.seq (.region [] [] c90_14) (.seq (.cond (.var 17) .skip (.exit 2)) (.seq (.block 3 (.seq (.region [] [] c90_15) (.seq (.region [] [] c90_16) (.block 4 (.seq (.region [] [] c90_17) (.cond (.var 19) (.region [] [] c90_18) (.seq (.region [] [] c90_19) (.cond (.var 20) (.region [] [] c90_20) (.seq (.region [] [] c90_21) (.cond (.var 21) (.region [] [] c90_22) (.region [] [] c90_23))))))))))) (.region [] [] c90_24))))
def c90 : CFun := ⟨3, 22, (.seq (.region [] [] c90_0) (.seq (.region [] [] c90_1) (.seq (.seq (.region [] [] c90_2) (.block 0 (.loop [true, true, false, true, true, false, false, false, false, true, true, true, false, false, false, false, false, false, false, false, false, false] [] c90_11))) (.seq (.region [] [] c90_12) (.seq (.region [] [] c90_13) (.block 2 (.loop [true, false, false, false, true, false, false, false, false, false, false, false, false, false, true, true, true, false, false, false, false, false] [] c90_25))))))), []⟩
theorem ok90 : CodeOk Tryd.prog T 90 c90 := ⟨⟨Tryd.f90, Hints.of [] [] [(0, [true, true, false, true, true, false, false, false, false, true, true, true, false, false, false, false, false, false, false, false, false, false], []), (2, [true, false, false, false, true, false, false, false, false, false, false, false, false, false, true, true, true, false, false, false, false, false], [])], [0, 1, 2, 5, 6, 8, 9, 10, 11, 13, 14, 15, 16, 21, 43, 44, 45, 46, 51, 59, 64, 71], Tryd.func90, by kernel_rfl, by kernel_rfl⟩⟩

def c91_0 : List CO := [⟨(.load false 1 (.var 0)), none, none⟩,
 ⟨(.fa 3 (.var 1)), none, none⟩,
 ⟨(.load false 1 (.loc 0)), none, none⟩,
 ⟨(.call true 93 [(.loc 0)]), none, none⟩,
 ⟨(.bin .add (.k (.string ⟨#[32]⟩)) (.loc 0)), none, none⟩,
 ⟨(.bin .add (.loc 0) (.k (.string ⟨#[47]⟩))), none, none⟩,
 ⟨(.fa 4 (.var 1)), none, none⟩,
 ⟨(.load false 1 (.loc 0)), none, none⟩,
 ⟨(.call true 94 [(.loc 0)]), none, none⟩,
 ⟨(.bin .add (.loc 3) (.loc 0)), none, none⟩,
 ⟨(.call false 92 [(.loc 9), (.loc 0)]), none, none⟩]
def c91 : CFun := ⟨2, 2, (.region [] [] c91_0), []⟩
theorem ok91 : CodeOk Tryd.prog T 91 c91 := ⟨⟨Tryd.f91, Hints.of [] [] [], [0, 1], Tryd.func91, by kernel_rfl, by kernel_rfl⟩⟩

def c92_0 : List CO := [⟨(.mov (.k (.int .i64 0))), (some 2), none⟩,
 ⟨(.mov (.k .nilIface)), (some 3), none⟩]
def c92_1 : List CO := [⟨(.mov (.var 0)), none, none⟩,
 ⟨(.call false 97 [(.loc 0)]), none, none⟩]
def c92_2 : List CO := [⟨(.mov (.var 0)), none, none⟩,
 ⟨(.mov (.var 0)), none, none⟩,
 ⟨(.nilchk (.loc 0)), none, none⟩,
 ⟨(.fa 1 (.loc 0)), none, none⟩,
 ⟨(.load false 1 (.loc 0)), none, none⟩,
 ⟨(.mov (.var 1)), none, none⟩,
 ⟨(.apps 5 1 (.loc 1) (.loc 0)), none, none⟩,
 ⟨(.nilchk (.loc 6)), none, none⟩,
 ⟨(.fa 1 (.loc 0)), none, none⟩,
 ⟨(.store 1 (.loc 0) (.loc 2)), none, none⟩]
def c92_3 : List CO := [⟨(.mov (.var 1)), none, none⟩,
 ⟨(.len .string (.loc 0)), none, none⟩,
 ⟨(.mov (.loc 0)), (some 2), none⟩,
 ⟨(.mov (.k .nilIface)), (some 3), none⟩]
def c92 : CFun := ⟨2, 4, (.seq (.region [] [] c92_0) (.seq (.region [] [] c92_1) (.seq (.region [] [] c92_2) (.seq (.region [] [] c92_3) .ret)))), [.var 2, .var 3]⟩
theorem ok92 : CodeOk Tryd.prog T 92 c92 := ⟨⟨Tryd.f92, Hints.of [] [] [], [0, 1, 4, 5], Tryd.func92, by kernel_rfl, by kernel_rfl⟩⟩

def c93_0 : List CO := [⟨(.mov (.k (.string ⟨#[]⟩))), (some 1), none⟩]
def c93_1 : List CO := [⟨(.mov (.var 0)), none, none⟩,
 ⟨(.call true 113 [(.loc 0)]), none, none⟩,
 ⟨(.un .not (.loc 0)), (some 4), none⟩]
def c93_2 : List CO := [⟨(.mov (.k (.string ⟨#[]⟩))), (some 1), none⟩]
def c93_3 : List CO := [⟨(.mov (.var 0)), none, none⟩,
 ⟨(.call true 114 [(.loc 0)]), (some 5), none⟩]
def c93_4 : List CO := [⟨(.mov (.var 0)), none, none⟩,
 ⟨(.mov (.loc 0)), (some 1), none⟩]
def c93_5 : List CO := [⟨(.box 103 (.k (.agg #[(.pointer none), (.slice none 0 0)]))), (some 2), none⟩]
def c93_6 : List CO := [⟨(.call false 67 [(.var 2), (.k (.int .u8 39))]), none, none⟩]
def c93_7 : List CO := [⟨(.mov (.var 0)), none, none⟩,
 ⟨(.range (.loc 0)), (some 6), none⟩]
def c93_8 : List CO := [⟨(.next (.var 6)), (some 7), none⟩,
 ⟨(.extract (.var 7) 0), (some 8), none⟩]
def c93_9 : List CO := [⟨(.extract (.var 7) 2), none, none⟩,
 ⟨(.mov (.loc 0)), (some 3), none⟩]
def c93_10 : List CO := [⟨(.mov (.var 3)), (some 9), none⟩]
def c93_11 : List CO := [⟨(.bin .eql (.var 9) (.k (.int .i32 39))), none, none⟩,
 ⟨(.mov (.loc 0)), (some 11), none⟩]
def c93_12 : List CO := [⟨(.bin .eql (.var 9) (.k (.int .i32 92))), none, none⟩,
 ⟨(.mov (.loc 0)), (some 11), none⟩]
def c93_13 : List CO := [⟨(.call false 67 [(.var 2), (.k (.int .u8 92))]), none, none⟩]
def c93_14 : List CO := [⟨(.mov (.var 3)), none, none⟩,
 ⟨(.call false 115 [(.var 2), (.loc 0)]), none, none⟩]
def c93_15 : List CO := [⟨(.bin .eql (.var 9) (.k (.int .i32 10))), none, none⟩,
 ⟨(.mov (.loc 0)), (some 12), none⟩]
def c93_16 : List CO := [⟨(.call false 92 [(.var 2), (.k (.string ⟨#[92, 110]⟩))]), none, none⟩]
def c93_17 : List CO := [⟨(.bin .eql (.var 9) (.k (.int .i32 9))), none, none⟩,
 ⟨(.mov (.loc 0)), (some 13), none⟩]
def c93_18 : List CO := [⟨(.call false 92 [(.var 2), (.k (.string ⟨#[92, 116]⟩))]), none, none⟩]
def c93_19 : List CO := [⟨(.mov (.var 3)), none, none⟩,
 ⟨(.bin .lss (.loc 0) (.k (.int .i32 32))), (some 10), none⟩]
def c93_20 : List CO := [⟨(.call false 92 [(.var 2), (.k (.string ⟨#[92, 120]⟩))]), none, none⟩]
def c93_21 : List CO := [⟨(.mov (.var 3)), none, none⟩,
 ⟨(.conv .i64 (.loc 0)), none, none⟩,
 ⟨(.call true 116 [(.loc 0), (.k (.int .i64 16))]), none, none⟩,
 ⟨(.call false 92 [(.var 2), (.loc 0)]), none, none⟩]
def c93_22 : List CO := [⟨(.call false 67 [(.var 2), (.k (.int .u8 92))]), none, none⟩]
def c93_23 : List CO := [⟨(.mov (.var 3)), none, none⟩,
 ⟨(.call false 115 [(.var 2), (.loc 0)]), none, none⟩]
def c93_24 : CC := (.seq (.region [] [] c93_8) (.seq (.cond (.var 8) .skip (.exit 0)) (.block 1 (.seq (.region [] [] c93_9) (.seq (.region [] [] c93_10) (.block 2 (.seq (.seq (.region [] [] c93_11) (.cond (.var 11) .skip (.region [] [] c93_12))) (.cond (.var 11) (.seq (.region [] [] c93_13) (.region [] [] c93_14)) (.seq (.region [] [] c93_15) (.cond (.var 12) (.region [] [] c93_16) (.seq (.region [] [] c93_17) (.cond (.var 13) (.region [] [] c93_18) (.seq (.seq (.region [] [] c93_19) (.cond (.var 10) (.seq (.region [] [] c93_20) (.seq (.region [] [] c93_21) (.seq (.region [] [] c93_22) (.exit 1)))) .skip)) (.region [] [] c93_23))))))))))))))
def c93_25 : List CO := [⟨(.call false 67 [(.var 2), (.k (.int .u8 39))]), none, none⟩]
def c93_26 : List CO := [⟨(.call false 68 [(.var 2)]), none, none⟩,
 ⟨(.mov (.loc 0)), (some 1), none⟩]
def c93 : CFun := ⟨1, 14, (.seq (.region [] [] c93_0) (.seq (.seq (.region [] [] c93_1) (.cond (.var 4) (.seq (.region [] [] c93_2) .ret) .skip)) (.seq (.seq (.region [] [] c93_3) (.cond (.var 5) (.seq (.region [] [] c93_4) .ret) .skip)) (.seq (.region [] [] c93_5) (.seq (.region [.ap 2 1 5 1] [] c93_6) (.seq (.seq (.region [] [] c93_7) (.block 0 (.loop [false, false, true, false, false, false, true, false, false, false, false, false, false, false] [] c93_24))) (.seq (.region [] [] c93_25) (.seq (.region [] [] c93_26) .ret)))))))), [.var 1]⟩
theorem ok93 : CodeOk Tryd.prog T 93 c93 := ⟨⟨Tryd.f93, Hints.of [(6, [.ap 2 1 5 1])] [] [(0, [false, false, true, false, false, false, true, false, false, false, false, false, false, false], [])], [0, 2, 3, 5, 8, 10, 14, 15, 16, 18, 20, 29, 35, 38], Tryd.func93, by kernel_rfl, by kernel_rfl⟩⟩

def c94_0 : List CO := [⟨(.mov (.k (.string ⟨#[]⟩))), (some 1), none⟩]
def c94_1 : List CO := [⟨(.box 163 (.k (.agg #[(.int .u8 0), (.int .u8 0), (.int .u8 0), (.int .u8 0), (.int .u8 0), (.int .u8 0), (.int .u8 0), (.int .u8 0), (.int .u8 0), (.int .u8 0), (.int .u8 0), (.int .u8 0), (.int .u8 0), (.int .u8 0), (.int .u8 0), (.int .u8 0), (.int .u8 0), (.int .u8 0), (.int .u8 0), (.int .u8 0)]))), (some 2), none⟩]
def c94_2 : List CO := [⟨(.mov (.k (.int .i64 20))), (some 3), none⟩]
def c94_3 : List CO := [⟨(.mov (.var 0)), none, none⟩,
 ⟨(.call true 117 [(.loc 0)]), none, none⟩,
 ⟨(.mov (.loc 0)), (some 4), none⟩]
def c94_4 : List CO := [⟨(.mov (.var 3)), none, none⟩,
 ⟨(.bin .sub (.loc 0) (.k (.int .i64 1))), none, none⟩,
 ⟨(.mov (.loc 0)), (some 3), none⟩]
def c94_5 : List CO := [⟨(.mov (.var 3)), none, none⟩,
 ⟨(.mov (.var 4)), none, none⟩,
 ⟨(.bin .rem (.loc 0) (.k (.int .u64 10))), none, none⟩,
 ⟨(.bin .add (.k (.int .u64 48)) (.loc 0)), none, none⟩,
 ⟨(.conv .u8 (.loc 0)), none, none⟩,
 ⟨(.iaa 20 1 (.var 2) (.loc 4)), none, none⟩,
 ⟨(.store 1 (.loc 0) (.loc 1)), none, none⟩]
def c94_6 : List CO := [⟨(.mov (.var 4)), none, none⟩,
 ⟨(.bin .lss (.loc 0) (.k (.int .u64 10))), (some 5), none⟩]
def c94_7 : List CO := [⟨(.mov (.var 4)), none, none⟩,
 ⟨(.bin .quo (.loc 0) (.k (.int .u64 10))), none, none⟩,
 ⟨(.mov (.loc 0)), (some 4), none⟩]
def c94_8 : CC := (.seq (.block 1 (.seq (.region [] [] c94_4) (.seq (.region [] [] c94_5) (.seq (.region [] [] c94_6) (.cond (.var 5) (.exit 0) .skip))))) (.region [] [] c94_7))
def c94_9 : List CO := [⟨(.mov (.var 0)), none, none⟩,
 ⟨(.bin .lss (.loc 0) (.k (.int .i64 0))), (some 6), none⟩]
def c94_10 : List CO := [⟨(.mov (.var 3)), none, none⟩,
 ⟨(.bin .sub (.loc 0) (.k (.int .i64 1))), none, none⟩,
 ⟨(.mov (.loc 0)), (some 3), none⟩]
def c94_11 : List CO := [⟨(.mov (.var 3)), none, none⟩,
 ⟨(.iaa 20 1 (.var 2) (.loc 0)), none, none⟩,
 ⟨(.store 1 (.loc 0) (.k (.int .u8 45))), none, none⟩]
def c94_12 : List CO := [⟨(.mov (.var 3)), none, none⟩,
 ⟨(.aslice 20 1 (.var 2) (some (.loc 0)) none), none, none⟩,
 ⟨(.bstr (.loc 0)), none, none⟩,
 ⟨(.mov (.loc 0)), (some 1), none⟩]
def c94 : CFun := ⟨1, 7, (.seq (.region [] [] c94_0) (.seq (.region [] [] c94_1) (.seq (.region [] [] c94_2) (.seq (.seq (.region [] [] c94_3) (.block 0 (.loop [true, false, true, true, true, false, false] [] c94_8))) (.seq (.seq (.region [] [] c94_9) (.cond (.var 6) (.seq (.region [] [] c94_10) (.region [] [] c94_11)) .skip)) (.seq (.region [] [] c94_12) .ret)))))), [.var 1]⟩
theorem ok94 : CodeOk Tryd.prog T 94 c94 := ⟨⟨Tryd.f94, Hints.of [] [] [(0, [true, false, true, true, true, false, false], [])], [0, 2, 3, 4, 5, 19, 21], Tryd.func94, by kernel_rfl, by kernel_rfl⟩⟩

def c95_0 : List CO := [⟨(.box 141 (.k (.agg #[(.string ⟨#[]⟩), (.string ⟨#[]⟩), (.string ⟨#[]⟩), (.string ⟨#[]⟩), (.string ⟨#[]⟩)]))), (some 0), none⟩]
def c95_1 : List CO := [⟨(.build [(.string ⟨#[]⟩), (.string ⟨#[]⟩), (.string ⟨#[]⟩), (.string ⟨#[]⟩), (.string ⟨#[]⟩)] [(0, 1, (.k (.string ⟨#[118, 97, 114]⟩))), (1, 1, (.k (.string ⟨#[118, 97, 108]⟩))), (2, 1, (.k (.string ⟨#[97, 116, 111, 109]⟩))), (3, 1, (.k (.string ⟨#[105, 110, 116]⟩))), (4, 1, (.k (.string ⟨#[99, 111, 109, 112]⟩)))]), none, none⟩,
 ⟨(.store 5 (.var 0) (.loc 0)), none, none⟩]
def c95 : CFun := ⟨0, 1, (.seq (.region [] [] c95_0) (.seq (.region [] [] c95_1) .ret)), [.cell 0 true 5]⟩
theorem ok95 : CodeOk Tryd.prog T 95 c95 := ⟨⟨Tryd.f95, Hints.of [] [] [], [0], Tryd.func95, by kernel_rfl, by kernel_rfl⟩⟩

def c96_0 : List CO := [⟨(.box 143 (.k (.agg #[(.string ⟨#[]⟩), (.string ⟨#[]⟩), (.string ⟨#[]⟩), (.string ⟨#[]⟩)]))), (some 0), none⟩]
def c96_1 : List CO := [⟨(.build [(.string ⟨#[]⟩), (.string ⟨#[]⟩), (.string ⟨#[]⟩), (.string ⟨#[]⟩)] [(0, 1, (.k (.string ⟨#[103, 101, 116]⟩))), (1, 1, (.k (.string ⟨#[117, 110, 105]⟩))), (2, 1, (.k (.string ⟨#[112, 117, 116]⟩))), (3, 1, (.k (.string ⟨#[115, 101, 116]⟩)))]), none, none⟩,
 ⟨(.store 4 (.var 0) (.loc 0)), none, none⟩]
def c96 : CFun := ⟨0, 1, (.seq (.region [] [] c96_0) (.seq (.region [] [] c96_1) .ret)), [.cell 0 true 4]⟩
theorem ok96 : CodeOk Tryd.prog T 96 c96 := ⟨⟨Tryd.f96, Hints.of [] [] [], [0], Tryd.func96, by kernel_rfl, by kernel_rfl⟩⟩

def c112_0 : List CO := [⟨(.mov (.k (.int .i64 0))), (some 1), none⟩]
def c112_1 : List CO := [⟨(.mov (.var 0)), none, none⟩,
 ⟨(.nilchk (.loc 0)), none, none⟩,
 ⟨(.fa 2 (.loc 0)), none, none⟩,
 ⟨(.load false 1 (.loc 0)), none, none⟩,
 ⟨(.bin .add (.loc 0) (.k (.int .i64 1))), none, none⟩,
 ⟨(.nilchk (.loc 4)), none, none⟩,
 ⟨(.fa 2 (.loc 0)), none, none⟩,
 ⟨(.store 1 (.loc 0) (.loc 2)), none, none⟩]
def c112_2 : List CO := [⟨(.mov (.var 0)), none, none⟩,
 ⟨(.nilchk (.loc 0)), none, none⟩,
 ⟨(.fa 2 (.loc 0)), none, none⟩,
 ⟨(.load false 1 (.loc 0)), none, none⟩,
 ⟨(.bin .sub (.loc 0) (.k (.int .i64 1))), none, none⟩,
 ⟨(.mov (.loc 0)), (some 1), none⟩]
def c112 : CFun := ⟨1, 2, (.seq (.region [] [] c112_0) (.seq (.region [] [] c112_1) (.seq (.region [] [] c112_2) .ret))), [.var 1]⟩
theorem ok112 : CodeOk Tryd.prog T 112 c112 := ⟨⟨Tryd.f112, Hints.of [] [] [], [0, 2], Tryd.func112, by kernel_rfl, by kernel_rfl⟩⟩

def c113_0 : List CO := [⟨(.mov (.k (.bool false))), (some 1), none⟩]
def c113_1 : List CO := [⟨(.mov (.var 0)), none, none⟩,
 ⟨(.len .string (.loc 0)), none, none⟩,
 ⟨(.bin .leq (.loc 0) (.k (.int .i64 255))), none, none⟩,
 ⟨(.mov (.loc 0)), none, none⟩,
 ⟨(.mov (.var 0)), none, (some ((.loc 0), true))⟩,
 ⟨(.call true 101 [(.loc 0)]), none, (some ((.loc 1), true))⟩,
 ⟨(.pick (.loc 2) (.loc 0) (.k (.bool false))), none, none⟩,
 ⟨(.mov (.loc 0)), (some 1), none⟩]
def c113 : CFun := ⟨1, 2, (.seq (.region [] [] c113_0) (.seq (.region [] [] c113_1) .ret)), [.var 1]⟩
theorem ok113 : CodeOk Tryd.prog T 113 c113 := ⟨⟨Tryd.f113, Hints.of [] [] [], [0, 2], Tryd.func113, by kernel_rfl, by kernel_rfl⟩⟩

def c114_0 : List CO := [⟨(.mov (.k (.bool false))), (some 1), none⟩]
def c114_1 : List CO := [⟨(.mov (.var 0)), (some 6), none⟩]
def c114_2 : List CO := [⟨(.bin .eql (.var 6) (.k (.string ⟨#[91, 93]⟩))), none, none⟩,
 ⟨(.mov (.loc 0)), (some 7), none⟩]
def c114_3 : List CO := [⟨(.bin .eql (.var 6) (.k (.string ⟨#[123, 125]⟩))), none, none⟩,
 ⟨(.mov (.loc 0)), (some 7), none⟩]
def c114_4 : List CO := [⟨(.bin .eql (.var 6) (.k (.string ⟨#[33]⟩))), none, none⟩,
 ⟨(.mov (.loc 0)), (some 7), none⟩]
def c114_5 : List CO := [⟨(.bin .eql (.var 6) (.k (.string ⟨#[59]⟩))), none, none⟩,
 ⟨(.mov (.loc 0)), (some 7), none⟩]
def c114_6 : List CO := [⟨(.mov (.k (.bool true))), (some 1), none⟩]
def c114_7 : List CO := [⟨(.bin .eql (.var 6) (.k (.string ⟨#[]⟩))), none, none⟩,
 ⟨(.mov (.loc 0)), (some 8), none⟩]
def c114_8 : List CO := [⟨(.bin .eql (.var 6) (.k (.string ⟨#[46]⟩))), none, none⟩,
 ⟨(.mov (.loc 0)), (some 8), none⟩]
def c114_9 : List CO := [⟨(.mov (.k (.bool false))), (some 1), none⟩]
def c114_10 : List CO := [⟨(.mov (.var 0)), none, none⟩,
 ⟨(.call true 130 [(.loc 0), (.k (.string ⟨#[47, 42]⟩))]), (some 9), none⟩]
def c114_11 : List CO := [⟨(.mov (.k (.bool false))), (some 1), none⟩]
def c114_12 : List CO := [⟨(.mov (.k (.int .i64 0))), (some 2), none⟩]
def c114_13 : List CO := [⟨(.mov (.var 0)), none, none⟩,
 ⟨(.range (.loc 0)), (some 10), none⟩]
def c114_14 : List CO := [⟨(.next (.var 10)), (some 11), none⟩,
 ⟨(.extract (.var 11) 0), (some 12), none⟩]
def c114_15 : List CO := [⟨(.extract (.var 11) 1), none, none⟩,
 ⟨(.extract (.var 11) 2), none, none⟩,
 ⟨(.mov (.loc 1)), (some 3), none⟩,
 ⟨(.mov (.loc 1)), (some 4), none⟩]
def c114_16 : List CO := [⟨(.mov (.var 4)), none, none⟩,
 ⟨(.call true 131 [(.loc 0)]), none, none⟩,
 ⟨(.mov (.loc 0)), (some 5), none⟩]
def c114_17 : List CO := [⟨(.mov (.var 3)), none, none⟩,
 ⟨(.bin .eql (.loc 0) (.k (.int .i64 0))), (some 13), none⟩]
def c114_18 : List CO := [⟨(.mov (.var 5)), none, none⟩,
 ⟨(.mov (.loc 0)), (some 2), none⟩]
def c114_19 : List CO := [⟨(.mov (.var 2)), (some 14), none⟩]
def c114_20 : List CO := [⟨(.bin .eql (.var 14) (.k (.int .i64 1))), none, none⟩,
 ⟨(.mov (.loc 0)), (some 15), none⟩]
def c114_21 : List CO := [⟨(.mov (.var 5)), none, none⟩,
 ⟨(.bin .lss (.loc 0) (.k (.int .i64 1))), none, none⟩,
 ⟨(.mov (.loc 0)), none, none⟩,
 ⟨(.mov (.var 5)), none, (some ((.loc 0), false))⟩,
 ⟨(.bin .gtr (.loc 0) (.k (.int .i64 3))), none, (some ((.loc 1), false))⟩,
 ⟨(.pick (.loc 2) (.k (.bool true)) (.loc 0)), (some 16), none⟩]
def c114_22 : List CO := [⟨(.mov (.k (.bool false))), (some 1), none⟩]
def c114_23 : List CO := [⟨(.bin .eql (.var 14) (.k (.int .i64 4))), none, none⟩,
 ⟨(.mov (.loc 0)), (some 17), none⟩]
def c114_24 : List CO := [⟨(.mov (.var 5)), none, none⟩,
 ⟨(.bin .neq (.loc 0) (.k (.int .i64 4))), (some 18), none⟩]
def c114_25 : List CO := [⟨(.mov (.k (.bool false))), (some 1), none⟩]
def c114_26 : List CO := [⟨(.mov (.k (.bool false))), (some 1), none⟩]
def c114_27 : CC := (.seq (.region [] [] c114_14) (.seq (.cond (.var 12) .skip (.exit 1)) (.block 2 (.seq (.region [] [] c114_15) (.seq (.region [] [] c114_16) (.seq (.seq (.region [] [] c114_17) (.cond (.var 13) (.region [] [] c114_18) .skip)) (.seq (.region [] [] c114_19) (.block 3 (.seq (.region [] [] c114_20) (.cond (.var 15) (.seq (.region [] [] c114_21) (.cond (.var 16) (.seq (.region [] [] c114_22) .ret) .skip)) (.seq (.region [] [] c114_23) (.cond (.var 17) (.seq (.region [] [] c114_24) (.cond (.var 18) (.seq (.region [] [] c114_25) .ret) .skip)) (.seq (.region [] [] c114_26) .ret)))))))))))))
def c114_28 : List CO := [⟨(.mov (.var 0)), none, none⟩,
 ⟨(.len .string (.loc 0)), none, none⟩,
 ⟨(.bin .leq (.loc 0) (.k (.int .i64 255))), none, none⟩,
 ⟨(.mov (.loc 0)), (some 1), none⟩]
def c114 : CFun := ⟨1, 19, (.seq (.region [] [] c114_0) (.seq (.seq (.region [] [] c114_1) (.block 0 (.seq (.seq (.region [] [] c114_2) (.cond (.var 7) .skip (.seq (.region [] [] c114_3) (.cond (.var 7) .skip (.seq (.region [] [] c114_4) (.cond (.var 7) .skip (.region [] [] c114_5))))))) (.cond (.var 7) (.seq (.region [] [] c114_6) .ret) (.seq (.seq (.region [] [] c114_7) (.cond (.var 8) .skip (.region [] [] c114_8))) (.cond (.var 8) (.seq (.region [] [] c114_9) .ret) .skip)))))) (.seq (.seq (.region [] [] c114_10) (.cond (.var 9) (.seq (.region [] [] c114_11) .ret) .skip)) (.seq (.region [] [] c114_12) (.seq (.seq (.region [] [] c114_13) (.block 1 (.loop [true, false, true, false, false, false, false, false, false, false, true, false, false, false, false, false, false, false, false] [] c114_27))) (.seq (.region [] [] c114_28) .ret)))))), [.var 1]⟩
theorem ok114 : CodeOk Tryd.prog T 114 c114 := ⟨⟨Tryd.f114, Hints.of [] [] [(1, [true, false, true, false, false, false, false, false, false, false, true, false, false, false, false, false, false, false, false], [])], [0, 2, 3, 4, 5, 6, 7, 8, 13, 17, 19, 20, 21, 27, 29, 30, 37, 38, 41], Tryd.func114, by kernel_rfl, by kernel_rfl⟩⟩

def c115_0 : List CO := [⟨(.mov (.k (.int .i64 0))), (some 2), none⟩,
 ⟨(.mov (.k .nilIface)), (some 3), none⟩]
def c115_1 : List CO := [⟨(.mov (.var 0)), none, none⟩,
 ⟨(.call false 97 [(.loc 0)]), none, none⟩]
def c115_2 : List CO := [⟨(.mov (.var 0)), none, none⟩,
 ⟨(.nilchk (.loc 0)), none, none⟩,
 ⟨(.fa 1 (.loc 0)), none, none⟩,
 ⟨(.load false 1 (.loc 0)), none, none⟩,
 ⟨(.len .slice (.loc 0)), none, none⟩,
 ⟨(.mov (.loc 0)), (some 4), none⟩]
def c115_3 : List CO := [⟨(.mov (.var 0)), none, none⟩,
 ⟨(.mov (.var 0)), none, none⟩,
 ⟨(.nilchk (.loc 0)), none, none⟩,
 ⟨(.fa 1 (.loc 0)), none, none⟩,
 ⟨(.load false 1 (.loc 0)), none, none⟩,
 ⟨(.mov (.var 1)), none, none⟩,
 ⟨(.call false 132 [(.loc 1), (.loc 0)]), none, none⟩,
 ⟨(.nilchk (.loc 6)), none, none⟩,
 ⟨(.fa 1 (.loc 0)), none, none⟩,
 ⟨(.store 1 (.loc 0) (.loc 2)), none, none⟩]
def c115_4 : List CO := [⟨(.mov (.var 0)), none, none⟩,
 ⟨(.nilchk (.loc 0)), none, none⟩,
 ⟨(.fa 1 (.loc 0)), none, none⟩,
 ⟨(.load false 1 (.loc 0)), none, none⟩,
 ⟨(.len .slice (.loc 0)), none, none⟩,
 ⟨(.mov (.var 4)), none, none⟩,
 ⟨(.bin .sub (.loc 1) (.loc 0)), none, none⟩,
 ⟨(.mov (.loc 0)), (some 2), none⟩,
 ⟨(.mov (.k .nilIface)), (some 3), none⟩]
def c115 : CFun := ⟨2, 5, (.seq (.region [] [] c115_0) (.seq (.region [] [] c115_1) (.seq (.region [] [] c115_2) (.seq (.region [] [] c115_3) (.seq (.region [] [] c115_4) .ret))))), [.var 2, .var 3]⟩
theorem ok115 : CodeOk Tryd.prog T 115 c115 := ⟨⟨Tryd.f115, Hints.of [] [] [], [0, 1, 4, 5, 6], Tryd.func115, by kernel_rfl, by kernel_rfl⟩⟩

def c116_0 : List CO := [⟨(.mov (.k (.string ⟨#[]⟩))), (some 2), none⟩]
def c116_1 : List CO := [⟨(.mov (.var 0)), none, none⟩,
 ⟨(.mov (.var 1)), none, none⟩,
 ⟨(.call true 133 [(.loc 1), (.loc 0)]), none, none⟩,
 ⟨(.mov (.loc 0)), (some 2), none⟩]
def c116 : CFun := ⟨2, 3, (.seq (.region [] [] c116_0) (.seq (.region [] [] c116_1) .ret)), [.var 2]⟩
theorem ok116 : CodeOk Tryd.prog T 116 c116 := ⟨⟨Tryd.f116, Hints.of [] [] [], [0, 1, 4], Tryd.func116, by kernel_rfl, by kernel_rfl⟩⟩

def c117_0 : List CO := [⟨(.mov (.k (.int .u64 0))), (some 1), none⟩]
def c117_1 : List CO := [⟨(.mov (.var 0)), none, none⟩,
 ⟨(.bin .lss (.loc 0) (.k (.int .i64 0))), (some 2), none⟩]
def c117_2 : List CO := [⟨(.mov (.var 0)), none, none⟩,
 ⟨(.conv .u64 (.loc 0)), none, none⟩,
 ⟨(.un .neg (.loc 0)), none, none⟩,
 ⟨(.mov (.loc 0)), (some 1), none⟩]
def c117_3 : List CO := [⟨(.mov (.var 0)), none, none⟩,
 ⟨(.conv .u64 (.loc 0)), none, none⟩,
 ⟨(.mov (.loc 0)), (some 1), none⟩]
def c117 : CFun := ⟨1, 3, (.seq (.region [] [] c117_0) (.seq (.seq (.region [] [] c117_1) (.cond (.var 2) (.seq (.region [] [] c117_2) .ret) .skip)) (.seq (.region [] [] c117_3) .ret))), [.var 1]⟩
theorem ok117 : CodeOk Tryd.prog T 117 c117 := ⟨⟨Tryd.f117, Hints.of [] [] [], [0, 2, 4], Tryd.func117, by kernel_rfl, by kernel_rfl⟩⟩

def c130_0 : List CO := [⟨(.mov (.k (.bool false))), (some 2), none⟩]
def c130_1 : List CO := [⟨(.mov (.var 0)), none, none⟩,
 ⟨(.mov (.var 1)), none, none⟩,
 ⟨(.call true 137 [(.loc 1), (.loc 0)]), none, none⟩,
 ⟨(.mov (.loc 0)), (some 2), none⟩]
def c130 : CFun := ⟨2, 3, (.seq (.region [] [] c130_0) (.seq (.region [] [] c130_1) .ret)), [.var 2]⟩
theorem ok130 : CodeOk Tryd.prog T 130 c130 := ⟨⟨Tryd.f130, Hints.of [] [] [], [0, 1, 4], Tryd.func130, by kernel_rfl, by kernel_rfl⟩⟩

def c131_0 : List CO := [⟨(.mov (.k (.int .i64 0))), (some 1), none⟩]
def c131_1 : List CO := [⟨(.mov (.var 0)), (some 2), none⟩]
def c131_2 : List CO := [⟨(.bin .eql (.var 2) (.k (.int .i32 43))), none, none⟩,
 ⟨(.mov (.loc 0)), (some 3), none⟩]
def c131_3 : List CO := [⟨(.bin .eql (.var 2) (.k (.int .i32 45))), none, none⟩,
 ⟨(.mov (.loc 0)), (some 3), none⟩]
def c131_4 : List CO := [⟨(.bin .eql (.var 2) (.k (.int .i32 42))), none, none⟩,
 ⟨(.mov (.loc 0)), (some 3), none⟩]
def c131_5 : List CO := [⟨(.bin .eql (.var 2) (.k (.int .i32 47))), none, none⟩,
 ⟨(.mov (.loc 0)), (some 3), none⟩]
def c131_6 : List CO := [⟨(.bin .eql (.var 2) (.k (.int .i32 92))), none, none⟩,
 ⟨(.mov (.loc 0)), (some 3), none⟩]
def c131_7 : List CO := [⟨(.bin .eql (.var 2) (.k (.int .i32 94))), none, none⟩,
 ⟨(.mov (.loc 0)), (some 3), none⟩]
def c131_8 : List CO := [⟨(.bin .eql (.var 2) (.k (.int .i32 60))), none, none⟩,
 ⟨(.mov (.loc 0)), (some 3), none⟩]
def c131_9 : List CO := [⟨(.bin .eql (.var 2) (.k (.int .i32 62))), none, none⟩,
 ⟨(.mov (.loc 0)), (some 3), none⟩]
def c131_10 : List CO := [⟨(.bin .eql (.var 2) (.k (.int .i32 61))), none, none⟩,
 ⟨(.mov (.loc 0)), (some 3), none⟩]
def c131_11 : List CO := [⟨(.bin .eql (.var 2) (.k (.int .i32 126))), none, none⟩,
 ⟨(.mov (.loc 0)), (some 3), none⟩]
def c131_12 : List CO := [⟨(.bin .eql (.var 2) (.k (.int .i32 58))), none, none⟩,
 ⟨(.mov (.loc 0)), (some 3), none⟩]
def c131_13 : List CO := [⟨(.bin .eql (.var 2) (.k (.int .i32 46))), none, none⟩,
 ⟨(.mov (.loc 0)), (some 3), none⟩]
def c131_14 : List CO := [⟨(.bin .eql (.var 2) (.k (.int .i32 63))), none, none⟩,
 ⟨(.mov (.loc 0)), (some 3), none⟩]
def c131_15 : List CO := [⟨(.bin .eql (.var 2) (.k (.int .i32 64))), none, none⟩,
 ⟨(.mov (.loc 0)), (some 3), none⟩]
def c131_16 : List CO := [⟨(.bin .eql (.var 2) (.k (.int .i32 35))), none, none⟩,
 ⟨(.mov (.loc 0)), (some 3), none⟩]
def c131_17 : List CO := [⟨(.bin .eql (.var 2) (.k (.int .i32 38))), none, none⟩,
 ⟨(.mov (.loc 0)), (some 3), none⟩]
def c131_18 : List CO := [⟨(.bin .eql (.var 2) (.k (.int .i32 36))), none, none⟩,
 ⟨(.mov (.loc 0)), (some 3), none⟩]
def c131_19 : List CO := [⟨(.mov (.k (.int .i64 4))), (some 1), none⟩]
def c131_20 : List CO := [⟨(.bin .eql (.var 2) (.k (.int .i32 9))), none, none⟩,
 ⟨(.mov (.loc 0)), (some 4), none⟩]
def c131_21 : List CO := [⟨(.bin .eql (.var 2) (.k (.int .i32 10))), none, none⟩,
 ⟨(.mov (.loc 0)), (some 4), none⟩]
def c131_22 : List CO := [⟨(.bin .eql (.var 2) (.k (.int .i32 13))), none, none⟩,
 ⟨(.mov (.loc 0)), (some 4), none⟩]
def c131_23 : List CO := [⟨(.bin .eql (.var 2) (.k (.int .i32 32))), none, none⟩,
 ⟨(.mov (.loc 0)), (some 4), none⟩]
def c131_24 : List CO := [⟨(.mov (.k (.int .i64 5))), (some 1), none⟩]
def c131_25 : List CO := [⟨(.bin .eql (.var 2) (.k (.int .i32 33))), none, none⟩,
 ⟨(.mov (.loc 0)), (some 5), none⟩]
def c131_26 : List CO := [⟨(.bin .eql (.var 2) (.k (.int .i32 59))), none, none⟩,
 ⟨(.mov (.loc 0)), (some 5), none⟩]
def c131_27 : List CO := [⟨(.bin .eql (.var 2) (.k (.int .i32 44))), none, none⟩,
 ⟨(.mov (.loc 0)), (some 5), none⟩]
def c131_28 : List CO := [⟨(.bin .eql (.var 2) (.k (.int .i32 124))), none, none⟩,
 ⟨(.mov (.loc 0)), (some 5), none⟩]
def c131_29 : List CO := [⟨(.mov (.k (.int .i64 6))), (some 1), none⟩]
def c131_30 : List CO := [⟨(.bin .eql (.var 2) (.k (.int .i32 40))), none, none⟩,
 ⟨(.mov (.loc 0)), (some 6), none⟩]
def c131_31 : List CO := [⟨(.bin .eql (.var 2) (.k (.int .i32 41))), none, none⟩,
 ⟨(.mov (.loc 0)), (some 6), none⟩]
def c131_32 : List CO := [⟨(.bin .eql (.var 2) (.k (.int .i32 91))), none, none⟩,
 ⟨(.mov (.loc 0)), (some 6), none⟩]
def c131_33 : List CO := [⟨(.bin .eql (.var 2) (.k (.int .i32 93))), none, none⟩,
 ⟨(.mov (.loc 0)), (some 6), none⟩]
def c131_34 : List CO := [⟨(.bin .eql (.var 2) (.k (.int .i32 123))), none, none⟩,
 ⟨(.mov (.loc 0)), (some 6), none⟩]
def c131_35 : List CO := [⟨(.bin .eql (.var 2) (.k (.int .i32 125))), none, none⟩,
 ⟨(.mov (.loc 0)), (some 6), none⟩]
def c131_36 : List CO := [⟨(.mov (.k (.int .i64 7))), (some 1), none⟩]
def c131_37 : List CO := [⟨(.bin .eql (.var 2) (.k (.int .i32 39))), none, none⟩,
 ⟨(.mov (.loc 0)), (some 7), none⟩]
def c131_38 : List CO := [⟨(.mov (.k (.int .i64 8))), (some 1), none⟩]
def c131_39 : List CO := [⟨(.bin .eql (.var 2) (.k (.int .i32 95))), none, none⟩,
 ⟨(.mov (.loc 0)), (some 8), none⟩]
def c131_40 : List CO := [⟨(.mov (.k (.int .i64 2))), (some 1), none⟩]
def c131_41 : List CO := [⟨(.mov (.var 0)), none, none⟩,
 ⟨(.bin .leq (.k (.int .i32 97)) (.loc 0)), none, none⟩,
 ⟨(.mov (.loc 0)), none, none⟩,
 ⟨(.mov (.var 0)), none, (some ((.loc 0), true))⟩,
 ⟨(.bin .leq (.loc 0) (.k (.int .i32 122))), none, (some ((.loc 1), true))⟩,
 ⟨(.pick (.loc 2) (.loc 0) (.k (.bool false))), none, none⟩,
 ⟨(.mov (.loc 0)), (some 9), none⟩]
def c131_42 : List CO := [⟨(.mov (.k (.int .i64 1))), (some 1), none⟩]
def c131_43 : List CO := [⟨(.mov (.var 0)), none, none⟩,
 ⟨(.bin .leq (.k (.int .i32 65)) (.loc 0)), none, none⟩,
 ⟨(.mov (.loc 0)), none, none⟩,
 ⟨(.mov (.var 0)), none, (some ((.loc 0), true))⟩,
 ⟨(.bin .leq (.loc 0) (.k (.int .i32 90))), none, (some ((.loc 1), true))⟩,
 ⟨(.pick (.loc 2) (.loc 0) (.k (.bool false))), none, none⟩,
 ⟨(.mov (.loc 0)), (some 10), none⟩]
def c131_44 : List CO := [⟨(.mov (.k (.int .i64 2))), (some 1), none⟩]
def c131_45 : List CO := [⟨(.mov (.var 0)), none, none⟩,
 ⟨(.bin .leq (.k (.int .i32 48)) (.loc 0)), none, none⟩,
 ⟨(.mov (.loc 0)), none, none⟩,
 ⟨(.mov (.var 0)), none, (some ((.loc 0), true))⟩,
 ⟨(.bin .leq (.loc 0) (.k (.int .i32 57))), none, (some ((.loc 1), true))⟩,
 ⟨(.pick (.loc 2) (.loc 0) (.k (.bool false))), none, none⟩,
 ⟨(.mov (.loc 0)), (some 11), none⟩]
def c131_46 : List CO := [⟨(.mov (.k (.int .i64 3))), (some 1), none⟩]
def c131_47 : List CO := [⟨(.mov (.k (.int .i64 0))), (some 1), none⟩]
def c131 : CFun := ⟨1, 12, (.seq (.region [] [] c131_0) (.seq (.seq (.region [] [] c131_1) (.block 0 (.seq (.seq (.region [] [] c131_2) (.cond (.var 3) .skip (.seq (.region [] [] c131_3) (.cond (.var 3) .skip (.seq (.region [] [] c131_4) (.cond (.var 3) .skip (.seq (.region [] [] c131_5) (.cond (.var 3) .skip (.seq (.region [] [] c131_6) (.cond (.var 3) .skip (.seq (.region [] [] c131_7) (.cond (.var 3) .skip (.seq (.region [] [] c131_8) (.cond (.var 3) .skip (.seq (.region [] [] c131_9) (.cond (.var 3) .skip (.seq (.region [] [] c131_10) (.cond (.var 3) .skip (.seq (.region [] [] c131_11) (.cond (.var 3) .skip (.seq (.region [] [] c131_12) (.cond (.var 3) .skip (.seq (.region [] [] c131_13) (.cond (.var 3) .skip (.seq (.region [] [] c131_14) (.cond (.var 3) .skip (.seq (.region [] [] c131_15) (.cond (.var 3) .skip (.seq (.region [] [] c131_16) (.cond (.var 3) .skip (.seq (.region [] [] c131_17) (.cond (.var 3) .skip (.region [] [] c131_18))))))))))))))))))))))))))))))))) (.cond (.var 3) (.seq (.region [] [] c131_19) .ret) (.seq (.seq (.region [] [] c131_20) (.cond (.var 4) .skip (.seq (.region [] [] c131_21) (.cond (.var 4) .skip (.seq (.region [] [] c131_22) (.cond (.var 4) .skip (.region [] [] c131_23))))))) (.cond (.var 4) (.seq (.region [] [] c131_24) .ret) (.seq (.seq (.region [] [] c131_25) (.cond (.var 5) .skip (.seq (.region [] [] c131_26) (.cond (.var 5) .skip (.seq (.region [] [] c131_27) (.cond (.var 5) .skip (.region [] [] c131_28))))))) (.cond (.var 5) (.seq (.region [] [] c131_29) .ret) (.seq (.seq (.region [] [] c131_30) (.cond (.var 6) .skip (.seq (.region [] [] c131_31) (.cond (.var 6) .skip (.seq (.region [] [] c131_32) (.cond (.var 6) .skip (.seq (.region [] [] c131_33) (.cond (.var 6) .skip (.seq (.region [] [] c131_34) (.cond (.var 6) .skip (.region [] [] c131_35))))))))))) (.cond (.var 6) (.seq (.region [] [] c131_36) .ret) (.seq (.region [] [] c131_37) (.cond (.var 7) (.seq (.region [] [] c131_38) .ret) (.seq (.region [] [] c131_39) (.cond (.var 8) (.seq (.region [] [] c131_40) .ret) .skip)))))))))))))) (.seq (.block 1 (.seq (.region [] [] c131_41) (.cond (.var 9) (.seq (.region [] [] c131_42) .ret) (.seq (.region [] [] c131_43) (.cond (.var 10) (.seq (.region [] [] c131_44) .ret) (.seq (.region [] [] c131_45) (.cond (.var 11) (.seq (.region [] [] c131_46) .ret) .skip))))))) (.seq (.region [] [] c131_47) .ret)))), [.var 1]⟩
theorem ok131 : CodeOk Tryd.prog T 131 c131 := ⟨⟨Tryd.f131, Hints.of [] [] [], [0, 2, 3, 4, 22, 27, 32, 39, 41, 43, 50, 57], Tryd.func131, by kernel_rfl, by kernel_rfl⟩⟩

def c132_0 : List CO := [⟨(.mov (.k (.slice none 0 0))), (some 2), none⟩]
def c132_1 : List CO := [⟨(.mov (.var 1)), none, none⟩,
 ⟨(.conv .u32 (.loc 0)), none, none⟩,
 ⟨(.bin .leq (.loc 0) (.k (.int .u32 127))), (some 3), none⟩]
def c132_2 : List CO := [⟨(.mov (.var 0)), none, none⟩,
 ⟨(.mov (.var 1)), none, none⟩,
 ⟨(.conv .u8 (.loc 0)), none, none⟩,
 ⟨(.bslice 1 [(.int .u8 0)] 1 [(0, (.loc 0))]), none, none⟩,
 ⟨(.append 5 1 1 (.loc 3) (.loc 0)), none, none⟩,
 ⟨(.mov (.loc 0)), (some 2), none⟩]
def c132_3 : List CO := [⟨(.mov (.var 0)), none, none⟩,
 ⟨(.mov (.var 1)), none, none⟩,
 ⟨(.call false 138 [(.loc 1), (.loc 0)]), none, none⟩,
 ⟨(.mov (.loc 0)), (some 2), none⟩]
def c132 : CFun := ⟨2, 4, (.seq (.region [] [] c132_0) (.seq (.seq (.region [] [] c132_1) (.cond (.var 3) (.seq (.region [] [] c132_2) .ret) .skip)) (.seq (.region [] [] c132_3) .ret))), [.var 2]⟩
theorem ok132 : CodeOk Tryd.prog T 132 c132 := ⟨⟨Tryd.f132, Hints.of [] [] [], [0, 1, 4, 7], Tryd.func132, by kernel_rfl, by kernel_rfl⟩⟩

def c133_0 : List CO := [⟨(.mov (.k (.string ⟨#[]⟩))), (some 2), none⟩]
def c133_1 : List CO := [⟨(.mov (.var 1)), none, none⟩,
 ⟨(.bin .eql (.loc 0) (.k (.int .i64 10))), (some 7), none⟩]
def c133_2 : List CO := [⟨(.mov (.var 0)), none, none⟩,
 ⟨(.bin .leq (.k (.int .i64 0)) (.loc 0)), none, none⟩,
 ⟨(.mov (.loc 0)), none, none⟩,
 ⟨(.mov (.var 0)), none, (some ((.loc 0), true))⟩,
 ⟨(.bin .lss (.loc 0) (.k (.int .i64 100))), none, (some ((.loc 1), true))⟩,
 ⟨(.pick (.loc 2) (.loc 0) (.k (.bool false))), (some 8), none⟩]
def c133_3 : List CO := [⟨(.mov (.var 0)), none, none⟩,
 ⟨(.call true 139 [(.loc 0)]), none, none⟩,
 ⟨(.mov (.loc 0)), (some 2), none⟩]
def c133_4 : List CO := [⟨(.box 191 (.k (.agg #[(.int .u8 0), (.int .u8 0), (.int .u8 0), (.int .u8 0), (.int .u8 0), (.int .u8 0), (.int .u8 0), (.int .u8 0), (.int .u8 0), (.int .u8 0), (.int .u8 0), (.int .u8 0), (.int .u8 0), (.int .u8 0), (.int .u8 0), (.int .u8 0), (.int .u8 0), (.int .u8 0), (.int .u8 0), (.int .u8 0), (.int .u8 0), (.int .u8 0), (.int .u8 0), (.int .u8 0)]))), (some 3), none⟩]
def c133_5 : List CO := [⟨(.mov (.var 0)), none, none⟩,
 ⟨(.conv .u64 (.loc 0)), none, none⟩,
 ⟨(.mov (.loc 0)), (some 4), none⟩]
def c133_6 : List CO := [⟨(.mov (.var 0)), none, none⟩,
 ⟨(.bin .lss (.loc 0) (.k (.int .i64 0))), (some 9), none⟩]
def c133_7 : List CO := [⟨(.mov (.var 4)), none, none⟩,
 ⟨(.un .neg (.loc 0)), none, none⟩,
 ⟨(.mov (.loc 0)), (some 4), none⟩]
def c133_8 : List CO := [⟨(.mov (.var 4)), none, none⟩,
 ⟨(.call true 140 [(.loc 0)]), none, none⟩,
 ⟨(.mov (.loc 0)), (some 5), none⟩]
def c133_9 : List CO := [⟨(.mov (.var 5)), none, none⟩,
 ⟨(.bin .add (.k (.int .i64 1)) (.loc 0)), none, none⟩,
 ⟨(.aslice 24 1 (.var 3) (some (.k (.int .i64 1))) (some (.loc 0))), none, none⟩,
 ⟨(.mov (.var 4)), none, none⟩,
 ⟨(.call true 141 [(.loc 1), (.loc 0)]), none, none⟩]
def c133_10 : List CO := [⟨(.mov (.var 0)), none, none⟩,
 ⟨(.bin .lss (.loc 0) (.k (.int .i64 0))), (some 10), none⟩]
def c133_11 : List CO := [⟨(.iaa 24 1 (.var 3) (.k (.int .i64 0))), none, none⟩,
 ⟨(.store 1 (.loc 0) (.k (.int .u8 45))), none, none⟩]
def c133_12 : List CO := [⟨(.mov (.var 5)), none, none⟩,
 ⟨(.bin .add (.k (.int .i64 1)) (.loc 0)), none, none⟩,
 ⟨(.aslice 24 1 (.var 3) none (some (.loc 0))), none, none⟩,
 ⟨(.bstr (.loc 0)), none, none⟩,
 ⟨(.mov (.loc 0)), (some 2), none⟩]
def c133_13 : List CO := [⟨(.mov (.var 5)), none, none⟩,
 ⟨(.bin .add (.k (.int .i64 1)) (.loc 0)), none, none⟩,
 ⟨(.aslice 24 1 (.var 3) (some (.k (.int .i64 1))) (some (.loc 0))), none, none⟩,
 ⟨(.bstr (.loc 0)), none, none⟩,
 ⟨(.mov (.loc 0)), (some 2), none⟩]
def c133_14 : List CO := [⟨(.mov (.var 0)), none, none⟩,
 ⟨(.conv .u64 (.loc 0)), none, none⟩,
 ⟨(.mov (.var 1)), none, none⟩,
 ⟨(.mov (.var 0)), none, none⟩,
 ⟨(.bin .lss (.loc 0) (.k (.int .i64 0))), none, none⟩,
 ⟨(.call true 142 [(.k (.slice none 0 0)), (.loc 3), (.loc 2), (.loc 0), (.k (.bool false))]), none, none⟩,
 ⟨(.mov (.loc 0)), none, none⟩,
 ⟨(.extract (.loc 0) 0), none, none⟩,
 ⟨(.extract (.loc 1) 1), none, none⟩,
 ⟨(.mov (.loc 1)), none, none⟩,
 ⟨(.mov (.loc 1)), (some 6), none⟩]
def c133_15 : List CO := [⟨(.mov (.var 6)), none, none⟩,
 ⟨(.mov (.loc 0)), (some 2), none⟩]
def c133 : CFun := ⟨2, 11, (.seq (.region [] [] c133_0) (.seq (.seq (.region [] [] c133_1) (.cond (.var 7) (.seq (.seq (.region [] [] c133_2) (.cond (.var 8) (.seq (.region [] [] c133_3) .ret) .skip)) (.seq (.region [] [] c133_4) (.seq (.region [] [] c133_5) (.seq (.seq (.region [] [] c133_6) (.cond (.var 9) (.region [] [] c133_7) .skip)) (.seq (.region [] [] c133_8) (.seq (.region [] [] c133_9) (.seq (.seq (.region [] [] c133_10) (.cond (.var 10) (.seq (.region [] [] c133_11) (.seq (.region [] [] c133_12) .ret)) .skip)) (.seq (.region [] [] c133_13) .ret)))))))) .skip)) (.seq (.region [] [] c133_14) (.seq (.region [] [] c133_15) .ret)))), [.var 2]⟩
theorem ok133 : CodeOk Tryd.prog T 133 c133 := ⟨⟨Tryd.f133, Hints.of [] [] [], [0, 1, 4, 5, 6, 7, 9, 11, 17, 23, 34], Tryd.func133, by kernel_rfl, by kernel_rfl⟩⟩

def c137_0 : List CO := [⟨(.mov (.k (.bool false))), (some 2), none⟩]
def c137_1 : List CO := [⟨(.mov (.var 0)), none, none⟩,
 ⟨(.len .string (.loc 0)), none, none⟩,
 ⟨(.mov (.var 1)), none, none⟩,
 ⟨(.len .string (.loc 0)), none, none⟩,
 ⟨(.bin .geq (.loc 2) (.loc 0)), none, none⟩,
 ⟨(.mov (.loc 0)), none, none⟩,
 ⟨(.mov (.var 0)), none, (some ((.loc 0), true))⟩,
 ⟨(.mov (.var 1)), none, (some ((.loc 1), true))⟩,
 ⟨(.len .string (.loc 0)), none, (some ((.loc 2), true))⟩,
 ⟨(.sslice (.loc 2) none (some (.loc 0))), none, (some ((.loc 3), true))⟩,
 ⟨(.mov (.var 1)), none, (some ((.loc 4), true))⟩,
 ⟨(.bin .eql (.loc 1) (.loc 0)), none, (some ((.loc 5), true))⟩,
 ⟨(.pick (.loc 6) (.loc 0) (.k (.bool false))), none, none⟩,
 ⟨(.mov (.loc 0)), (some 2), none⟩]
def c137 : CFun := ⟨2, 3, (.seq (.region [] [] c137_0) (.seq (.region [] [] c137_1) .ret)), [.var 2]⟩
theorem ok137 : CodeOk Tryd.prog T 137 c137 := ⟨⟨Tryd.f137, Hints.of [] [] [], [0, 1, 4], Tryd.func137, by kernel_rfl, by kernel_rfl⟩⟩

def c138_0 : List CO := [⟨(.mov (.k (.slice none 0 0))), (some 2), none⟩]
def c138_1 : List CO := [⟨(.mov (.var 1)), none, none⟩,
 ⟨(.conv .u32 (.loc 0)), none, none⟩,
 ⟨(.mov (.loc 0)), (some 3), none⟩]
def c138_2 : List CO := [⟨(.mov (.var 3)), none, none⟩,
 ⟨(.bin .leq (.loc 0) (.k (.int .u32 2047))), none, none⟩,
 ⟨(.mov (.loc 0)), (some 4), none⟩]
def c138_3 : List CO := [⟨(.mov (.var 0)), none, none⟩,
 ⟨(.mov (.var 1)), none, none⟩,
 ⟨(.shf false (.loc 0) (.k (.int .u64 6))), none, none⟩,
 ⟨(.conv .u8 (.loc 0)), none, none⟩,
 ⟨(.bin .or (.k (.int .u8 192)) (.loc 0)), none, none⟩,
 ⟨(.mov (.var 1)), none, none⟩,
 ⟨(.conv .u8 (.loc 0)), none, none⟩,
 ⟨(.bin .and (.loc 0) (.k (.int .u8 63))), none, none⟩,
 ⟨(.bin .or (.k (.int .u8 128)) (.loc 0)), none, none⟩,
 ⟨(.bslice 1 [(.int .u8 0)] 2 [(0, (.loc 4)), (1, (.loc 0))]), none, none⟩,
 ⟨(.append 5 1 1 (.loc 9) (.loc 0)), none, none⟩,
 ⟨(.mov (.loc 0)), (some 2), none⟩]
def c138_4 : List CO := [⟨(.mov (.var 3)), none, none⟩,
 ⟨(.bin .lss (.loc 0) (.k (.int .u32 55296))), none, none⟩,
 ⟨(.mov (.loc 0)), (some 5), none⟩]
def c138_5 : List CO := [⟨(.mov (.var 3)), none, none⟩,
 ⟨(.bin .lss (.k (.int .u32 57343)) (.loc 0)), none, none⟩,
 ⟨(.mov (.loc 0)), none, none⟩,
 ⟨(.mov (.var 3)), none, (some ((.loc 0), true))⟩,
 ⟨(.bin .leq (.loc 0) (.k (.int .u32 65535))), none, (some ((.loc 1), true))⟩,
 ⟨(.pick (.loc 2) (.loc 0) (.k (.bool false))), none, none⟩,
 ⟨(.mov (.loc 0)), (some 5), none⟩]
def c138_6 : List CO := [⟨(.mov (.var 0)), none, none⟩,
 ⟨(.mov (.var 1)), none, none⟩,
 ⟨(.shf false (.loc 0) (.k (.int .u64 12))), none, none⟩,
 ⟨(.conv .u8 (.loc 0)), none, none⟩,
 ⟨(.bin .or (.k (.int .u8 224)) (.loc 0)), none, none⟩,
 ⟨(.mov (.var 1)), none, none⟩,
 ⟨(.shf false (.loc 0) (.k (.int .u64 6))), none, none⟩,
 ⟨(.conv .u8 (.loc 0)), none, none⟩,
 ⟨(.bin .and (.loc 0) (.k (.int .u8 63))), none, none⟩,
 ⟨(.bin .or (.k (.int .u8 128)) (.loc 0)), none, none⟩,
 ⟨(.mov (.var 1)), none, none⟩,
 ⟨(.conv .u8 (.loc 0)), none, none⟩,
 ⟨(.bin .and (.loc 0) (.k (.int .u8 63))), none, none⟩,
 ⟨(.bin .or (.k (.int .u8 128)) (.loc 0)), none, none⟩,
 ⟨(.bslice 1 [(.int .u8 0)] 3 [(0, (.loc 9)), (1, (.loc 4)), (2, (.loc 0))]), none, none⟩,
 ⟨(.append 5 1 1 (.loc 14) (.loc 0)), none, none⟩,
 ⟨(.mov (.loc 0)), (some 2), none⟩]
def c138_7 : List CO := [⟨(.mov (.var 3)), none, none⟩,
 ⟨(.bin .gtr (.loc 0) (.k (.int .u32 65535))), none, none⟩,
 ⟨(.mov (.loc 0)), none, none⟩,
 ⟨(.mov (.var 3)), none, (some ((.loc 0), true))⟩,
 ⟨(.bin .leq (.loc 0) (.k (.int .u32 1114111))), none, (some ((.loc 1), true))⟩,
 ⟨(.pick (.loc 2) (.loc 0) (.k (.bool false))), none, none⟩,
 ⟨(.mov (.loc 0)), (some 6), none⟩]
def c138_8 : List CO := [⟨(.mov (.var 0)), none, none⟩,
 ⟨(.mov (.var 1)), none, none⟩,
 ⟨(.shf false (.loc 0) (.k (.int .u64 18))), none, none⟩,
 ⟨(.conv .u8 (.loc 0)), none, none⟩,
 ⟨(.bin .or (.k (.int .u8 240)) (.loc 0)), none, none⟩,
 ⟨(.mov (.var 1)), none, none⟩,
 ⟨(.shf false (.loc 0) (.k (.int .u64 12))), none, none⟩,
 ⟨(.conv .u8 (.loc 0)), none, none⟩,
 ⟨(.bin .and (.loc 0) (.k (.int .u8 63))), none, none⟩,
 ⟨(.bin .or (.k (.int .u8 128)) (.loc 0)), none, none⟩,
 ⟨(.mov (.var 1)), none, none⟩,
 ⟨(.shf false (.loc 0) (.k (.int .u64 6))), none, none⟩,
 ⟨(.conv .u8 (.loc 0)), none, none⟩,
 ⟨(.bin .and (.loc 0) (.k (.int .u8 63))), none, none⟩,
 ⟨(.bin .or (.k (.int .u8 128)) (.loc 0)), none, none⟩,
 ⟨(.mov (.var 1)), none, none⟩,
 ⟨(.conv .u8 (.loc 0)), none, none⟩,
 ⟨(.bin .and (.loc 0) (.k (.int .u8 63))), none, none⟩,
 ⟨(.bin .or (.k (.int .u8 128)) (.loc 0)), none, none⟩,
 ⟨(.bslice 1 [(.int .u8 0)] 4 [(0, (.loc 14)), (1, (.loc 9)), (2, (.loc 4)), (3, (.loc 0))]), none, none⟩,
 ⟨(.append 5 1 1 (.loc 19) (.loc 0)), none, none⟩,
 ⟨(.mov (.loc 0)), (some 2), none⟩]
def c138_9 : List CO := [⟨(.mov (.var 0)), none, none⟩,
 ⟨(.bslice 1 [(.int .u8 0)] 3 [(0, (.k (.int .u8 239))), (1, (.k (.int .u8 191))), (2, (.k (.int .u8 189)))]), none, none⟩,
 ⟨(.append 5 1 1 (.loc 1) (.loc 0)), none, none⟩,
 ⟨(.mov (.loc 0)), (some 2), none⟩]
def c138 : CFun := ⟨2, 7, (.seq (.region [] [] c138_0) (.seq (.region [] [] c138_1) (.block 0 (.seq (.region [] [] c138_2) (.cond (.var 4) (.seq (.region [] [] c138_3) .ret) (.seq (.seq (.region [] [] c138_4) (.cond (.var 5) .skip (.region [] [] c138_5))) (.cond (.var 5) (.seq (.region [] [] c138_6) .ret) (.seq (.region [] [] c138_7) (.cond (.var 6) (.seq (.region [] [] c138_8) .ret) (.seq (.region [] [] c138_9) .ret)))))))))), [.var 2]⟩
theorem ok138 : CodeOk Tryd.prog T 138 c138 := ⟨⟨Tryd.f138, Hints.of [] [] [], [0, 1, 4, 5, 11, 25, 50], Tryd.func138, by kernel_rfl, by kernel_rfl⟩⟩

def c142_0 : List CO := [⟨(.mov (.k (.slice none 0 0))), (some 5), none⟩,
 ⟨(.mov (.k (.string ⟨#[]⟩))), (some 6), none⟩]
def c142_1 : List CO := [⟨(.mov (.var 2)), none, none⟩,
 ⟨(.bin .lss (.loc 0) (.k (.int .i64 2))), none, none⟩,
 ⟨(.mov (.loc 0)), none, none⟩,
 ⟨(.mov (.var 2)), none, (some ((.loc 0), false))⟩,
 ⟨(.bin .eql (.loc 0) (.k (.int .i64 10))), none, (some ((.loc 1), false))⟩,
 ⟨(.pick (.loc 2) (.k (.bool true)) (.loc 0)), none, none⟩,
 ⟨(.mov (.loc 0)), none, none⟩,
 ⟨(.mov (.var 2)), none, (some ((.loc 0), false))⟩,
 ⟨(.bin .gtr (.loc 0) (.k (.int .i64 36))), none, (some ((.loc 1), false))⟩,
 ⟨(.pick (.loc 2) (.k (.bool true)) (.loc 0)), (some 14), none⟩]
def c142_2 : List CO := [⟨.bad, none, none⟩,
 ⟨.bad, none, none⟩]
def c142_3 : List CO := [⟨(.box 201 (.k (.agg #[(.int .u8 0), (.int .u8 0), (.int .u8 0), (.int .u8 0), (.int .u8 0), (.int .u8 0), (.int .u8 0), (.int .u8 0), (.int .u8 0), (.int .u8 0), (.int .u8 0), (.int .u8 0), (.int .u8 0), (.int .u8 0), (.int .u8 0), (.int .u8 0), (.int .u8 0), (.int .u8 0), (.int .u8 0), (.int .u8 0), (.int .u8 0), (.int .u8 0), (.int .u8 0), (.int .u8 0), (.int .u8 0), (.int .u8 0), (.int .u8 0), (.int .u8 0), (.int .u8 0), (.int .u8 0), (.int .u8 0), (.int .u8 0), (.int .u8 0), (.int .u8 0), (.int .u8 0), (.int .u8 0), (.int .u8 0), (.int .u8 0), (.int .u8 0), (.int .u8 0), (.int .u8 0), (.int .u8 0), (.int .u8 0), (.int .u8 0), (.int .u8 0), (.int .u8 0), (.int .u8 0), (.int .u8 0), (.int .u8 0), (.int .u8 0), (.int .u8 0), (.int .u8 0), (.int .u8 0), (.int .u8 0), (.int .u8 0), (.int .u8 0), (.int .u8 0), (.int .u8 0), (.int .u8 0), (.int .u8 0), (.int .u8 0), (.int .u8 0), (.int .u8 0), (.int .u8 0), (.int .u8 0)]))), (some 7), none⟩]
def c142_4 : List CO := [⟨(.mov (.k (.int .i64 65))), (some 8), none⟩]
def c142_5 : List CO := [⟨(.mov (.var 3)), (some 15), none⟩]
def c142_6 : List CO := [⟨(.mov (.var 1)), none, none⟩,
 ⟨(.un .neg (.loc 0)), none, none⟩,
 ⟨(.mov (.loc 0)), (some 1), none⟩]
def c142_7 : List CO := [⟨(.mov (.var 2)), none, none⟩,
 ⟨(.call true 149 [(.loc 0)]), (some 16), none⟩]
def c142_8 : List CO := [⟨(.mov (.var 2)), none, none⟩,
 ⟨(.conv .u64 (.loc 0)), none, none⟩,
 ⟨(.call true 150 [(.loc 0)]), none, none⟩,
 ⟨(.conv .u64 (.loc 0)), none, none⟩,
 ⟨(.mov (.loc 0)), (some 9), none⟩]
def c142_9 : List CO := [⟨(.mov (.var 2)), none, none⟩,
 ⟨(.conv .u64 (.loc 0)), none, none⟩,
 ⟨(.mov (.loc 0)), (some 10), none⟩]
def c142_10 : List CO := [⟨(.mov (.var 2)), none, none⟩,
 ⟨(.conv .u64 (.loc 0)), none, none⟩,
 ⟨(.bin .sub (.loc 0) (.k (.int .u64 1))), none, none⟩,
 ⟨(.mov (.loc 0)), (some 11), none⟩]
def c142_11 : List CO := [⟨(.mov (.var 1)), none, none⟩,
 ⟨(.mov (.var 10)), none, none⟩,
 ⟨(.bin .geq (.loc 1) (.loc 0)), (some 17), none⟩]
def c142_12 : List CO := [⟨(.mov (.var 8)), none, none⟩,
 ⟨(.bin .sub (.loc 0) (.k (.int .i64 1))), none, none⟩,
 ⟨(.mov (.loc 0)), (some 8), none⟩]
def c142_13 : List CO := [⟨(.mov (.var 8)), none, none⟩,
 ⟨(.mov (.var 1)), none, none⟩,
 ⟨(.mov (.var 11)), none, none⟩,
 ⟨(.bin .and (.loc 1) (.loc 0)), none, none⟩,
 ⟨(.ixs (.k (.string ⟨#[48, 49, 50, 51, 52, 53, 54, 55, 56, 57, 97, 98, 99, 100, 101, 102, 103, 104, 105, 106, 107, 108, 109, 110, 111, 112, 113, 114, 115, 116, 117, 118, 119, 120, 121, 122]⟩)) (.loc 0)), none, none⟩,
 ⟨(.iaa 65 1 (.var 7) (.loc 4)), none, none⟩,
 ⟨(.store 1 (.loc 0) (.loc 1)), none, none⟩]
def c142_14 : List CO := [⟨(.mov (.var 1)), none, none⟩,
 ⟨(.mov (.var 9)), none, none⟩,
 ⟨(.shf false (.loc 1) (.loc 0)), none, none⟩,
 ⟨(.mov (.loc 0)), (some 1), none⟩]
def c142_15 : CC := (.seq (.seq (.region [] [] c142_11) (.cond (.var 17) .skip (.exit 0))) (.block 1 (.seq (.region [] [] c142_12) (.seq (.region [] [] c142_13) (.region [] [] c142_14)))))
def c142_16 : List CO := [⟨(.mov (.var 8)), none, none⟩,
 ⟨(.bin .sub (.loc 0) (.k (.int .i64 1))), none, none⟩,
 ⟨(.mov (.loc 0)), (some 8), none⟩]
def c142_17 : List CO := [⟨(.mov (.var 8)), none, none⟩,
 ⟨(.mov (.var 1)), none, none⟩,
 ⟨(.ixs (.k (.string ⟨#[48, 49, 50, 51, 52, 53, 54, 55, 56, 57, 97, 98, 99, 100, 101, 102, 103, 104, 105, 106, 107, 108, 109, 110, 111, 112, 113, 114, 115, 116, 117, 118, 119, 120, 121, 122]⟩)) (.loc 0)), none, none⟩,
 ⟨(.iaa 65 1 (.var 7) (.loc 2)), none, none⟩,
 ⟨(.store 1 (.loc 0) (.loc 1)), none, none⟩]
def c142_18 : List CO := [⟨(.mov (.var 2)), none, none⟩,
 ⟨(.conv .u64 (.loc 0)), none, none⟩,
 ⟨(.mov (.loc 0)), (some 12), none⟩]
def c142_19 : List CO := [⟨(.mov (.var 1)), none, none⟩,
 ⟨(.mov (.var 12)), none, none⟩,
 ⟨(.bin .geq (.loc 1) (.loc 0)), (some 18), none⟩]
def c142_20 : List CO := [⟨(.mov (.var 8)), none, none⟩,
 ⟨(.bin .sub (.loc 0) (.k (.int .i64 1))), none, none⟩,
 ⟨(.mov (.loc 0)), (some 8), none⟩]
def c142_21 : List CO := [⟨(.mov (.var 1)), none, none⟩,
 ⟨(.mov (.var 12)), none, none⟩,
 ⟨(.bin .quo (.loc 1) (.loc 0)), none, none⟩,
 ⟨(.mov (.loc 0)), (some 13), none⟩]
def c142_22 : List CO := [⟨(.mov (.var 8)), none, none⟩,
 ⟨(.mov (.var 1)), none, none⟩,
 ⟨(.mov (.var 13)), none, none⟩,
 ⟨(.mov (.var 12)), none, none⟩,
 ⟨(.bin .mul (.loc 1) (.loc 0)), none, none⟩,
 ⟨(.bin .sub (.loc 3) (.loc 0)), none, none⟩,
 ⟨(.ixs (.k (.string ⟨#[48, 49, 50, 51, 52, 53, 54, 55, 56, 57, 97, 98, 99, 100, 101, 102, 103, 104, 105, 106, 107, 108, 109, 110, 111, 112, 113, 114, 115, 116, 117, 118, 119, 120, 121, 122]⟩)) (.loc 0)), none, none⟩,
 ⟨(.iaa 65 1 (.var 7) (.loc 6)), none, none⟩,
 ⟨(.store 1 (.loc 0) (.loc 1)), none, none⟩]
def c142_23 : List CO := [⟨(.mov (.var 13)), none, none⟩,
 ⟨(.mov (.loc 0)), (some 1), none⟩]
def c142_24 : CC := (.seq (.seq (.region [] [] c142_19) (.cond (.var 18) .skip (.exit 2))) (.block 3 (.seq (.region [] [] c142_20) (.seq (.region [] [] c142_21) (.seq (.region [] [] c142_22) (.region [] [] c142_23))))))
def c142_25 : List CO := [⟨(.mov (.var 8)), none, none⟩,
 ⟨(.bin .sub (.loc 0) (.k (.int .i64 1))), none, none⟩,
 ⟨(.mov (.loc 0)), (some 8), none⟩]
def c142_26 : List CO := [⟨(.mov (.var 8)), none, none⟩,
 ⟨(.mov (.var 1)), none, none⟩,
 ⟨(.ixs (.k (.string ⟨#[48, 49, 50, 51, 52, 53, 54, 55, 56, 57, 97, 98, 99, 100, 101, 102, 103, 104, 105, 106, 107, 108, 109, 110, 111, 112, 113, 114, 115, 116, 117, 118, 119, 120, 121, 122]⟩)) (.loc 0)), none, none⟩,
 ⟨(.iaa 65 1 (.var 7) (.loc 2)), none, none⟩,
 ⟨(.store 1 (.loc 0) (.loc 1)), none, none⟩]
def c142_27 : List CO := [⟨(.mov (.var 3)), (some 19), none⟩]
def c142_28 : List CO := [⟨(.mov (.var 8)), none, none⟩,
 ⟨(.bin .sub (.loc 0) (.k (.int .i64 1))), none, none⟩,
 ⟨(.mov (.loc 0)), (some 8), none⟩]
def c142_29 : List CO := [⟨(.mov (.var 8)), none, none⟩,
 ⟨(.iaa 65 1 (.var 7) (.loc 0)), none, none⟩,
 ⟨(.store 1 (.loc 0) (.k (.int .u8 45))), none, none⟩]
def c142_30 : List CO := [⟨(.mov (.var 4)), (some 20), none⟩]
def c142_31 : List CO := [⟨(.mov (.var 0)), none, none⟩,
 ⟨(.mov (.var 8)), none, none⟩,
 ⟨(.aslice 65 1 (.var 7) (some (.loc 0)) none), none, none⟩,
 ⟨(.append 5 1 1 (.loc 2) (.loc 0)), none, none⟩,
 ⟨(.mov (.loc 0)), (some 5), none⟩]
def c142_32 : List CO := [⟨(.mov (.var 8)), none, none⟩,
 ⟨(.aslice 65 1 (.var 7) (some (.loc 0)) none), none, none⟩,
 ⟨(.bstr (.loc 0)), none, none⟩,
 ⟨(.mov (.loc 0)), (some 6), none⟩]
def c142 : CFun := ⟨5, 21, (.seq (.region [] [] c142_0) (.seq (.seq (.region [] [] c142_1) (.cond (.var 14) (.region [] [] c142_2) .skip)) (.seq (.region [] [] c142_3) (.seq (.region [] [] c142_4) (.seq (.seq (.region [] [] c142_5) (.cond (.var 15) (.region [] [] c142_6) .skip)) (.seq (.seq (.region [] [] c142_7) (.cond (.var 16) (.seq (.region [] [] c142_8) (.seq (.region [] [] c142_9) (.seq (.region [] [] c142_10) (.seq (.block 0 (.loop [true, true, false, true, true, true, true, true, true, true, true, true, false, false, false, false, false, false, false, false, false] [] c142_15)) (.seq (.region [] [] c142_16) (.region [] [] c142_17)))))) (.seq (.region [] [] c142_18) (.seq (.block 2 (.loop [true, true, false, true, true, true, true, true, true, false, false, false, true, false, false, false, false, false, false, false, false] [] c142_24)) (.seq (.region [] [] c142_25) (.region [] [] c142_26)))))) (.seq (.seq (.region [] [] c142_27) (.cond (.var 19) (.seq (.region [] [] c142_28) (.region [] [] c142_29)) .skip)) (.seq (.seq (.region [] [] c142_30) (.cond (.var 20) (.seq (.region [] [] c142_31) .ret) .skip)) (.seq (.region [] [] c142_32) .ret))))))))), [.var 5, .var 6]⟩
theorem ok142 : CodeOk Tryd.prog T 142 c142 := ⟨⟨Tryd.f142, Hints.of [] [] [(0, [true, true, false, true, true, true, true, true, true, true, true, true, false, false, false, false, false, false, false, false, false], []), (2, [true, true, false, true, true, true, true, true, true, false, false, false, true, false, false, false, false, false, false, false, false], [])], [0, 1, 2, 3, 4, 10, 11, 12, 13, 14, 15, 16, 17, 18, 28, 30, 34, 46, 68, 89, 94], Tryd.func142, by kernel_rfl, by kernel_rfl⟩⟩

def c149_0 : List CO := [⟨(.mov (.k (.bool false))), (some 1), none⟩]
def c149_1 : List CO := [⟨(.mov (.var 0)), none, none⟩,
 ⟨(.mov (.var 0)), none, none⟩,
 ⟨(.bin .sub (.loc 0) (.k (.int .i64 1))), none, none⟩,
 ⟨(.bin .and (.loc 2) (.loc 0)), none, none⟩,
 ⟨(.bin .eql (.loc 0) (.k (.int .i64 0))), none, none⟩,
 ⟨(.mov (.loc 0)), (some 1), none⟩]
def c149 : CFun := ⟨1, 2, (.seq (.region [] [] c149_0) (.seq (.region [] [] c149_1) .ret)), [.var 1]⟩
theorem ok149 : CodeOk Tryd.prog T 149 c149 := ⟨⟨Tryd.f149, Hints.of [] [] [], [0, 2], Tryd.func149, by kernel_rfl, by kernel_rfl⟩⟩

def c150_0 : List CO := [⟨(.mov (.k (.int .i64 0))), (some 1), none⟩]
def c150_1 : List CO := [⟨(.mov (.var 0)), none, none⟩,
 ⟨(.conv .u32 (.loc 0)), none, none⟩,
 ⟨(.call true 151 [(.loc 0)]), none, none⟩,
 ⟨(.mov (.loc 0)), (some 1), none⟩]
def c150_2 : List CO := [⟨(.mov (.var 0)), none, none⟩,
 ⟨(.call true 152 [(.loc 0)]), none, none⟩,
 ⟨(.mov (.loc 0)), (some 1), none⟩]
def c150 : CFun := ⟨1, 2, (.seq (.region [] [] c150_0) (.seq (.cond (.k (.bool false)) (.seq (.region [] [] c150_1) .ret) .skip) (.seq (.region [] [] c150_2) .ret))), [.var 1]⟩
theorem ok150 : CodeOk Tryd.prog T 150 c150 := ⟨⟨Tryd.f150, Hints.of [] [] [], [0, 2], Tryd.func150, by kernel_rfl, by kernel_rfl⟩⟩

def Fl : List (FuncId × FEntry) := [(8, .code c8), (11, .code c11), (12, .code c12), (15, .code c15), (17, .code c17), (20, .code c20), (23, .code c23), (24, .code c24), (25, .code c25), (26, .code c26), (27, .code c27), (28, .code c28), (30, .code c30), (31, .code c31), (32, .code c32), (33, .code c33), (34, .code c34), (36, .code c36), (39, .code c39), (40, .code c40), (41, .code c41), (52, .code c52), (53, .code c53), (54, .code c54), (55, .code c55), (56, .code c56), (57, .code c57), (58, .keep c58), (59, .code c59), (60, .code c60), (61, .code c61), (62, .code c62), (63, .code c63), (64, .code c64), (65, .code c65), (66, .code c66), (67, .code c67), (70, .code c70), (80, .code c80), (81, .code c81), (82, .code c82), (83, .pkeep c83), (84, .code c84), (85, .code c85), (86, .code c86), (87, .code c87), (88, .code c88), (89, .code c89), (90, .code c90), (91, .code c91), (92, .code c92), (93, .code c93), (94, .code c94), (95, .code c95), (96, .code c96), (112, .code c112), (113, .code c113), (114, .code c114), (115, .code c115), (116, .code c116), (117, .code c117), (130, .code c130), (131, .code c131), (132, .code c132), (133, .code c133), (137, .code c137), (138, .code c138), (142, .code c142), (149, .code c149), (150, .code c150)] ++ [(101, .oracle validG), (135, .oracle decG), (97, .oracle (copyG 103)), (68, .oracle (stringG 103 5)), (152, .oracle tzG)]
def F (f : FuncId) : Option FEntry := Fl.lookup f
theorem hF : ∀ (B : Nat) (w0 : World), K B w0 → ∀ f e, F f = some e → EntryOk Tryd.prog T B w0 f e := fun B w0 hK => entries_of (fun p hp => by
 simp only [Fl, List.cons_append, List.nil_append, List.mem_cons, List.not_mem_nil, or_false] at hp
 rcases hp with rfl | rfl | rfl | rfl | rfl | rfl | rfl | rfl | rfl | rfl | rfl | rfl | rfl | rfl | rfl | rfl | rfl | rfl | rfl | rfl | rfl | rfl | rfl | rfl | rfl | rfl | rfl | rfl | rfl | rfl | rfl | rfl | rfl | rfl | rfl | rfl | rfl | rfl | rfl | rfl | rfl | rfl | rfl | rfl | rfl | rfl | rfl | rfl | rfl | rfl | rfl | rfl | rfl | rfl | rfl | rfl | rfl | rfl | rfl | rfl | rfl | rfl | rfl | rfl | rfl | rfl | rfl | rfl | rfl | rfl | rfl | rfl | rfl | rfl | rfl
 ·exact ok8
 ·exact ok11
 ·exact ok12
 ·exact ok15
 ·exact ok17
 ·exact ok20
 ·exact ok23
 ·exact ok24
 ·exact ok25
 ·exact ok26
 ·exact ok27
 ·exact ok28
 ·exact ok30
 ·exact ok31
 ·exact ok32
 ·exact ok33
 ·exact ok34
 ·exact ok36
 ·exact ok39
 ·exact ok40
 ·exact ok41
 ·exact ok52
 ·exact ok53
 ·exact ok54
 ·exact ok55
 ·exact ok56
 ·exact ok57
 ·exact ok58
 ·exact ok59
 ·exact ok60
 ·exact ok61
 ·exact ok62
 ·exact ok63
 ·exact ok64
 ·exact ok65
 ·exact ok66
 ·exact ok67
 ·exact ok70
 ·exact ok80
 ·exact ok81
 ·exact ok82
 ·exact ok83
 ·exact ok84
 ·exact ok85
 ·exact ok86
 ·exact ok87
 ·exact ok88
 ·exact ok89
 ·exact ok90
 ·exact ok91
 ·exact ok92
 ·exact ok93
 ·exact ok94
 ·exact ok95
 ·exact ok96
 ·exact ok112
 ·exact ok113
 ·exact ok114
 ·exact ok115
 ·exact ok116
 ·exact ok117
 ·exact ok130
 ·exact ok131
 ·exact ok132
 ·exact ok133
 ·exact ok137
 ·exact ok138
 ·exact ok142
 ·exact ok149
 ·exact ok150
 ·exact valid_ok hK
 ·exact dec_ok hK
 ·exact copy_ok copy_used copy_fresh copy_enter
 ·exact string_ok Tryd.lays169 Tryd.Builder_Extra_169 string_enter
 ·exact tz_ok hK)
end Go.Proofs.YtinhjhkmpknbbaaDoor
end

section
namespace Go.AE.YtinhjhkmpknbbaaDoor
open Go Go.AE Go.Proofs.YtinhjhkmpknbbaaDoor

def Rs (ix : List Nat) (h h' : List AO) : Prop := h'.length = h.length ∧ ∀ j, j ∉ ix → h'[j]? = h[j]?
theorem Rs.refl {ix : List Nat} (h : List AO) : Rs ix h h := ⟨rfl, fun _ _ => rfl⟩
theorem Rs.trans {ix : List Nat} {h h' h'' : List AO} (a : Rs ix h h') (b : Rs ix h' h'') : Rs ix h h'' := ⟨b.1.trans a.1, fun j hj => (b.2 j hj).trans (a.2 j hj)⟩
theorem Rs.set {ix : List Nat} {h : List AO} {j : Nat} {x : AO} (hj : j ∈ ix) : Rs ix h (h.set j x) := by
 refine ⟨by simp, fun k hk => ?_⟩
 rw [List.getElem?_set_ne]
 rintro rfl; exact hk hj
theorem Rs.sub {ix iy : List Nat} {h h' : List AO} (a : Rs ix h h') (hs : ∀ j ∈ ix, j ∈ iy) : Rs iy h h' := ⟨a.1, fun j hj => a.2 j (fun e => hj (hs j e))⟩
theorem Rs.below {ix : List Nat} {h h' : List AO} (a : Rs ix h h') (hb : h.all (AO.below h.length) = true) (hx : ∀ j ∈ ix, ∀ o, h'[j]? = some o → o.below h'.length = true) : h'.all (AO.below h'.length) = true := by
 rw [List.all_eq_true] at hb ⊢
 intro o ho
 obtain ⟨j, hj⟩ := List.getElem?_of_mem ho
 by_cases e : j ∈ ix
 ·exact hx j e o hj
 ·rw [a.2 j e] at hj
  rw [a.1]
  exact hb o (List.mem_of_getElem? hj)
def Gr (ix : List Nat) (h h' : List AO) : Prop := h.length ≤ h'.length ∧ ∀ j, j < h.length → j ∉ ix → h'[j]? = h[j]?
theorem Gr.trans {ix : List Nat} {h h' h'' : List AO} (a : Gr ix h h') (b : Gr ix h' h'') : Gr ix h h'' := ⟨Nat.le_trans a.1 b.1, fun j hl hj => (b.2 j (Nat.lt_of_lt_of_le hl a.1) hj).trans (a.2 j hl hj)⟩
theorem Gr.app {ix : List Nat} (h l : List AO) : Gr ix h (h ++ l) := ⟨by simp, fun j hl _ => List.getElem?_append_left hl⟩
theorem Gr.refl {ix : List Nat} (h : List AO) : Gr ix h h := ⟨Nat.le_refl _, fun _ _ _ => rfl⟩

structure Ob (h : List AO) (b rl : Nat) (bt : TypeId) (X : AV) (rest : List AV) (code : List Op5) (nx : Nat) : Prop where
 ex : ∃ ver, h[b]? = some (.box bt (.own 5 rl ver 0 code.length :: X :: .v (.int .i64 nx) :: rest)) ∧ h[rl]? = some (.row 58 5 ver (code.map o5) 0)
section
variable {h H : List AO} {b rl : Nat} {bt : TypeId} {X : AV} {rest : List AV} {code : List Op5} {nx : Nat} {l : List AO}
theorem Ob.ne (o : Ob h b rl bt X rest code nx) : b ≠ rl := by
 obtain ⟨ver, h1, h2⟩ := o.ex
 rintro rfl
 rw [h1] at h2; cases h2
theorem Ob.app (o : Ob h b rl bt X rest code nx) (l : List AO) : Ob (h ++ l) b rl bt X rest code nx := by
 obtain ⟨ver, h1, h2⟩ := o.ex
 exact ⟨ver, his_get h1, his_get h2⟩
theorem Ob.of {h' : List AO} (o : Ob h b rl bt X rest code nx) (h1 : h'[b]? = h[b]?) (h2 : h'[rl]? = h[rl]?) : Ob h' b rl bt X rest code nx := by
 obtain ⟨ver, e1, e2⟩ := o.ex
 exact ⟨ver, h1.trans e1, h2.trans e2⟩
theorem Ob.ltb (o : Ob h b rl bt X rest code nx) : b < h.length := by
 obtain ⟨ver, h1, h2⟩ := o.ex
 exact (List.getElem?_eq_some_iff.1 h1).1
theorem Ob.ltr (o : Ob h b rl bt X rest code nx) : rl < h.length := by
 obtain ⟨ver, h1, h2⟩ := o.ex
 exact (List.getElem?_eq_some_iff.1 h2).1
theorem set_app {j : Nat} {x : AO} (hj : j < h.length) : (h ++ l).set j x = h.set j x ++ l := by
 rw [List.set_append_left _ _ hj]
theorem leaveN {c : CFun} {vars : List AV} (x : AXit) (hx : x = .ret ∨ x = .normal) (hc : c.res = []) {B : Nat} (hB : h.length = B) (hb : h.all (AO.below B) = true) : leave B c (some (x, vars, h ++ l)) = some (.tup [], h) := by
 subst hB
 have : (h ++ l).take h.length = h := by simp
 rcases hx with rfl | rfl <;> simp [leave, hc, pack, AV.frz2, hb]
theorem Ob.lay (o : Ob h b rl bt X rest code nx) {f : FuncId} (hf : F f = some (.code c59)) (hb : h.all (AO.below h.length) = true) (hn : code.length ≤ 900000) (i : Op5) :
  ∃ h', callW F f [.ptr b 0, o5 i] h = some (.tup [], h') ∧ Ob h' b rl bt X rest (code ++ [i]) nx ∧ Rs [b, rl] h h' ∧ h'.all (AO.below h'.length) = true := by
 have hne := o.ne
 have hlb := o.ltb
 have hlr := o.ltr
 obtain ⟨ver, h1, h2⟩ := o.ex
 have ht : rowT h rl = 58 := by simp only [rowT, h2]
 have fit : fits (code.length + 1) 48 = true := fits_small (by omega) (by omega)
 have ra : ∀ l, rowAt (h ++ l) 5 rl ver (0 + code.length) = some (code.map o5, 0) := fun l => row_at (his_get h2) (by simp)
 have rt' : ∀ l, rowT (h ++ l) rl = 58 := fun l => by simp only [rowT, his_get h2]
 have ap : ∀ l, evAppend (h ++ l) 58 5 48 (.own 5 rl ver 0 code.length) (.slc 5 true true [o5 i]) = some (.own 5 rl (ver + 1) 0 (code.length + 1), h.set rl (.row 58 5 (ver + 1) ((code ++ [i]).map o5) 0) ++ l) := by
  intro l
  have e : ((code.map o5).drop 0).take code.length = code.map o5 := by rw [List.drop_zero, List.take_of_length_le (by simp)]
  rw [evAppend, elems_one]
  simp only [evAppendL, if_true, ra l, rt' l, Nat.zero_le, and_self]
  rw [if_neg (by simp), if_pos (by simpa using fit), e, set_app hlr, List.map_append]
  rfl
 obtain ⟨h3, hh3⟩ : ∃ h3, h.set rl (.row 58 5 (ver + 1) ((code ++ [i]).map o5) 0) = h3 := ⟨_, rfl⟩
 have hl3 : h3.length = h.length := by rw [← hh3]; simp
 have hb3 : h3[b]? = some (.box bt (.own 5 rl ver 0 code.length :: X :: .v (.int .i64 nx) :: rest)) := by rw [← hh3, List.getElem?_set_ne (Ne.symm hne)]; exact h1
 have st : ∀ l, Q113 (h3 ++ l) 1 (.ptr b 0) (.own 5 rl (ver + 1) 0 (code.length + 1)) = some (h3.set b (.box bt (.own 5 rl (ver + 1) 0 (code.length + 1) :: X :: .v (.int .i64 nx) :: rest)) ++ l) := by
  intro l
  rw [bx_st (his_get hb3) (n := 1) (xs := [.own 5 rl (ver + 1) 0 (code.length + 1)]) rfl rfl (by simp), set_app (by omega)]
  rfl
 obtain ⟨h4, hh4⟩ : ∃ h4, h3.set b (.box bt (.own 5 rl (ver + 1) 0 (code.length + 1) :: X :: .v (.int .i64 nx) :: rest)) = h4 := ⟨_, rfl⟩
 have hob : Ob h4 b rl bt X rest (code ++ [i]) nx := by
  refine ⟨ver + 1, ?_, ?_⟩
  ·rw [← hh4, List.length_append]; simp [hl3, hlb]
  ·rw [← hh4, List.getElem?_set_ne hne, ← hh3]; simp [hlr]
 have hrs : Rs [b, rl] h h4 := by
  rw [← hh4, ← hh3]
  exact (Rs.set (by simp)).trans (Rs.set (by simp))
 have hX : (AO.box bt (.own 5 rl ver 0 code.length :: X :: .v (.int .i64 nx) :: rest)).below h.length = true := (List.all_eq_true.1 hb) _ (List.mem_of_getElem? h1)
 have hb4 : h4.all (AO.below h4.length) = true := by
  refine hrs.below hb fun j hj o' ho => ?_
  simp only [List.mem_cons, List.not_mem_nil, or_false] at hj
  rcases hj with rfl | rfl
  ·obtain ⟨v', e1, _⟩ := hob.ex
   rw [e1] at ho; cases ho
   simp only [AO.below, List.all_cons, AV.below1, AV.below0, Bool.and_eq_true] at hX ⊢
   rw [hrs.1]
   exact hX
  ·obtain ⟨v', _, e2⟩ := hob.ex
   rw [e2] at ho; cases ho; rfl
 refine ⟨h4, callW_own (c := c59) hf rfl 0 ?_, hob, hrs, hb4⟩
 have ld : ∀ l, Q76 (h ++ l) false 1 (.ptr b 0) = some (.own 5 rl ver 0 code.length) := fun l => by rw [bx_ld (his_get h1)]; simp [Q77]
 have cl : (o5 i).cl = some (o5 i).cells := rfl
 have lo : Q76 (h ++ [.box 58 (o5 i).cells]) true 5 (.ptr h.length 0) = some (o5 i) := by rw [ld_new]; rfl
 have sn : ∀ l : List AO, (o5 i).snap1 l = some (o5 i) := fun _ => rfl
 have b1 : ∀ l : List AO, bs1 l 5 (some (o5 i)) = some (.slc 5 true true [o5 i], l) := fun l => bs1_some rfl rfl
 generalize o5 i = I at *
 have body : exec (callW F) 0 c59.body (start c59 [.ptr b 0, I]) (h ++ []) = some (.normal, [.ptr b 0, I, .ptr h.length 0], h4 ++ [.box 58 I.cells]) := by
  rw [List.append_nil]
  simp only [c59, start, List.replicate, c59_0, c59_1, cl, ld, lo, sn, b1, Q104, e_append, ap, hh3, st, hh4, Q0, Q1, Q2, Q3, Q4, Q5, Q6, Q7, Q8, Q9, Q10, Q11, Q12, Q13, Q14, Q15, Q16, Q17, Q18, Q19, Q20, Q21, Q22, Q23, Q24, Q25, Q26, Q27, Q28, Q29, Q30, Q31, Q32, Q33, Q35, Q36, Q37, Q38, Q39, Q40, Q41, Q42, Q43, Q44, Q45, Q46, Q47, Q48, Q49, Q50, Q51, Q52, Q53, Q54, Q55, Q56, Q57, Q58, Q59, Q60, Q61, Q62, Q63, Q64, Q65, Q66, Q67, Q68, Q69, Q70, Q71, Q72, Q73, Q99, Q100, Q101, Q102, Q103, Q74, Q75, Q77, Q78, Q79, Q80, Q81, Q82, Q83, Q84, clr, List.length_nil, List.length_cons, List.getElem?_cons_zero, List.getElem?_cons_succ, Nat.reduceAdd, Nat.zero_add, Nat.add_zero, Nat.reduceLeDiff, Nat.reduceSub, ↓reduceIte, List.drop_succ_cons, List.drop_zero, List.take_succ_cons, List.take_zero, Bool.false_eq_true, List.nil_append, List.cons_append, Bool.not_true, Bool.not_false, cond_true, cond_false, bne, Q85, Q86, Q87, Q88, Q89, Q90, Q91, Q92, Q93, Q94, Q95, Q96, Q97, Q98, Q110, Q111, Q116, Q117, Q118, Q119, Q120, Q121, Q122, Q123, Option.map_some, Option.map_none, Q34]
 rw [body]
 exact leaveN _ (.inr rfl) rfl hrs.1 (by rw [← hrs.1]; exact hb4)
theorem Ob.temp (o : Ob h b rl bt X rest code nx) {f : FuncId} (hf : F f = some (.code c87)) (hb : h.all (AO.below h.length) = true) (hn : nx ≤ 3000000) :
  ∃ h', callW F f [.ptr b 0] h = some (.v (.int .i64 nx), h') ∧ Ob h' b rl bt X rest code (nx + 1) ∧ Rs [b, rl] h h' ∧ h'.all (AO.below h'.length) = true := by
 have hne := o.ne
 have hlb := o.ltb
 obtain ⟨ver, h1, h2⟩ := o.ex
 obtain ⟨h4, hh4⟩ : ∃ h4, h.set b (.box bt (.own 5 rl ver 0 code.length :: X :: .v (.int .i64 ((nx + 1 : Nat) : Int)) :: rest)) = h4 := ⟨_, rfl⟩
 have hob : Ob h4 b rl bt X rest code (nx + 1) := by
  refine ⟨ver, ?_, ?_⟩
  ·rw [← hh4]; simp [hlb]
  ·rw [← hh4, List.getElem?_set_ne hne]; exact h2
 have hrs : Rs [b, rl] h h4 := by rw [← hh4]; exact Rs.set (by simp)
 have hX : (AO.box bt (.own 5 rl ver 0 code.length :: X :: .v (.int .i64 nx) :: rest)).below h.length = true := (List.all_eq_true.1 hb) _ (List.mem_of_getElem? h1)
 have hb4 : h4.all (AO.below h4.length) = true := by
  refine hrs.below hb fun j hj o' ho => ?_
  simp only [List.mem_cons, List.not_mem_nil, or_false] at hj
  rcases hj with rfl | rfl
  ·obtain ⟨v', e1, _⟩ := hob.ex
   rw [e1] at ho; cases ho
   simp only [AO.below, List.all_cons, AV.below1, AV.below0, Bool.and_eq_true] at hX ⊢
   rw [hrs.1]
   exact hX
  ·obtain ⟨v', _, e2⟩ := hob.ex
   rw [e2] at ho; cases ho; rfl
 refine ⟨h4, callW_own (c := c87) hf rfl 0 ?_, hob, hrs, hb4⟩
 have hb4' : h4[b]? = some (.box bt (.own 5 rl ver 0 code.length :: X :: .v (.int .i64 ((nx + 1 : Nat) : Int)) :: rest)) := by rw [← hh4]; simp [hlb]
 have ld : Q76 h false 1 (.ptr b 2) = some (.v (.int .i64 nx)) := by rw [bx_ld h1]; simp [Q77]
 have ld4 : Q76 h4 false 1 (.ptr b 2) = some (.v (.int .i64 ((nx + 1 : Nat) : Int))) := by rw [bx_ld hb4']; simp [Q77]
 have st : Q113 h 1 (.ptr b 2) (.v (.int .i64 ((nx + 1 : Nat) : Int))) = some h4 := by
  rw [bx_st h1 (n := 1) (xs := [.v (.int .i64 ((nx + 1 : Nat) : Int))]) rfl rfl (by simp), ← hh4]
  rfl
 have w1 : IntKind.i64.wrap ((nx : Int) + 1) = ((nx + 1 : Nat) : Int) := wrap_succ (len := nx + 1) (by omega) (by have : maxLen = 9223372036854775807 := rfl; omega)
 have w2 : IntKind.i64.wrap (((nx + 1 : Nat) : Int) - 1) = (nx : Int) := by rw [wrap_ok (by omega) (by omega)]; omega
 have lvv : leave h.length c87 (some (.ret, [.ptr b 0, .v (.int .i64 nx)], h4 ++ [])) = some (.v (.int .i64 nx), h4) := by
  rw [leave_own hrs.1 (by rw [← hrs.1]; exact hb4)]
  rfl
 rw [← lvv, List.append_nil, List.append_nil]
 congr 1
 simp only [c87, start, List.replicate, c87_0, c87_1, c87_2, ld, ld4, st, w1, w2, Q0, Q1, Q2, Q3, Q4, Q5, Q6, Q7, Q8, Q9, Q10, Q11, Q12, Q13, Q14, Q15, Q16, Q17, Q18, Q19, Q20, Q21, Q22, Q23, Q24, Q25, Q26, Q27, Q28, Q29, Q30, Q31, Q32, Q33, Q35, Q36, Q37, Q38, Q39, Q40, Q41, Q42, Q43, Q44, Q45, Q46, Q47, Q48, Q49, Q50, Q51, Q52, Q53, Q54, Q55, Q56, Q57, Q58, Q59, Q60, Q61, Q62, Q63, Q64, Q65, Q66, Q67, Q68, Q69, Q70, Q71, Q72, Q73, Q99, Q100, Q101, Q102, Q103, Q74, Q75, Q77, Q78, Q79, Q80, Q81, Q82, Q83, Q84, clr, List.length_nil, List.length_cons, List.getElem?_cons_zero, List.getElem?_cons_succ, Nat.reduceAdd, Nat.zero_add, Nat.add_zero, Nat.reduceLeDiff, Nat.reduceSub, ↓reduceIte, List.drop_succ_cons, List.drop_zero, List.take_succ_cons, List.take_zero, Bool.false_eq_true, List.nil_append, List.cons_append, Bool.not_true, Bool.not_false, cond_true, cond_false, bne, Q85, Q86, Q87, Q88, Q89, Q90, Q91, Q92, Q93, Q94, Q95, Q96, Q97, Q98, Q110, Q111, Q116, Q117, Q118, Q119, Q120, Q121, Q122, Q123, Option.map_some, Option.map_none]
end
end Go.AE.YtinhjhkmpknbbaaDoor
end

/- strings.Builder's copyCheck and String as entries of the evaluator's table. -/
import Derived.Test.YtgcbaefclkfnoaaDoorEval3
import Derived.Shelf.Strings.Builder1
set_option linter.unusedVariables false
set_option linter.unusedSimpArgs false
namespace Go.AE
open Go Go.RowKit Go.Shelf Go.Proofs

section
variable {P : Program} {B : Nat} {w0 w w' : World} {I I' : Cells} {σ σ' : List Loc} {h : List AO}

theorem cell_freeze (w : World) (a : Addr) (n : Nat) (p : Addr) : (w.freeze a n).cell? p = w.cell? p := by
  unfold World.freeze
  split
  · rfl
  · unfold World.cell?
    simp only [Array.getElem?_modify]
    by_cases e : a.block = p.block
    · rw [if_pos e]
      cases w.heap[p.block]? with
      | none => rfl
      | some o => cases o <;> rfl
    · rw [if_neg e]
theorem size_freeze (w : World) (a : Addr) (n : Nat) : (w.freeze a n).heap.size = w.heap.size := by
  unfold World.freeze; split <;> simp
theorem heap_freeze (w : World) (a : Addr) (n : Nat) {j : Nat} (hj : j ≠ a.block) : (w.freeze a n).heap[j]? = w.heap[j]? := by
  unfold World.freeze
  split
  · rfl
  · simp only [Array.getElem?_modify]
    rw [if_neg (fun e => hj e.symm)]

theorem Inv.dead (hI : Inv B w0 I σ w h) {rid sz ver k : Nat} {rt : TypeId} {l : List AV} {L : Loc} (hr : h[rid]? = some (.row rt sz ver l k)) (hL : σ[rid]? = some L) (hh : L.has = true) (off n : Nat) :
    ∃ σ', Inv B w0 I σ' (w.freeze ⟨L.b, off, none⟩ n) (h.set rid (.row rt sz (ver + 1) [] 0)) ∧ Step B I σ w I σ' (w.freeze ⟨L.b, off, none⟩ n) := by
  obtain ⟨hf, hver, hR⟩ := hI.obj rid _ L hr hL
  have hBb := hI.mine rid L hL hh
  have he : Ext I w I (w.freeze ⟨L.b, off, none⟩ n) := ⟨fun _ _ h => h, fun b x _ => cell_freeze _ _ _ _⟩
  have hbel : Below B w (w.freeze ⟨L.b, off, none⟩ n) := Lib.below_freeze (Below.refl B w) (p := ⟨L.b, off, none⟩) hBb.1 n
  refine ⟨_, hI.upd hL (L' := ⟨false, false, 0, 0, 0, ver + 1⟩) (o' := .row rt sz (ver + 1) [] 0) hbel he (fun b x hx => by obtain ⟨v, hv⟩ := hI.imm b x hx; exact ⟨v, by rw [cell_freeze]; exact hv⟩)
    (fun j Lj hj hLj hhj => ⟨heap_freeze _ _ _ (hI.dist j rid Lj L hLj hL hj hhj hh), fun x hx => hx⟩) (.inr ⟨hf, rfl, by rw [hver]; exact Nat.lt_succ_self _⟩)
    ⟨rfl, rfl, Nat.le_refl _, fun j el e => by simp at e, .inl ⟨rfl, rfl, rfl⟩⟩ (fun e => by cases e), he, Later.set hL hf rfl (by rw [hver]; exact Nat.lt_succ_self _), fun b x hx => .inl hx, by rw [size_freeze]; exact Nat.le_refl _⟩

theorem Inv.put (hI : Inv B w0 I σ w h) {id off : Nat} {bt : TypeId} {cs : List AV} {L : Loc} (ho : h[id]? = some (.box bt cs)) (hL : σ[id]? = some L) (hlt : off < cs.length) {x : AV} {v : Value} (h1 : v.oneCell' = true) (hx : Rep I w σ x v) :
    Inv B w0 I σ (w.setCell ⟨L.b, off, none⟩ v) (h.set id (.box bt (cs.set off x))) ∧ Step B I σ w I σ (w.setCell ⟨L.b, off, none⟩ v) := by
  obtain ⟨hf, hh, hR⟩ := hI.obj id _ L ho hL
  obtain ⟨arr, hb, hs, hone, hr⟩ := hR.lies
  have hBb := hI.mine id L hL hh
  have hoth : ∀ j, j ≠ L.b → (w.setCell ⟨L.b, off, none⟩ v).heap[j]? = w.heap[j]? := fun j hj => Below.heap_setCell _ _ _ _ (fun e => hj e)
  have he : Ext I w I (w.setCell ⟨L.b, off, none⟩ v) := ext_ours hR.apart _ hoth
  have hset : σ.set id L = σ := by
    apply List.ext_getElem?
    intro j
    by_cases e : id = j
    · subst e; rw [List.getElem?_set_self (List.getElem?_eq_some_iff.1 hL).1, hL]
    · rw [List.getElem?_set_ne e]
  have hsz : (w.setCell ⟨L.b, off, none⟩ v).heap.size = w.heap.size := by simp [World.setCell]
  have hnew : (w.setCell ⟨L.b, off, none⟩ v).heap[L.b]? = some (.cells (arr.setIfInBounds off v) bt (0, 0)) := by
    simp [World.setCell, Array.getElem?_modify, hb]
  have hin : off < arr.size := by omega
  have hinv := hI.upd hL (w' := w.setCell ⟨L.b, off, none⟩ v) (I' := I) (Below.setCell (Below.refl B w) (p := ⟨L.b, off, none⟩) hBb.1 v) he (fun b x hx => by obtain ⟨u, hu⟩ := hI.imm b x hx; exact ⟨u, by rw [he.cell b x hx]; exact hu⟩)
    (fun j Lj hj hLj hhj => ⟨hoth _ (hI.dist j id Lj L hLj hL hj hhj hh), fun x hx => hx⟩) (.inl rfl) (o' := .box bt (cs.set off x))
    (by
      rw [hset]
      refine ⟨hf, hh, hR.o, ⟨_, hnew, by simp [hs], fun j c hj => ?_, fun j c hj => ?_⟩, hR.apart⟩
      · by_cases e : off = j
        · subst e
          simpa [Array.getD, hin] using h1
        · rw [List.getElem?_set_ne e] at hj
          have := hone j c hj
          rw [Array.getD_eq_getD_getElem?] at this ⊢
          rwa [Array.getElem?_setIfInBounds_ne e]
      · by_cases e : off = j
        · subst e
          rw [List.getElem?_set_self hlt] at hj
          cases hj
          simpa [Array.getD, hin] using hx.mono he (Later.refl _)
        · rw [List.getElem?_set_ne e] at hj
          have := (hr j c hj).mono he (Later.refl _)
          rw [Array.getD_eq_getD_getElem?] at this ⊢
          rwa [Array.getElem?_setIfInBounds_ne e])
    (fun _ => ⟨hBb.1, by rw [hsz]; exact hBb.2, fun j Lj hj hLj hhj => hI.dist j id Lj L hLj hL hj hhj hh⟩)
  rw [hset] at hinv
  exact ⟨hinv, he, Later.refl _, fun b x hx => .inl hx, by rw [hsz]; exact Nat.le_refl _⟩

/-! ### copyCheck -/
def copyG (bt : TypeId) (args : List AV) (h : List AO) : Option (AV × List AO) := match args with
  | [.ptr id 0] => match h[id]? with
    | some (.box t [a, b]) => if t = bt then match a with
        | .v (.pointer none) => some (.tup [], h.set id (.box t [.ptr id 0, b]))
        | .ptr id' 0 => if id' = id then some (.tup [], h) else none
        | _ => none
      else none
    | _ => none
  | _ => none

variable {ρ : Ren}
theorem one_arg {args : List AV} {a : AV} {vals : Array Value} (ha : ArgsRep I w σ [a] vals) : ∃ v, vals = #[v] ∧ Rep I w σ a v := by
  have hs := ha.size
  obtain ⟨l⟩ := vals
  match l, hs with
  | [v], _ => exact ⟨v, rfl, ha.rep 0 a rfl⟩
theorem copy_ok {f : FuncId} {bt : TypeId} (hused : ∀ (b : Nat) (w : World), w.cell? ⟨b, 0, none⟩ = some (.pointer (some ⟨b, 0, none⟩)) → Calls P f #[.pointer (some ⟨b, 0, none⟩)] w fun e w' => e = .returned (.tuple #[]) ∧ w' = w)
    (hfresh : ∀ (b : Nat) (w : World), w.cell? ⟨b, 0, none⟩ = some (.pointer none) → w.shape? b = some (bt, 2) → w.frozen? ⟨b, 0, none⟩ = false → Calls P f #[.pointer (some ⟨b, 0, none⟩)] w fun e w' => e = .returned (.tuple #[]) ∧ w' = w.setCell ⟨b, 0, none⟩ (.pointer (some ⟨b, 0, none⟩)))
    (hent : ∀ (vals : Array Value) (w : World), (callFunc f vals).run P w = .ok (.enter f vals) w) : ∀ args h r h', copyG bt args h = some (r, h') → (∀ (vals : Array Value) (w : World), (callFunc f vals).run P w = .ok (.enter f vals) w) ∧
    ∀ I σ w (vals : Array Value), Inv B w0 I σ w h → ArgsRep I w σ args vals → Calls P f vals w (Ends B w0 I σ w r h') := by
  intro args h r h' hg
  refine ⟨hent, fun I σ w vals hI ha => ?_⟩
  unfold copyG at hg
  split at hg
  · rename_i id
    split at hg
    · rename_i t a b ho
      split at hg
      · rename_i ht
        subst ht
        obtain ⟨v, rfl, hv⟩ := one_arg (args := []) ha
        cases hv with
        | ptr _ _ _ Lc hL hf =>
          obtain ⟨_, hh, hR⟩ := hI.obj id _ Lc ho hL
          obtain ⟨arr, hb, hs, hone, hr⟩ := hR.lies
          have h0 := hR.o
          obtain ⟨lo, hlo⟩ : ∃ lo : Array Value, lo = arr := ⟨_, rfl⟩
          have hsz : arr.size = 2 := by simpa using hs
          have c0 : w.cell? ⟨Lc.b, 0, none⟩ = some (arr.getD 0 undef) := by
            simp [World.cell?, hb, Array.getD, hsz]
          have r0 := hr 0 a rfl
          rw [h0]
          split at hg
          · cases hg
            generalize hz : arr.getD 0 undef = z at r0 c0
            cases r0
            refine (hfresh Lc.b w c0 (by simp [World.shape?, hb, hsz]) (by simp [World.frozen?, hb])).mono ?_
            rintro e w' ⟨rfl, rfl⟩
            obtain ⟨g1, g2⟩ := hI.put ho hL (off := 0) (by simp) (x := .ptr id 0) (v := .pointer (some ⟨Lc.b, 0, none⟩)) rfl (by
              have := Rep.ptr (I := I) (w := w) σ id 0 Lc hL hf
              rw [h0] at this; exact this)
            exact ⟨_, I, σ, rfl, g1, g2, .tup σ [] #[] rfl (fun i c h => by simp at h)⟩
          · rename_i id'
            split at hg
            · rename_i e; subst e
              cases hg
              generalize hz : arr.getD 0 undef = z at r0 c0
              cases r0 with
              | ptr _ _ _ L2 hL2 hf2 =>
                rw [hL] at hL2; cases hL2
                rw [h0] at c0
                refine (hused Lc.b w c0).mono ?_
                rintro e w' ⟨rfl, rfl⟩
                exact ⟨_, I, σ, rfl, hI, Step.refl _ _ _ _, .tup σ [] #[] rfl (fun i c h => by simp at h)⟩
            · cases hg
          · cases hg
      · cases hg
    · cases hg
  · cases hg

/-! ### String -/
theorem lies_bytes {e : TypeId} (hc : P.cellsOf e = 1) (count off n : Nat) (hn : off + n ≤ count) : liesAt P P.depth e count off e n = true := by
  have hd : P.depth = (2 * (P.types.size + Made.depth) + 1) + 1 := rfl
  rw [hd]
  simp only [liesAt, Bool.or_eq_true]
  left
  rw [hd]
  simp [Go.rowAt, hc, hn, sameLayout, Nat.mod_one]
theorem load_bytes : ∀ (ns : List Int) (a : Addr) (acc : ByteArray), (∀ (j : Nat) (n : Int), ns[j]? = some n → w.cell? (a.add j) = some (.int .u8 n)) →
    (loadBytes a acc ns.length).run P w = .ok ⟨acc.data ++ (ns.map fun n => UInt8.ofNat n.toNat).toArray⟩ w
  | [], a, acc, _ => by simp [loadBytes]
  | x :: l, a, acc, h => by
    have h0 : w.cell? a = some (.int .u8 x) := by
      have := h 0 x rfl
      simpa [Addr.add] using this
    have ih := load_bytes l (a.add 1) (acc.push (UInt8.ofNat x.toNat)) (fun j y hy => by
      have := h (j + 1) y (by simpa using hy)
      have e : (a.add 1).add j = a.add (j + 1) := by
        unfold Addr.add
        by_cases hj : j = 0
        · subst hj; simp
        · simp [hj]; omega
      rw [e]; exact this)
    simp only [List.length_cons, loadBytes, Sem.run_bind, run_load, h0, Result.andThen]
    have e1 : x.toNat.toUInt8 = UInt8.ofNat x.toNat := rfl
    rw [e1, ih]
    congr 1
    apply ByteArray.ext
    simp [ByteArray.push]
theorem ustr_row (pt it ty e : TypeId) (hp : P.underlying pt = some (.pointer e)) (hc : P.cellsOf e = 1) (g off cells : Nat) (hsh : w.shape? g = some (e, cells)) (ns : List Int) (h0 : ns ≠ []) (hn : off + ns.length ≤ cells) (h63 : ns.length ≤ 9223372036854775807)
    (hcell : ∀ (j : Nat) (n : Int), ns[j]? = some n → w.cell? ((⟨g, off, none⟩ : Addr).add j) = some (.int .u8 n)) :
    (Builtin.unsafeString_ #[pt, it] ty #[.pointer (some ⟨g, off, none⟩), .int .i64 ns.length]).run P w = .ok (.string ⟨(ns.map fun n => UInt8.ofNat n.toNat).toArray⟩) (w.freeze ⟨g, off, none⟩ ns.length) := by
  have hl : ns.length ≠ 0 := by simpa using h0
  have hlb := load_bytes (P := P) (w := w) ns ⟨g, off, none⟩ .empty hcell
  rw [show ByteArray.empty.data = #[] from rfl, Array.empty_append] at hlb
  have hlies := lies_bytes (P := P) hc (cells / P.cellsOf e) off ns.length (by rw [hc]; simpa using hn)
  have h63' : ¬ (9223372036854775807 : Int) < (ns.length : Int) := by omega
  have hdef : Builtin.unsafeString_ #[pt, it] ty #[.pointer (some ⟨g, off, none⟩), .int .i64 ns.length] =
      (do
        let n ← asInt (.int .i64 ns.length)
        if n < 0 then runtimePanic (.error "unsafe.String: len out of range")
        if n > IntKind.i64.max then unsupported (.unsafePointer "String: a length above the largest int")
        if n = 0 then pure (.string .empty)
        else if ← variablesAt ⟨g, off, none⟩ (← elemOf pt) n.toNat then do
          let s ← loadBytes ⟨g, off, none⟩ .empty n.toNat
          freeze ⟨g, off, none⟩ n.toNat
          pure (.string s)
        else unsupported (.unsafePointer "String: not so many bytes at ptr")) := rfl
  rw [hdef]
  have hmax : IntKind.i64.max = 9223372036854775807 := rfl
  have hneg : ¬ (ns.length : Int) < 0 := by omega
  simp [asInt, asIntOf, hmax, h63', hneg, hl, variablesAt, hsh, elemOf, run_underlying hp, hlies, hlb]

set_option maxHeartbeats 2000000 in
set_option maxRecDepth 100000 in
theorem string_row (L : Lays.n169 P ρ) (X : Builder.Extra P ρ) (b g off cap cells : Nat) (ns : List Int) (w : World) (h0 : ns ≠ []) (h63 : ns.length ≤ 9223372036854775807) (hcap : cap ≠ 0)
    (c1 : w.cell? ⟨b, 1, none⟩ = some (.slice (some ⟨g, off, none⟩) ns.length cap)) (hsh : w.shape? g = some (ρ.t 5, cells)) (hn : off + ns.length ≤ cells)
    (hcell : ∀ (j : Nat) (n : Int), ns[j]? = some n → w.cell? ((⟨g, off, none⟩ : Addr).add j) = some (.int .u8 n)) :
    Calls P (ρ.f 169) #[.pointer (some ⟨b, 0, none⟩)] w fun e w' => e = .returned (.string ⟨(ns.map fun n => UInt8.ofNat n.toNat).toArray⟩) ∧ w' = w.drew.freeze ⟨g, off, none⟩ ns.length := by
  have c1 : w.drew.cell? ⟨b, 1, none⟩ = some (.slice (some ⟨g, off, none⟩) ns.length cap) := c1
  have hSD : (Builtin.unsafeSliceData_ #[(ρ.t 37)] (ρ.t 127) #[.slice (some ⟨g, off, none⟩) ns.length cap]).run P w.drew = .ok (.pointer (some ⟨g, off, none⟩)) w.drew :=
    Lib.run_unsafeSliceData_row _ _ _ _ _ _ hcap
  have hUS : (Builtin.unsafeString_ #[(ρ.t 127), (ρ.t 3)] (ρ.t 9) #[.pointer (some ⟨g, off, none⟩), .int .i64 ns.length]).run P w.drew = .ok (.string ⟨(ns.map fun n => UInt8.ofNat n.toNat).toArray⟩) (w.drew.freeze ⟨g, off, none⟩ ns.length) :=
    ustr_row (w := w.drew) (ρ.t 127) (ρ.t 3) (ρ.t 9) (ρ.t 5) L.t127 X.cellsByte g off cells hsh ns h0 hn h63 hcell
  have mixed := L.mixed
  have t72 := L.t72; have a72 := L.a72; have z72 := L.z72; have v72 := L.v72; have u72 := run_underlying L.t72
  have t70 := L.t70; have a70 := L.a70; have z70 := L.z70; have v70 := L.v70; have u70 := run_underlying L.t70
  have t37 := L.t37; have a37 := L.a37; have z37 := L.z37; have v37 := L.v37; have u37 := run_underlying L.t37
  have t127 := L.t127; have a127 := L.a127; have z127 := L.z127; have v127 := L.v127; have u127 := run_underlying L.t127
  have t3 := L.t3; have a3 := L.a3; have z3 := L.z3; have v3 := L.v3; have u3 := run_underlying L.t3
  have t9 := L.t9; have a9 := L.a9; have z9 := L.z9; have v9 := L.v9; have u9 := run_underlying L.t9
  have t5 := X.t5; have a5 := X.a5; have z5 := X.z5; have v5 := X.v5; have u5 := run_underlying X.t5
  go_enter L.f169, Body.n169_ntmps ρ
  go_wp2
  go_region_o
  all_goals (go_wp2; go_ret; exact ⟨rfl, rfl⟩)
set_option maxHeartbeats 2000000 in
set_option maxRecDepth 100000 in
theorem string_nil (L : Lays.n169 P ρ) (X : Builder.Extra P ρ) (b : Nat) (w : World) (c1 : w.cell? ⟨b, 1, none⟩ = some (.slice none 0 0)) :
    Calls P (ρ.f 169) #[.pointer (some ⟨b, 0, none⟩)] w fun e w' => e = .returned (.string ⟨#[]⟩) ∧ w' = w.drew := by
  have hUS : ∀ (W : World) (q : Option Addr), (Builtin.unsafeString_ #[(ρ.t 127), (ρ.t 3)] (ρ.t 9) #[.pointer q, .int .i64 0]).run P W = .ok (.string .empty) W := fun W q => Lib.run_unsafeString_none W _ _ _ q
  have c1 : w.drew.cell? ⟨b, 1, none⟩ = some (.slice none 0 0) := c1
  have hSD : (Builtin.unsafeSliceData_ #[(ρ.t 37)] (ρ.t 127) #[.slice none 0 0]).run P w.drew = .ok (.pointer none) w.drew := rfl
  have mixed := L.mixed
  have t72 := L.t72; have a72 := L.a72; have z72 := L.z72; have v72 := L.v72; have u72 := run_underlying L.t72
  have t70 := L.t70; have a70 := L.a70; have z70 := L.z70; have v70 := L.v70; have u70 := run_underlying L.t70
  have t37 := L.t37; have a37 := L.a37; have z37 := L.z37; have v37 := L.v37; have u37 := run_underlying L.t37
  have t127 := L.t127; have a127 := L.a127; have z127 := L.z127; have v127 := L.v127; have u127 := run_underlying L.t127
  have t3 := L.t3; have a3 := L.a3; have z3 := L.z3; have v3 := L.v3; have u3 := run_underlying L.t3
  have t9 := L.t9; have a9 := L.a9; have z9 := L.z9; have v9 := L.v9; have u9 := run_underlying L.t9
  have t5 := X.t5; have a5 := X.a5; have z5 := X.z5; have v5 := X.v5; have u5 := run_underlying X.t5
  go_enter L.f169, Body.n169_ntmps ρ
  go_wp2
  go_region_o
  all_goals (go_wp2; go_ret; exact ⟨rfl, rfl⟩)

def stringG (bt et : TypeId) (args : List AV) (h : List AO) : Option (AV × List AO) := match args with
  | [.ptr id 0] => match h[id]? with
    | some (.box t [_, b]) => if t = bt then match b with
        | .v (.slice none 0 0) => some (.v (.string ⟨#[]⟩), h)
        | .own 1 rid ver 0 n => match h[rid]? with
          | some (.row rt 1 ver' l k) => if rt = et ∧ ver' = ver ∧ n = l.length ∧ 0 < n ∧ n ≤ 140737488355328 then (strL l).map fun s => (.v (.string s), h.set rid (.row rt 1 (ver + 1) [] 0)) else none
          | _ => none
        | _ => none
      else none
    | _ => none
  | _ => none
theorem string_ok (L : Lays.n169 P ρ) (X : Builder.Extra P ρ) (hent : ∀ (vals : Array Value) (w : World), (callFunc (ρ.f 169) vals).run P w = .ok (.enter (ρ.f 169) vals) w) : ∀ args h r h', stringG (ρ.t 72) (ρ.t 5) args h = some (r, h') → (∀ (vals : Array Value) (w : World), (callFunc (ρ.f 169) vals).run P w = .ok (.enter (ρ.f 169) vals) w) ∧
    ∀ I σ w (vals : Array Value), Inv B w0 I σ w h → ArgsRep I w σ args vals → Calls P (ρ.f 169) vals w (Ends B w0 I σ w r h') := by
  intro args h r h' hg
  refine ⟨hent, fun I σ w vals hI ha => ?_⟩
  unfold stringG at hg
  split at hg
  · rename_i id
    split at hg
    · rename_i t a0 b ho
      split at hg
      · rename_i ht
        subst ht
        obtain ⟨v, rfl, hv⟩ := one_arg (args := []) ha
        cases hv with
        | ptr _ _ _ Lc hL hf =>
          obtain ⟨_, hh, hR⟩ := hI.obj id _ Lc ho hL
          obtain ⟨arr, hb, hs, hone, hr⟩ := hR.lies
          have h0 := hR.o
          have hsz : arr.size = 2 := by simpa using hs
          have c1 : w.cell? ⟨Lc.b, 1, none⟩ = some (arr.getD 1 undef) := by
            simp [World.cell?, hb, Array.getD, hsz]
          have r1 := hr 1 b rfl
          obtain ⟨hId, sd⟩ := hI.drew
          rw [h0]
          split at hg
          · cases hg
            generalize hz : arr.getD 1 undef = z at r1 c1
            cases r1
            refine (string_nil L X Lc.b w c1).mono ?_
            rintro e w' ⟨rfl, rfl⟩
            exact ⟨_, I, σ, rfl, hId, sd, .v _ _⟩
          · rename_i rid ver n
            split at hg
            · rename_i rt ver' l k hrow
              split at hg
              · rename_i hc
                obtain ⟨rfl, rfl, rfl, hpos, hle⟩ := hc
                obtain ⟨s, hs', hg⟩ := Option.map_eq_some_iff.1 hg
                cases hg
                obtain ⟨bs, hbs, rfl⟩ := Option.map_eq_some_iff.1 hs'
                obtain ⟨ns, e1, e2⟩ := strL_ns l bs hbs
                have hll : ns.length = l.length := by rw [e1]; simp
                generalize hz : arr.getD 1 undef = z at r1 c1
                cases r1 with
                | own _ _ _ _ _ _ _ h1x L2 hL2 hv2 hx2 =>
                  obtain ⟨hf2, hver2, hR2⟩ := hI.obj rid _ L2 hrow hL2
                  rcases hx2 hver2.symm with ⟨hhas, hcap, rfl⟩ | ⟨h00, _⟩
                  · simp only [Nat.zero_mul, Nat.add_zero, Nat.sub_zero, Nat.zero_add] at c1 hcap
                    have hne : l ≠ [] := by intro e; rw [e] at hpos; simp at hpos
                    rcases hR2.lies with ⟨e0, _⟩ | ⟨_, arr2, hb2, hasz, hlc, h1, hr2, himm, hno⟩
                    · exact absurd e0 hne
                    have hcell : ∀ (j : Nat) (n : Int), ns[j]? = some n → w.cell? ((⟨L2.b, L2.o, none⟩ : Addr).add j) = some (.int .u8 n) := by
                      intro j n hj
                      have hjl := (List.getElem?_eq_some_iff.1 hj).1
                      have hel : l[j]? = some (.v (.int .u8 n)) := by rw [e1]; simp [hj]
                      have hrr := hr2 j _ 0 _ hel rfl
                      generalize hzz : arr2.getD (L2.o + (j * 1 + 0)) undef = zz at hrr
                      cases hrr
                      rw [Addr.add_lit]
                      have hlt : L2.o + j < arr2.size := by omega
                      simp only [World.cell?, hb2, Option.isSome_none, Bool.false_eq_true, if_false]
                      rw [Array.getElem?_eq_getElem hlt]
                      simpa [Array.getD, hlt] using hzz
                    rw [← hll] at c1
                    refine (string_row L X Lc.b L2.b L2.o L2.cap arr2.size ns w (by rintro rfl; simp at hll; exact hne (List.length_eq_zero_iff.1 hll.symm)) (by omega) (by omega) c1 (by simp [World.shape?, hb2]) (by omega) hcell).mono ?_
                    rintro e w' ⟨rfl, rfl⟩
                    obtain ⟨σ', g1, g2⟩ := hId.dead hrow hL2 hhas L2.o ns.length
                    exact ⟨_, I, σ', by rw [e2], g1, sd.trans g2, .v _ _⟩
                  · omega
              · cases hg
            · cases hg
          · cases hg
      · cases hg
    · cases hg
  · cases hg
end
end Go.AE

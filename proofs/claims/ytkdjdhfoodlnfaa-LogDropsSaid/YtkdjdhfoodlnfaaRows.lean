/-
  NARROWER THAN 'FOR EVERY INPUT', by the rows' own cells (each row's printed sentence says how): LogPuts: loops · LogOrders: loops · LogReady: loops · LogTwice: loops · LogDrops: loops.
  DERIVED. THE GIVEN ROWS OF THIS SEAT. 5 by the template 'for every input the law returns true; each argument reads behind the call as it read before'; 0 by the template 'total and deterministic' (their statements: YtkdjdhfoodlnfaaTotals.lean).
  GIVEN WITH THE SEED: the statements are not yours to turn. If you find one false, say at which input.
  Laid BY PROGRAM, IN A SANDBOX (cutbox-rows.mjs): the forced cells as the released guide's own fill.sh prints them over the translation bb485099d240d981… (all of the seat's roots in one cut). By AI agents, Wed Nov 11 2026. No macro, syntax, notation, axiom, sorry.
-/
import Derived.Test.YtkdjdhfoodlnfaaChecked
import GoSem.Claim
import GoSem.ClaimJoined
import GoSem.ClaimMapViews
import Derived.JoinedTies
import Derived.KernelRfl
namespace Go.Proofs.Ytkdjdhfoodlnfaa
/- THE CELL 'sum', in the pinned program and in every row, IS THE sha256 OF THE DUMP (.gsa) THAT YtkdjdhfoodlnfaaProg.lean LOADS. Nothing in Lean hashes anything: it is a label: what it is worth is what the hold of that sum in a sandbox is worth. -/
noncomputable def Try.pinned : Pinned := { name := "ytkdjdhfoodlnfaa", sum := "bb485099d240d98149536bbd7807ea2b13395d0ce20d176635122aa33a73bdac", checked := Try.checked }
namespace Rows
def none {H : Type} : Left H := { results := [], args := [] }

/-- 'spinneylaw20.LogPuts': WHATEVER THE INPUT: true; the input reads as it did. -/
def logPutsSpec : ChangeSpec := { name := "logPuts", fn := fun _ => fun
  | [d1, d2] => { results := [.lit (.bool true)], args := [d1, d2] }
  | _ => none }
def logPutsRow : OpenClaim := { program := "ytkdjdhfoodlnfaa", sum := "bb485099d240d98149536bbd7807ea2b13395d0ce20d176635122aa33a73bdac", func := "spinney/spinneylaw20.LogPuts", spec := "logPuts", inPlace := ["slices.overlaps[spinney/api.Entry]"], unfollowed := true, recurses := true, loops := true, apart := false }
def LogPutsSaid : Prop := logPutsRow.holds Try.pinned (OpenSpec.ofChange logPutsSpec)

/-- ITS FALSE NEIGHBOUR: 'it returns false'. Refute it at one input. -/
def logPutsWrong : ChangeSpec := { name := "logPuts", fn := fun _ => fun
  | [d1, d2] => { results := [.lit (.bool false)], args := [d1, d2] }
  | _ => none }
def LogPutsWrongFalsely : Prop := logPutsRow.holds Try.pinned (OpenSpec.ofChange logPutsWrong)

/-- 'spinneylaw20.LogOrders': WHATEVER THE INPUT: true; the input reads as it did. -/
def logOrdersSpec : ChangeSpec := { name := "logOrders", fn := fun _ => fun
  | [d1, d2] => { results := [.lit (.bool true)], args := [d1, d2] }
  | _ => none }
def logOrdersRow : OpenClaim := { program := "ytkdjdhfoodlnfaa", sum := "bb485099d240d98149536bbd7807ea2b13395d0ce20d176635122aa33a73bdac", func := "spinney/spinneylaw20.LogOrders", spec := "logOrders", inPlace := ["slices.overlaps[spinney/api.Entry]"], unfollowed := true, recurses := true, loops := true, apart := false }
def LogOrdersSaid : Prop := logOrdersRow.holds Try.pinned (OpenSpec.ofChange logOrdersSpec)

/-- ITS FALSE NEIGHBOUR: 'it returns false'. Refute it at one input. -/
def logOrdersWrong : ChangeSpec := { name := "logOrders", fn := fun _ => fun
  | [d1, d2] => { results := [.lit (.bool false)], args := [d1, d2] }
  | _ => none }
def LogOrdersWrongFalsely : Prop := logOrdersRow.holds Try.pinned (OpenSpec.ofChange logOrdersWrong)

/-- 'spinneylaw20.LogReady': WHATEVER THE INPUT: true; the input reads as it did. -/
def logReadySpec : ChangeSpec := { name := "logReady", fn := fun _ => fun
  | [d1, d2, d3, d4] => { results := [.lit (.bool true)], args := [d1, d2, d3, d4] }
  | _ => none }
def logReadyRow : OpenClaim := { program := "ytkdjdhfoodlnfaa", sum := "bb485099d240d98149536bbd7807ea2b13395d0ce20d176635122aa33a73bdac", func := "spinney/spinneylaw20.LogReady", spec := "logReady", inPlace := ["slices.overlaps[spinney/api.Entry]"], unfollowed := true, recurses := true, loops := true, apart := false }
def LogReadySaid : Prop := logReadyRow.holds Try.pinned (OpenSpec.ofChange logReadySpec)

/-- ITS FALSE NEIGHBOUR: 'it returns false'. Refute it at one input. -/
def logReadyWrong : ChangeSpec := { name := "logReady", fn := fun _ => fun
  | [d1, d2, d3, d4] => { results := [.lit (.bool false)], args := [d1, d2, d3, d4] }
  | _ => none }
def LogReadyWrongFalsely : Prop := logReadyRow.holds Try.pinned (OpenSpec.ofChange logReadyWrong)

/-- 'spinneylaw20.LogTwice': WHATEVER THE INPUT: true; the input reads as it did. -/
def logTwiceSpec : ChangeSpec := { name := "logTwice", fn := fun _ => fun
  | [d1, d2, d3, d4] => { results := [.lit (.bool true)], args := [d1, d2, d3, d4] }
  | _ => none }
def logTwiceRow : OpenClaim := { program := "ytkdjdhfoodlnfaa", sum := "bb485099d240d98149536bbd7807ea2b13395d0ce20d176635122aa33a73bdac", func := "spinney/spinneylaw20.LogTwice", spec := "logTwice", inPlace := ["slices.overlaps[spinney/api.Entry]"], unfollowed := true, recurses := true, loops := true, apart := false }
def LogTwiceSaid : Prop := logTwiceRow.holds Try.pinned (OpenSpec.ofChange logTwiceSpec)

/-- ITS FALSE NEIGHBOUR: 'it returns false'. Refute it at one input. -/
def logTwiceWrong : ChangeSpec := { name := "logTwice", fn := fun _ => fun
  | [d1, d2, d3, d4] => { results := [.lit (.bool false)], args := [d1, d2, d3, d4] }
  | _ => none }
def LogTwiceWrongFalsely : Prop := logTwiceRow.holds Try.pinned (OpenSpec.ofChange logTwiceWrong)

/-- 'spinneylaw20.LogDrops': WHATEVER THE INPUT: true; the input reads as it did. -/
def logDropsSpec : ChangeSpec := { name := "logDrops", fn := fun _ => fun
  | [d1, d2, d3, d4] => { results := [.lit (.bool true)], args := [d1, d2, d3, d4] }
  | _ => none }
def logDropsRow : OpenClaim := { program := "ytkdjdhfoodlnfaa", sum := "bb485099d240d98149536bbd7807ea2b13395d0ce20d176635122aa33a73bdac", func := "spinney/spinneylaw20.LogDrops", spec := "logDrops", inPlace := ["slices.overlaps[spinney/api.Entry]"], unfollowed := true, recurses := true, loops := true, apart := false }
def LogDropsSaid : Prop := logDropsRow.holds Try.pinned (OpenSpec.ofChange logDropsSpec)

/-- ITS FALSE NEIGHBOUR: 'it returns false'. Refute it at one input. -/
def logDropsWrong : ChangeSpec := { name := "logDrops", fn := fun _ => fun
  | [d1, d2, d3, d4] => { results := [.lit (.bool false)], args := [d1, d2, d3, d4] }
  | _ => none }
def LogDropsWrongFalsely : Prop := logDropsRow.holds Try.pinned (OpenSpec.ofChange logDropsWrong)

/- THE SECOND FORM. 'bulk': how many values and letters a reading holds, each counted each time it is reached (what is shared counts as often as it is met; a slice's spare places count too). A statement '..UptoSaid' is the law's where the arguments, and the package variables that the reading takes, are together of bulk at most 1048576: NARROWER than '..Said'. Prove '..Said' where nothing that the law and all that it calls make is longer than what came in: it says more and counts as full. Else prove '..UptoSaid'. A law counts once. -/
mutual
def uptoBulk {H : Type} : DataW H → Nat
  | .lit (.string bytes) => bytes.length + 1
  | .lit _ => 1
  | .nil => 1
  | .ptr d => uptoBulk d + 1
  | .slice elems spare => uptoBulkAll elems + uptoBulkAll spare + 1
  | .agg parts => uptoBulkAll parts + 1
  | .iface _ d => uptoBulk d + 1
  | .map entries => uptoBulkEntries entries + 1
  | .held _ => 1
def uptoBulkAll {H : Type} : List (DataW H) → Nat
  | [] => 0
  | d :: r => uptoBulk d + uptoBulkAll r
def uptoBulkEntries {H : Type} : List (Lit × DataW H) → Nat
  | [] => 0
  | x :: r => uptoBulkEntry x + uptoBulkEntries r
def uptoBulkEntry {H : Type} : Lit × DataW H → Nat
  | (.string bytes, d) => bytes.length + uptoBulk d + 1
  | (_, d) => uptoBulk d + 1
 end
def uptoSmall : (H : Type) → List (DataW H) → Bool := fun _ ds => decide (uptoBulkAll ds ≤ 1048576)
def OpenSpec.upto (s : _root_.Go.ChangeSpec) : _root_.Go.OpenSpec := { _root_.Go.OpenSpec.ofChange s with cond := some uptoSmall }

/-- 'spinneylaw20.LogPuts', WHERE WHAT IT READS IS OF BULK AT MOST 1048576: true; the input reads as it did. -/
def logPutsUptoRow : OpenClaim := { program := "ytkdjdhfoodlnfaa", sum := "bb485099d240d98149536bbd7807ea2b13395d0ce20d176635122aa33a73bdac", func := "spinney/spinneylaw20.LogPuts", spec := "logPuts", inPlace := ["slices.overlaps[spinney/api.Entry]"], unfollowed := true, recurses := true, loops := true, apart := false, narrowed := true }
def LogPutsUptoSaid : Prop := logPutsUptoRow.holds Try.pinned (OpenSpec.upto logPutsSpec)

/-- 'spinneylaw20.LogOrders', WHERE WHAT IT READS IS OF BULK AT MOST 1048576: true; the input reads as it did. -/
def logOrdersUptoRow : OpenClaim := { program := "ytkdjdhfoodlnfaa", sum := "bb485099d240d98149536bbd7807ea2b13395d0ce20d176635122aa33a73bdac", func := "spinney/spinneylaw20.LogOrders", spec := "logOrders", inPlace := ["slices.overlaps[spinney/api.Entry]"], unfollowed := true, recurses := true, loops := true, apart := false, narrowed := true }
def LogOrdersUptoSaid : Prop := logOrdersUptoRow.holds Try.pinned (OpenSpec.upto logOrdersSpec)

/-- 'spinneylaw20.LogReady', WHERE WHAT IT READS IS OF BULK AT MOST 1048576: true; the input reads as it did. -/
def logReadyUptoRow : OpenClaim := { program := "ytkdjdhfoodlnfaa", sum := "bb485099d240d98149536bbd7807ea2b13395d0ce20d176635122aa33a73bdac", func := "spinney/spinneylaw20.LogReady", spec := "logReady", inPlace := ["slices.overlaps[spinney/api.Entry]"], unfollowed := true, recurses := true, loops := true, apart := false, narrowed := true }
def LogReadyUptoSaid : Prop := logReadyUptoRow.holds Try.pinned (OpenSpec.upto logReadySpec)

/-- 'spinneylaw20.LogTwice', WHERE WHAT IT READS IS OF BULK AT MOST 1048576: true; the input reads as it did. -/
def logTwiceUptoRow : OpenClaim := { program := "ytkdjdhfoodlnfaa", sum := "bb485099d240d98149536bbd7807ea2b13395d0ce20d176635122aa33a73bdac", func := "spinney/spinneylaw20.LogTwice", spec := "logTwice", inPlace := ["slices.overlaps[spinney/api.Entry]"], unfollowed := true, recurses := true, loops := true, apart := false, narrowed := true }
def LogTwiceUptoSaid : Prop := logTwiceUptoRow.holds Try.pinned (OpenSpec.upto logTwiceSpec)

/-- 'spinneylaw20.LogDrops', WHERE WHAT IT READS IS OF BULK AT MOST 1048576: true; the input reads as it did. -/
def logDropsUptoRow : OpenClaim := { program := "ytkdjdhfoodlnfaa", sum := "bb485099d240d98149536bbd7807ea2b13395d0ce20d176635122aa33a73bdac", func := "spinney/spinneylaw20.LogDrops", spec := "logDrops", inPlace := ["slices.overlaps[spinney/api.Entry]"], unfollowed := true, recurses := true, loops := true, apart := false, narrowed := true }
def LogDropsUptoSaid : Prop := logDropsUptoRow.holds Try.pinned (OpenSpec.upto logDropsSpec)

end Rows
end Go.Proofs.Ytkdjdhfoodlnfaa

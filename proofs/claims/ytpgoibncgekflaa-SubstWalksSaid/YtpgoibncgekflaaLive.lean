/- The examples (live). -/
import Derived.Test.YtpgoibncgekflaaFew
namespace Go.AE.Ytpgoibncgekflaa
open Go Go.AE Go.Proofs.Ytpgoibncgekflaa
set_option linter.unusedVariables false
set_option linter.unusedSimpArgs false
set_option maxRecDepth 1000000
def tV (n : Int) : AV := .agg [.v (.int .i64 1), .v (.string ⟨#[]⟩), .v (.int .i64 n), .v (.slice none 0 0)]
def tA (s : ByteArray) : AV := .agg [.v (.int .i64 2), .v (.string s), .v (.int .i64 0), .v (.slice none 0 0)]
def tC (s : ByteArray) (ex nn : Bool) (l : List AV) : AV := .agg [.v (.int .i64 4), .v (.string s), .v (.int .i64 0), .slc 4 ex nn l]
def bd (v : Int) (t : AV) : AV := .agg (.v (.int .i64 v) :: t.cells)
theorem l27 (n : Int) : callN F 10 27 [.v (.int .i64 n)] [] = some (tV n, []) := by kernel_rfl
theorem l28 (s : ByteArray) : callN F 10 28 [.v (.string s)] [] = some (tA s, []) := by kernel_rfl
theorem l29 (s : ByteArray) (l : List AV) (ex nn : Bool) : callN F 10 29 [.v (.string s), .slc 4 ex nn l] [] = some (tC s ex nn l, []) := by kernel_rfl
def aA : AV := .agg [.v (.int .i64 2), .v (.string ⟨#[97]⟩), .v (.int .i64 0), .slc 4 false false []]
theorem r1 : callN F 40 18 [.slc 5 true true [bd 0 (tC ⟨#[102]⟩ true true [tV 1]), bd 1 (tA ⟨#[97]⟩)], tC ⟨#[103]⟩ true true [tV 0, tV 1]] [] = some (.tup [tC ⟨#[103]⟩ false false [tC ⟨#[102]⟩ false false [aA], aA], .v (.int .i64 0)], []) := by kernel_rfl
theorem l16 : callN F 40 16 [tV 0, .v (.int .i64 1)] [] = some (tV 1, []) := by kernel_rfl
theorem r2 : ∃ n, callN F n 18 [.slc 5 true true [bd 0 (tC ⟨#[102]⟩ true true [tV 0])], tV 0] [] = some (.tup [.agg [.v (.int .i64 0), .v (.string ⟨#[]⟩), .v (.int .i64 0), .v (.slice none 0 0)], .v (.int .i64 3)], []) := ⟨130, by kernel_rfl⟩
end Go.AE.Ytpgoibncgekflaa

/- Contracts of the package words: powers, turns; the reference's product. -/
import Derived.Test.YteheolefemlcgaaGreatWords1
namespace Go.Proofs.YteheolefemlcgaaGreat
open Go.RowKit
set_option linter.unusedVariables false
set_option linter.unusedSimpArgs false
theorem ret_turns {a b e f : Int} {c d : Bool} (h : a = b) (h2 : c = d) (h3 : e = f) : Ending.returned (.tuple #[.int .u64 a, .bool c, .int .i64 e]) = .returned (.tuple #[.int .u64 b, .bool d, .int .i64 f]) := by rw [h, h2, h3]
end Go.Proofs.YteheolefemlcgaaGreat

/- Contracts of the package words: its sums, and what the reference says of the same. -/
import Derived.Test.YteheolefemlcgaaGreatBase
import Derived.Test.YteheolefemlcgaaGreatPlain
namespace Go.Proofs.YteheolefemlcgaaGreat
open Go.RowKit
set_option linter.unusedVariables false
set_option linter.unusedSimpArgs false
end Go.Proofs.YteheolefemlcgaaGreat

/- Contracts of the package words: its sums, and what the reference says of the same. -/
import Derived.Test.YteheolefemlcgaaBase
import Derived.Test.YteheolefemlcgaaPlain
namespace Go.Proofs.Yteheolefemlcgaa
open Go.RowKit
set_option linter.unusedVariables false
set_option linter.unusedSimpArgs false
end Go.Proofs.Yteheolefemlcgaa

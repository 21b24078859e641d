/- Contracts of the package words: its sums, and what the reference says of the same. -/
import Derived.Test.YtfhigeefclchiaaBase
import Derived.Test.YtfhigeefclchiaaPlain
namespace Go.Proofs.Ytfhigeefclchiaa
open Go.RowKit
set_option linter.unusedVariables false
set_option linter.unusedSimpArgs false
end Go.Proofs.Ytfhigeefclchiaa

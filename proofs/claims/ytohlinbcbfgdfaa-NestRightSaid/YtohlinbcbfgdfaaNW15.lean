/- Rows, in the reference, where all is valid: the walk. -/
import Derived.Test.YtohlinbcbfgdfaaNW14
namespace Go.Proofs.Ytohlinbcbfgdfaa
open Go.RowKit

end Go.Proofs.Ytohlinbcbfgdfaa

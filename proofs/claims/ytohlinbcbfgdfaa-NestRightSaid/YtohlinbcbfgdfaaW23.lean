/- Bounds of the length, in the reference; the box, in the program: the walks. -/
import Derived.Test.YtohlinbcbfgdfaaWA
import Derived.Test.YtohlinbcbfgdfaaWB
import Derived.Test.YtohlinbcbfgdfaaW8
import Derived.Test.YtohlinbcbfgdfaaWF
import Derived.Test.YtohlinbcbfgdfaaMathA
namespace Go.Proofs.Ytohlinbcbfgdfaa
open Go.RowKit Go.Shelf

def boxS (l : List XY) : Int × Int × Int := if validB l then (wrap64 (farW 1 0 l + farW (-1) 0 l), wrap64 (farW 0 1 l + farW 0 (-1) l), 0) else (0, 0, 10)

end Go.Proofs.Ytohlinbcbfgdfaa

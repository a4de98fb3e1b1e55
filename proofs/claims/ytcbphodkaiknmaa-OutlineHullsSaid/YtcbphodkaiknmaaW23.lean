/- Bounds of the length, in the reference; the box, in the program: the walks. -/
import Derived.Test.YtcbphodkaiknmaaWA
import Derived.Test.YtcbphodkaiknmaaWB
import Derived.Test.YtcbphodkaiknmaaW8
import Derived.Test.YtcbphodkaiknmaaWF
import Derived.Test.YtcbphodkaiknmaaMathA
namespace Go.Proofs.Ytcbphodkaiknmaa
open Go.RowKit Go.Shelf

def boxS (l : List XY) : Int × Int × Int := if validB l then (wrap64 (farW 1 0 l + farW (-1) 0 l), wrap64 (farW 0 1 l + farW 0 (-1) l), 0) else (0, 0, 10)

end Go.Proofs.Ytcbphodkaiknmaa

/- Reach, Holds, Within, in the program and in the reference: the walks. -/
import Derived.Test.YtcbiehnaomcfbaaWA
import Derived.Test.YtcbiehnaomcfbaaWB
import Derived.Test.YtcbiehnaomcfbaaWG
import Derived.Test.YtcbiehnaomcfbaaWF
namespace Go.Proofs.Ytcbiehnaomcfbaa
open Go.RowKit Go.Shelf

def offUV (u v : Int) : Prop := u < -10000 ∨ 10000 < u ∨ v < -10000 ∨ 10000 < v ∨ (u = 0 ∧ v = 0)
instance (u v : Int) : Decidable (offUV u v) := by unfold offUV; exact inferInstance
def offAt (p : XY) : Prop := p.X < -20000 ∨ 20000 < p.X ∨ p.Y < -20000 ∨ 20000 < p.Y
instance (p : XY) : Decidable (offAt p) := by unfold offAt; exact inferInstance
def reachS (va : List XY → Bool) (l : List XY) (u v : Int) : Int × Int := if !va l then (0, 10) else if offUV u v then (0, 2) else (farW u v l, 0)
def holdsS (va : List XY → Bool) (ins : List XY → XY → Bool) (l : List XY) (p : XY) : Bool × Int := if !va l then (false, 10) else if offAt p then (false, 2) else (ins l p, 0)
def withinS (va : List XY → Bool) (wi : List XY → List XY → Bool) (o l : List XY) : Bool × Int := if !va o || !va l then (false, 10) else (wi o l, 0)

end Go.Proofs.Ytcbiehnaomcfbaa

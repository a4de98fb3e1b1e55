/- The blank, in the program: the walk. -/
import Derived.Test.YtcbphodkaiknmaaW24
namespace Go.Proofs.Ytcbphodkaiknmaa
open Go.RowKit Go.Shelf

def offBP (b p : Int) : Prop := b < 0 ∨ 20000 < b ∨ p < 0 ∨ 20000 < p
instance (b p : Int) : Decidable (offBP b p) := by unfold offBP; exact inferInstance
def mx (a b : Int) : Int := if a < b then b else a
def blankS (va : List XY → Bool) (dia box : List XY → Int) (l : List XY) (b p : Int) : Int × Int :=
  if !va l then (0, 10) else if offBP b p then (0, 2) else
  (wrap64 (wrap64 (dia l + mx (wrap64 (wrap64 (box l + b) - p)) (wrap64 (-(wrap64 (wrap64 (box l + b) - p))))) + 200), 0)
def dia2W (l : List XY) : Int := dia2To l l.length
def diaP (l : List XY) : Int := diaW l
def boxP (l : List XY) : Int := (boxS l).1
def boxR (l : List XY) : Int := (box2S l).1

end Go.Proofs.Ytcbphodkaiknmaa

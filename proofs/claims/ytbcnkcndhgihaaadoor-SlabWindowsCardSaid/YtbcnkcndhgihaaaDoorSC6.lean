/- Blocks: the reference's measured: the walk. -/
import Derived.Test.YtbcnkcndhgihaaaDoorSC45
namespace Go.Proofs.YtbcnkcndhgihaaaDoor
open Go.RowKit
set_option linter.unusedSimpArgs false

theorem CX.lt {w : World} {k : Nat} {t : T3} (h : CX w k t) : k < w.heap.size := (Array.getElem?_eq_some_iff.1 h).1
/-- Extents, or the error. -/
def measB (b : BT) : T3 × Int := match builtS b with
  | .error x => (⟨0, 0, 0⟩, x)
  | .ok s => (s.ext, 0)
theorem meas_ok {b : BT} {s : Sh} (h : builtS b = .ok s) : measB b = (s.ext, 0) := by unfold measB; rw [h]
theorem meas_er {b : BT} {x : Int} (h : builtS b = .error x) : measB b = (⟨0, 0, 0⟩, x) := by unfold measB; rw [h]
end Go.Proofs.YtbcnkcndhgihaaaDoor

/- The ends of a list and its box, the diameter and the blank, in the reference: the walks. -/
import Derived.Test.YtcbphodkaiknmaaW23
import Derived.Test.YtcbphodkaiknmaaW15
import Derived.BigRegion
import Derived.Deep.DeepCutAuto
namespace Go.Proofs.Ytcbphodkaiknmaa
open Go.RowKit Go.Shelf

/-- The least and the greatest coordinates. -/
def lowTo (l : List XY) (k : Nat) : XY := (l.take k).foldl (fun e q => ⟨if q.X < e.X then q.X else e.X, if q.Y < e.Y then q.Y else e.Y⟩) (hd l)
def highTo (l : List XY) (k : Nat) : XY := (l.take k).foldl (fun e q => ⟨if e.X < q.X then q.X else e.X, if e.Y < q.Y then q.Y else e.Y⟩) (hd l)
theorem lowTo_succ {l : List XY} {k : Nat} {q : XY} (h : l[k]? = some q) : lowTo l (k + 1) = ⟨if q.X < (lowTo l k).X then q.X else (lowTo l k).X, if q.Y < (lowTo l k).Y then q.Y else (lowTo l k).Y⟩ := by
  unfold lowTo; rw [take_succ_of h, List.foldl_append]; rfl
theorem highTo_succ {l : List XY} {k : Nat} {q : XY} (h : l[k]? = some q) : highTo l (k + 1) = ⟨if (highTo l k).X < q.X then q.X else (highTo l k).X, if (highTo l k).Y < q.Y then q.Y else (highTo l k).Y⟩ := by
  unfold highTo; rw [take_succ_of h, List.foldl_append]; rfl

/-- A corner in a block of its own that may be stored to. -/
structure Cr (W : World) (B : Nat) (p : XY) : Prop where
  x : W.cell? ⟨B, 0, none⟩ = some (.int .i64 p.X)
  y : W.cell? ⟨B, 1, none⟩ = some (.int .i64 p.Y)
  f : W.frozen? ⟨B, 0, none⟩ = false
  g : W.frozen? ⟨B, 1, none⟩ = false

def box2S (l : List XY) : Int × Int × Int := if validRB l then (wrap64 ((highTo l l.length).X - (lowTo l l.length).X), wrap64 ((highTo l l.length).Y - (lowTo l l.length).Y), 0) else (0, 0, 10)

/-- The greatest of the roots, rounded up. -/
def dia2To (l : List XY) (k : Nat) : Int := (l.take k).foldl (fun m q => if m < ((iceil (fourW q).toNat : Nat) : Int) then ((iceil (fourW q).toNat : Nat) : Int) else m) 0
theorem dia2To_succ {l : List XY} {k : Nat} {q : XY} (h : l[k]? = some q) : dia2To l (k + 1) = if dia2To l k < ((iceil (fourW q).toNat : Nat) : Int) then ((iceil (fourW q).toNat : Nat) : Int) else dia2To l k := by
  unfold dia2To; rw [take_succ_of h, List.foldl_append]; rfl
def diameter2S (l : List XY) : Int × Int := if validRB l then (dia2To l l.length, 0) else (0, 10)

end Go.Proofs.Ytcbphodkaiknmaa

/- The plain functions of the layouts' texts, as Go's int computes them: no program in sight. -/
import Derived.Test.YtohlinbcbfgdfaaWD
namespace Go.Proofs.Ytohlinbcbfgdfaa
open Go.RowKit (wrap64)

structure RC where
  X : Int
  Y : Int
  W : Int
  H : Int
deriving DecidableEq
structure PL where
  part : Int
  X : Int
  Y : Int
  t : Bool
deriving DecidableEq
/-- A part, as it lies in memory: where its outline lies, its room, its corners, whether it may be turned. -/
structure PT where
  A : Option Addr
  c : Nat
  o : List XY
  t : Bool
structure BD where
  W : Int
  H : Int
  G : Int
  F : List RC

def betw (a n b : Int) : Bool := decide (a ≤ n) && decide (n ≤ b)
def rcBad (W H : Int) (r : RC) : Bool := !betw 0 r.X W || !betw 0 r.Y H || !betw 1 r.W (wrap64 (W - r.X)) || !betw 1 r.H (wrap64 (H - r.Y))
def boardB (b : BD) : Bool := betw 1 b.W 60000 && betw 1 b.H 60000 && betw 0 b.G 2000 && decide (b.F.length ≤ 10) && !b.F.any (rcBad b.W b.H)
def partsB (ps : List PT) : Bool := decide (ps.length ≤ 60) && !ps.any (fun p => !validB p.o)
/-- The reference's. -/
def rcBad2 (W H : Int) (r : RC) : Bool := decide (r.X < 0 ∨ r.Y < 0 ∨ r.W < 1 ∨ r.H < 1 ∨ W < r.W ∨ H < r.H ∨ wrap64 (W - r.W) < r.X ∨ wrap64 (H - r.H) < r.Y)
def board2B (b : BD) : Bool := betw 1 b.W 60000 && betw 1 b.H 60000 && betw 0 b.G 2000 && decide (b.F.length ≤ 10) && !b.F.any (rcBad2 b.W b.H)
def parts2B (ps : List PT) : Bool := ps.all (fun p => validRB p.o) && decide (ps.length ≤ 60)

/-- The least number in a direction. -/
def nearTo (u v : Int) (l : List XY) (k : Nat) : Int := (l.take k).foldl (fun m q => min m (dotW u v q)) (dotW u v (hd l))
def nearW (u v : Int) (l : List XY) : Int := nearTo u v l l.length
def sqW (u v : Int) : Int := wrap64 (wrap64 (u * u) + wrap64 (v * v))
def gapB (far gap n : Int) : Bool := decide (0 ≤ far) && (decide (gap = 0) || decide (2147483648 ≤ far) || decide (wrap64 (wrap64 (gap * gap) * n) ≤ wrap64 (far * far)))
def splitB (o p : List XY) (u v gap : Int) : Bool := gapB (max (wrap64 (nearW u v p - farW u v o)) (wrap64 (nearW u v o - farW u v p))) gap (sqW u v)
def dU (l : List XY) (i : Nat) : Int := wrap64 ((cy l (i + 1)).Y - (cy l i).Y)
def dV (l : List XY) (i : Nat) : Int := wrap64 ((cy l i).X - (cy l (i + 1)).X)
def apartB (o p : List XY) (gap : Int) : Bool :=
  splitB o p 1 0 gap || splitB o p 0 1 gap || (List.range o.length).any (fun i => splitB o p (dU o i) (dV o i) gap) || (List.range p.length).any (fun i => splitB o p (dU p i) (dV p i) gap)
/-- The reference's. -/
def enoughB (d g n : Int) : Bool := if d < 0 ∨ g = 0 ∨ 1000000000 < d then decide (0 ≤ d) else decide (wrap64 (wrap64 (g * g) * n) ≤ wrap64 (d * d))
def aheadB (o p : List XY) (gap u v : Int) : Bool := enoughB (wrap64 (wrap64 (-(farW (wrap64 (-u)) (wrap64 (-v)) o)) - farW u v p)) gap (sqW u v)
def besideB (o p : List XY) (gap u v : Int) : Bool := aheadB o p gap u v || aheadB p o gap u v
def apart2B (o p : List XY) (gap : Int) : Bool :=
  besideB o p gap 1 0 || besideB o p gap 0 1 || (List.range o.length).any (fun i => besideB o p gap (dU o i) (dV o i)) || (List.range p.length).any (fun i => besideB o p gap (dU p i) (dV p i))
def apartS (va : List XY → Bool) (ap : List XY → List XY → Int → Bool) (o p : List XY) (gap : Int) : Bool × Int :=
  if !va o || !va p then (false, 10) else if gap < 0 ∨ 2000 < gap then (false, 2) else (ap o p gap, 0)

/-- The corners of a part at a place. -/
def lyL (o : List XY) (x y : Int) (t : Bool) : List XY := (if t then canonL ((canonL o).map fTurn) else canonL o).map (fMove x y)
def rcL (r : RC) : List XY := [⟨r.X, r.Y⟩, ⟨wrap64 (r.X + r.W), r.Y⟩, ⟨wrap64 (r.X + r.W), wrap64 (r.Y + r.H)⟩, ⟨r.X, wrap64 (r.Y + r.H)⟩]
def faultyB (F : List RC) (o : List XY) : Bool := F.any (fun r => !apartB o (rcL r) 0)
def beyondB (W H : Int) (o : List XY) : Bool := o.any (fun c => !betw 0 c.X W || !betw 0 c.Y H)
end Go.Proofs.Ytohlinbcbfgdfaa

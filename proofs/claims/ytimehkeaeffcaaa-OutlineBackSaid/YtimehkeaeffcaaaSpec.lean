/- The plain functions of the outlines' texts, as Go's int computes them: no program in sight. -/
import Derived.RowKit
namespace Go.Proofs.Ytimehkeaeffcaaa
open Go.RowKit (wrap64)

structure XY where
  X : Int
  Y : Int
deriving DecidableEq

/-- The turn at a corner, as Go's int computes it: in the program, in the reference. -/
def crossW (a b c : XY) : Int := wrap64 (wrap64 (wrap64 (b.X - a.X) * wrap64 (c.Y - b.Y)) - wrap64 (wrap64 (b.Y - a.Y) * wrap64 (c.X - b.X)))
def cross2W (a b c : XY) : Int := wrap64 (wrap64 (wrap64 (b.X - a.X) * wrap64 (c.Y - a.Y)) - wrap64 (wrap64 (b.Y - a.Y) * wrap64 (c.X - a.X)))
def rangedB (p : XY) : Bool := decide (-5000 ≤ p.X) && decide (p.X ≤ 5000) && decide (-5000 ≤ p.Y) && decide (p.Y ≤ 5000)
def halfB (x y : Int) : Bool := decide (0 < y) || (decide (y = 0) && decide (0 < x))
def lowerW (a b : XY) : Int := if a.Y ≠ b.Y then wrap64 (a.Y - b.Y) else wrap64 (a.X - b.X)
def lowB (p q : XY) : Bool := decide (p.Y < q.Y) || (decide (p.Y = q.Y) && decide (p.X < q.X))
def fartherB (o p q : XY) : Bool :=
  decide (wrap64 (wrap64 (wrap64 (q.X - o.X) * wrap64 (q.X - o.X)) + wrap64 (wrap64 (q.Y - o.Y) * wrap64 (q.Y - o.Y))) < wrap64 (wrap64 (wrap64 (p.X - o.X) * wrap64 (p.X - o.X)) + wrap64 (wrap64 (p.Y - o.Y) * wrap64 (p.Y - o.Y))))
def dotW (u v : Int) (p : XY) : Int := wrap64 (wrap64 (u * p.X) + wrap64 (v * p.Y))

/-- The corner at place i, going round. -/
def cy (l : List XY) (i : Nat) : XY := (l[i % l.length]?).getD ⟨0, 0⟩
/-- The first corner. -/
def hd (l : List XY) : XY := (l[0]?).getD ⟨0, 0⟩

/-- The program's test of validity: every turn is a left one, and the direction comes to the upper half once. -/
def turnB (l : List XY) (i : Nat) : Bool := decide (0 < crossW (cy l i) (cy l (i + 1)) (cy l (i + 2)))
def upB (l : List XY) (i : Nat) : Bool :=
  !halfB (wrap64 ((cy l (i + 1)).X - (cy l i).X)) (wrap64 ((cy l (i + 1)).Y - (cy l i).Y)) && halfB (wrap64 ((cy l (i + 2)).X - (cy l (i + 1)).X)) (wrap64 ((cy l (i + 2)).Y - (cy l (i + 1)).Y))
def upsTo (l : List XY) (k : Nat) : Nat := ((List.range k).filter (upB l)).length
def validB (l : List XY) : Bool :=
  decide (3 ≤ l.length) && decide (l.length ≤ 64) && l.all rangedB && (List.range l.length).all (turnB l) && decide (upsTo l l.length = 1)
/-- The reference's: all other corners lie to the left of each side. -/
def leftB (l : List XY) (i j : Nat) : Bool := decide (j = i) || decide (j = (i + 1) % l.length) || decide (0 < cross2W (cy l i) (cy l (i + 1)) (cy l j))
def validRB (l : List XY) : Bool :=
  decide (3 ≤ l.length) && decide (l.length ≤ 64) && l.all rangedB && (List.range l.length).all (fun i => (List.range l.length).all (leftB l i))

/-- The greatest number in a direction. -/
def farTo (u v : Int) (l : List XY) (k : Nat) : Int := (l.take k).foldl (fun m q => max m (dotW u v q)) (dotW u v (hd l))
def farW (u v : Int) (l : List XY) : Int := farTo u v l l.length

/-- slices.MinFunc by lower; slices.Index; the canonical form. -/
def minTo (l : List XY) (k : Nat) : XY := (l.take k).foldl (fun m q => if lowerW q m < 0 then q else m) (hd l)
def minW (l : List XY) : XY := minTo l l.length
def idxOf (l : List XY) (p : XY) : Nat := l.findIdx (fun q => decide (q = p))
def canonL (l : List XY) : List XY := l.drop (idxOf l (minW l)) ++ l.take (idxOf l (minW l))
/-- The reference's Turn: the place of the lowest corner; the list from there on. -/
def atTo (l : List XY) (k : Nat) : Nat := (List.range k).foldl (fun a i => if lowB (cy l i) (cy l a) then i else a) 0
def turnL (l : List XY) : List XY := (List.range l.length).map (fun i => cy l (atTo l l.length + i))

def insideB (l : List XY) (p : XY) : Bool := (List.range l.length).all (fun i => !decide (crossW (cy l i) (cy l (i + 1)) p < 0))
def inside2B (l : List XY) (p : XY) : Bool := (List.range l.length).all (fun i => !decide (cross2W (cy l i) (cy l (i + 1)) p < 0))
def withinB (o p : List XY) : Bool := o.all (insideB p)
def within2B (o p : List XY) : Bool := o.all (inside2B p)

/-- A lens sits in a groove, at one side. -/
def seatAt (lens groove : List XY) (play : Int) (i : Nat) : Bool :=
  let u := wrap64 ((cy groove (i + 1)).Y - (cy groove i).Y)
  let v := wrap64 ((cy groove i).X - (cy groove (i + 1)).X)
  let g := wrap64 (farW u v groove - farW u v lens)
  !decide (wrap64 (wrap64 (play * play) * wrap64 (wrap64 (u * u) + wrap64 (v * v))) < wrap64 (g * g))
def seatS (lens groove : List XY) (play : Int) : Bool × Int :=
  if !validB lens || !validB groove then (false, 10) else if play < 0 ∨ 1000 < play then (false, 2)
  else (withinB lens groove && (List.range groove.length).all (seatAt lens groove play), 0)
def seat2S (lens groove : List XY) (play : Int) : Bool × Int :=
  if !validRB lens || !validRB groove then (false, 10) else if play < 0 ∨ 1000 < play then (false, 2)
  else (within2B lens groove && (List.range groove.length).all (seatAt lens groove play), 0)

/-- The root of a number, rounded down. -/
def isqrt : Nat → Nat
  | 0 => 0
  | n + 1 => if (isqrt n + 1) * (isqrt n + 1) ≤ n + 1 then isqrt n + 1 else isqrt n
theorem isqrt_le (n : Nat) : isqrt n * isqrt n ≤ n := by
  induction n with
  | zero => simp [isqrt]
  | succ n ih => unfold isqrt; split <;> omega
theorem isqrt_lt (n : Nat) : n < (isqrt n + 1) * (isqrt n + 1) := by
  induction n with
  | zero => simp [isqrt]
  | succ n ih =>
    unfold isqrt
    split
    · have h : (isqrt n + 1 + 1) * (isqrt n + 1 + 1) = (isqrt n + 1) * (isqrt n + 1) + 2 * (isqrt n + 1) + 1 := by
        simp only [Nat.add_mul, Nat.mul_add]; omega
      omega
    · omega
theorem isqrt_eq {n r : Nat} (h1 : r * r ≤ n) (h2 : n < (r + 1) * (r + 1)) : isqrt n = r := by
  have a := isqrt_le n
  have b := isqrt_lt n
  rcases Nat.lt_trichotomy (isqrt n) r with h | h | h
  · have := Nat.mul_le_mul (Nat.succ_le_of_lt h) (Nat.succ_le_of_lt h); simp only [Nat.succ_eq_add_one] at this; omega
  · exact h
  · have := Nat.mul_le_mul (Nat.succ_le_of_lt h) (Nat.succ_le_of_lt h); simp only [Nat.succ_eq_add_one] at this; omega
def iceil (n : Nat) : Nat := if isqrt n * isqrt n < n then isqrt n + 1 else isqrt n

def lenW (a b : XY) : Int := wrap64 (wrap64 (wrap64 (b.X - a.X) * wrap64 (b.X - a.X)) + wrap64 (wrap64 (b.Y - a.Y) * wrap64 (b.Y - a.Y)))
def areaTo (l : List XY) (k : Nat) : Int := (List.range k).foldl (fun n i => wrap64 (n + wrap64 (wrap64 ((cy l i).X * (cy l (i + 1)).Y) - wrap64 ((cy l i).Y * (cy l (i + 1)).X)))) 0
def areaW (l : List XY) : Int := areaTo l l.length
def fourW (p : XY) : Int := wrap64 (4 * wrap64 (wrap64 (p.X * p.X) + wrap64 (p.Y * p.Y)))
end Go.Proofs.Ytimehkeaeffcaaa

/- Squares of lengths, without wraps. -/
import Derived.Test.YtimehkeaeffcaaaMathV
namespace Go.Proofs.Ytimehkeaeffcaaa
open Go.RowKit (wrap64)

/-- The square of the length of a side. -/
def d2 (a b : XY) : Nat := ((b.X - a.X) * (b.X - a.X) + (b.Y - a.Y) * (b.Y - a.Y)).toNat
theorem d2_cast (a b : XY) : ((d2 a b : Nat) : Int) = (b.X - a.X) * (b.X - a.X) + (b.Y - a.Y) * (b.Y - a.Y) := by
  have h1 := sq_nonneg (b.X - a.X)
  have h2 := sq_nonneg (b.Y - a.Y)
  unfold d2
  omega
theorem d2_bd {a b : XY} (ha : Bd 5000 a) (hb : Bd 5000 b) : d2 a b ≤ 200000000 := by
  obtain ⟨a1, a2, a3, a4⟩ := ha
  obtain ⟨b1, b2, b3, b4⟩ := hb
  obtain ⟨u1, u2⟩ := mul_bd (a := b.X - a.X) (b := b.X - a.X) (A := 10000) (B := 10000) (by omega) (by omega) (by omega) (by omega)
  obtain ⟨v1, v2⟩ := mul_bd (a := b.Y - a.Y) (b := b.Y - a.Y) (A := 10000) (B := 10000) (by omega) (by omega) (by omega) (by omega)
  have := d2_cast a b
  omega
theorem lenW_eq {a b : XY} (ha : Bd 5000 a) (hb : Bd 5000 b) : wrap64 (wrap64 (wrap64 (b.X - a.X) * wrap64 (b.X - a.X)) + wrap64 (wrap64 (b.Y - a.Y) * wrap64 (b.Y - a.Y))) = ((d2 a b : Nat) : Int) := by
  rw [d2_cast]
  obtain ⟨a1, a2, a3, a4⟩ := ha
  obtain ⟨b1, b2, b3, b4⟩ := hb
  rw [w64_id (show _ ≤ b.X - a.X by omega) (by omega), w64_id (show _ ≤ b.Y - a.Y by omega) (by omega)]
  obtain ⟨u1, u2⟩ := mul_bd (a := b.X - a.X) (b := b.X - a.X) (A := 10000) (B := 10000) (by omega) (by omega) (by omega) (by omega)
  obtain ⟨v1, v2⟩ := mul_bd (a := b.Y - a.Y) (b := b.Y - a.Y) (A := 10000) (B := 10000) (by omega) (by omega) (by omega) (by omega)
  rw [w64_id (show _ ≤ (b.X - a.X) * (b.X - a.X) by omega) (by omega), w64_id (show _ ≤ (b.Y - a.Y) * (b.Y - a.Y) by omega) (by omega), w64_id (by omega) (by omega)]
theorem d2_comm (a b : XY) : d2 a b = d2 b a := by
  have h1 := d2_cast a b
  have h2 := d2_cast b a
  have e1 : (b.X - a.X) * (b.X - a.X) = (a.X - b.X) * (a.X - b.X) := by grind
  have e2 : (b.Y - a.Y) * (b.Y - a.Y) = (a.Y - b.Y) * (a.Y - b.Y) := by grind
  rw [e1, e2] at h1
  omega
/-- Sums of roots, rounded. -/
def arP (f : Nat → Nat) (l : List XY) (pre : List Nat) : Int := pre.foldl (fun n i => wrap64 (n + ((f (d2 (cy l i) (cy l (i + 1))) : Nat) : Int))) 0
def arTo (f : Nat → Nat) (l : List XY) (k : Nat) : Int := arP f l (List.range k)
theorem arP_snoc (f : Nat → Nat) (l : List XY) (pre : List Nat) (i : Nat) : arP f l (pre ++ [i]) = wrap64 (arP f l pre + ((f (d2 (cy l i) (cy l (i + 1))) : Nat) : Int)) := by
  unfold arP; rw [List.foldl_append]; rfl
theorem arTo_succ (f : Nat → Nat) (l : List XY) (k : Nat) : arTo f l (k + 1) = wrap64 (arTo f l k + ((f (d2 (cy l k) (cy l (k + 1))) : Nat) : Int)) := by
  unfold arTo; rw [List.range_succ, arP_snoc]
def aroundS (va : List XY → Bool) (l : List XY) : Int × Int × Int := if va l then (arTo isqrt l l.length, arTo iceil l l.length, 0) else (0, 0, 10)
end Go.Proofs.Ytimehkeaeffcaaa

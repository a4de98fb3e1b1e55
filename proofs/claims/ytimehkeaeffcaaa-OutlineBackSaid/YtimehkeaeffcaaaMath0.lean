/- Plain laws: Go's int does not wrap at the numbers that outlines have. -/
import Derived.Test.YtimehkeaeffcaaaSpec
namespace Go.Proofs.Ytimehkeaeffcaaa
open Go.RowKit (wrap64)

theorem w64_id {n : Int} (h1 : -9223372036854775808 ≤ n) (h2 : n ≤ 9223372036854775807) : wrap64 n = n := by unfold wrap64; omega
theorem mul_bd {a b A B : Int} (ha1 : -A ≤ a) (ha2 : a ≤ A) (hb1 : -B ≤ b) (hb2 : b ≤ B) : -(A * B) ≤ a * b ∧ a * b ≤ A * B := by
  have h1 := Int.mul_nonneg (a := A - a) (b := B - b) (by omega) (by omega)
  have h2 := Int.mul_nonneg (a := A + a) (b := B + b) (by omega) (by omega)
  have h3 := Int.mul_nonneg (a := A - a) (b := B + b) (by omega) (by omega)
  have h4 := Int.mul_nonneg (a := A + a) (b := B - b) (by omega) (by omega)
  constructor <;> grind

/-- A place with coordinates up to B. -/
def Bd (B : Int) (p : XY) : Prop := -B ≤ p.X ∧ p.X ≤ B ∧ -B ≤ p.Y ∧ p.Y ≤ B
theorem bd_of_ranged {p : XY} (h : rangedB p = true) : Bd 5000 p := by
  simp only [rangedB, Bool.and_eq_true, decide_eq_true_eq] at h
  exact ⟨h.1.1.1, h.1.1.2, h.1.2, h.2⟩
theorem Bd.mono {B C : Int} {p : XY} (h : Bd B p) (hC : B ≤ C) : Bd C p := by
  obtain ⟨h1, h2, h3, h4⟩ := h; exact ⟨by omega, by omega, by omega, by omega⟩

def cross (a b c : XY) : Int := (b.X - a.X) * (c.Y - b.Y) - (b.Y - a.Y) * (c.X - b.X)
theorem cross_eq2 (a b c : XY) : cross a b c = (b.X - a.X) * (c.Y - a.Y) - (b.Y - a.Y) * (c.X - a.X) := by unfold cross; grind

theorem crossW_eq {a b c : XY} (ha : Bd 100000 a) (hb : Bd 100000 b) (hc : Bd 100000 c) : crossW a b c = cross a b c := by
  obtain ⟨a1, a2, a3, a4⟩ := ha
  obtain ⟨b1, b2, b3, b4⟩ := hb
  obtain ⟨c1, c2, c3, c4⟩ := hc
  have m1 := mul_bd (a := b.X - a.X) (b := c.Y - b.Y) (A := 200000) (B := 200000) (by omega) (by omega) (by omega) (by omega)
  have m2 := mul_bd (a := b.Y - a.Y) (b := c.X - b.X) (A := 200000) (B := 200000) (by omega) (by omega) (by omega) (by omega)
  unfold crossW cross
  rw [w64_id (n := b.X - a.X) (by omega) (by omega), w64_id (n := c.Y - b.Y) (by omega) (by omega), w64_id (n := b.Y - a.Y) (by omega) (by omega), w64_id (n := c.X - b.X) (by omega) (by omega),
    w64_id (n := (b.X - a.X) * (c.Y - b.Y)) (by omega) (by omega), w64_id (n := (b.Y - a.Y) * (c.X - b.X)) (by omega) (by omega), w64_id (by omega) (by omega)]
theorem cross2W_eq {a b c : XY} (ha : Bd 100000 a) (hb : Bd 100000 b) (hc : Bd 100000 c) : cross2W a b c = cross a b c := by
  obtain ⟨a1, a2, a3, a4⟩ := ha
  obtain ⟨b1, b2, b3, b4⟩ := hb
  obtain ⟨c1, c2, c3, c4⟩ := hc
  have m1 := mul_bd (a := b.X - a.X) (b := c.Y - a.Y) (A := 200000) (B := 200000) (by omega) (by omega) (by omega) (by omega)
  have m2 := mul_bd (a := b.Y - a.Y) (b := c.X - a.X) (A := 200000) (B := 200000) (by omega) (by omega) (by omega) (by omega)
  rw [cross_eq2]
  unfold cross2W
  rw [w64_id (n := b.X - a.X) (by omega) (by omega), w64_id (n := c.Y - a.Y) (by omega) (by omega), w64_id (n := b.Y - a.Y) (by omega) (by omega), w64_id (n := c.X - a.X) (by omega) (by omega),
    w64_id (n := (b.X - a.X) * (c.Y - a.Y)) (by omega) (by omega), w64_id (n := (b.Y - a.Y) * (c.X - a.X)) (by omega) (by omega), w64_id (by omega) (by omega)]
theorem fourW_eq {p : XY} (h : Bd 100000 p) : fourW p = 4 * (p.X * p.X + p.Y * p.Y) := by
  obtain ⟨a1, a2, a3, a4⟩ := h
  have m1 := mul_bd (a := p.X) (b := p.X) (A := 100000) (B := 100000) (by omega) (by omega) (by omega) (by omega)
  have m2 := mul_bd (a := p.Y) (b := p.Y) (A := 100000) (B := 100000) (by omega) (by omega) (by omega) (by omega)
  unfold fourW
  rw [w64_id (n := p.X * p.X) (by omega) (by omega), w64_id (n := p.Y * p.Y) (by omega) (by omega), w64_id (n := p.X * p.X + p.Y * p.Y) (by omega) (by omega), w64_id (by omega) (by omega)]
theorem sq_nonneg (a : Int) : 0 ≤ a * a := by
  rcases Int.le_total 0 a with h | h
  · exact Int.mul_nonneg h h
  · exact Int.mul_nonneg_of_nonpos_of_nonpos h h
theorem fourW_bd {p : XY} (h : Bd 5000 p) : 0 ≤ fourW p ∧ fourW p ≤ 200000000 := by
  rw [fourW_eq (h.mono (by omega))]
  obtain ⟨a1, a2, a3, a4⟩ := h
  have m1 := mul_bd (a := p.X) (b := p.X) (A := 5000) (B := 5000) (by omega) (by omega) (by omega) (by omega)
  have m2 := mul_bd (a := p.Y) (b := p.Y) (A := 5000) (B := 5000) (by omega) (by omega) (by omega) (by omega)
  have s1 := sq_nonneg p.X
  have s2 := sq_nonneg p.Y
  omega

/-- The greatest square of the diameter. -/
def mostTo (l : List XY) (k : Nat) : Int := (l.take k).foldl (fun m q => max m (fourW q)) 0
theorem foldl_max_bd {f : XY → Int} {B : Int} : ∀ (l : List XY) (m : Int), 0 ≤ m → m ≤ B → (∀ x ∈ l, f x ≤ B) → 0 ≤ l.foldl (fun m q => max m (f q)) m ∧ l.foldl (fun m q => max m (f q)) m ≤ B
  | [], _, h0, h1, _ => ⟨h0, h1⟩
  | x :: l, m, h0, h1, h => by
    have hx := h x (by simp)
    exact foldl_max_bd l (max m (f x)) (by omega) (by omega) (fun y hy => h y (by simp [hy]))
theorem mostTo_bd {l : List XY} (h : l.all rangedB = true) (k : Nat) : 0 ≤ mostTo l k ∧ mostTo l k ≤ 200000000 :=
  foldl_max_bd _ _ (by omega) (by omega) (fun x hx => (fourW_bd (bd_of_ranged (List.all_eq_true.1 h x (List.mem_of_mem_take hx)))).2)
def diaW (l : List XY) : Int := ((iceil (mostTo l l.length).toNat : Nat) : Int)
def diameterS (l : List XY) : Int × Int := if validB l then (diaW l, 0) else (0, 10)
def area2S (l : List XY) : Int × Int := if validB l then (areaW l, 0) else (0, 10)
theorem validB_len' {l : List XY} (h : validB l = true) : 3 ≤ l.length ∧ l.length ≤ 64 := by
  simp only [validB, Bool.and_eq_true, decide_eq_true_eq] at h; exact ⟨h.1.1.1.1, h.1.1.1.2⟩
theorem validB_ranged {l : List XY} (h : validB l = true) : l.all rangedB = true := by
  simp only [validB, Bool.and_eq_true] at h; exact h.1.1.2
end Go.Proofs.Ytimehkeaeffcaaa

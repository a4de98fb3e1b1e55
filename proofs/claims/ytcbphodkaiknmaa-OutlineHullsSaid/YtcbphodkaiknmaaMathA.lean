/- Plain laws: Go's int does not wrap at the numbers that outlines have. Plain geometry of closed lines of whole places: a line that turns left everywhere and goes round once is convex, and the other way round. No program. The program's test of validity and the reference's agree: a closed line of at least three corners that turns left at each and comes to the upper half once is a convex one, and the other way round. Squares of lengths, without wraps. -/
import Derived.Test.YtcbphodkaiknmaaBaseM
namespace Go.Proofs.Ytcbphodkaiknmaa
open Go.RowKit (wrap64)

theorem w64_id {n : Int} (h1 : -9223372036854775808 ≤ n) (h2 : n ≤ 9223372036854775807) : wrap64 n = n := by unfold wrap64; omega
theorem mul_bd {a b A B : Int} (ha1 : -A ≤ a) (ha2 : a ≤ A) (hb1 : -B ≤ b) (hb2 : b ≤ B) : -(A * B) ≤ a * b ∧ a * b ≤ A * B := by
  have h1 := Int.mul_nonneg (a := A - a) (b := B - b) (by omega) (by omega)
  have h2 := Int.mul_nonneg (a := A + a) (b := B + b) (by omega) (by omega)
  have h3 := Int.mul_nonneg (a := A - a) (b := B + b) (by omega) (by omega)
  have h4 := Int.mul_nonneg (a := A + a) (b := B - b) (by omega) (by omega)
  constructor <;> grind

/-- A place with coordinates up to B. -/
def Bd (B : Int) (p : XY) : Prop := -B ≤ p.X ∧ p.X ≤ B ∧ -B ≤ p.Y ∧ p.Y ≤ B
theorem bd_of_ranged {p : XY} (h : rangedB p = true) : Bd 5000 p := by
  simp only [rangedB, Bool.and_eq_true, decide_eq_true_eq] at h
  exact ⟨h.1.1.1, h.1.1.2, h.1.2, h.2⟩
theorem Bd.mono {B C : Int} {p : XY} (h : Bd B p) (hC : B ≤ C) : Bd C p := by
  obtain ⟨h1, h2, h3, h4⟩ := h; exact ⟨by omega, by omega, by omega, by omega⟩

def cross (a b c : XY) : Int := (b.X - a.X) * (c.Y - b.Y) - (b.Y - a.Y) * (c.X - b.X)
theorem cross_eq2 (a b c : XY) : cross a b c = (b.X - a.X) * (c.Y - a.Y) - (b.Y - a.Y) * (c.X - a.X) := by unfold cross; grind

theorem crossW_eq {a b c : XY} (ha : Bd 100000 a) (hb : Bd 100000 b) (hc : Bd 100000 c) : crossW a b c = cross a b c := by
  obtain ⟨a1, a2, a3, a4⟩ := ha
  obtain ⟨b1, b2, b3, b4⟩ := hb
  obtain ⟨c1, c2, c3, c4⟩ := hc
  have m1 := mul_bd (a := b.X - a.X) (b := c.Y - b.Y) (A := 200000) (B := 200000) (by omega) (by omega) (by omega) (by omega)
  have m2 := mul_bd (a := b.Y - a.Y) (b := c.X - b.X) (A := 200000) (B := 200000) (by omega) (by omega) (by omega) (by omega)
  unfold crossW cross
  rw [w64_id (n := b.X - a.X) (by omega) (by omega), w64_id (n := c.Y - b.Y) (by omega) (by omega), w64_id (n := b.Y - a.Y) (by omega) (by omega), w64_id (n := c.X - b.X) (by omega) (by omega),
    w64_id (n := (b.X - a.X) * (c.Y - b.Y)) (by omega) (by omega), w64_id (n := (b.Y - a.Y) * (c.X - b.X)) (by omega) (by omega), w64_id (by omega) (by omega)]
theorem cross2W_eq {a b c : XY} (ha : Bd 100000 a) (hb : Bd 100000 b) (hc : Bd 100000 c) : cross2W a b c = cross a b c := by
  obtain ⟨a1, a2, a3, a4⟩ := ha
  obtain ⟨b1, b2, b3, b4⟩ := hb
  obtain ⟨c1, c2, c3, c4⟩ := hc
  have m1 := mul_bd (a := b.X - a.X) (b := c.Y - a.Y) (A := 200000) (B := 200000) (by omega) (by omega) (by omega) (by omega)
  have m2 := mul_bd (a := b.Y - a.Y) (b := c.X - a.X) (A := 200000) (B := 200000) (by omega) (by omega) (by omega) (by omega)
  rw [cross_eq2]
  unfold cross2W
  rw [w64_id (n := b.X - a.X) (by omega) (by omega), w64_id (n := c.Y - a.Y) (by omega) (by omega), w64_id (n := b.Y - a.Y) (by omega) (by omega), w64_id (n := c.X - a.X) (by omega) (by omega),
    w64_id (n := (b.X - a.X) * (c.Y - a.Y)) (by omega) (by omega), w64_id (n := (b.Y - a.Y) * (c.X - a.X)) (by omega) (by omega), w64_id (by omega) (by omega)]
theorem fourW_eq {p : XY} (h : Bd 100000 p) : fourW p = 4 * (p.X * p.X + p.Y * p.Y) := by
  obtain ⟨a1, a2, a3, a4⟩ := h
  have m1 := mul_bd (a := p.X) (b := p.X) (A := 100000) (B := 100000) (by omega) (by omega) (by omega) (by omega)
  have m2 := mul_bd (a := p.Y) (b := p.Y) (A := 100000) (B := 100000) (by omega) (by omega) (by omega) (by omega)
  unfold fourW
  rw [w64_id (n := p.X * p.X) (by omega) (by omega), w64_id (n := p.Y * p.Y) (by omega) (by omega), w64_id (n := p.X * p.X + p.Y * p.Y) (by omega) (by omega), w64_id (by omega) (by omega)]
theorem sq_nonneg (a : Int) : 0 ≤ a * a := by
  rcases Int.le_total 0 a with h | h
  · exact Int.mul_nonneg h h
  · exact Int.mul_nonneg_of_nonpos_of_nonpos h h
theorem fourW_bd {p : XY} (h : Bd 5000 p) : 0 ≤ fourW p ∧ fourW p ≤ 200000000 := by
  rw [fourW_eq (h.mono (by omega))]
  obtain ⟨a1, a2, a3, a4⟩ := h
  have m1 := mul_bd (a := p.X) (b := p.X) (A := 5000) (B := 5000) (by omega) (by omega) (by omega) (by omega)
  have m2 := mul_bd (a := p.Y) (b := p.Y) (A := 5000) (B := 5000) (by omega) (by omega) (by omega) (by omega)
  have s1 := sq_nonneg p.X
  have s2 := sq_nonneg p.Y
  omega

/-- The greatest square of the diameter. -/
def mostTo (l : List XY) (k : Nat) : Int := (l.take k).foldl (fun m q => max m (fourW q)) 0
theorem foldl_max_bd {f : XY → Int} {B : Int} : ∀ (l : List XY) (m : Int), 0 ≤ m → m ≤ B → (∀ x ∈ l, f x ≤ B) → 0 ≤ l.foldl (fun m q => max m (f q)) m ∧ l.foldl (fun m q => max m (f q)) m ≤ B
  | [], _, h0, h1, _ => ⟨h0, h1⟩
  | x :: l, m, h0, h1, h => by
    have hx := h x (by simp)
    exact foldl_max_bd l (max m (f x)) (by omega) (by omega) (fun y hy => h y (by simp [hy]))
theorem mostTo_bd {l : List XY} (h : l.all rangedB = true) (k : Nat) : 0 ≤ mostTo l k ∧ mostTo l k ≤ 200000000 :=
  foldl_max_bd _ _ (by omega) (by omega) (fun x hx => (fourW_bd (bd_of_ranged (List.all_eq_true.1 h x (List.mem_of_mem_take hx)))).2)
def diaW (l : List XY) : Int := ((iceil (mostTo l l.length).toNat : Nat) : Int)
def diameterS (l : List XY) : Int × Int := if validB l then (diaW l, 0) else (0, 10)
def area2S (l : List XY) : Int × Int := if validB l then (areaW l, 0) else (0, 10)
theorem validB_len' {l : List XY} (h : validB l = true) : 3 ≤ l.length ∧ l.length ≤ 64 := by
  simp only [validB, Bool.and_eq_true, decide_eq_true_eq] at h; exact ⟨h.1.1.1.1, h.1.1.1.2⟩
theorem validB_ranged {l : List XY} (h : validB l = true) : l.all rangedB = true := by
  simp only [validB, Bool.and_eq_true] at h; exact h.1.1.2
end Go.Proofs.Ytcbphodkaiknmaa

namespace Go.Proofs.Ytcbphodkaiknmaa

/-- The product of two vectors; from a to b; upwards or to the right. -/
def vx (u v : XY) : Int := u.X * v.Y - u.Y * v.X
def sb (a b : XY) : XY := ⟨b.X - a.X, b.Y - a.Y⟩
def ng (u : XY) : XY := ⟨-u.X, -u.Y⟩
def up (u : XY) : Prop := 0 < u.Y ∨ (u.Y = 0 ∧ 0 < u.X)

theorem vx_ng2 (u v : XY) : vx (ng u) (ng v) = vx u v := by unfold vx ng; grind
theorem vx_ngr (u v : XY) : vx u (ng v) = -vx u v := by unfold vx ng; grind
theorem vx_ngl (u v : XY) : vx (ng u) v = -vx u v := by unfold vx ng; grind
theorem vx_swap (u v : XY) : vx u v = -vx v u := by unfold vx; grind
theorem vx_self (u : XY) : vx u u = 0 := by unfold vx; grind

theorem pos_of_mul {a b : Int} (hb : 0 < b) (h : 0 < a * b) : 0 < a := by
  rcases Int.lt_or_le 0 a with h1 | h1
  · exact h1
  · have := Int.mul_nonpos_of_nonpos_of_nonneg h1 (Int.le_of_lt hb); omega
theorem nonneg_of_mul {a b : Int} (hb : 0 < b) (h : 0 ≤ a * b) : 0 ≤ a := by
  rcases Int.lt_or_le a 0 with h1 | h1
  · have := Int.mul_neg_of_neg_of_pos h1 hb; omega
  · exact h1

theorem up_y {u : XY} (h : up u) : 0 ≤ u.Y := by rcases h with h | ⟨h, _⟩ <;> omega

/-- In the upper half the order by angles goes on. -/
theorem tr_up {u v w : XY} (hu : up u) (hv : up v) (hw : up w) (h1 : 0 ≤ vx u v) (h2 : 0 ≤ vx v w) : 0 ≤ vx u w ∧ (0 < vx u v ∨ 0 < vx v w → 0 < vx u w) := by
  have hid : vx u w * v.Y = vx u v * w.Y + vx v w * u.Y := by unfold vx; grind
  have hwY := up_y hw
  have huY := up_y hu
  rcases hv with hv | ⟨hv, hvx⟩
  · have hw0 : 0 < w.Y := by
      rcases hw with hw | ⟨hw, hwx⟩
      · exact hw
      · have h3 := Int.mul_pos hv hwx
        unfold vx at h2; rw [hw] at h2; omega
    have e1 := Int.mul_nonneg h1 hwY
    have e2 := Int.mul_nonneg h2 huY
    refine ⟨nonneg_of_mul hv (by omega), fun hs => ?_⟩
    rcases hs with hs | hs
    · have := Int.mul_pos hs hw0
      exact pos_of_mul hv (by omega)
    · rcases hu with hu | ⟨hu, hux⟩
      · have := Int.mul_pos hs hu
        exact pos_of_mul hv (by omega)
      · have := Int.mul_pos hux hw0
        unfold vx; rw [hu]; omega
  · have hu0 : u.Y = 0 := by
      rcases Int.lt_or_le 0 u.Y with h | h
      · have := Int.mul_pos h hvx
        unfold vx at h1; rw [hv] at h1; omega
      · omega
    have hux : 0 < u.X := by rcases hu with hu | ⟨_, hu⟩ <;> omega
    have e : vx u w = u.X * w.Y := by unfold vx; rw [hu0]; omega
    refine ⟨by rw [e]; exact Int.mul_nonneg (Int.le_of_lt hux) hwY, fun hs => ?_⟩
    rcases hs with hs | hs
    · unfold vx at hs; rw [hu0, hv] at hs; omega
    · have hwp : 0 < w.Y := by
        rcases Int.lt_or_le 0 w.Y with h | h
        · exact h
        · have : w.Y = 0 := by omega
          unfold vx at hs; rw [hv, this] at hs; omega
      rw [e]; exact Int.mul_pos hux hwp

/-- Sums whose steps are first above 0 and then no more, and that end at 0, are above 0 on the way. -/
theorem unimodal {g S : Nat → Int} {N : Nat} (hS : ∀ t, S (t + 1) = S t + g (t + 1)) (h0 : S 0 = 0) (hN : S N = 0) (g1 : 0 < g 1) (gN : g N < 0)
    (mono : ∀ s s', 1 ≤ s → s < s' → s' ≤ N → g s ≤ 0 → g s' ≤ 0) : ∀ t, 1 ≤ t → t < N → 0 < S t := by
  intro t ht htN
  by_cases hall : ∀ s, 1 ≤ s → s ≤ t → 0 < g s
  · have hup : ∀ k, k + 1 ≤ t → 0 < S (k + 1) := by
      intro k
      induction k with
      | zero => intro _; rw [hS, h0, Nat.zero_add]; omega
      | succ k ih => intro hk; rw [hS]; have := ih (by omega); have := hall (k + 1 + 1) (by omega) hk; omega
    have := hup (t - 1) (by omega)
    rwa [show t - 1 + 1 = t by omega] at this
  · obtain ⟨s, hs⟩ := Classical.not_forall.1 hall
    have hs1 : 1 ≤ s := by
      rcases Nat.lt_or_ge s 1 with h | h
      · exact absurd (fun a => by omega) hs
      · exact h
    have hs2 : s ≤ t := by
      rcases Nat.lt_or_ge t s with h | h
      · exact absurd (fun _ b => by omega) hs
      · exact h
    have hsg : g s ≤ 0 := by
      rcases Int.lt_or_le 0 (g s) with h | h
      · exact absurd (fun _ _ => h) hs
      · exact h
    have hdown : ∀ k, t + k + 1 ≤ N → S (t + k) ≤ S t := by
      intro k
      induction k with
      | zero => intro _; exact Int.le_refl _
      | succ k ih =>
        intro hk
        have h1 := ih (by omega)
        have h2 := mono s (t + k + 1) hs1 (by omega) (by omega) hsg
        rw [← Nat.add_assoc, hS]; omega
    have h1 := hdown (N - 1 - t) (by omega)
    have h2 := hS (N - 1)
    rw [show N - 1 + 1 = N by omega] at h2
    rw [show t + (N - 1 - t) = N - 1 by omega] at h1
    omega

/-- The side from place j on. -/
def dd (q : Nat → XY) (j : Nat) : XY := sb (q j) (q (j + 1))
theorem dd_per {q : Nat → XY} {n : Nat} (per : ∀ j, q (j + n) = q j) (j : Nat) : dd q (j + n) = dd q j := by
  unfold dd; rw [per, show j + n + 1 = j + 1 + n by omega, per]

section
variable {q : Nat → XY} {n m : Nat}

/-- Within a half the sides are ordered by their angles. -/
theorem chain_up (left : ∀ j, 0 < vx (dd q j) (dd q (j + 1))) (hup : ∀ j, j < m → up (dd q j)) : ∀ a k, a + k + 1 < m → 0 < vx (dd q a) (dd q (a + k + 1)) := by
  intro a k
  induction k with
  | zero => intro _; exact left a
  | succ k ih =>
    intro h
    have h1 := ih (by omega)
    have h2 := left (a + k + 1)
    exact (tr_up (hup a (by omega)) (hup (a + k + 1) (by omega)) (hup (a + k + 1 + 1) (by omega)) (Int.le_of_lt h1) (Int.le_of_lt h2)).2 (.inl h1)
theorem chain_low (left : ∀ j, 0 < vx (dd q j) (dd q (j + 1))) (hlow : ∀ j, m ≤ j → j < n → up (ng (dd q j))) : ∀ a k, m ≤ a → a + k + 1 < n → 0 < vx (dd q a) (dd q (a + k + 1)) := by
  intro a k
  induction k with
  | zero => intro _ _; exact left a
  | succ k ih =>
    intro ha h
    have h1 := ih ha (by omega)
    have h2 := left (a + k + 1)
    rw [← vx_ng2] at h1 h2 ⊢
    exact (tr_up (hlow a ha (by omega)) (hlow (a + k + 1) (by omega) (by omega)) (hlow (a + k + 1 + 1) (by omega) (by omega)) (Int.le_of_lt h1) (Int.le_of_lt h2)).2 (.inl h1)

/-- A closed line that turns left, with its sides first in the upper and then in the lower half, is convex. -/
theorem convex_core (hn : 3 ≤ n) (per : ∀ j, q (j + n) = q j) (left : ∀ j, 0 < vx (dd q j) (dd q (j + 1))) (hup : ∀ j, j < m → up (dd q j)) (hlow : ∀ j, m ≤ j → j < n → up (ng (dd q j)))
    (i : Nat) (hi : i < n) (t : Nat) (ht : 2 ≤ t) (htn : t < n) : 0 < vx (dd q i) (sb (q i) (q (i + t))) := by
  have cu : ∀ a b, a < b → b < m → 0 < vx (dd q a) (dd q b) := fun a b h1 h2 => by
    have := chain_up left hup a (b - a - 1) (by omega); rwa [show a + (b - a - 1) + 1 = b by omega] at this
  have cl : ∀ a b, m ≤ a → a < b → b < n → 0 < vx (dd q a) (dd q b) := fun a b h0 h1 h2 => by
    have := chain_low left hlow a (b - a - 1) h0 (by omega); rwa [show a + (b - a - 1) + 1 = b by omega] at this
  have key := unimodal (g := fun s => vx (dd q i) (dd q (i + s))) (S := fun t => vx (dd q i) (sb (q (i + 1)) (q (i + 1 + t)))) (N := n - 1) ?_ ?_ ?_ ?_ ?_ ?_ (t - 1) (by omega) (by omega)
  · have e : vx (dd q i) (sb (q i) (q (i + t))) = vx (dd q i) (sb (q (i + 1)) (q (i + t))) := by unfold vx dd sb; grind
    rw [e]
    simpa [show i + 1 + (t - 1) = i + t by omega] using key
  · intro t
    show vx (dd q i) (sb (q (i + 1)) (q (i + 1 + (t + 1)))) = vx (dd q i) (sb (q (i + 1)) (q (i + 1 + t))) + vx (dd q i) (dd q (i + (t + 1)))
    rw [show i + 1 + (t + 1) = i + (t + 1) + 1 by omega, show i + 1 + t = i + (t + 1) by omega]
    unfold vx dd sb; grind
  · show vx (dd q i) (sb (q (i + 1)) (q (i + 1 + 0))) = 0
    rw [Nat.add_zero]; unfold vx dd sb; grind
  · show vx (dd q i) (sb (q (i + 1)) (q (i + 1 + (n - 1)))) = 0
    rw [show i + 1 + (n - 1) = i + n by omega, per]; unfold vx dd sb; grind
  · exact left i
  · show vx (dd q i) (dd q (i + (n - 1))) < 0
    have h := left (i + (n - 1))
    rw [show i + (n - 1) + 1 = i + n by omega, dd_per per] at h
    rw [vx_swap]; omega
  · intro s s' hs hss hsn hg
    show vx (dd q i) (dd q (i + s')) ≤ 0
    have hg : vx (dd q i) (dd q (i + s)) ≤ 0 := hg
    rcases Nat.lt_or_ge (i + s') n with hb | hb
    · -- both ahead of the end
      have him : i < m := by
        rcases Nat.lt_or_ge i m with h | h
        · exact h
        · have := cl i (i + s) h (by omega) (by omega); omega
      have ham : m ≤ i + s := by
        rcases Nat.lt_or_ge (i + s) m with h | h
        · have := cu i (i + s) (by omega) h; omega
        · exact h
      have h1 := cl (i + s) (i + s') ham (by omega) hb
      rw [← vx_ng2] at h1
      have h2 : 0 ≤ vx (dd q i) (ng (dd q (i + s))) := by rw [vx_ngr]; omega
      have h3 := (tr_up (hup i him) (hlow (i + s) ham (by omega)) (hlow (i + s') (by omega) hb) h2 (Int.le_of_lt h1)).1
      rw [vx_ngr] at h3; omega
    · have eb : dd q (i + s') = dd q (i + s' - n) := by
        rw [show i + s' = i + s' - n + n by omega, dd_per per]; simp
      rcases Nat.lt_or_ge (i + s) n with ha | ha
      · have him : i < m := by
          rcases Nat.lt_or_ge i m with h | h
          · exact h
          · have := cl i (i + s) h (by omega) (by omega); omega
        have h1 := cu (i + s' - n) i (by omega) him
        rw [eb, vx_swap]; omega
      · have ea : dd q (i + s) = dd q (i + s - n) := by
          rw [show i + s = i + s - n + n by omega, dd_per per]; simp
        rcases Int.lt_or_le 0 (vx (dd q i) (dd q (i + s'))) with hpos | hle
        · exfalso
          rw [eb] at hpos
          rw [ea] at hg
          have hbm : i + s' - n < m := by
            rcases Nat.lt_or_ge (i + s' - n) m with h | h
            · exact h
            · have := cl (i + s' - n) i h (by omega) hi; rw [vx_swap] at hpos; omega
          have him : m ≤ i := by
            rcases Nat.lt_or_ge i m with h | h
            · have := cu (i + s' - n) i (by omega) h; rw [vx_swap] at hpos; omega
            · exact h
          have h1 := cu (i + s - n) (i + s' - n) (by omega) hbm
          have h2 : 0 < vx (dd q (i + s' - n)) (ng (dd q i)) := by rw [vx_ngr, vx_swap]; omega
          have h3 := (tr_up (hup (i + s - n) (by omega)) (hup (i + s' - n) hbm) (hlow i him hi) (Int.le_of_lt h1) (Int.le_of_lt h2)).2 (.inl h1)
          rw [vx_ngr, vx_swap] at h3
          omega
        · exact hle

/-- A place q depends on its number's remainder alone. -/
theorem per_mul (per : ∀ j, q (j + n) = q j) (k j : Nat) : q (j + k * n) = q j := by
  induction k with
  | zero => simp
  | succ k ih => rw [show j + (k + 1) * n = j + k * n + n by rw [Nat.add_mul]; omega, per, ih]
theorem per_mod (per : ∀ j, q (j + n) = q j) (j : Nat) : q (j % n) = q j := by
  have h := per_mul per (j / n) (j % n)
  rw [Nat.mul_comm, Nat.mod_add_div] at h
  exact h.symm
theorem per_eq (per : ∀ j, q (j + n) = q j) {i j : Nat} (h : i % n = j % n) : q i = q j := by rw [← per_mod per i, ← per_mod per j, h]

theorem up_or (u : XY) (h : u.X ≠ 0 ∨ u.Y ≠ 0) : up u ∨ up (ng u) := by
  unfold up ng; simp only; omega
theorem not_up_ng {u : XY} (h : up u) : ¬ up (ng u) := by unfold up ng at *; simp only; omega
theorem vx_ne {u v : XY} (h : 0 < vx u v) : u.X ≠ 0 ∨ u.Y ≠ 0 := by
  rcases Decidable.em (u.X ≠ 0) with h1 | h1
  · exact .inl h1
  · rcases Decidable.em (u.Y ≠ 0) with h2 | h2
    · exact .inr h2
    · have e1 : u.X = 0 := by omega
      have e2 : u.Y = 0 := by omega
      unfold vx at h; rw [e1, e2] at h; omega

/-- A closed line that turns left everywhere and comes to the upper half at one place alone is convex. -/
theorem convex_of_once (hn : 3 ≤ n) (per : ∀ j, q (j + n) = q j) (left : ∀ j, 0 < vx (dd q j) (dd q (j + 1))) (j0 : Nat) (h0 : ¬ up (dd q j0) ∧ up (dd q (j0 + 1)))
    (uniq : ∀ j, ¬ up (dd q j) ∧ up (dd q (j + 1)) → j % n = j0 % n) (i t : Nat) (ht : 2 ≤ t) (htn : t < n) : 0 < vx (dd q i) (sb (q i) (q (i + t))) := by
  have r_per : ∀ j, (fun j => q (j0 + 1 + j)) (j + n) = (fun j => q (j0 + 1 + j)) j := fun j => by simp only; rw [← Nat.add_assoc, per]
  have r_dd : ∀ j, dd (fun j => q (j0 + 1 + j)) j = dd q (j0 + 1 + j) := fun j => rfl
  have r_left : ∀ j, 0 < vx (dd (fun j => q (j0 + 1 + j)) j) (dd (fun j => q (j0 + 1 + j)) (j + 1)) := fun j => left (j0 + 1 + j)
  have hlast : ¬ up (dd q (j0 + 1 + (n - 1))) := by rw [show j0 + 1 + (n - 1) = j0 + n by omega, dd_per per]; exact h0.1
  -- the first side that isn't in the upper half
  have hex : ∃ m, m < n ∧ ¬ up (dd q (j0 + 1 + m)) ∧ ∀ k, k < m → up (dd q (j0 + 1 + k)) := by
    have : ∀ N, N < n → ¬ up (dd q (j0 + 1 + N)) → ∃ m, m < n ∧ ¬ up (dd q (j0 + 1 + m)) ∧ ∀ k, k < m → up (dd q (j0 + 1 + k)) := by
      intro N
      induction N using Nat.strongRecOn with
      | _ N ih =>
        intro hN hd
        by_cases hall : ∀ k, k < N → up (dd q (j0 + 1 + k))
        · exact ⟨N, hN, hd, hall⟩
        · obtain ⟨k, hk⟩ := Classical.not_forall.1 hall
          have hkN : k < N := Classical.byContradiction fun h => hk fun h' => absurd h' h
          exact ih k hkN (by omega) (fun h => hk fun _ => h)
    exact this (n - 1) (by omega) hlast
  obtain ⟨m, hm, hmd, hup⟩ := hex
  have hstay : ∀ k, m + k < n → ¬ up (dd q (j0 + 1 + (m + k))) := by
    intro k
    induction k with
    | zero => intro _; exact hmd
    | succ k ih =>
      intro hk hu
      have h1 := ih (by omega)
      have h2 := uniq (j0 + 1 + (m + k)) ⟨h1, by rw [show j0 + 1 + (m + k) + 1 = j0 + 1 + (m + (k + 1)) by omega]; exact hu⟩
      have h3 : (j0 + 1 + (m + k)) % n = j0 % n := h2
      have h4 : (j0 + (1 + (m + k))) % n = j0 % n := by rw [← h3]; congr 1; omega
      have h5 : (1 + (m + k)) % n = 0 := by
        have e1 := Nat.mod_add_div (j0 + (1 + (m + k))) n
        have e2 := Nat.mod_add_div j0 n
        rw [h4] at e1
        have e3 : n * ((j0 + (1 + (m + k))) / n) = n * (j0 / n) + (1 + (m + k)) := by omega
        have e4 : 1 + (m + k) = n * ((j0 + (1 + (m + k))) / n - j0 / n) := by rw [Nat.mul_sub]; omega
        rw [e4]; exact Nat.mul_mod_right _ _
      rw [Nat.mod_eq_of_lt (by omega)] at h5
      omega
  have hlow : ∀ j, m ≤ j → j < n → up (ng (dd (fun j => q (j0 + 1 + j)) j)) := by
    intro j h1 h2
    have h3 := hstay (j - m) (by omega)
    rw [show m + (j - m) = j by omega] at h3
    exact (up_or _ (vx_ne (left (j0 + 1 + j)))).resolve_left h3
  have core := convex_core (q := fun j => q (j0 + 1 + j)) (m := m) hn r_per r_left (fun j hj => hup j hj) hlow ((i + (j0 + 1) * (n - 1)) % n) (Nat.mod_lt _ (by omega)) t ht htn
  have e1 : (j0 + 1 + (i + (j0 + 1) * (n - 1)) % n) % n = i % n := by
    rw [Nat.add_mod_mod]
    rw [show j0 + 1 + (i + (j0 + 1) * (n - 1)) = i + n * (j0 + 1) by
      have : (j0 + 1) * (n - 1) = (j0 + 1) * n - (j0 + 1) := by rw [Nat.mul_sub]; omega
      have h2 : j0 + 1 ≤ (j0 + 1) * n := Nat.le_mul_of_pos_right _ (by omega)
      have h3 : n * (j0 + 1) = (j0 + 1) * n := Nat.mul_comm _ _
      omega]
    exact Nat.add_mul_mod_self_left _ _ _
  have f1 : q (j0 + 1 + (i + (j0 + 1) * (n - 1)) % n) = q i := per_eq per e1
  have f2 : q (j0 + 1 + ((i + (j0 + 1) * (n - 1)) % n + 1)) = q (i + 1) := per_eq per (by rw [← Nat.add_assoc, Nat.add_mod, e1, ← Nat.add_mod])
  have f3 : q (j0 + 1 + ((i + (j0 + 1) * (n - 1)) % n + t)) = q (i + t) := per_eq per (by rw [← Nat.add_assoc, Nat.add_mod, e1, ← Nat.add_mod])
  simp only [dd, f1, f2, f3] at core
  exact core

/-! ### The other way round -/

/-- Ahead of: lower, or at the same height further left. -/
def lx (a b : XY) : Prop := a.Y < b.Y ∨ (a.Y = b.Y ∧ a.X < b.X)
theorem lx_iff (a b : XY) : lx a b ↔ up (sb a b) := by unfold lx up sb; simp only; omega
theorem lx_trans {a b c : XY} (h : lx a b) (k : lx b c) : lx a c := by unfold lx at *; omega
theorem lx_irr (a : XY) : ¬ lx a a := by unfold lx; omega

/-- At a corner of a convex line where it comes to the upper half all other places lie ahead. -/
theorem corner_low {u v x : XY} (hun : up (ng u)) (hv : up v) (huv : 0 < vx u v) (h1 : 0 ≤ vx u x) (h2 : 0 ≤ vx v x) : ¬ up (ng x) := by
  intro hx
  have a1 : 0 ≤ vx (ng u) (ng x) := by rw [vx_ng2]; exact h1
  have a2 : 0 ≤ vx (ng x) v := by rw [vx_ngl, vx_swap]; omega
  have := (tr_up hun hx hv a1 a2).1
  rw [vx_ngl] at this
  omega

theorem once_of_convex (hn : 3 ≤ n) (per : ∀ j, q (j + n) = q j) (conv : ∀ i t, 2 ≤ t → t < n → 0 < vx (dd q i) (sb (q i) (q (i + t)))) :
    (∀ j, 0 < vx (dd q j) (dd q (j + 1))) ∧ (∃ j, ¬ up (dd q j) ∧ up (dd q (j + 1))) ∧ (∀ a b, ¬ up (dd q a) ∧ up (dd q (a + 1)) → ¬ up (dd q b) ∧ up (dd q (b + 1)) → a % n = b % n) := by
  have left : ∀ j, 0 < vx (dd q j) (dd q (j + 1)) := fun j => by
    have h := conv j 2 (by omega) (by omega)
    have e : vx (dd q j) (sb (q j) (q (j + 2))) = vx (dd q j) (dd q (j + 1)) := by unfold vx dd sb; grind
    rwa [e] at h
  have nz : ∀ j, up (dd q j) ∨ up (ng (dd q j)) := fun j => up_or _ (vx_ne (left j))
  refine ⟨left, ?_, ?_⟩
  · apply Classical.byContradiction
    intro hno
    have hst : ∀ j, ¬ up (dd q j) → ¬ up (dd q (j + 1)) := fun j h1 h2 => hno ⟨j, h1, h2⟩
    by_cases hall : ∀ j, up (dd q j)
    · have hch : ∀ k, lx (q 0) (q (k + 1)) := by
        intro k
        induction k with
        | zero => exact (lx_iff _ _).2 (hall 0)
        | succ k ih => exact lx_trans ih ((lx_iff _ _).2 (hall (k + 1)))
      have h := hch (n - 1)
      rw [show n - 1 + 1 = 0 + n by omega, per] at h
      exact lx_irr _ h
    · obtain ⟨a, ha⟩ := Classical.not_forall.1 hall
      have hlow : ∀ k, ¬ up (dd q (a + k)) := by
        intro k
        induction k with
        | zero => exact ha
        | succ k ih => exact hst _ ih
      have hch : ∀ k, lx (q (a + (k + 1))) (q a) := by
        intro k
        have hs : ∀ k, lx (q (a + (k + 1))) (q (a + k)) := fun k => by
          have h := (nz (a + k)).resolve_left (hlow k)
          refine (lx_iff _ _).2 ?_
          have e : sb (q (a + (k + 1))) (q (a + k)) = ng (dd q (a + k)) := by
            unfold sb ng dd sb; simp only [Nat.add_assoc]; congr 1 <;> omega
          rw [e]; exact h
        induction k with
        | zero => exact hs 0
        | succ k ih => exact lx_trans (hs (k + 1)) ih
      have h := hch (n - 1)
      rw [show a + (n - 1 + 1) = a + n by omega, per] at h
      exact lx_irr _ h
  · -- the corner behind such a place is ahead of all others
    have hmin : ∀ a, ¬ up (dd q a) ∧ up (dd q (a + 1)) → ∀ t, 1 ≤ t → t < n → lx (q (a + 1)) (q (a + 1 + t)) := by
      intro a ⟨h1, h2⟩ t ht htn
      rw [lx_iff]
      have hu := (nz a).resolve_left h1
      -- the place seen from the corner: to the left of both sides
      have c2 : 0 ≤ vx (dd q (a + 1)) (sb (q (a + 1)) (q (a + 1 + t))) := by
        rcases Nat.lt_or_ge t 2 with h | h
        · obtain rfl : t = 1 := by omega
          show 0 ≤ vx (dd q (a + 1)) (dd q (a + 1))
          rw [vx_self]; omega
        · exact Int.le_of_lt (conv (a + 1) t h htn)
      have e1 : vx (dd q a) (sb (q (a + 1)) (q (a + 1 + t))) = vx (dd q a) (sb (q a) (q (a + (t + 1)))) := by
        rw [show a + 1 + t = a + (t + 1) by omega]; unfold vx dd sb; grind
      have c1 : 0 ≤ vx (dd q a) (sb (q (a + 1)) (q (a + 1 + t))) := by
        rw [e1]
        rcases Nat.lt_or_ge (t + 1) n with h | h
        · exact Int.le_of_lt (conv a (t + 1) (by omega) h)
        · have : t + 1 = n := by omega
          rw [this, per]; unfold vx dd sb; simp
      have hne : up (sb (q (a + 1)) (q (a + 1 + t))) ∨ up (ng (sb (q (a + 1)) (q (a + 1 + t)))) := by
        apply up_or
        rcases Nat.lt_or_ge t 2 with h | h
        · obtain rfl : t = 1 := by omega
          exact vx_ne (left (a + 1))
        · have := conv (a + 1) t h htn
          rw [vx_swap] at this
          have : vx (sb (q (a + 1)) (q (a + 1 + t))) (dd q (a + 1)) ≠ 0 := by omega
          apply Classical.byContradiction
          intro hc
          simp only [not_or, Classical.not_not] at hc
          apply this
          unfold vx; rw [hc.1, hc.2]; omega
      exact hne.resolve_right (corner_low hu h2 (left a) c1 c2)
    intro a b ha hb
    apply Classical.byContradiction
    intro hne
    -- from the one corner to the other and back
    have go : ∀ a b, (a % n ≠ b % n) → ¬ up (dd q a) ∧ up (dd q (a + 1)) → lx (q (a + 1)) (q (b + 1)) := by
      intro a b hab h
      have hm1 := Nat.mod_lt b (show 0 < n by omega)
      have hm2 := Nat.mod_lt a (show 0 < n by omega)
      by_cases hlt : a % n < b % n
      · have := hmin a h (b % n - a % n) (by omega) (by omega)
        have e : q (a + 1 + (b % n - a % n)) = q (b + 1) := per_eq per (by
          have e1 := Nat.mod_add_div a n
          rw [show a + 1 + (b % n - a % n) = b % n + 1 + n * (a / n) by omega, Nat.add_mul_mod_self_left, Nat.add_mod, Nat.mod_mod, ← Nat.add_mod])
        rwa [e] at this
      · have := hmin a h (n + b % n - a % n) (by omega) (by omega)
        have e : q (a + 1 + (n + b % n - a % n)) = q (b + 1) := per_eq per (by
          have e1 := Nat.mod_add_div a n
          rw [show a + 1 + (n + b % n - a % n) = b % n + 1 + n * (a / n + 1) by rw [Nat.mul_add]; omega, Nat.add_mul_mod_self_left, Nat.add_mod, Nat.mod_mod, ← Nat.add_mod])
        rwa [e] at this
    exact lx_irr _ (lx_trans (go a b hne ha) (go b a (fun h => hne h.symm) hb))
end
end Go.Proofs.Ytcbphodkaiknmaa

namespace Go.Proofs.Ytcbphodkaiknmaa
open Go.RowKit (wrap64)

theorem cy_per (l : List XY) (j : Nat) : cy l (j + l.length) = cy l j := by unfold cy; rw [Nat.add_mod_right]
theorem cy_mod (l : List XY) (j : Nat) : cy l (j % l.length) = cy l j := by unfold cy; rw [Nat.mod_mod]
theorem cy_mem {l : List XY} (h : 0 < l.length) (j : Nat) : cy l j ∈ l := by
  have hj := Nat.mod_lt j h
  unfold cy
  rw [List.getElem?_eq_getElem hj]
  exact List.getElem_mem hj
theorem bd_cy {l : List XY} (h : 0 < l.length) (hr : l.all rangedB = true) (j : Nat) : Bd 5000 (cy l j) :=
  bd_of_ranged (List.all_eq_true.1 hr _ (cy_mem h j))
theorem bd_cy' {l : List XY} (h : 0 < l.length) (hr : l.all rangedB = true) (j : Nat) : Bd 100000 (cy l j) := (bd_cy h hr j).mono (by omega)

theorem cross_vx (a b c : XY) : cross a b c = vx (sb a b) (sb b c) := by unfold cross vx sb; grind
theorem cross_vx2 (a b c : XY) : cross a b c = vx (sb a b) (sb a c) := by unfold cross vx sb; grind

theorem turnB_iff {l : List XY} (h : 0 < l.length) (hr : l.all rangedB = true) (i : Nat) : turnB l i = true ↔ 0 < vx (dd (cy l) i) (dd (cy l) (i + 1)) := by
  unfold turnB
  rw [decide_eq_true_iff, crossW_eq (bd_cy' h hr _) (bd_cy' h hr _) (bd_cy' h hr _), cross_vx]
  exact Iff.rfl
theorem half_iff {l : List XY} (h : 0 < l.length) (hr : l.all rangedB = true) (i : Nat) :
    halfB (wrap64 ((cy l (i + 1)).X - (cy l i).X)) (wrap64 ((cy l (i + 1)).Y - (cy l i).Y)) = true ↔ up (dd (cy l) i) := by
  obtain ⟨a1, a2, a3, a4⟩ := bd_cy h hr i
  obtain ⟨b1, b2, b3, b4⟩ := bd_cy h hr (i + 1)
  rw [w64_id (by omega) (by omega), w64_id (by omega) (by omega)]
  unfold halfB up dd sb
  simp only [Bool.or_eq_true, Bool.and_eq_true, decide_eq_true_eq]
theorem upB_iff {l : List XY} (h : 0 < l.length) (hr : l.all rangedB = true) (i : Nat) : upB l i = true ↔ ¬ up (dd (cy l) i) ∧ up (dd (cy l) (i + 1)) := by
  have e1 := half_iff h hr i
  have e2 := half_iff h hr (i + 1)
  unfold upB
  rw [Bool.and_eq_true, Bool.not_eq_true', e2, ← e1, Bool.not_eq_true]
theorem upB_per (l : List XY) (j : Nat) : upB l (j % l.length) = upB l j := by
  have e1 : ∀ k, cy l (j % l.length + k) = cy l (j + k) := fun k => by
    rw [← cy_mod, Nat.add_mod, Nat.mod_mod, ← Nat.add_mod, cy_mod]
  unfold upB
  rw [e1 1, e1 2, show cy l (j % l.length) = cy l j from e1 0]

/-- Just one below a bound. -/
theorem filter_one {p : Nat → Bool} (n : Nat) : ((List.range n).filter p).length = 1 ↔ (∃ j, j < n ∧ p j = true) ∧ ∀ a b, a < n → b < n → p a = true → p b = true → a = b := by
  constructor
  · intro h
    obtain ⟨x, hx⟩ := List.length_eq_one_iff.1 h
    have hm : ∀ j, (j < n ∧ p j = true) ↔ j = x := fun j => by
      rw [← List.mem_range, ← List.mem_filter, hx, List.mem_singleton]
    refine ⟨⟨x, (hm x).2 rfl⟩, ?_⟩
    intro a b ha hb h1 h2
    rw [(hm a).1 ⟨ha, h1⟩, (hm b).1 ⟨hb, h2⟩]
  · rintro ⟨⟨j, hj, pj⟩, hu⟩
    have nd : ((List.range n).filter p).Nodup := List.nodup_range.filter _
    have hm : ∀ x ∈ (List.range n).filter p, x = j := fun x hx => by
      obtain ⟨h1, h2⟩ := List.mem_filter.1 hx
      exact hu _ _ (List.mem_range.1 h1) hj h2 pj
    have hj' : j ∈ (List.range n).filter p := List.mem_filter.2 ⟨List.mem_range.2 hj, pj⟩
    match hL : (List.range n).filter p, nd, hm, hj' with
    | [], _, _, h => simp at h
    | [x], _, _, _ => rfl
    | x :: y :: t, nd, hm, _ =>
      have h1 := hm x (by simp)
      have h2 := hm y (by simp)
      subst h1
      subst h2
      simp at nd

theorem leftB_iff {l : List XY} (h : 0 < l.length) (hr : l.all rangedB = true) (i j : Nat) : leftB l i j = true ↔ (j = i ∨ j = (i + 1) % l.length ∨ 0 < vx (dd (cy l) i) (sb (cy l i) (cy l j))) := by
  unfold leftB
  rw [Bool.or_eq_true, Bool.or_eq_true, decide_eq_true_iff, decide_eq_true_iff, decide_eq_true_iff, cross2W_eq (bd_cy' h hr _) (bd_cy' h hr _) (bd_cy' h hr _), cross_vx2, or_assoc]
  exact Iff.rfl

/-- The convex form: to the left of each side lie all other corners. -/
def Conv (l : List XY) : Prop := ∀ i t, 2 ≤ t → t < l.length → 0 < vx (dd (cy l) i) (sb (cy l i) (cy l (i + t)))

theorem dd_mod (l : List XY) (i : Nat) : dd (cy l) (i % l.length) = dd (cy l) i := by
  unfold dd
  rw [cy_mod, ← cy_mod l (i % l.length + 1), Nat.add_mod, Nat.mod_mod, ← Nat.add_mod, cy_mod]

theorem left_conv {l : List XY} (h : 3 ≤ l.length) (hr : l.all rangedB = true) : ((List.range l.length).all (fun i => (List.range l.length).all (leftB l i)) = true) ↔ Conv l := by
  have hp : 0 < l.length := by omega
  simp only [List.all_eq_true, List.mem_range]
  constructor
  · intro H i t h2 hn
    have hm := Nat.mod_lt i hp
    have hm2 := Nat.mod_lt (i + t) hp
    have := (leftB_iff hp hr _ _).1 (H (i % l.length) hm ((i + t) % l.length) hm2)
    rcases this with h1 | h1 | h1
    · exfalso
      have e : (i + t) % l.length = (i % l.length + t) % l.length := (Nat.mod_add_mod i l.length t).symm
      rw [e] at h1
      rcases Nat.lt_or_ge (i % l.length + t) l.length with hh | hh
      · rw [Nat.mod_eq_of_lt hh] at h1; omega
      · rw [Nat.mod_eq_sub_mod hh, Nat.mod_eq_of_lt (by omega)] at h1; omega
    · exfalso
      have e : (i + t) % l.length = (i % l.length + t) % l.length := (Nat.mod_add_mod i l.length t).symm
      rw [e] at h1
      rcases Nat.lt_or_ge (i % l.length + t) l.length with hh | hh
      · rw [Nat.mod_eq_of_lt hh] at h1
        rcases Nat.lt_or_ge (i % l.length + 1) l.length with hk | hk
        · rw [Nat.mod_eq_of_lt hk] at h1; omega
        · omega
      · rw [Nat.mod_eq_sub_mod hh, Nat.mod_eq_of_lt (by omega)] at h1
        rcases Nat.lt_or_ge (i % l.length + 1) l.length with hk | hk
        · rw [Nat.mod_eq_of_lt hk] at h1; omega
        · have : i % l.length + 1 = l.length := by omega
          rw [this, Nat.mod_self] at h1
          omega
    · rwa [dd_mod, cy_mod, cy_mod] at h1
  · intro H i hi j hj
    rw [leftB_iff hp hr]
    by_cases h1 : j = i
    · exact Or.inl h1
    by_cases h2 : j = (i + 1) % l.length
    · exact Or.inr (Or.inl h2)
    refine Or.inr (Or.inr ?_)
    rcases Nat.lt_or_ge i j with hh | hh
    · have h3 : j ≠ i + 1 := fun hc => h2 (by rw [hc, Nat.mod_eq_of_lt (hc ▸ hj)])
      have := H i (j - i) (by omega) (by omega)
      rwa [show i + (j - i) = j by omega] at this
    · have h3 : j + l.length ≠ i + 1 := fun hc => h2 (by rw [← hc, Nat.add_mod_right, Nat.mod_eq_of_lt hj])
      have := H i (j + l.length - i) (by omega) (by omega)
      rwa [show i + (j + l.length - i) = j + l.length by omega, cy_per] at this

theorem once_conv {l : List XY} (h : 3 ≤ l.length) (hr : l.all rangedB = true) : ((List.range l.length).all (turnB l) = true ∧ upsTo l l.length = 1) ↔ Conv l := by
  have hp : 0 < l.length := by omega
  have per := cy_per l
  constructor
  · rintro ⟨h1, h2⟩
    unfold upsTo at h2
    obtain ⟨⟨j0, hj, pj⟩, hu⟩ := (filter_one _).1 h2
    have left : ∀ j, 0 < vx (dd (cy l) j) (dd (cy l) (j + 1)) := fun j => by
      have := (turnB_iff hp hr _).1 (List.all_eq_true.1 h1 _ (List.mem_range.2 (Nat.mod_lt j hp)))
      have e : dd (cy l) (j % l.length + 1) = dd (cy l) (j + 1) := by
        rw [← dd_mod, Nat.add_mod, Nat.mod_mod, ← Nat.add_mod, dd_mod]
      rwa [dd_mod, e] at this
    have hun : ∀ j, ¬ up (dd (cy l) j) ∧ up (dd (cy l) (j + 1)) → j % l.length = j0 % l.length := fun j hj' => by
      rw [Nat.mod_eq_of_lt hj]
      refine hu _ _ (Nat.mod_lt j hp) hj ?_ pj
      rw [upB_per]
      exact (upB_iff hp hr j).2 hj'
    intro i t ht1 ht2
    exact convex_of_once h per left j0 ((upB_iff hp hr j0).1 pj) hun i t ht1 ht2
  · intro H
    obtain ⟨h1, ⟨j, hj⟩, h3⟩ := once_of_convex h per H
    constructor
    · rw [List.all_eq_true]
      intro i _
      exact (turnB_iff hp hr i).2 (h1 i)
    · unfold upsTo
      rw [filter_one]
      refine ⟨⟨j % l.length, Nat.mod_lt j hp, by rw [upB_per]; exact (upB_iff hp hr j).2 hj⟩, ?_⟩
      intro a b ha hb pa pb
      have := h3 a b ((upB_iff hp hr a).1 pa) ((upB_iff hp hr b).1 pb)
      rwa [Nat.mod_eq_of_lt ha, Nat.mod_eq_of_lt hb] at this

theorem valid_eq (l : List XY) : validB l = validRB l := by
  unfold validB validRB
  by_cases h : 3 ≤ l.length
  · cases hr : l.all rangedB
    · simp
    · have e := (once_conv h hr).trans (left_conv h hr).symm
      rw [Bool.and_assoc]
      congr 1
      rw [Bool.eq_iff_iff, ← e, Bool.and_eq_true, decide_eq_true_iff]
  · simp [h]

theorem validB_conv {l : List XY} (h : validB l = true) : Conv l := by
  rw [valid_eq] at h
  unfold validRB at h
  simp only [Bool.and_eq_true, decide_eq_true_eq] at h
  exact (left_conv h.1.1.1 h.1.2).1 h.2

theorem inside_eq {l : List XY} (hl : l.all rangedB = true) {p : XY} (hp : Bd 100000 p) : insideB l p = inside2B l p := by
  unfold insideB inside2B
  rw [Bool.eq_iff_iff, List.all_eq_true, List.all_eq_true]
  refine forall_congr' fun i => forall_congr' fun hi => ?_
  have h0 : 0 < l.length := by have := List.mem_range.1 hi; omega
  rw [crossW_eq (bd_cy' h0 hl _) (bd_cy' h0 hl _) hp, cross2W_eq (bd_cy' h0 hl _) (bd_cy' h0 hl _) hp]
theorem all_congr' {α : Type} {l : List α} {f g : α → Bool} (h : ∀ x ∈ l, f x = g x) : l.all f = l.all g := by
  rw [Bool.eq_iff_iff, List.all_eq_true, List.all_eq_true]
  exact forall_congr' fun x => forall_congr' fun hx => by rw [h x hx]
theorem within_eq {o l : List XY} (hl : l.all rangedB = true) (ho : o.all rangedB = true) : withinB o l = within2B o l := by
  unfold withinB within2B
  exact all_congr' fun p hp => inside_eq hl ((bd_of_ranged (List.all_eq_true.1 ho _ hp)).mono (by omega))

theorem seatS_eq (lens groove : List XY) (play : Int) : seatS lens groove play = seat2S lens groove play := by
  unfold seatS seat2S
  rw [← valid_eq, ← valid_eq]
  cases h1 : validB lens
  · rfl
  · cases h2 : validB groove
    · rfl
    · rw [within_eq (validB_ranged h2) (validB_ranged h1)]
end Go.Proofs.Ytcbphodkaiknmaa

namespace Go.Proofs.Ytcbphodkaiknmaa
open Go.RowKit (wrap64)

/-- The square of the length of a side. -/
def d2 (a b : XY) : Nat := ((b.X - a.X) * (b.X - a.X) + (b.Y - a.Y) * (b.Y - a.Y)).toNat
theorem d2_cast (a b : XY) : ((d2 a b : Nat) : Int) = (b.X - a.X) * (b.X - a.X) + (b.Y - a.Y) * (b.Y - a.Y) := by
  have h1 := sq_nonneg (b.X - a.X)
  have h2 := sq_nonneg (b.Y - a.Y)
  unfold d2
  omega
theorem d2_bd {a b : XY} (ha : Bd 5000 a) (hb : Bd 5000 b) : d2 a b ≤ 200000000 := by
  obtain ⟨a1, a2, a3, a4⟩ := ha
  obtain ⟨b1, b2, b3, b4⟩ := hb
  obtain ⟨u1, u2⟩ := mul_bd (a := b.X - a.X) (b := b.X - a.X) (A := 10000) (B := 10000) (by omega) (by omega) (by omega) (by omega)
  obtain ⟨v1, v2⟩ := mul_bd (a := b.Y - a.Y) (b := b.Y - a.Y) (A := 10000) (B := 10000) (by omega) (by omega) (by omega) (by omega)
  have := d2_cast a b
  omega
theorem lenW_eq {a b : XY} (ha : Bd 5000 a) (hb : Bd 5000 b) : wrap64 (wrap64 (wrap64 (b.X - a.X) * wrap64 (b.X - a.X)) + wrap64 (wrap64 (b.Y - a.Y) * wrap64 (b.Y - a.Y))) = ((d2 a b : Nat) : Int) := by
  rw [d2_cast]
  obtain ⟨a1, a2, a3, a4⟩ := ha
  obtain ⟨b1, b2, b3, b4⟩ := hb
  rw [w64_id (show _ ≤ b.X - a.X by omega) (by omega), w64_id (show _ ≤ b.Y - a.Y by omega) (by omega)]
  obtain ⟨u1, u2⟩ := mul_bd (a := b.X - a.X) (b := b.X - a.X) (A := 10000) (B := 10000) (by omega) (by omega) (by omega) (by omega)
  obtain ⟨v1, v2⟩ := mul_bd (a := b.Y - a.Y) (b := b.Y - a.Y) (A := 10000) (B := 10000) (by omega) (by omega) (by omega) (by omega)
  rw [w64_id (show _ ≤ (b.X - a.X) * (b.X - a.X) by omega) (by omega), w64_id (show _ ≤ (b.Y - a.Y) * (b.Y - a.Y) by omega) (by omega), w64_id (by omega) (by omega)]
theorem d2_comm (a b : XY) : d2 a b = d2 b a := by
  have h1 := d2_cast a b
  have h2 := d2_cast b a
  have e1 : (b.X - a.X) * (b.X - a.X) = (a.X - b.X) * (a.X - b.X) := by grind
  have e2 : (b.Y - a.Y) * (b.Y - a.Y) = (a.Y - b.Y) * (a.Y - b.Y) := by grind
  rw [e1, e2] at h1
  omega
/-- Sums of roots, rounded. -/
def arP (f : Nat → Nat) (l : List XY) (pre : List Nat) : Int := pre.foldl (fun n i => wrap64 (n + ((f (d2 (cy l i) (cy l (i + 1))) : Nat) : Int))) 0
def arTo (f : Nat → Nat) (l : List XY) (k : Nat) : Int := arP f l (List.range k)
theorem arP_snoc (f : Nat → Nat) (l : List XY) (pre : List Nat) (i : Nat) : arP f l (pre ++ [i]) = wrap64 (arP f l pre + ((f (d2 (cy l i) (cy l (i + 1))) : Nat) : Int)) := by
  unfold arP; rw [List.foldl_append]; rfl
theorem arTo_succ (f : Nat → Nat) (l : List XY) (k : Nat) : arTo f l (k + 1) = wrap64 (arTo f l k + ((f (d2 (cy l k) (cy l (k + 1))) : Nat) : Int)) := by
  unfold arTo; rw [List.range_succ, arP_snoc]
def aroundS (va : List XY → Bool) (l : List XY) : Int × Int × Int := if va l then (arTo isqrt l l.length, arTo iceil l l.length, 0) else (0, 0, 10)
end Go.Proofs.Ytcbphodkaiknmaa

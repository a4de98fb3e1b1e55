/- Plain geometry of closed lines of whole places: a line that turns left everywhere and goes round once is convex, and the other way round. No program. -/
import Derived.Test.YtimehkeaeffcaaaMath0
namespace Go.Proofs.Ytimehkeaeffcaaa

/-- The product of two vectors; from a to b; upwards or to the right. -/
def vx (u v : XY) : Int := u.X * v.Y - u.Y * v.X
def sb (a b : XY) : XY := ⟨b.X - a.X, b.Y - a.Y⟩
def ng (u : XY) : XY := ⟨-u.X, -u.Y⟩
def up (u : XY) : Prop := 0 < u.Y ∨ (u.Y = 0 ∧ 0 < u.X)

theorem vx_ng2 (u v : XY) : vx (ng u) (ng v) = vx u v := by unfold vx ng; grind
theorem vx_ngr (u v : XY) : vx u (ng v) = -vx u v := by unfold vx ng; grind
theorem vx_ngl (u v : XY) : vx (ng u) v = -vx u v := by unfold vx ng; grind
theorem vx_swap (u v : XY) : vx u v = -vx v u := by unfold vx; grind
theorem vx_self (u : XY) : vx u u = 0 := by unfold vx; grind

theorem pos_of_mul {a b : Int} (hb : 0 < b) (h : 0 < a * b) : 0 < a := by
  rcases Int.lt_or_le 0 a with h1 | h1
  · exact h1
  · have := Int.mul_nonpos_of_nonpos_of_nonneg h1 (Int.le_of_lt hb); omega
theorem nonneg_of_mul {a b : Int} (hb : 0 < b) (h : 0 ≤ a * b) : 0 ≤ a := by
  rcases Int.lt_or_le a 0 with h1 | h1
  · have := Int.mul_neg_of_neg_of_pos h1 hb; omega
  · exact h1

theorem up_y {u : XY} (h : up u) : 0 ≤ u.Y := by rcases h with h | ⟨h, _⟩ <;> omega

/-- In the upper half the order by angles goes on. -/
theorem tr_up {u v w : XY} (hu : up u) (hv : up v) (hw : up w) (h1 : 0 ≤ vx u v) (h2 : 0 ≤ vx v w) : 0 ≤ vx u w ∧ (0 < vx u v ∨ 0 < vx v w → 0 < vx u w) := by
  have hid : vx u w * v.Y = vx u v * w.Y + vx v w * u.Y := by unfold vx; grind
  have hwY := up_y hw
  have huY := up_y hu
  rcases hv with hv | ⟨hv, hvx⟩
  · have hw0 : 0 < w.Y := by
      rcases hw with hw | ⟨hw, hwx⟩
      · exact hw
      · have h3 := Int.mul_pos hv hwx
        unfold vx at h2; rw [hw] at h2; omega
    have e1 := Int.mul_nonneg h1 hwY
    have e2 := Int.mul_nonneg h2 huY
    refine ⟨nonneg_of_mul hv (by omega), fun hs => ?_⟩
    rcases hs with hs | hs
    · have := Int.mul_pos hs hw0
      exact pos_of_mul hv (by omega)
    · rcases hu with hu | ⟨hu, hux⟩
      · have := Int.mul_pos hs hu
        exact pos_of_mul hv (by omega)
      · have := Int.mul_pos hux hw0
        unfold vx; rw [hu]; omega
  · have hu0 : u.Y = 0 := by
      rcases Int.lt_or_le 0 u.Y with h | h
      · have := Int.mul_pos h hvx
        unfold vx at h1; rw [hv] at h1; omega
      · omega
    have hux : 0 < u.X := by rcases hu with hu | ⟨_, hu⟩ <;> omega
    have e : vx u w = u.X * w.Y := by unfold vx; rw [hu0]; omega
    refine ⟨by rw [e]; exact Int.mul_nonneg (Int.le_of_lt hux) hwY, fun hs => ?_⟩
    rcases hs with hs | hs
    · unfold vx at hs; rw [hu0, hv] at hs; omega
    · have hwp : 0 < w.Y := by
        rcases Int.lt_or_le 0 w.Y with h | h
        · exact h
        · have : w.Y = 0 := by omega
          unfold vx at hs; rw [hv, this] at hs; omega
      rw [e]; exact Int.mul_pos hux hwp

/-- Sums whose steps are first above 0 and then no more, and that end at 0, are above 0 on the way. -/
theorem unimodal {g S : Nat → Int} {N : Nat} (hS : ∀ t, S (t + 1) = S t + g (t + 1)) (h0 : S 0 = 0) (hN : S N = 0) (g1 : 0 < g 1) (gN : g N < 0)
    (mono : ∀ s s', 1 ≤ s → s < s' → s' ≤ N → g s ≤ 0 → g s' ≤ 0) : ∀ t, 1 ≤ t → t < N → 0 < S t := by
  intro t ht htN
  by_cases hall : ∀ s, 1 ≤ s → s ≤ t → 0 < g s
  · have hup : ∀ k, k + 1 ≤ t → 0 < S (k + 1) := by
      intro k
      induction k with
      | zero => intro _; rw [hS, h0, Nat.zero_add]; omega
      | succ k ih => intro hk; rw [hS]; have := ih (by omega); have := hall (k + 1 + 1) (by omega) hk; omega
    have := hup (t - 1) (by omega)
    rwa [show t - 1 + 1 = t by omega] at this
  · obtain ⟨s, hs⟩ := Classical.not_forall.1 hall
    have hs1 : 1 ≤ s := by
      rcases Nat.lt_or_ge s 1 with h | h
      · exact absurd (fun a => by omega) hs
      · exact h
    have hs2 : s ≤ t := by
      rcases Nat.lt_or_ge t s with h | h
      · exact absurd (fun _ b => by omega) hs
      · exact h
    have hsg : g s ≤ 0 := by
      rcases Int.lt_or_le 0 (g s) with h | h
      · exact absurd (fun _ _ => h) hs
      · exact h
    have hdown : ∀ k, t + k + 1 ≤ N → S (t + k) ≤ S t := by
      intro k
      induction k with
      | zero => intro _; exact Int.le_refl _
      | succ k ih =>
        intro hk
        have h1 := ih (by omega)
        have h2 := mono s (t + k + 1) hs1 (by omega) (by omega) hsg
        rw [← Nat.add_assoc, hS]; omega
    have h1 := hdown (N - 1 - t) (by omega)
    have h2 := hS (N - 1)
    rw [show N - 1 + 1 = N by omega] at h2
    rw [show t + (N - 1 - t) = N - 1 by omega] at h1
    omega

/-- The side from place j on. -/
def dd (q : Nat → XY) (j : Nat) : XY := sb (q j) (q (j + 1))
theorem dd_per {q : Nat → XY} {n : Nat} (per : ∀ j, q (j + n) = q j) (j : Nat) : dd q (j + n) = dd q j := by
  unfold dd; rw [per, show j + n + 1 = j + 1 + n by omega, per]

section
variable {q : Nat → XY} {n m : Nat}

/-- Within a half the sides are ordered by their angles. -/
theorem chain_up (left : ∀ j, 0 < vx (dd q j) (dd q (j + 1))) (hup : ∀ j, j < m → up (dd q j)) : ∀ a k, a + k + 1 < m → 0 < vx (dd q a) (dd q (a + k + 1)) := by
  intro a k
  induction k with
  | zero => intro _; exact left a
  | succ k ih =>
    intro h
    have h1 := ih (by omega)
    have h2 := left (a + k + 1)
    exact (tr_up (hup a (by omega)) (hup (a + k + 1) (by omega)) (hup (a + k + 1 + 1) (by omega)) (Int.le_of_lt h1) (Int.le_of_lt h2)).2 (.inl h1)
theorem chain_low (left : ∀ j, 0 < vx (dd q j) (dd q (j + 1))) (hlow : ∀ j, m ≤ j → j < n → up (ng (dd q j))) : ∀ a k, m ≤ a → a + k + 1 < n → 0 < vx (dd q a) (dd q (a + k + 1)) := by
  intro a k
  induction k with
  | zero => intro _ _; exact left a
  | succ k ih =>
    intro ha h
    have h1 := ih ha (by omega)
    have h2 := left (a + k + 1)
    rw [← vx_ng2] at h1 h2 ⊢
    exact (tr_up (hlow a ha (by omega)) (hlow (a + k + 1) (by omega) (by omega)) (hlow (a + k + 1 + 1) (by omega) (by omega)) (Int.le_of_lt h1) (Int.le_of_lt h2)).2 (.inl h1)

/-- A closed line that turns left, with its sides first in the upper and then in the lower half, is convex. -/
theorem convex_core (hn : 3 ≤ n) (per : ∀ j, q (j + n) = q j) (left : ∀ j, 0 < vx (dd q j) (dd q (j + 1))) (hup : ∀ j, j < m → up (dd q j)) (hlow : ∀ j, m ≤ j → j < n → up (ng (dd q j)))
    (i : Nat) (hi : i < n) (t : Nat) (ht : 2 ≤ t) (htn : t < n) : 0 < vx (dd q i) (sb (q i) (q (i + t))) := by
  have cu : ∀ a b, a < b → b < m → 0 < vx (dd q a) (dd q b) := fun a b h1 h2 => by
    have := chain_up left hup a (b - a - 1) (by omega); rwa [show a + (b - a - 1) + 1 = b by omega] at this
  have cl : ∀ a b, m ≤ a → a < b → b < n → 0 < vx (dd q a) (dd q b) := fun a b h0 h1 h2 => by
    have := chain_low left hlow a (b - a - 1) h0 (by omega); rwa [show a + (b - a - 1) + 1 = b by omega] at this
  have key := unimodal (g := fun s => vx (dd q i) (dd q (i + s))) (S := fun t => vx (dd q i) (sb (q (i + 1)) (q (i + 1 + t)))) (N := n - 1) ?_ ?_ ?_ ?_ ?_ ?_ (t - 1) (by omega) (by omega)
  · have e : vx (dd q i) (sb (q i) (q (i + t))) = vx (dd q i) (sb (q (i + 1)) (q (i + t))) := by unfold vx dd sb; grind
    rw [e]
    simpa [show i + 1 + (t - 1) = i + t by omega] using key
  · intro t
    show vx (dd q i) (sb (q (i + 1)) (q (i + 1 + (t + 1)))) = vx (dd q i) (sb (q (i + 1)) (q (i + 1 + t))) + vx (dd q i) (dd q (i + (t + 1)))
    rw [show i + 1 + (t + 1) = i + (t + 1) + 1 by omega, show i + 1 + t = i + (t + 1) by omega]
    unfold vx dd sb; grind
  · show vx (dd q i) (sb (q (i + 1)) (q (i + 1 + 0))) = 0
    rw [Nat.add_zero]; unfold vx dd sb; grind
  · show vx (dd q i) (sb (q (i + 1)) (q (i + 1 + (n - 1)))) = 0
    rw [show i + 1 + (n - 1) = i + n by omega, per]; unfold vx dd sb; grind
  · exact left i
  · show vx (dd q i) (dd q (i + (n - 1))) < 0
    have h := left (i + (n - 1))
    rw [show i + (n - 1) + 1 = i + n by omega, dd_per per] at h
    rw [vx_swap]; omega
  · intro s s' hs hss hsn hg
    show vx (dd q i) (dd q (i + s')) ≤ 0
    have hg : vx (dd q i) (dd q (i + s)) ≤ 0 := hg
    rcases Nat.lt_or_ge (i + s') n with hb | hb
    · -- both ahead of the end
      have him : i < m := by
        rcases Nat.lt_or_ge i m with h | h
        · exact h
        · have := cl i (i + s) h (by omega) (by omega); omega
      have ham : m ≤ i + s := by
        rcases Nat.lt_or_ge (i + s) m with h | h
        · have := cu i (i + s) (by omega) h; omega
        · exact h
      have h1 := cl (i + s) (i + s') ham (by omega) hb
      rw [← vx_ng2] at h1
      have h2 : 0 ≤ vx (dd q i) (ng (dd q (i + s))) := by rw [vx_ngr]; omega
      have h3 := (tr_up (hup i him) (hlow (i + s) ham (by omega)) (hlow (i + s') (by omega) hb) h2 (Int.le_of_lt h1)).1
      rw [vx_ngr] at h3; omega
    · have eb : dd q (i + s') = dd q (i + s' - n) := by
        rw [show i + s' = i + s' - n + n by omega, dd_per per]; simp
      rcases Nat.lt_or_ge (i + s) n with ha | ha
      · have him : i < m := by
          rcases Nat.lt_or_ge i m with h | h
          · exact h
          · have := cl i (i + s) h (by omega) (by omega); omega
        have h1 := cu (i + s' - n) i (by omega) him
        rw [eb, vx_swap]; omega
      · have ea : dd q (i + s) = dd q (i + s - n) := by
          rw [show i + s = i + s - n + n by omega, dd_per per]; simp
        rcases Int.lt_or_le 0 (vx (dd q i) (dd q (i + s'))) with hpos | hle
        · exfalso
          rw [eb] at hpos
          rw [ea] at hg
          have hbm : i + s' - n < m := by
            rcases Nat.lt_or_ge (i + s' - n) m with h | h
            · exact h
            · have := cl (i + s' - n) i h (by omega) hi; rw [vx_swap] at hpos; omega
          have him : m ≤ i := by
            rcases Nat.lt_or_ge i m with h | h
            · have := cu (i + s' - n) i (by omega) h; rw [vx_swap] at hpos; omega
            · exact h
          have h1 := cu (i + s - n) (i + s' - n) (by omega) hbm
          have h2 : 0 < vx (dd q (i + s' - n)) (ng (dd q i)) := by rw [vx_ngr, vx_swap]; omega
          have h3 := (tr_up (hup (i + s - n) (by omega)) (hup (i + s' - n) hbm) (hlow i him hi) (Int.le_of_lt h1) (Int.le_of_lt h2)).2 (.inl h1)
          rw [vx_ngr, vx_swap] at h3
          omega
        · exact hle

/-- A place q depends on its number's remainder alone. -/
theorem per_mul (per : ∀ j, q (j + n) = q j) (k j : Nat) : q (j + k * n) = q j := by
  induction k with
  | zero => simp
  | succ k ih => rw [show j + (k + 1) * n = j + k * n + n by rw [Nat.add_mul]; omega, per, ih]
theorem per_mod (per : ∀ j, q (j + n) = q j) (j : Nat) : q (j % n) = q j := by
  have h := per_mul per (j / n) (j % n)
  rw [Nat.mul_comm, Nat.mod_add_div] at h
  exact h.symm
theorem per_eq (per : ∀ j, q (j + n) = q j) {i j : Nat} (h : i % n = j % n) : q i = q j := by rw [← per_mod per i, ← per_mod per j, h]

theorem up_or (u : XY) (h : u.X ≠ 0 ∨ u.Y ≠ 0) : up u ∨ up (ng u) := by
  unfold up ng; simp only; omega
theorem not_up_ng {u : XY} (h : up u) : ¬ up (ng u) := by unfold up ng at *; simp only; omega
theorem vx_ne {u v : XY} (h : 0 < vx u v) : u.X ≠ 0 ∨ u.Y ≠ 0 := by
  rcases Decidable.em (u.X ≠ 0) with h1 | h1
  · exact .inl h1
  · rcases Decidable.em (u.Y ≠ 0) with h2 | h2
    · exact .inr h2
    · have e1 : u.X = 0 := by omega
      have e2 : u.Y = 0 := by omega
      unfold vx at h; rw [e1, e2] at h; omega

/-- A closed line that turns left everywhere and comes to the upper half at one place alone is convex. -/
theorem convex_of_once (hn : 3 ≤ n) (per : ∀ j, q (j + n) = q j) (left : ∀ j, 0 < vx (dd q j) (dd q (j + 1))) (j0 : Nat) (h0 : ¬ up (dd q j0) ∧ up (dd q (j0 + 1)))
    (uniq : ∀ j, ¬ up (dd q j) ∧ up (dd q (j + 1)) → j % n = j0 % n) (i t : Nat) (ht : 2 ≤ t) (htn : t < n) : 0 < vx (dd q i) (sb (q i) (q (i + t))) := by
  have r_per : ∀ j, (fun j => q (j0 + 1 + j)) (j + n) = (fun j => q (j0 + 1 + j)) j := fun j => by simp only; rw [← Nat.add_assoc, per]
  have r_dd : ∀ j, dd (fun j => q (j0 + 1 + j)) j = dd q (j0 + 1 + j) := fun j => rfl
  have r_left : ∀ j, 0 < vx (dd (fun j => q (j0 + 1 + j)) j) (dd (fun j => q (j0 + 1 + j)) (j + 1)) := fun j => left (j0 + 1 + j)
  have hlast : ¬ up (dd q (j0 + 1 + (n - 1))) := by rw [show j0 + 1 + (n - 1) = j0 + n by omega, dd_per per]; exact h0.1
  -- the first side that isn't in the upper half
  have hex : ∃ m, m < n ∧ ¬ up (dd q (j0 + 1 + m)) ∧ ∀ k, k < m → up (dd q (j0 + 1 + k)) := by
    have : ∀ N, N < n → ¬ up (dd q (j0 + 1 + N)) → ∃ m, m < n ∧ ¬ up (dd q (j0 + 1 + m)) ∧ ∀ k, k < m → up (dd q (j0 + 1 + k)) := by
      intro N
      induction N using Nat.strongRecOn with
      | _ N ih =>
        intro hN hd
        by_cases hall : ∀ k, k < N → up (dd q (j0 + 1 + k))
        · exact ⟨N, hN, hd, hall⟩
        · obtain ⟨k, hk⟩ := Classical.not_forall.1 hall
          have hkN : k < N := Classical.byContradiction fun h => hk fun h' => absurd h' h
          exact ih k hkN (by omega) (fun h => hk fun _ => h)
    exact this (n - 1) (by omega) hlast
  obtain ⟨m, hm, hmd, hup⟩ := hex
  have hstay : ∀ k, m + k < n → ¬ up (dd q (j0 + 1 + (m + k))) := by
    intro k
    induction k with
    | zero => intro _; exact hmd
    | succ k ih =>
      intro hk hu
      have h1 := ih (by omega)
      have h2 := uniq (j0 + 1 + (m + k)) ⟨h1, by rw [show j0 + 1 + (m + k) + 1 = j0 + 1 + (m + (k + 1)) by omega]; exact hu⟩
      have h3 : (j0 + 1 + (m + k)) % n = j0 % n := h2
      have h4 : (j0 + (1 + (m + k))) % n = j0 % n := by rw [← h3]; congr 1; omega
      have h5 : (1 + (m + k)) % n = 0 := by
        have e1 := Nat.mod_add_div (j0 + (1 + (m + k))) n
        have e2 := Nat.mod_add_div j0 n
        rw [h4] at e1
        have e3 : n * ((j0 + (1 + (m + k))) / n) = n * (j0 / n) + (1 + (m + k)) := by omega
        have e4 : 1 + (m + k) = n * ((j0 + (1 + (m + k))) / n - j0 / n) := by rw [Nat.mul_sub]; omega
        rw [e4]; exact Nat.mul_mod_right _ _
      rw [Nat.mod_eq_of_lt (by omega)] at h5
      omega
  have hlow : ∀ j, m ≤ j → j < n → up (ng (dd (fun j => q (j0 + 1 + j)) j)) := by
    intro j h1 h2
    have h3 := hstay (j - m) (by omega)
    rw [show m + (j - m) = j by omega] at h3
    exact (up_or _ (vx_ne (left (j0 + 1 + j)))).resolve_left h3
  have core := convex_core (q := fun j => q (j0 + 1 + j)) (m := m) hn r_per r_left (fun j hj => hup j hj) hlow ((i + (j0 + 1) * (n - 1)) % n) (Nat.mod_lt _ (by omega)) t ht htn
  have e1 : (j0 + 1 + (i + (j0 + 1) * (n - 1)) % n) % n = i % n := by
    rw [Nat.add_mod_mod]
    rw [show j0 + 1 + (i + (j0 + 1) * (n - 1)) = i + n * (j0 + 1) by
      have : (j0 + 1) * (n - 1) = (j0 + 1) * n - (j0 + 1) := by rw [Nat.mul_sub]; omega
      have h2 : j0 + 1 ≤ (j0 + 1) * n := Nat.le_mul_of_pos_right _ (by omega)
      have h3 : n * (j0 + 1) = (j0 + 1) * n := Nat.mul_comm _ _
      omega]
    exact Nat.add_mul_mod_self_left _ _ _
  have f1 : q (j0 + 1 + (i + (j0 + 1) * (n - 1)) % n) = q i := per_eq per e1
  have f2 : q (j0 + 1 + ((i + (j0 + 1) * (n - 1)) % n + 1)) = q (i + 1) := per_eq per (by rw [← Nat.add_assoc, Nat.add_mod, e1, ← Nat.add_mod])
  have f3 : q (j0 + 1 + ((i + (j0 + 1) * (n - 1)) % n + t)) = q (i + t) := per_eq per (by rw [← Nat.add_assoc, Nat.add_mod, e1, ← Nat.add_mod])
  simp only [dd, f1, f2, f3] at core
  exact core

/-! ### The other way round -/

/-- Ahead of: lower, or at the same height further left. -/
def lx (a b : XY) : Prop := a.Y < b.Y ∨ (a.Y = b.Y ∧ a.X < b.X)
theorem lx_iff (a b : XY) : lx a b ↔ up (sb a b) := by unfold lx up sb; simp only; omega
theorem lx_trans {a b c : XY} (h : lx a b) (k : lx b c) : lx a c := by unfold lx at *; omega
theorem lx_irr (a : XY) : ¬ lx a a := by unfold lx; omega

/-- At a corner of a convex line where it comes to the upper half all other places lie ahead. -/
theorem corner_low {u v x : XY} (hun : up (ng u)) (hv : up v) (huv : 0 < vx u v) (h1 : 0 ≤ vx u x) (h2 : 0 ≤ vx v x) : ¬ up (ng x) := by
  intro hx
  have a1 : 0 ≤ vx (ng u) (ng x) := by rw [vx_ng2]; exact h1
  have a2 : 0 ≤ vx (ng x) v := by rw [vx_ngl, vx_swap]; omega
  have := (tr_up hun hx hv a1 a2).1
  rw [vx_ngl] at this
  omega

theorem once_of_convex (hn : 3 ≤ n) (per : ∀ j, q (j + n) = q j) (conv : ∀ i t, 2 ≤ t → t < n → 0 < vx (dd q i) (sb (q i) (q (i + t)))) :
    (∀ j, 0 < vx (dd q j) (dd q (j + 1))) ∧ (∃ j, ¬ up (dd q j) ∧ up (dd q (j + 1))) ∧ (∀ a b, ¬ up (dd q a) ∧ up (dd q (a + 1)) → ¬ up (dd q b) ∧ up (dd q (b + 1)) → a % n = b % n) := by
  have left : ∀ j, 0 < vx (dd q j) (dd q (j + 1)) := fun j => by
    have h := conv j 2 (by omega) (by omega)
    have e : vx (dd q j) (sb (q j) (q (j + 2))) = vx (dd q j) (dd q (j + 1)) := by unfold vx dd sb; grind
    rwa [e] at h
  have nz : ∀ j, up (dd q j) ∨ up (ng (dd q j)) := fun j => up_or _ (vx_ne (left j))
  refine ⟨left, ?_, ?_⟩
  · apply Classical.byContradiction
    intro hno
    have hst : ∀ j, ¬ up (dd q j) → ¬ up (dd q (j + 1)) := fun j h1 h2 => hno ⟨j, h1, h2⟩
    by_cases hall : ∀ j, up (dd q j)
    · have hch : ∀ k, lx (q 0) (q (k + 1)) := by
        intro k
        induction k with
        | zero => exact (lx_iff _ _).2 (hall 0)
        | succ k ih => exact lx_trans ih ((lx_iff _ _).2 (hall (k + 1)))
      have h := hch (n - 1)
      rw [show n - 1 + 1 = 0 + n by omega, per] at h
      exact lx_irr _ h
    · obtain ⟨a, ha⟩ := Classical.not_forall.1 hall
      have hlow : ∀ k, ¬ up (dd q (a + k)) := by
        intro k
        induction k with
        | zero => exact ha
        | succ k ih => exact hst _ ih
      have hch : ∀ k, lx (q (a + (k + 1))) (q a) := by
        intro k
        have hs : ∀ k, lx (q (a + (k + 1))) (q (a + k)) := fun k => by
          have h := (nz (a + k)).resolve_left (hlow k)
          refine (lx_iff _ _).2 ?_
          have e : sb (q (a + (k + 1))) (q (a + k)) = ng (dd q (a + k)) := by
            unfold sb ng dd sb; simp only [Nat.add_assoc]; congr 1 <;> omega
          rw [e]; exact h
        induction k with
        | zero => exact hs 0
        | succ k ih => exact lx_trans (hs (k + 1)) ih
      have h := hch (n - 1)
      rw [show a + (n - 1 + 1) = a + n by omega, per] at h
      exact lx_irr _ h
  · -- the corner behind such a place is ahead of all others
    have hmin : ∀ a, ¬ up (dd q a) ∧ up (dd q (a + 1)) → ∀ t, 1 ≤ t → t < n → lx (q (a + 1)) (q (a + 1 + t)) := by
      intro a ⟨h1, h2⟩ t ht htn
      rw [lx_iff]
      have hu := (nz a).resolve_left h1
      -- the place seen from the corner: to the left of both sides
      have c2 : 0 ≤ vx (dd q (a + 1)) (sb (q (a + 1)) (q (a + 1 + t))) := by
        rcases Nat.lt_or_ge t 2 with h | h
        · obtain rfl : t = 1 := by omega
          show 0 ≤ vx (dd q (a + 1)) (dd q (a + 1))
          rw [vx_self]; omega
        · exact Int.le_of_lt (conv (a + 1) t h htn)
      have e1 : vx (dd q a) (sb (q (a + 1)) (q (a + 1 + t))) = vx (dd q a) (sb (q a) (q (a + (t + 1)))) := by
        rw [show a + 1 + t = a + (t + 1) by omega]; unfold vx dd sb; grind
      have c1 : 0 ≤ vx (dd q a) (sb (q (a + 1)) (q (a + 1 + t))) := by
        rw [e1]
        rcases Nat.lt_or_ge (t + 1) n with h | h
        · exact Int.le_of_lt (conv a (t + 1) (by omega) h)
        · have : t + 1 = n := by omega
          rw [this, per]; unfold vx dd sb; simp
      have hne : up (sb (q (a + 1)) (q (a + 1 + t))) ∨ up (ng (sb (q (a + 1)) (q (a + 1 + t)))) := by
        apply up_or
        rcases Nat.lt_or_ge t 2 with h | h
        · obtain rfl : t = 1 := by omega
          exact vx_ne (left (a + 1))
        · have := conv (a + 1) t h htn
          rw [vx_swap] at this
          have : vx (sb (q (a + 1)) (q (a + 1 + t))) (dd q (a + 1)) ≠ 0 := by omega
          apply Classical.byContradiction
          intro hc
          simp only [not_or, Classical.not_not] at hc
          apply this
          unfold vx; rw [hc.1, hc.2]; omega
      exact hne.resolve_right (corner_low hu h2 (left a) c1 c2)
    intro a b ha hb
    apply Classical.byContradiction
    intro hne
    -- from the one corner to the other and back
    have go : ∀ a b, (a % n ≠ b % n) → ¬ up (dd q a) ∧ up (dd q (a + 1)) → lx (q (a + 1)) (q (b + 1)) := by
      intro a b hab h
      have hm1 := Nat.mod_lt b (show 0 < n by omega)
      have hm2 := Nat.mod_lt a (show 0 < n by omega)
      by_cases hlt : a % n < b % n
      · have := hmin a h (b % n - a % n) (by omega) (by omega)
        have e : q (a + 1 + (b % n - a % n)) = q (b + 1) := per_eq per (by
          have e1 := Nat.mod_add_div a n
          rw [show a + 1 + (b % n - a % n) = b % n + 1 + n * (a / n) by omega, Nat.add_mul_mod_self_left, Nat.add_mod, Nat.mod_mod, ← Nat.add_mod])
        rwa [e] at this
      · have := hmin a h (n + b % n - a % n) (by omega) (by omega)
        have e : q (a + 1 + (n + b % n - a % n)) = q (b + 1) := per_eq per (by
          have e1 := Nat.mod_add_div a n
          rw [show a + 1 + (n + b % n - a % n) = b % n + 1 + n * (a / n + 1) by rw [Nat.mul_add]; omega, Nat.add_mul_mod_self_left, Nat.add_mod, Nat.mod_mod, ← Nat.add_mod])
        rwa [e] at this
    exact lx_irr _ (lx_trans (go a b hne ha) (go b a (fun h => hne h.symm) hb))
end
end Go.Proofs.Ytimehkeaeffcaaa

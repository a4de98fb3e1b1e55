/- The rows of a part: their area is at most the board's, they are a gap apart, and on the board. -/
import Derived.Test.YtcbiehnaomcfbaaWJ
namespace Go.Proofs.Ytcbiehnaomcfbaa
open Go.RowKit (wrap64)

theorem up_dy {u : XY} (h : up u) : 0 ≤ u.Y := by rcases h with h | h <;> omega
theorem notup_dy {u : XY} (h : ¬ up u) : u.Y ≤ 0 := Int.not_lt.1 fun hc => h (.inl hc)
/-- Twice the area of an outline is at most twice that of its box. -/
theorem area_box {o : List XY} (h : validB o = true) : areaW o ≤ 2 * (farW 1 0 o - nearW 1 0 o) * (farW 0 1 o - nearW 0 1 o) := by
  have hl := validB_len' h
  have h0 : 0 < o.length := by omega
  have hw := wd_valid h
  obtain ⟨_, ⟨j0, hj0⟩, huniq⟩ := once_of_convex hl.1 (cy_per o) (validB_conv h)
  obtain ⟨nx, _⟩ := near_bot h0 1 0
  obtain ⟨ny, _⟩ := near_bot h0 0 1
  obtain ⟨fx, _⟩ := far_top h0 1 0
  obtain ⟨fy, _⟩ := far_top h0 0 1
  have d1 : ∀ j, dotW 1 0 (cy o j) = (cy o j).X := fun j => (dot_xy (hw.2 j)).1
  have d2 : ∀ j, dotW 0 1 (cy o j) = (cy o j).Y := fun j => (dot_xy (hw.2 j)).2
  have bx : ∀ j, nearW 1 0 o ≤ (cy o j).X ∧ (cy o j).X ≤ farW 1 0 o := fun j => by have := nx j; have := fx j; rw [d1] at *; omega
  have by' : ∀ j, nearW 0 1 o ≤ (cy o j).Y ∧ (cy o j).Y ≤ farW 0 1 o := fun j => by have := ny j; have := fy j; rw [d2] at *; omega
  have hA : areaW o = sumTo (fun i => vx (cy o (j0 + 1 + i)) (cy o (j0 + 1 + i + 1))) o.length := by
    rw [area_sides h]
    exact (sumTo_shift (g := fun i => vx (cy o i) (cy o (i + 1))) (fun i => by show vx (cy o (i + o.length)) (cy o (i + o.length + 1)) = _; rw [cy_per, show i + o.length + 1 = i + 1 + o.length by omega, cy_per]) (j0 + 1)).symm
  generalize nearW 1 0 o = Lf at *
  generalize farW 1 0 o = R at *
  generalize nearW 0 1 o = lo at *
  generalize farW 0 1 o = hi at *
  obtain ⟨X, hX⟩ : ∃ X : Nat → Int, ∀ i, (cy o (j0 + 1 + i)).X = X i := ⟨fun i => _, fun i => rfl⟩
  obtain ⟨Y, hY⟩ : ∃ Y : Nat → Int, ∀ i, (cy o (j0 + 1 + i)).Y = Y i := ⟨fun i => _, fun i => rfl⟩
  have hup : ∀ i, dd (cy o) (j0 + 1 + i) = ⟨X (i + 1) - X i, Y (i + 1) - Y i⟩ := fun i => by rw [← hX, ← hX, ← hY, ← hY]; rfl
  have key : ∀ k, k ≤ o.length → ∃ m, m ≤ k ∧ (m < k → ¬ up (dd (cy o) (j0 + k))) ∧
      sumTo (fun i => vx (cy o (j0 + 1 + i)) (cy o (j0 + 1 + i + 1))) k ≤ 2 * R * (Y m - Y 0) + 2 * Lf * (Y k - Y m) - (X k * Y k - X 0 * Y 0) := by
    intro k
    induction k with
    | zero => intro _; exact ⟨0, Nat.le_refl _, fun h => absurd h (Nat.lt_irrefl _), by show (0 : Int) ≤ _; rw [Int.sub_self, Int.mul_zero, Int.mul_zero]; omega⟩
    | succ k ih =>
      intro hk
      obtain ⟨m, hm, hdn, hS⟩ := ih (by omega)
      have es : sumTo (fun i => vx (cy o (j0 + 1 + i)) (cy o (j0 + 1 + i + 1))) (k + 1) = sumTo (fun i => vx (cy o (j0 + 1 + i)) (cy o (j0 + 1 + i + 1))) k + (X k * Y (k + 1) - Y k * X (k + 1)) := by
        show _ + vx (cy o (j0 + 1 + k)) (cy o (j0 + 1 + (k + 1))) = _
        unfold vx
        rw [hX, hX, hY, hY]
      rw [es]
      have eid : X k * Y (k + 1) - Y k * X (k + 1) = (X k + X (k + 1)) * (Y (k + 1) - Y k) - (X (k + 1) * Y (k + 1) - X k * Y k) := by grind
      have b1 := bx (j0 + 1 + k)
      have b2 := bx (j0 + 1 + (k + 1))
      rw [hX] at b1 b2
      have hcur : up (dd (cy o) (j0 + 1 + k)) ∨ ¬ up (dd (cy o) (j0 + 1 + k)) := Classical.em _
      by_cases hmk : m = k
      · subst hmk
        rw [Int.sub_self, Int.mul_zero] at hS
        rcases hcur with hu | hu
        · have hdy := up_dy hu
          rw [hup] at hdy
          have hmul : (X m + X (m + 1)) * (Y (m + 1) - Y m) ≤ 2 * R * (Y (m + 1) - Y m) := Int.mul_le_mul_of_nonneg_right (by omega) hdy
          refine ⟨m + 1, Nat.le_refl _, fun h => absurd h (Nat.lt_irrefl _), ?_⟩
          have e1 : 2 * R * (Y (m + 1) - Y 0) = 2 * R * (Y m - Y 0) + 2 * R * (Y (m + 1) - Y m) := by grind
          rw [Int.sub_self, Int.mul_zero, e1]
          omega
        · have hdy := notup_dy hu
          rw [hup] at hdy
          have hmul : (X m + X (m + 1)) * (Y (m + 1) - Y m) ≤ 2 * Lf * (Y (m + 1) - Y m) := Int.mul_le_mul_of_nonpos_right (by omega) hdy
          refine ⟨m, by omega, fun _ => by rw [show j0 + (m + 1) = j0 + 1 + m by omega]; exact hu, ?_⟩
          omega
      · have hd := hdn (by omega)
        have hu : ¬ up (dd (cy o) (j0 + 1 + k)) := fun hc => by
          have := huniq (j0 + k) j0 ⟨hd, by rw [show j0 + k + 1 = j0 + 1 + k by omega]; exact hc⟩ hj0
          have h2 := Nat.sub_mod_eq_zero_of_mod_eq this
          rw [show j0 + k - j0 = k by omega] at h2
          rw [Nat.mod_eq_of_lt (by omega)] at h2
          omega
        have hdy := notup_dy hu
        rw [hup] at hdy
        have hmul : (X k + X (k + 1)) * (Y (k + 1) - Y k) ≤ 2 * Lf * (Y (k + 1) - Y k) := Int.mul_le_mul_of_nonpos_right (by omega) hdy
        refine ⟨m, by omega, fun _ => by rw [show j0 + (k + 1) = j0 + 1 + k by omega]; exact hu, ?_⟩
        have e1 : 2 * Lf * (Y (k + 1) - Y m) = 2 * Lf * (Y k - Y m) + 2 * Lf * (Y (k + 1) - Y k) := by grind
        rw [e1]
        omega
  obtain ⟨m, hm, _, hS⟩ := key o.length (Nat.le_refl _)
  rw [hA]
  have pX : X o.length = X 0 := by rw [← hX, ← hX, cy_per]
  have pY : Y o.length = Y 0 := by rw [← hY, ← hY, cy_per]
  rw [pX, pY] at hS
  have c1 := by' (j0 + 1 + m)
  have c2 := by' (j0 + 1 + 0)
  rw [hY] at c1 c2
  have c3 := bx j0
  have e2 : 2 * R * (Y m - Y 0) + 2 * Lf * (Y 0 - Y m) = 2 * (R - Lf) * (Y m - Y 0) := by grind
  have hmul : 2 * (R - Lf) * (Y m - Y 0) ≤ 2 * (R - Lf) * (hi - lo) := Int.mul_le_mul_of_nonneg_left (by omega) (by omega)
  omega
end Go.Proofs.Ytcbiehnaomcfbaa

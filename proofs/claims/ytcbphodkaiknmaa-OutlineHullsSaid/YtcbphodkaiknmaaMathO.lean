/- Mirrors, half turns and moves: the program's answers are the reference's; what stays valid. -/
import Derived.Test.YtcbphodkaiknmaaMathB
import Derived.Test.YtcbphodkaiknmaaWE
namespace Go.Proofs.Ytcbphodkaiknmaa
open Go.RowKit (wrap64)

theorem validB_iff (l : List XY) : validB l = true ↔ 3 ≤ l.length ∧ l.length ≤ 64 ∧ l.all rangedB = true ∧ Conv l := by
  rw [valid_eq]
  unfold validRB
  simp only [Bool.and_eq_true, decide_eq_true_eq]
  constructor
  · rintro ⟨⟨⟨h1, h2⟩, h3⟩, h4⟩
    exact ⟨h1, h2, h3, (left_conv h1 h3).1 h4⟩
  · rintro ⟨h1, h2, h3, h4⟩
    exact ⟨⟨⟨h1, h2⟩, h3⟩, (left_conv h1 h3).2 h4⟩

theorem cy_rot {l : List XY} {k : Nat} (hk : k < l.length) (j : Nat) : cy (rotL l k) j = cy l (k + j) := by
  have hj := Nat.mod_lt j (show 0 < l.length by omega)
  have e : cy (rotL l k) j = cy l (k + j % l.length) := by
    unfold cy
    rw [rotL_length, rotL_get hk _ hj]
    rfl
  rw [e, ← cy_mod, Nat.add_mod, Nat.mod_mod, ← Nat.add_mod, cy_mod]
theorem conv_rot {l : List XY} {k : Nat} (hk : k < l.length) (h : Conv l) : Conv (rotL l k) := by
  intro i t h2 ht
  rw [rotL_length] at ht
  have := h (k + i) t h2 ht
  unfold dd at this ⊢
  rw [cy_rot hk, cy_rot hk, cy_rot hk, ← Nat.add_assoc, ← Nat.add_assoc]
  exact this
theorem ranged_rot (l : List XY) (k : Nat) : (rotL l k).all rangedB = l.all rangedB := by
  unfold rotL
  rw [List.all_append, Bool.and_comm, ← List.all_append, List.take_append_drop]
theorem valid_rot {l : List XY} {k : Nat} (hk : k < l.length) (h : validB l = true) : validB (rotL l k) = true := by
  obtain ⟨h1, h2, h3, h4⟩ := (validB_iff l).1 h
  exact (validB_iff _).2 ⟨by rw [rotL_length]; exact h1, by rw [rotL_length]; exact h2, by rw [ranged_rot]; exact h3, conv_rot hk h4⟩

theorem canon_rot {l : List XY} (h0 : 0 < l.length) (hb : ∀ j, Bd 100000 (cy l j)) : canonL l = rotL l (atTo l l.length) := by rw [canon_turn h0 hb, turnL_rot h0]

theorem turnedS_eq (l : List XY) : turnedS validB canonL l = turnedS validRB turnL l := by
  unfold turnedS
  rw [← valid_eq]
  cases h : validB l
  · rfl
  · have hl := validB_len' h
    rw [canon_turn (by simp; omega) (map_bd (by omega) (validB_ranged h) (fun p => fTurn_bd))]
theorem mirrorS_eq (l : List XY) : mirrorS validB canonL l = mirrorS validRB turnL l := by
  unfold mirrorS
  rw [← valid_eq]
  cases h : validB l
  · rfl
  · have hl := validB_len' h
    rw [canon_turn (by simp; omega) (rev_bd (by simp; omega) (map_bd (by omega) (validB_ranged h) (fun p => fMir_bd)))]

theorem fShift_eq {dx dy : Int} (h1 : -20000 ≤ dx) (h2 : dx ≤ 20000) (h3 : -20000 ≤ dy) (h4 : dy ≤ 20000) {p : XY} (h : Bd 5000 p) : fShift dx dy p = ⟨p.X + dx, p.Y + dy⟩ := by
  obtain ⟨a1, a2, a3, a4⟩ := h
  unfold fShift
  rw [w64_id (by omega) (by omega), w64_id (by omega) (by omega)]
theorem conv_shift {l : List XY} {dx dy : Int} (h0 : 0 < l.length) (hr : l.all rangedB = true) (h1 : -20000 ≤ dx) (h2 : dx ≤ 20000) (h3 : -20000 ≤ dy) (h4 : dy ≤ 20000) (h : Conv l) : Conv (l.map (fShift dx dy)) := by
  intro i t ht htn
  rw [List.length_map] at htn
  have := h i t ht htn
  have e : ∀ j, cy (l.map (fShift dx dy)) j = ⟨(cy l j).X + dx, (cy l j).Y + dy⟩ := fun j => by rw [cy_map h0, fShift_eq h1 h2 h3 h4 (bd_cy h0 hr j)]
  unfold dd at this ⊢
  rw [e, e, e]
  have e2 : ∀ a b : XY, sb ⟨a.X + dx, a.Y + dy⟩ ⟨b.X + dx, b.Y + dy⟩ = sb a b := fun a b => by unfold sb; simp only; congr 1 <;> omega
  rw [e2, e2]
  exact this

theorem movedS_eq (l : List XY) (dx dy : Int) : movedS l dx dy = moved2S l dx dy := by
  unfold movedS moved2S
  rw [← valid_eq]
  cases h : validB l
  · rfl
  · by_cases ho : offM dx dy
    · simp [ho]
    · have ho' := ho
      unfold offM at ho'
      simp only [not_or, Int.not_lt] at ho'
      obtain ⟨o1, o2, o3, o4⟩ := ho'
      have hl := validB_len' h
      have hb := map_bd (l := l) (by omega) (validB_ranged h) (f := fMove dx dy) (fun p => fMove_bd o1 o2 o3 o4)
      have ef : fMove dx dy = fShift dx dy := rfl
      rw [ef] at hb ⊢
      have h0 : 0 < (l.map (fShift dx dy)).length := by simp; omega
      have hat := atTo_lt h0 _ (Nat.le_refl _)
      rw [← canon_turn h0 hb]
      have ev : validB (canonL (l.map (fShift dx dy))) = (l.map (fShift dx dy)).all rangedB := by
        rw [canon_rot h0 hb]
        cases hr : (l.map (fShift dx dy)).all rangedB
        · rw [Bool.eq_false_iff]
          intro hc
          have := validB_ranged hc
          rw [ranged_rot, hr] at this
          cases this
        · refine valid_rot hat ((validB_iff _).2 ⟨by simp; omega, by simp; omega, hr, ?_⟩)
          exact conv_shift (by omega) (validB_ranged h) (by omega) (by omega) (by omega) (by omega) (validB_conv h)
      rw [ev]
end Go.Proofs.Ytcbphodkaiknmaa

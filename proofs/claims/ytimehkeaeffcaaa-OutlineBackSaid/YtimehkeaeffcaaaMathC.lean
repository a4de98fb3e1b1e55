/- The canonical forms of both texts agree. -/
import Derived.Test.YtimehkeaeffcaaaMathN
import Derived.Test.YtimehkeaeffcaaaW29
import Derived.Test.YtimehkeaeffcaaaW30
namespace Go.Proofs.Ytimehkeaeffcaaa
open Go.RowKit (wrap64)

theorem lowB_iff (a b : XY) : lowB a b = true ↔ lx a b := by
  unfold lowB lx; simp only [Bool.or_eq_true, Bool.and_eq_true, decide_eq_true_eq]
theorem lowerW_iff {a b : XY} (ha : Bd 100000 a) (hb : Bd 100000 b) : lowerW a b < 0 ↔ lx a b := by
  obtain ⟨a1, a2, a3, a4⟩ := ha
  obtain ⟨b1, b2, b3, b4⟩ := hb
  unfold lowerW lx
  by_cases h : a.Y ≠ b.Y
  · rw [if_pos h, w64_id (by omega) (by omega)]; omega
  · rw [if_neg h, w64_id (by omega) (by omega)]; omega

theorem cy_get {l : List XY} {i : Nat} (h : i < l.length) : cy l i = l[i] := by unfold cy; rw [Nat.mod_eq_of_lt h, List.getElem?_eq_getElem h]; rfl

/-- The place of the lowest corner: none is lower, and those ahead are higher. -/
theorem atTo_low {l : List XY} (h0 : 0 < l.length) : ∀ k, k ≤ l.length → (∀ j, j < k → ¬ lx (cy l j) (cy l (atTo l k))) ∧ (∀ j, j < atTo l k → lx (cy l (atTo l k)) (cy l j))
  | 0, _ => ⟨fun j h => by omega, fun j h => by unfold atTo at h; simp at h⟩
  | k + 1, h => by
    obtain ⟨h1, h2⟩ := atTo_low h0 k (by omega)
    rw [atTo_succ]
    by_cases hl : lowB (cy l k) (cy l (atTo l k)) = true
    · rw [if_pos hl]
      rw [lowB_iff] at hl
      refine ⟨fun j hj => ?_, fun j hj => ?_⟩
      · rcases Nat.lt_or_ge j k with hh | hh
        · have := h1 j hh; unfold lx at *; omega
        · obtain rfl : j = k := by omega
          exact lx_irr _
      · have := h1 j hj; unfold lx at *; omega
    · rw [if_neg hl]
      rw [lowB_iff] at hl
      refine ⟨fun j hj => ?_, h2⟩
      rcases Nat.lt_or_ge j k with hh | hh
      · exact h1 j hh
      · obtain rfl : j = k := by omega
        exact hl

theorem minTo_at {l : List XY} (h0 : 0 < l.length) (hb : ∀ j, Bd 100000 (cy l j)) : ∀ k, k ≤ l.length → minTo l k = cy l (atTo l k)
  | 0, _ => by
    obtain ⟨p, hp⟩ := getElem?_of_lt h0
    unfold minTo atTo
    simp only [List.take_zero, List.foldl_nil, List.range_zero]
    rw [hd_of hp, cy_lt hp]
  | k + 1, h => by
    obtain ⟨q, hq⟩ := getElem?_of_lt (show k < l.length by omega)
    have e : minTo l (k + 1) = if lowerW q (minTo l k) < 0 then q else minTo l k := by
      unfold minTo; rw [take_succ_of hq, List.foldl_append]; rfl
    rw [e, minTo_at h0 hb k (by omega), atTo_succ]
    rw [← cy_lt hq]
    by_cases hl : lx (cy l k) (cy l (atTo l k))
    · rw [if_pos ((lowerW_iff (hb _) (hb _)).2 hl), if_pos ((lowB_iff _ _).2 hl)]
    · rw [if_neg (fun hc => hl ((lowerW_iff (hb _) (hb _)).1 hc)), if_neg (fun hc => hl ((lowB_iff _ _).1 hc))]

/-- A list turned, so that it begins with its corner number k. -/
def rotL (l : List XY) (k : Nat) : List XY := l.drop k ++ l.take k
theorem rotL_length (l : List XY) (k : Nat) : (rotL l k).length = l.length := by unfold rotL; simp; omega
theorem rotL_get {l : List XY} {k : Nat} (hk : k < l.length) (i : Nat) (hi : i < l.length) : (rotL l k)[i]? = some (cy l (k + i)) := by
  unfold rotL cy
  rcases Nat.lt_or_ge i (l.length - k) with h | h
  · rw [List.getElem?_append_left (by simpa using h), List.getElem?_drop, Nat.mod_eq_of_lt (by omega), List.getElem?_eq_getElem (by omega)]
    rfl
  · rw [List.getElem?_append_right (by simpa using h), List.length_drop, List.getElem?_take, if_pos (by omega)]
    rw [Nat.mod_eq_sub_mod (by omega), Nat.mod_eq_of_lt (by omega), List.getElem?_eq_getElem (by omega), List.getElem?_eq_getElem (by omega)]
    simp only [Option.getD_some, Option.some.injEq]
    congr 1
    omega
theorem turnL_rot {l : List XY} (h0 : 0 < l.length) : turnL l = rotL l (atTo l l.length) := by
  have hat := atTo_lt h0 l.length (Nat.le_refl _)
  apply List.ext_getElem?
  intro i
  by_cases hi : i < l.length
  · rw [rotL_get hat i hi]
    unfold turnL
    simp [hi]
  · rw [List.getElem?_eq_none (by unfold turnL; simp; omega), List.getElem?_eq_none (by rw [rotL_length]; omega)]

theorem idx_at {l : List XY} (h0 : 0 < l.length) (hb : ∀ j, Bd 100000 (cy l j)) (f : XY → Bool) (hf : ∀ q, f q = true ↔ q = minW l) : l.findIdx f = atTo l l.length ∧ l.any f = true := by
  have hat := atTo_lt h0 l.length (Nat.le_refl _)
  have e : minW l = cy l (atTo l l.length) := minTo_at h0 hb l.length (Nat.le_refl _)
  have hit : f l[atTo l l.length] = true := by rw [hf, e, cy_get hat]
  refine ⟨?_, List.any_eq_true.2 ⟨_, List.getElem_mem hat, hit⟩⟩
  rw [List.findIdx_eq hat]
  refine ⟨hit, fun j hj => ?_⟩
  have := (atTo_low h0 l.length (Nat.le_refl _)).2 j hj
  rw [Bool.eq_false_iff]
  intro hc
  rw [hf, e, ← cy_get (show j < l.length by omega)] at hc
  rw [hc] at this
  exact lx_irr _ this

theorem canon_facts {l : List XY} (h0 : 0 < l.length) (hb : ∀ j, Bd 100000 (cy l j)) : ∃ k, k < l.length ∧ idxF (fun q => decide (minW l = q)) l = (k : Int) ∧ canonL l = l.drop k ++ l.take k ∧ canonL l = turnL l := by
  have hat := atTo_lt h0 l.length (Nat.le_refl _)
  obtain ⟨e1, e2⟩ := idx_at h0 hb (fun q => decide (minW l = q)) (fun q => by simp only [decide_eq_true_eq]; exact eq_comm)
  obtain ⟨e3, _⟩ := idx_at h0 hb (fun q => decide (q = minW l)) (fun q => by simp only [decide_eq_true_eq])
  have e4 : canonL l = rotL l (atTo l l.length) := by unfold canonL idxOf rotL; rw [e3]
  refine ⟨_, hat, by unfold idxF; rw [if_pos e2, e1], e4, ?_⟩
  rw [e4, turnL_rot h0]
end Go.Proofs.Ytimehkeaeffcaaa

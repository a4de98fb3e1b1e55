/- The area by all corners is that of the fan from the first; the two ways to centre agree. -/
import Derived.Test.YtcbphodkaiknmaaMathM
import Derived.Test.YtcbphodkaiknmaaWD
namespace Go.Proofs.Ytcbphodkaiknmaa
open Go.RowKit (wrap64)

/-- The sum over the sides, without wraps. -/
def shoe (l : List XY) : Nat → Int
  | 0 => 0
  | k + 1 => shoe l k + vx (cy l k) (cy l (k + 1))
def fan (l : List XY) : Nat → Int
  | 0 => 0
  | k + 1 => fan l k + cross (cy l 0) (cy l (k + 1)) (cy l (k + 2))

theorem vx_bd {a b : XY} (ha : Bd 5000 a) (hb : Bd 5000 b) : -50000000 ≤ vx a b ∧ vx a b ≤ 50000000 := by
  obtain ⟨a1, a2, a3, a4⟩ := ha
  obtain ⟨b1, b2, b3, b4⟩ := hb
  have m := mul_bd (a := a.X) (b := b.Y) (A := 5000) (B := 5000) (by omega) (by omega) (by omega) (by omega)
  have n := mul_bd (a := a.Y) (b := b.X) (A := 5000) (B := 5000) (by omega) (by omega) (by omega) (by omega)
  unfold vx
  omega
theorem vxW {a b : XY} (ha : Bd 5000 a) (hb : Bd 5000 b) : wrap64 (wrap64 (a.X * b.Y) - wrap64 (a.Y * b.X)) = vx a b := by
  obtain ⟨a1, a2, a3, a4⟩ := ha
  obtain ⟨b1, b2, b3, b4⟩ := hb
  have m := mul_bd (a := a.X) (b := b.Y) (A := 5000) (B := 5000) (by omega) (by omega) (by omega) (by omega)
  have n := mul_bd (a := a.Y) (b := b.X) (A := 5000) (B := 5000) (by omega) (by omega) (by omega) (by omega)
  unfold vx
  rw [w64_id (show _ ≤ a.X * b.Y by omega) (by omega), w64_id (show _ ≤ a.Y * b.X by omega) (by omega), w64_id (by omega) (by omega)]
theorem cross_bd {a b c : XY} (ha : Bd 5000 a) (hb : Bd 5000 b) (hc : Bd 5000 c) : -200000000 ≤ cross a b c ∧ cross a b c ≤ 200000000 := by
  obtain ⟨a1, a2, a3, a4⟩ := ha
  obtain ⟨b1, b2, b3, b4⟩ := hb
  obtain ⟨c1, c2, c3, c4⟩ := hc
  have m := mul_bd (a := b.X - a.X) (b := c.Y - b.Y) (A := 10000) (B := 10000) (by omega) (by omega) (by omega) (by omega)
  have n := mul_bd (a := b.Y - a.Y) (b := c.X - b.X) (A := 10000) (B := 10000) (by omega) (by omega) (by omega) (by omega)
  unfold cross
  omega

theorem areaTo_succ (l : List XY) (k : Nat) : areaTo l (k + 1) = wrap64 (areaTo l k + wrap64 (wrap64 ((cy l k).X * (cy l (k + 1)).Y) - wrap64 ((cy l k).Y * (cy l (k + 1)).X))) := by
  unfold areaTo; rw [List.range_succ, List.foldl_append]; rfl
theorem areaTo_shoe {l : List XY} (hb : ∀ j, Bd 5000 (cy l j)) : ∀ k, k ≤ 64 → areaTo l k = shoe l k ∧ -50000000 * (k : Int) ≤ shoe l k ∧ shoe l k ≤ 50000000 * (k : Int)
  | 0, _ => ⟨rfl, by unfold shoe; omega, by unfold shoe; omega⟩
  | k + 1, h => by
    obtain ⟨e, b1, b2⟩ := areaTo_shoe hb k (by omega)
    have bv := vx_bd (hb k) (hb (k + 1))
    have es : shoe l (k + 1) = shoe l k + vx (cy l k) (cy l (k + 1)) := rfl
    refine ⟨?_, by rw [es]; omega, by rw [es]; omega⟩
    rw [areaTo_succ, vxW (hb k) (hb (k + 1)), e, es, w64_id (by omega) (by omega)]
theorem fanTo_fan {l : List XY} (hb : ∀ j, Bd 5000 (cy l j)) : ∀ k, k ≤ 64 → fanTo l k = fan l k ∧ -200000000 * (k : Int) ≤ fan l k ∧ fan l k ≤ 200000000 * (k : Int)
  | 0, _ => ⟨rfl, by unfold fan; omega, by unfold fan; omega⟩
  | k + 1, h => by
    obtain ⟨e, b1, b2⟩ := fanTo_fan hb k (by omega)
    have bv := cross_bd (hb 0) (hb (k + 1)) (hb (k + 2))
    have es : fan l (k + 1) = fan l k + cross (cy l 0) (cy l (k + 1)) (cy l (k + 2)) := rfl
    refine ⟨?_, by rw [es]; omega, by rw [es]; omega⟩
    rw [fanTo_succ, cross2W_eq ((hb 0).mono (by omega)) ((hb (k + 1)).mono (by omega)) ((hb (k + 2)).mono (by omega)), e, es, w64_id (by omega) (by omega)]
theorem fan_shoe (l : List XY) : ∀ k, fan l k = shoe l (k + 1) + vx (cy l (k + 1)) (cy l 0)
  | 0 => by show (0 : Int) = 0 + vx (cy l 0) (cy l (0 + 1)) + vx (cy l (0 + 1)) (cy l 0); unfold vx; grind
  | k + 1 => by
    show fan l k + cross (cy l 0) (cy l (k + 1)) (cy l (k + 2)) = shoe l (k + 1) + vx (cy l (k + 1)) (cy l (k + 1 + 1)) + vx (cy l (k + 1 + 1)) (cy l 0)
    rw [fan_shoe l k]
    unfold vx cross
    grind

theorem area_eq {l : List XY} (h : validB l = true) : areaW l = twiceW l := by
  have hl := validB_len' h
  have hb := bd_cy (show 0 < l.length by omega) (validB_ranged h)
  unfold areaW twiceW
  rw [(areaTo_shoe hb l.length (by omega)).1, (fanTo_fan hb (l.length - 2) (by omega)).1, fan_shoe, show l.length - 2 + 1 = l.length - 1 by omega]
  obtain ⟨m, hm⟩ : ∃ m, l.length = m + 1 := ⟨l.length - 1, by omega⟩
  have e0 : cy l (m + 1) = cy l 0 := by rw [← hm, show l.length = 0 + l.length by omega, cy_per]
  have : l.length - 1 = m := by omega
  rw [this, hm]
  show shoe l m + vx (cy l m) (cy l (m + 1)) = _
  rw [e0]
theorem area2S_eq (l : List XY) : area2S l = area22S l := by
  unfold area2S area22S
  rw [← valid_eq]
  cases h : validB l
  · rfl
  · rw [if_pos rfl, if_pos rfl, area_eq h]

theorem ends_bd {l : List XY} (h0 : 0 < l.length) (hr : l.all rangedB = true) : ∀ k, Bd 5000 (lowTo l k) ∧ Bd 5000 (highTo l k) := by
  have H : ∀ k, k ≤ l.length → Bd 5000 (lowTo l k) ∧ Bd 5000 (highTo l k) := by
    intro k
    induction k with
    | zero => intro _; exact ⟨hd_bd h0 hr, hd_bd h0 hr⟩
    | succ k ih =>
      intro hk
      obtain ⟨q, hq⟩ := getElem?_of_lt (show k < l.length by omega)
      obtain ⟨c1, c2, c3, c4⟩ := bd_of_ranged (List.all_eq_true.1 hr q (List.mem_of_getElem? hq))
      obtain ⟨⟨a1, a2, a3, a4⟩, ⟨b1, b2, b3, b4⟩⟩ := ih (by omega)
      rw [lowTo_succ hq, highTo_succ hq]
      refine ⟨⟨?_, ?_, ?_, ?_⟩, ⟨?_, ?_, ?_, ?_⟩⟩ <;> simp only <;> split <;> omega
  intro k
  rcases Nat.lt_or_ge l.length k with h | h
  · have e1 : lowTo l k = lowTo l l.length := by unfold lowTo; rw [List.take_of_length_le (by omega), List.take_length]
    have e2 : highTo l k = highTo l l.length := by unfold highTo; rw [List.take_of_length_le (by omega), List.take_length]
    rw [e1, e2]
    exact H _ (Nat.le_refl _)
  · exact H k h

theorem canon_turn {l : List XY} (h0 : 0 < l.length) (hb : ∀ j, Bd 100000 (cy l j)) : canonL l = turnL l := by
  obtain ⟨_, _, _, _, e⟩ := canon_facts h0 hb
  exact e

theorem centredS_eq (l : List XY) : centredS l = centred2S l := by
  unfold centredS centred2S
  rw [← valid_eq]
  cases h : validB l
  · rfl
  · have hl := validB_len' h
    have h0 : 0 < l.length := by omega
    have hr := validB_ranged h
    obtain ⟨e1, e2, e3, e4⟩ := far_ends h0 hr l.length (Nat.le_refl _)
    obtain ⟨⟨a1, a2, a3, a4⟩, ⟨b1, b2, b3, b4⟩⟩ := ends_bd h0 hr l.length
    have hx : cdx l = (lowTo l l.length).X + (highTo l l.length).X := by
      unfold cdx farW; rw [e1, e2, w64_id (by omega) (by omega)]; omega
    have hy : cdy l = (lowTo l l.length).Y + (highTo l l.length).Y := by
      unfold cdy farW; rw [e3, e4, w64_id (by omega) (by omega)]; omega
    have hx2 : hx2 l = -(cdx l / 2) := by
      unfold hx2; rw [← hx, w64_id (show _ ≤ cdx l by omega) (by omega), w64_id (by omega) (by omega)]
    have hy2 : hy2 l = -(cdy l / 2) := by
      unfold hy2; rw [← hy, w64_id (show _ ≤ cdy l by omega) (by omega), w64_id (by omega) (by omega)]
    have em : l.map (fCen (cdx l) (cdy l)) = l.map (fShift (Go.Proofs.Ytcbphodkaiknmaa.hx2 l) (Go.Proofs.Ytcbphodkaiknmaa.hy2 l)) := by
      apply List.map_congr_left
      intro p _
      unfold fCen fShift
      rw [hx2, hy2]
      congr 1 <;> congr 1 <;> omega
    rw [if_pos rfl, if_pos rfl, ← em, canon_turn (by simpa using h0) (map_bd h0 hr (fun p => fCen_bd (by omega) (by omega) (by omega) (by omega)))]
end Go.Proofs.Ytcbphodkaiknmaa

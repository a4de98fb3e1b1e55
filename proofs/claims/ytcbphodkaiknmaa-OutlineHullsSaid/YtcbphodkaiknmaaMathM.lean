/- The measures: the program's answers are the reference's. -/
import Derived.Test.YtcbphodkaiknmaaMathA
import Derived.Test.YtcbphodkaiknmaaW25
namespace Go.Proofs.Ytcbphodkaiknmaa
open Go.RowKit (wrap64)

theorem valid_fun' : validB = validRB := funext valid_eq
theorem aroundS_eq (l : List XY) : aroundS validB l = aroundS validRB l := by rw [valid_fun']

theorem iceil_le {a r : Nat} (h : a ≤ r * r) : iceil a ≤ r := by
  have h1 := isqrt_le a
  have h2 := isqrt_lt a
  unfold iceil
  split
  · rename_i hlt
    refine Nat.succ_le_of_lt (Nat.lt_of_not_le fun hc => ?_)
    have := Nat.mul_le_mul hc hc
    omega
  · refine Nat.le_of_not_lt fun hc => ?_
    have := Nat.mul_le_mul (Nat.succ_le_of_lt hc) (Nat.succ_le_of_lt hc)
    have e : (r + 1) * (r + 1) = r * r + 2 * r + 1 := by grind
    simp only [Nat.succ_eq_add_one] at this
    omega
theorem iceil_ge (a : Nat) : a ≤ iceil a * iceil a := by
  have h2 := isqrt_lt a
  unfold iceil
  split
  · omega
  · omega
theorem iceil_mono {a b : Nat} (h : a ≤ b) : iceil a ≤ iceil b := iceil_le (Nat.le_trans h (iceil_ge b))

theorem dia_to {l : List XY} (hr : l.all rangedB = true) : ∀ k, k ≤ l.length → dia2To l k = ((iceil (mostTo l k).toNat : Nat) : Int)
  | 0, _ => by unfold dia2To mostTo; simp [iceil, isqrt]
  | k + 1, hk => by
    obtain ⟨q, hq⟩ := getElem?_of_lt (show k < l.length by omega)
    have hfb := fourW_bd (bd_of_ranged (List.all_eq_true.1 hr q (List.mem_of_getElem? hq)))
    have hmb := mostTo_bd hr k
    rw [dia2To_succ hq, mostTo_succ hq, dia_to hr k (by omega)]
    by_cases h : mostTo l k < fourW q
    · rw [if_pos h]
      have := iceil_mono (show (mostTo l k).toNat ≤ (fourW q).toNat by omega)
      split <;> omega
    · rw [if_neg h]
      have := iceil_mono (show (fourW q).toNat ≤ (mostTo l k).toNat by omega)
      split <;> omega

theorem dia_eq {l : List XY} (h : validB l = true) : diaW l = dia2W l := (dia_to (validB_ranged h) l.length (Nat.le_refl _)).symm
theorem diameterS_eq (l : List XY) : diameterS l = diameter2S l := by
  unfold diameterS diameter2S
  rw [← valid_eq]
  cases h : validB l
  · rfl
  · rw [if_pos rfl, if_pos rfl, dia_eq h]; rfl

theorem dotW_eq {u v : Int} {q : XY} (hu1 : -1 ≤ u) (hu2 : u ≤ 1) (hv1 : -1 ≤ v) (hv2 : v ≤ 1) (hq : Bd 5000 q) : dotW u v q = u * q.X + v * q.Y := by
  obtain ⟨a1, a2, a3, a4⟩ := hq
  obtain ⟨m1, m2⟩ := mul_bd (a := u) (b := q.X) (A := 1) (B := 5000) (by omega) (by omega) (by omega) (by omega)
  obtain ⟨n1, n2⟩ := mul_bd (a := v) (b := q.Y) (A := 1) (B := 5000) (by omega) (by omega) (by omega) (by omega)
  unfold dotW
  rw [w64_id (show _ ≤ u * q.X by omega) (by omega), w64_id (show _ ≤ v * q.Y by omega) (by omega), w64_id (by omega) (by omega)]

theorem hd_bd {l : List XY} (h0 : 0 < l.length) (hr : l.all rangedB = true) : Bd 5000 (hd l) := by
  obtain ⟨p, hp⟩ := getElem?_of_lt h0
  rw [hd_of hp]
  exact bd_of_ranged (List.all_eq_true.1 hr p (List.mem_of_getElem? hp))

/-- The four reaches along the axes are the ends. -/
theorem far_ends {l : List XY} (h0 : 0 < l.length) (hr : l.all rangedB = true) : ∀ k, k ≤ l.length →
    farTo 1 0 l k = (highTo l k).X ∧ farTo (-1) 0 l k = -(lowTo l k).X ∧ farTo 0 1 l k = (highTo l k).Y ∧ farTo 0 (-1) l k = -(lowTo l k).Y
  | 0, _ => by
    have hb := hd_bd h0 hr
    unfold farTo highTo lowTo
    simp only [List.take_zero, List.foldl_nil]
    rw [dotW_eq (by omega) (by omega) (by omega) (by omega) hb, dotW_eq (by omega) (by omega) (by omega) (by omega) hb, dotW_eq (by omega) (by omega) (by omega) (by omega) hb, dotW_eq (by omega) (by omega) (by omega) (by omega) hb]
    omega
  | k + 1, hk => by
    obtain ⟨q, hq⟩ := getElem?_of_lt (show k < l.length by omega)
    have hb := bd_of_ranged (List.all_eq_true.1 hr q (List.mem_of_getElem? hq))
    obtain ⟨i1, i2, i3, i4⟩ := far_ends h0 hr k (by omega)
    rw [farTo_succ hq, farTo_succ hq, farTo_succ hq, farTo_succ hq, highTo_succ hq, lowTo_succ hq, i1, i2, i3, i4,
      dotW_eq (by omega) (by omega) (by omega) (by omega) hb, dotW_eq (by omega) (by omega) (by omega) (by omega) hb, dotW_eq (by omega) (by omega) (by omega) (by omega) hb, dotW_eq (by omega) (by omega) (by omega) (by omega) hb]
    simp only
    refine ⟨?_, ?_, ?_, ?_⟩ <;> (split <;> split <;> omega)

theorem boxS_eq (l : List XY) : boxS l = box2S l := by
  unfold boxS box2S
  rw [← valid_eq]
  cases h : validB l
  · rfl
  · have hl := validB_len' h
    obtain ⟨e1, e2, e3, e4⟩ := far_ends (show 0 < l.length by omega) (validB_ranged h) l.length (Nat.le_refl _)
    rw [if_pos rfl, if_pos rfl]
    unfold farW
    rw [e1, e2, e3, e4]
    rfl
theorem blankS_eq (l : List XY) (x y : Int) : blankS validB diaP boxP l x y = blankS validRB dia2W boxR l x y := by
  unfold blankS
  rw [← valid_eq]
  cases h : validB l
  · rfl
  · have e1 : diaP l = dia2W l := dia_eq h
    have e2 : boxP l = boxR l := by unfold boxP boxR; rw [boxS_eq]
    rw [e1, e2]
end Go.Proofs.Ytcbphodkaiknmaa

/- The roots: the walks. -/
import Derived.Test.YtcbphodkaiknmaaWA
namespace Go.Proofs.Ytcbphodkaiknmaa
open Go.RowKit

theorem mul_mono {a b : Int} (h0 : 0 ≤ a) (h : a ≤ b) : a * a ≤ b * b := Int.mul_le_mul h h h0 (by omega)
theorem isqrt_of {n : Nat} {r : Int} (h0 : 0 ≤ r) (h1 : r * r ≤ n) (h2 : (n : Int) < (r + 1) * (r + 1)) : r = (isqrt n : Nat) := by
  obtain ⟨m, rfl⟩ := Int.eq_ofNat_of_zero_le h0
  have := isqrt_eq (n := n) (r := m) (by exact_mod_cast h1) (by exact_mod_cast h2)
  rw [this]

set_option maxRecDepth 100000 in
set_option maxHeartbeats 400000 in
theorem root_any (n : Nat) (w : World) (hn : n < 4611686018427387904) :
    Calls Try.prog 51 #[.int .i64 (n : Int)] w (Ret (.int .i64 ((isqrt n : Nat) : Int)) w) := by
  go_enter Try.func51, Try.ntmps51
  go_wp2
  go_loop [3, 4] (fun a b => ∃ lo hi : Int, a = .int .i64 lo ∧ b = .int .i64 hi ∧ 0 ≤ lo ∧ lo < hi ∧ hi ≤ 2147483648 ∧ Hid (lo * lo ≤ (n : Int)) ∧ Hid ((n : Int) < hi * hi)) (fun a b => (intOf b - intOf a).toNat)
  case atStart => exact ⟨0, 2147483648, rfl, rfl, by omega, by omega, by omega, (by omega : (0 : Int) * 0 ≤ n), (by omega : (n : Int) < 2147483648 * 2147483648)⟩
  case round =>
    obtain ⟨lo, hi, rfl, rfl, h0, h1, h2, h3, h4⟩ := hrel
    by_cases hlt : lo + 1 < hi
    · have hmid : 0 ≤ (lo + hi) / 2 ∧ (lo + hi) / 2 < 2147483648 ∧ lo < (lo + hi) / 2 ∧ (lo + hi) / 2 < hi := by omega
      obtain ⟨g1, g2, g3, g4⟩ := hmid
      have hsq : wrap64 ((lo + hi) / 2 * ((lo + hi) / 2)) = (lo + hi) / 2 * ((lo + hi) / 2) := by
        have a1 := mul_mono g1 (Int.le_of_lt g2)
        have a2 := Int.mul_nonneg g1 g1
        unfold wrap64
        omega
      by_cases hle : (lo + hi) / 2 * ((lo + hi) / 2) ≤ (n : Int)
      · have HL : Hid ((lo + hi) / 2 * ((lo + hi) / 2) ≤ (n : Int)) := hle
        go_wp2
        go_round
        case rel => exact ⟨_, _, rfl, rfl, g1, g4, h2, HL, h4⟩
        case measure => simp [intOf]; omega
      · have HL : Hid ((n : Int) < (lo + hi) / 2 * ((lo + hi) / 2)) := Int.not_le.1 hle
        go_wp2
        go_round
        case rel => exact ⟨_, _, rfl, rfl, h0, g3, by omega, h3, HL⟩
        case measure => simp [intOf]; omega
    · obtain rfl : hi = lo + 1 := by omega
      go_wp2
      go_ret
      exact Ret.mk (by rw [← isqrt_of h0 h3.out h4.out]; rfl) (by (repeat (first | exact Below.refl _ _ | assumption | refine Below.alloc ?_ (by first | exact Nat.le_refl _ | exact Below.size (by assumption) | omega | (simp <;> omega)) _ | refine Below.setCell ?_ (by first | exact Nat.le_refl _ | exact Below.size (by assumption) | omega | (simp <;> omega)) _ | refine below_drewN ?_ _ | refine Below.drew ?_)))

set_option maxRecDepth 100000 in
set_option maxHeartbeats 400000 in
theorem ceiling_any (n : Nat) (w : World) (hn : n < 4611686018427387904) :
    Calls Try.prog 36 #[.int .i64 (n : Int)] w (Ret (.int .i64 ((iceil n : Nat) : Int)) w) := by
  have a1 := isqrt_le n
  have a0 : isqrt n < 2147483648 := by
    refine Nat.lt_of_not_le fun h => ?_
    have := Nat.mul_le_mul h h
    omega
  have hsq : wrap64 (((isqrt n : Nat) : Int) * ((isqrt n : Nat) : Int)) = ((isqrt n * isqrt n : Nat) : Int) := by
    rw [Int.natCast_mul]; unfold wrap64
    have a2 : ((isqrt n : Nat) : Int) * ((isqrt n : Nat) : Int) ≤ n := by exact_mod_cast a1
    have a3 : 0 ≤ ((isqrt n : Nat) : Int) * ((isqrt n : Nat) : Int) := by exact_mod_cast Nat.zero_le _
    omega
  by_cases hlt : isqrt n * isqrt n < n
  · have HI : Hid (iceil n = isqrt n + 1) := if_pos hlt
    go_enter Try.func36, Try.ntmps36
    go_wp2_with fail
    refine (root_any n _ hn).mono ?_
    rintro e w2 ⟨rfl, hb2⟩
    go_wp2
    go_ret
    exact Ret.mk (by rw [HI.out]; rfl) hb2
  · have HI : Hid (iceil n = isqrt n) := if_neg hlt
    go_enter Try.func36, Try.ntmps36
    go_wp2_with fail
    refine (root_any n _ hn).mono ?_
    rintro e w2 ⟨rfl, hb2⟩
    go_wp2
    go_ret
    exact Ret.mk (by rw [HI.out]; rfl) hb2

def bitN : Nat → Nat
  | 0 => 0
  | j + 1 => 2 ^ j
theorem bitN_half (j : Nat) : 2 ^ j / 2 = bitN j := by
  cases j with
  | zero => rfl
  | succ j => simp only [bitN]; rw [Nat.pow_succ]; omega

end Go.Proofs.Ytcbphodkaiknmaa

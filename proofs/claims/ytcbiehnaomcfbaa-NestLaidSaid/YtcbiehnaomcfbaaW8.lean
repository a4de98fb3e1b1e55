/- The roots: the walks. -/
import Derived.Test.YtcbiehnaomcfbaaWA
namespace Go.Proofs.Ytcbiehnaomcfbaa
open Go.RowKit

theorem mul_mono {a b : Int} (h0 : 0 ≤ a) (h : a ≤ b) : a * a ≤ b * b := Int.mul_le_mul h h h0 (by omega)
theorem isqrt_of {n : Nat} {r : Int} (h0 : 0 ≤ r) (h1 : r * r ≤ n) (h2 : (n : Int) < (r + 1) * (r + 1)) : r = (isqrt n : Nat) := by
  obtain ⟨m, rfl⟩ := Int.eq_ofNat_of_zero_le h0
  have := isqrt_eq (n := n) (r := m) (by exact_mod_cast h1) (by exact_mod_cast h2)
  rw [this]

def bitN : Nat → Nat
  | 0 => 0
  | j + 1 => 2 ^ j
theorem bitN_half (j : Nat) : 2 ^ j / 2 = bitN j := by
  cases j with
  | zero => rfl
  | succ j => simp only [bitN]; rw [Nat.pow_succ]; omega

end Go.Proofs.Ytcbiehnaomcfbaa

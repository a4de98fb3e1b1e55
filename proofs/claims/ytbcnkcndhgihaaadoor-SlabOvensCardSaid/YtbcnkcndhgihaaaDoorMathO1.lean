/- Ovens: plain facts. -/
import Derived.Test.YtbcnkcndhgihaaaDoorBaseM
namespace Go.Proofs.YtbcnkcndhgihaaaDoor
open Go.RowKit

def oneO (s n : Int) : Int := s * (100000 - n) / 100000
def shrS (s : Int) (t : List Int) : Int := t.foldl oneO s
def TabOk (t : List Int) : Prop := ∀ n ∈ t, 0 ≤ n ∧ n ≤ 50000
theorem oneO_bd {s n : Int} (hs : 0 ≤ s) (h0 : 0 ≤ n) (h1 : n ≤ 50000) : 0 ≤ oneO s n ∧ oneO s n ≤ s := by
  unfold oneO
  have h : s * (100000 - n) ≤ s * 100000 := Int.mul_le_mul_of_nonneg_left (by omega) hs
  have hp : 0 ≤ s * (100000 - n) := Int.mul_nonneg hs (by omega)
  generalize s * (100000 - n) = x at h hp ⊢
  omega
theorem oneO_mono {s s' n : Int} (h : s ≤ s') (h1 : n ≤ 50000) : oneO s n ≤ oneO s' n := by
  unfold oneO
  have h : s * (100000 - n) ≤ s' * (100000 - n) := Int.mul_le_mul_of_nonneg_right h (by omega)
  generalize s * (100000 - n) = x at h ⊢
  generalize s' * (100000 - n) = y at h ⊢
  omega
theorem shr_bd : ∀ (t : List Int) (s : Int), TabOk t → 0 ≤ s → 0 ≤ shrS s t ∧ shrS s t ≤ s
  | [], s, _, hs => by unfold shrS; simp; exact hs
  | n :: t, s, ht, hs => by
    have h1 := ht n (by simp)
    have h2 := oneO_bd hs h1.1 h1.2
    have h3 := shr_bd t (oneO s n) (fun x hx => ht x (by simp [hx])) h2.1
    unfold shrS at h3 ⊢
    rw [List.foldl_cons]
    omega
theorem shr_mono : ∀ (t : List Int) (s s' : Int), TabOk t → s ≤ s' → shrS s t ≤ shrS s' t
  | [], s, s', _, h => by unfold shrS; simpa using h
  | n :: t, s, s', ht, h => by
    have h1 := ht n (by simp)
    have := shr_mono t (oneO s n) (oneO s' n) (fun x hx => ht x (by simp [hx])) (oneO_mono h h1.2)
    unfold shrS at this ⊢
    rw [List.foldl_cons, List.foldl_cons]
    exact this
theorem TabOk.take {t : List Int} (h : TabOk t) (k : Nat) : TabOk (t.take k) := fun n hn => h n (List.mem_of_mem_take hn)
theorem shr_take {t : List Int} (ht : TabOk t) {s : Int} (hs : 0 ≤ s) {j k : Nat} (h : j ≤ k) : shrS s (t.take k) ≤ shrS s (t.take j) := by
  have e : t.take k = t.take j ++ (t.take k).drop j := by
    have := List.take_append_drop j (t.take k)
    rw [List.take_take, Nat.min_eq_left h] at this
    exact this.symm
  rw [e]
  unfold shrS
  rw [List.foldl_append]
  have h1 := (shr_bd (t.take j) s (ht.take j) hs).1
  exact (shr_bd _ _ (fun n hn => ht.take k n (List.mem_of_mem_drop hn)) h1).2
/-- The first number at which a test holds, or the bound. -/
def firstS (p : Nat → Bool) : Nat → Nat
  | 0 => 0
  | n + 1 => if firstS p n < n then firstS p n else if p n then n else n + 1
theorem first_le (p : Nat → Bool) : ∀ n, firstS p n ≤ n
  | 0 => Nat.le_refl _
  | n + 1 => by
    unfold firstS
    split
    · omega
    · split <;> omega
theorem first_hit (p : Nat → Bool) : ∀ n, firstS p n < n → p (firstS p n) = true
  | 0, h => by simp [firstS] at h
  | n + 1, h => by
    unfold firstS at h ⊢
    by_cases h1 : firstS p n < n
    · rw [if_pos h1]; exact first_hit p n h1
    · rw [if_neg h1] at h ⊢
      by_cases h2 : p n = true
      · rw [if_pos h2]; exact h2
      · rw [if_neg h2] at h; omega
theorem first_miss (p : Nat → Bool) : ∀ n i, i < firstS p n → p i = false
  | 0, i, h => by simp [firstS] at h
  | n + 1, i, h => by
    unfold firstS at h
    by_cases h1 : firstS p n < n
    · rw [if_pos h1] at h; exact first_miss p n i h
    · rw [if_neg h1] at h
      have e := first_le p n
      by_cases hi : i < n
      · exact first_miss p n i (by omega)
      · by_cases h2 : p n = true
        · rw [if_pos h2] at h; omega
        · rw [if_neg h2] at h
          obtain rfl : i = n := by omega
          simpa using h2
theorem first_is {p : Nat → Bool} {n k : Nat} (hk : k ≤ n) (h1 : ∀ i, i < k → p i = false) (h2 : k < n → p k = true) : firstS p n = k := by
  have a := first_le p n
  rcases Nat.lt_trichotomy (firstS p n) k with h | h | h
  · have := first_hit p n (by omega)
    rw [h1 _ h] at this; cases this
  · exact h
  · have := first_miss p n k h
    rw [h2 (by omega)] at this; cases this
end Go.Proofs.YtbcnkcndhgihaaaDoor

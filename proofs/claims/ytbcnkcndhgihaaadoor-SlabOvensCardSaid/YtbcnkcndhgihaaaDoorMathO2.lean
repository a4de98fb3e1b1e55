/- Ovens: what the functions answer, plain. -/
import Derived.Test.YtbcnkcndhgihaaaDoorMathO1
import Derived.Test.YtbcnkcndhgihaaaDoorS1
namespace Go.Proofs.YtbcnkcndhgihaaaDoor
open Go.RowKit

theorem count_first {p : Nat → Bool} : ∀ n : Nat, (∀ a b, a ≤ b → b < n → p a = true → p b = true) → (List.range n).countP (fun i => !p i) = firstS p n
  | 0, _ => rfl
  | n + 1, hm => by
    have ih := count_first n fun a b h1 h2 h3 => hm a b h1 (by omega) h3
    rw [List.range_succ, List.countP_append, ih]
    have hle := first_le p n
    show firstS p n + List.countP (fun i => !p i) [n] = if firstS p n < n then firstS p n else if p n then n else n + 1
    by_cases h : firstS p n < n
    · rw [if_pos h]
      have h2 := hm _ n (Nat.le_of_lt h) (by omega) (first_hit p n h)
      simp [h2]
    · rw [if_neg h]
      cases h2 : p n
      · simp [h2]; omega
      · simp [h2]; omega
def tabB (l : List Int) : Bool := !l.any (fun n => !btw 0 n 50000)
def ovenE (s : Int) (l : List Int) (d r : Int) : Int := if 60 < l.length then 4 else if tabB l = false then 2 else if btw 1 s 100000 && btw 0 d 1000 && decide (0 ≤ r) then 0 else 2
theorem tab_ok {l : List Int} (h : tabB l = true) : TabOk l := by
  intro n hn
  unfold tabB at h
  simp only [Bool.not_eq_true', List.any_eq_false] at h
  have := h n hn
  simp [btw] at this
  exact this
theorem oven_ok {s d r : Int} {l : List Int} (h : ovenE s l d r = 0) : l.length ≤ 60 ∧ TabOk l ∧ (1 ≤ s ∧ s ≤ 100000) ∧ (0 ≤ d ∧ d ≤ 1000) ∧ 0 ≤ r := by
  unfold ovenE at h
  split at h
  · omega
  · split at h
    · omega
    · rename_i h1 h2
      split at h
      · rename_i h3
        simp [btw] at h3
        exact ⟨by omega, tab_ok (by simpa using h2), by omega, by omega, by omega⟩
      · omega
theorem oven_or (s : Int) (l : List Int) (d r : Int) : ovenE s l d r = 0 ∨ ovenE s l d r = 2 ∨ ovenE s l d r = 4 := by
  unfold ovenE; split
  · omega
  · split
    · omega
    · split <;> omega
def cutN (l : List Int) (d : Int) : Nat := min d.toNat l.length
def shrD (s : Int) (l : List Int) (d : Int) : Int := shrS s (l.take (cutN l d))
/-- Season, Allowance, Ready. -/
def seasonB (s : Int) (l : List Int) (d : Int) : Int × Int := if ovenE s l d 0 = 0 then (shrD s l d, 0) else (0, ovenE s l d 0)
def enough (want : Int) (l : List Int) (d : Int) (i : Nat) : Bool := decide (want ≤ shrD ((i : Int) + 1) l d)
def allowB (want : Int) (l : List Int) (d : Int) : Int × Int := if ovenE want l d 0 = 0 then (if firstS (enough want l d) 100000 < 100000 then ((firstS (enough want l d) 100000 : Int) + 1, 0) else (0, 5)) else (0, ovenE want l d 0)
def rests (s : Int) (l : List Int) (r : Int) (d : Nat) : Bool := decide (shrD s l d - shrS s l ≤ r)
def readyB (s : Int) (l : List Int) (r : Int) : Int × Int := if ovenE s l 0 r = 0 then ((firstS (rests s l r) l.length : Int), 0) else (0, ovenE s l 0 r)
theorem shrD_mono {l : List Int} (h : TabOk l) {s s' : Int} (hs : s ≤ s') (d : Int) : shrD s l d ≤ shrD s' l d := shr_mono _ _ _ (h.take _) hs
theorem shrD_bd {l : List Int} (h : TabOk l) {s : Int} (hs : 0 ≤ s) (d : Int) : 0 ≤ shrD s l d ∧ shrD s l d ≤ s := shr_bd _ _ (h.take _) hs
theorem shrD_less {l : List Int} (h : TabOk l) {s : Int} (hs : 0 ≤ s) {d d' : Int} (hd : d ≤ d') : shrD s l d' ≤ shrD s l d := shr_take h hs (by unfold cutN; omega)
theorem shrD_all (s : Int) (l : List Int) : shrD s l l.length = shrS s l := by
  unfold shrD cutN
  rw [show min (l.length : Int).toNat l.length = l.length by omega, List.take_length]
theorem enough_mono {want : Int} {l : List Int} (h : TabOk l) (d : Int) : ∀ a b, a ≤ b → b < 100000 → enough want l d a = true → enough want l d b = true := by
  intro a b hab _ ha
  unfold enough at ha ⊢
  have := shrD_mono h (s := (a : Int) + 1) (s' := (b : Int) + 1) (by omega) d
  simp at ha ⊢
  omega
theorem rests_mono {s : Int} {l : List Int} {r : Int} (h : TabOk l) (hs : 0 ≤ s) : ∀ a b, a ≤ b → b < l.length → rests s l r a = true → rests s l r b = true := by
  intro a b hab _ ha
  unfold rests at ha ⊢
  have := shrD_less h hs (d := (a : Int)) (d' := (b : Int)) (by omega)
  simp at ha ⊢
  omega
/-- Trying all sizes from the wanted one on. -/
theorem allow_from {want : Int} {l : List Int} {d : Int} (h : TabOk l) (hw : 1 ≤ want ∧ want ≤ 100000) {z : Int} (h0 : want ≤ z) (hz : z ≤ 100000) (hno : ∀ y, want ≤ y → y < z → shrD y l d < want) (hit : want ≤ shrD z l d) : firstS (enough want l d) 100000 = (z - 1).toNat := by
  refine first_is (by omega) (fun i hi => ?_) (fun _ => ?_)
  · unfold enough
    by_cases hc : want ≤ (i : Int) + 1
    · have := hno ((i : Int) + 1) hc (by omega)
      simp; omega
    · have := (shrD_bd h (s := (i : Int) + 1) (by omega) d).2
      simp; omega
  · unfold enough
    rw [show (((z - 1).toNat : Nat) : Int) + 1 = z by omega]
    simpa using hit
theorem allow_none {want : Int} {l : List Int} {d : Int} (h : TabOk l) (hno : ∀ y, want ≤ y → y ≤ 100000 → shrD y l d < want) : firstS (enough want l d) 100000 = 100000 := by
  refine first_is (Nat.le_refl _) (fun i hi => ?_) (fun h => absurd h (by omega))
  unfold enough
  by_cases hc : want ≤ (i : Int) + 1
  · have := hno ((i : Int) + 1) hc (by omega)
    simp; omega
  · have := (shrD_bd h (s := (i : Int) + 1) (by omega) d).2
    simp; omega
end Go.Proofs.YtbcnkcndhgihaaaDoor

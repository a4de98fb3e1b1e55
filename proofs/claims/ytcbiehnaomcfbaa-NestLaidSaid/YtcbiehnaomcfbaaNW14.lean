/- Rows, in the reference: the walk. -/
import Derived.Test.YtcbiehnaomcfbaaNW13
import Derived.Test.YtcbiehnaomcfbaaNW12
import Derived.BigQuiet
namespace Go.Proofs.Ytcbiehnaomcfbaa
open Go.RowKit

set_option maxRecDepth 100000 in
set_option maxHeartbeats 1000000 in
theorem boxes_any (len box gap : Int) (w : World) (h1 : 1 ≤ box) (h2 : box ≤ 20000) (g1 : 0 ≤ gap) (g2 : gap ≤ 2000) (l1 : 0 ≤ len) (l2 : len ≤ 60000) :
    Calls Try.prog 61 #[.int .i64 len, .int .i64 box, .int .i64 gap] w (Ret (.int .i64 (boxN len box gap : Nat)) w) := by
  have hlt := fun j => boxN_lt (len := len) h1 g1 j
  have hle := boxN_le l1 h1 g1
  obtain ⟨nx, hnx⟩ : ∃ nx, boxN len box gap = nx := ⟨_, rfl⟩
  rw [hnx] at hle ⊢
  simp only [hnx] at hlt
  have HL := Lib.hid hlt; clear hlt hnx
  go_enter Try.func61, Try.ntmps61
  go_wp2
  go_loopw [7, 8] (fun nv xv wr => ∃ i : Nat, i ≤ nx ∧ nv = .int .i64 i ∧ xv = .int .i64 ((i : Int) * (box + gap)) ∧ wr = w) (fun nv _ _ => nx + 1 - (intOf nv).toNat)
  case atStart => exact ⟨0, Nat.zero_le _, rfl, by simp, rfl⟩
  case round =>
    obtain ⟨i, hi, rfl, rfl, rfl⟩ := hrel
    have hxl := HL.out i
    have hxp := HL.out (i - 1)
    have hsuc : (((i + 1 : Nat) : Int)) * (box + gap) = (i : Int) * (box + gap) + (box + gap) := by rw [Int.natCast_add, Int.add_mul]; simp
    have hx0 : 0 ≤ (i : Int) * (box + gap) := Int.mul_nonneg (by omega) (by omega)
    have hxz : i = 0 → (i : Int) * (box + gap) = 0 := fun h => by subst h; simp
    have hxm : 0 < i → (i : Int) * (box + gap) = ((i - 1 : Nat) : Int) * (box + gap) + (box + gap) := fun h => by
      obtain ⟨m, rfl⟩ : ∃ m, i = m + 1 := ⟨i - 1, by omega⟩
      rw [Int.natCast_add, Int.add_mul]; simp
    generalize ((i - 1 : Nat) : Int) * (box + gap) = xp at *
    obtain ⟨x, hx⟩ : ∃ x, (i : Int) * (box + gap) = x := ⟨_, rfl⟩
    rw [hx] at hxl hsuc hx0 hxz hxm ⊢
    clear hx
    have hxe : x ≤ 100000 := by
      rcases Nat.eq_zero_or_pos i with h0 | h0
      · have := hxz h0; omega
      · have h3 := hxp.1 (by omega)
        have h4 := hxm h0
        omega
    clear hxz hxm hxp
    have HSX := Lib.hid hsuc; clear hsuc
    have s1 : wrap64 (x + box) = x + box := w64_id (by omega) (by omega)
    have s2 : wrap64 (box + gap) = box + gap := w64_id (by omega) (by omega)
    have s3 : wrap64 (x + (box + gap)) = x + (box + gap) := w64_id (by omega) (by omega)
    by_cases hlti : i < nx
    · have s4 : x + box ≤ len := hxl.1 hlti
      clear hxl
      go_wp2
      go_roundw
      case rel => exact ⟨i + 1, by omega, by go_num, by rw [HSX.out], trivial⟩
      case measure => simp [intOf]; omega
    · obtain rfl : i = nx := by omega
      have s4 : ¬ x + box ≤ len := fun h => hlti (hxl.2 h)
      clear hxl
      go_wp2
      go_ret
      exact Ret.mk rfl (Below.refl _ _)

section
variable {f : Nat → Nat → PL} {ok : PL → Bool} {nx : Nat}
/-- What the reference keeps of it: at most 200. -/
def tkL (f : Nat → Nat → PL) (ok : PL → Bool) (nx j i : Nat) : List PL := (rowL f ok nx j i).take 200
theorem tk_start : tkL f ok nx 0 0 = [] := rfl
theorem tk_len (j i : Nat) : (tkL f ok nx j i).length ≤ 200 := by unfold tkL; rw [List.length_take]; omega
theorem tk_next (j i : Nat) : tkL f ok nx j (i + 1) = if (tkL f ok nx j i).length < 200 ∧ ok (f j i) = true then tkL f ok nx j i ++ [f j i] else tkL f ok nx j i := by
  unfold tkL
  rw [rowL_next]
  by_cases h : (rowL f ok nx j i).length < 200
  · have e : (rowL f ok nx j i).take 200 = rowL f ok nx j i := List.take_of_length_le (by omega)
    rw [e]
    cases ho : ok (f j i)
    · simp [e]
    · rw [if_pos rfl, if_pos ⟨h, rfl⟩, List.take_of_length_le (by simp; omega)]
  · rw [List.take_append_of_le_length (by omega), if_neg]
    rintro ⟨h1, _⟩
    rw [List.length_take] at h1
    omega
theorem tk_row (j : Nat) : tkL f ok nx j nx = tkL f ok nx (j + 1) 0 := by unfold tkL; rw [rowL_row]
theorem tk_full {j ny : Nat} (hj : j < ny) (h : 200 ≤ (tkL f ok nx j nx).length) : tkL f ok nx ny 0 = tkL f ok nx j nx := by
  obtain ⟨r, hr⟩ := rowL_in (f := f) (ok := ok) (nx := nx) j nx ny hj (Nat.le_refl _)
  unfold tkL at h ⊢
  rw [List.length_take] at h
  rw [hr, List.take_append_of_le_length (by omega)]
end
end Go.Proofs.Ytcbiehnaomcfbaa

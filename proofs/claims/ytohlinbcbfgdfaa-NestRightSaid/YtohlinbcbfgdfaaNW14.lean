/- Rows, in the reference: the walk. -/
import Derived.Test.YtohlinbcbfgdfaaNW13
import Derived.Test.YtohlinbcbfgdfaaNW12
import Derived.BigQuiet
namespace Go.Proofs.Ytohlinbcbfgdfaa
open Go.RowKit

section
variable {f : Nat → Nat → PL} {ok : PL → Bool} {nx : Nat}
/-- What the reference keeps of it: at most 200. -/
def tkL (f : Nat → Nat → PL) (ok : PL → Bool) (nx j i : Nat) : List PL := (rowL f ok nx j i).take 200
theorem tk_start : tkL f ok nx 0 0 = [] := rfl
theorem tk_len (j i : Nat) : (tkL f ok nx j i).length ≤ 200 := by unfold tkL; rw [List.length_take]; omega
theorem tk_next (j i : Nat) : tkL f ok nx j (i + 1) = if (tkL f ok nx j i).length < 200 ∧ ok (f j i) = true then tkL f ok nx j i ++ [f j i] else tkL f ok nx j i := by
  unfold tkL
  rw [rowL_next]
  by_cases h : (rowL f ok nx j i).length < 200
  · have e : (rowL f ok nx j i).take 200 = rowL f ok nx j i := List.take_of_length_le (by omega)
    rw [e]
    cases ho : ok (f j i)
    · simp [e]
    · rw [if_pos rfl, if_pos ⟨h, rfl⟩, List.take_of_length_le (by simp; omega)]
  · rw [List.take_append_of_le_length (by omega), if_neg]
    rintro ⟨h1, _⟩
    rw [List.length_take] at h1
    omega
theorem tk_row (j : Nat) : tkL f ok nx j nx = tkL f ok nx (j + 1) 0 := by unfold tkL; rw [rowL_row]
theorem tk_full {j ny : Nat} (hj : j < ny) (h : 200 ≤ (tkL f ok nx j nx).length) : tkL f ok nx ny 0 = tkL f ok nx j nx := by
  obtain ⟨r, hr⟩ := rowL_in (f := f) (ok := ok) (nx := nx) j nx ny hj (Nat.le_refl _)
  unfold tkL at h ⊢
  rw [List.length_take] at h
  rw [hr, List.take_append_of_le_length (by omega)]
end
end Go.Proofs.Ytohlinbcbfgdfaa

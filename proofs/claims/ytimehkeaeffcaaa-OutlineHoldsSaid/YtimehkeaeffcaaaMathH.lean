/- Reach, Holds, Within: the program's answers are the reference's. -/
import Derived.Test.YtimehkeaeffcaaaMathV
import Derived.Test.YtimehkeaeffcaaaW18
namespace Go.Proofs.Ytimehkeaeffcaaa
open Go.RowKit (wrap64)

theorem valid_fun : validB = validRB := funext valid_eq
theorem reachS_eq (l : List XY) (u v : Int) : reachS validB l u v = reachS validRB l u v := by rw [valid_fun]
theorem holdsS_eq (l : List XY) (p : XY) : holdsS validB insideB l p = holdsS validRB inside2B l p := by
  unfold holdsS
  rw [← valid_eq]
  cases hv : validB l
  · rfl
  · by_cases ho : offAt p
    · simp [ho]
    · have ho' := ho
      unfold offAt at ho'
      simp only [not_or, Int.not_lt] at ho'
      have hp : Bd 100000 p := ⟨by omega, by omega, by omega, by omega⟩
      rw [inside_eq (validB_ranged hv) hp]
theorem withinS_eq (o l : List XY) : withinS validB withinB o l = withinS validRB within2B o l := by
  unfold withinS
  rw [← valid_eq, ← valid_eq]
  cases h1 : validB o
  · rfl
  · cases h2 : validB l
    · rfl
    · rw [within_eq (validB_ranged h2) (validB_ranged h1)]
end Go.Proofs.Ytimehkeaeffcaaa

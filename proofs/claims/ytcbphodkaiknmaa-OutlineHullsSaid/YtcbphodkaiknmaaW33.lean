/- The law OutlineForms: the walk. -/
import Derived.Test.YtcbphodkaiknmaaW15
import Derived.Test.YtcbphodkaiknmaaWC
namespace Go.Proofs.Ytcbphodkaiknmaa
open Go.RowKit Go.Shelf

theorem canonL_turnL {l : List XY} (h : validB l = true) : canonL l = turnL l := by
  have hl := validB_len' h
  obtain ⟨k, _, _, _, e⟩ := canon_facts (show 0 < l.length by omega) (bd_cy' (by omega) (validB_ranged h))
  exact e
theorem canonS_eq (l : List XY) : canonS validB canonL l = canonS validRB turnL l := by
  unfold canonS
  rw [← valid_eq]
  cases h : validB l
  · rfl
  · rw [canonL_turnL h]
theorem sameS_eq (l l2 : List XY) : sameS validB canonL l l2 = sameS validRB turnL l l2 := by
  unfold sameS
  rw [← valid_eq, ← valid_eq]
  cases h : validB l
  · rfl
  · cases h2 : validB l2
    · rfl
    · rw [canonL_turnL h, canonL_turnL h2]

/-- same of the laws. -/
theorem same_any (A A2 : Option Addr) (c c2 : Nat) (l l2 : List XY) (w : World) (hm : l.length ≤ 1000000) (hl : Rd w w.heap.size A l) (hl2 : Rd w w.heap.size A2 l2) :
    Calls Try.prog 6 #[.slice A l.length c, .slice A2 l2.length c2] w (Ret (.bool (decide (l = l2))) w) := by
  have HL := Lib.hid hl; clear hl
  have HL2 := Lib.hid hl2; clear hl2
  go_enter Try.func6, Try.ntmps6
  go_wp2_with fail
  refine (equal2_any A A2 c c2 l l2 _ hm HL.out HL2.out).mono ?_
  rintro e w1 ⟨rfl, hb1⟩
  go_wp2
  go_ret
  exact Ret.mk rfl hb1

theorem canonS_len (l : List XY) : (canonS validRB turnL l).1.length ≤ 64 := by
  unfold canonS
  cases h : validRB l
  · simp
  · have := validRB_len h
    simp [turnL]; omega

end Go.Proofs.Ytcbphodkaiknmaa

/- What the small functions of both texts return: the walks. -/
import Derived.Test.YtimehkeaeffcaaaBase
namespace Go.Proofs.Ytimehkeaeffcaaa
open Go.RowKit

set_option maxHeartbeats 400000 in
theorem cross_any (a b c : XY) (w : World) : Calls Try.prog 69 #[xyv a, xyv b, xyv c] w (Ret (.int .i64 (crossW a b c)) w) := by
  go_enter Try.func69, Try.ntmps69
  go_wp2
  go_ret
  exact ⟨rfl, by (repeat (first | exact Below.refl _ _ | assumption | refine Below.alloc ?_ (by first | exact Nat.le_refl _ | exact Below.size (by assumption) | omega | (simp <;> omega)) _ | refine Below.setCell ?_ (by first | exact Nat.le_refl _ | exact Below.size (by assumption) | omega | (simp <;> omega)) _ | refine below_drewN ?_ _ | refine Below.drew ?_))⟩

set_option maxHeartbeats 400000 in
theorem cross2_any (a b c : XY) (w : World) : Calls Try.prog 72 #[xyv a, xyv b, xyv c] w (Ret (.int .i64 (cross2W a b c)) w) := by
  go_enter Try.func72, Try.ntmps72
  go_wp2
  go_ret
  exact ⟨rfl, by (repeat (first | exact Below.refl _ _ | assumption | refine Below.alloc ?_ (by first | exact Nat.le_refl _ | exact Below.size (by assumption) | omega | (simp <;> omega)) _ | refine Below.setCell ?_ (by first | exact Nat.le_refl _ | exact Below.size (by assumption) | omega | (simp <;> omega)) _ | refine below_drewN ?_ _ | refine Below.drew ?_))⟩

set_option maxHeartbeats 400000 in
theorem ranged_any (p : XY) (w : World) : Calls Try.prog 68 #[xyv p] w (Ret (.bool (rangedB p)) w) := by
  go_enter Try.func68, Try.ntmps68
  go_wp2
  all_goals
    go_ret
    refine ⟨?_, by (repeat (first | exact Below.refl _ _ | assumption | refine Below.alloc ?_ (by first | exact Nat.le_refl _ | exact Below.size (by assumption) | omega | (simp <;> omega)) _ | refine Below.setCell ?_ (by first | exact Nat.le_refl _ | exact Below.size (by assumption) | omega | (simp <;> omega)) _ | refine below_drewN ?_ _ | refine Below.drew ?_))⟩
    simp [rangedB, *] <;> omega

set_option maxHeartbeats 400000 in
theorem in_any (p : XY) (w : World) : Calls Try.prog 71 #[xyv p] w (Ret (.bool (rangedB p)) w) := by
  go_enter Try.func71, Try.ntmps71
  go_wp2
  all_goals
    go_ret
    refine ⟨?_, by (repeat (first | exact Below.refl _ _ | assumption | refine Below.alloc ?_ (by first | exact Nat.le_refl _ | exact Below.size (by assumption) | omega | (simp <;> omega)) _ | refine Below.setCell ?_ (by first | exact Nat.le_refl _ | exact Below.size (by assumption) | omega | (simp <;> omega)) _ | refine below_drewN ?_ _ | refine Below.drew ?_))⟩
    simp [rangedB, *] <;> omega

set_option maxHeartbeats 400000 in
theorem half_any (x y : Int) (w : World) : Calls Try.prog 70 #[.int .i64 x, .int .i64 y] w (Ret (.bool (halfB x y)) w) := by
  go_enter Try.func70, Try.ntmps70
  go_wp2
  all_goals
    go_ret
    refine ⟨?_, by (repeat (first | exact Below.refl _ _ | assumption | refine Below.alloc ?_ (by first | exact Nat.le_refl _ | exact Below.size (by assumption) | omega | (simp <;> omega)) _ | refine Below.setCell ?_ (by first | exact Nat.le_refl _ | exact Below.size (by assumption) | omega | (simp <;> omega)) _ | refine below_drewN ?_ _ | refine Below.drew ?_))⟩
    simp [halfB, *]

set_option maxHeartbeats 400000 in
theorem lower_any (a b : XY) (w : World) : Calls Try.prog 88 #[xyv a, xyv b] w (Ret (.int .i64 (lowerW a b)) w) := by
  go_enter Try.func88, Try.ntmps88
  go_wp2
  all_goals
    go_ret
    refine ⟨?_, by (repeat (first | exact Below.refl _ _ | assumption | refine Below.alloc ?_ (by first | exact Nat.le_refl _ | exact Below.size (by assumption) | omega | (simp <;> omega)) _ | refine Below.setCell ?_ (by first | exact Nat.le_refl _ | exact Below.size (by assumption) | omega | (simp <;> omega)) _ | refine below_drewN ?_ _ | refine Below.drew ?_))⟩
    simp_all [lowerW]

set_option maxHeartbeats 400000 in
theorem low_any (p q : XY) (w : World) : Calls Try.prog 90 #[xyv p, xyv q] w (Ret (.bool (lowB p q)) w) := by
  go_enter Try.func90, Try.ntmps90
  go_wp2
  all_goals
    go_ret
    refine ⟨?_, by (repeat (first | exact Below.refl _ _ | assumption | refine Below.alloc ?_ (by first | exact Nat.le_refl _ | exact Below.size (by assumption) | omega | (simp <;> omega)) _ | refine Below.setCell ?_ (by first | exact Nat.le_refl _ | exact Below.size (by assumption) | omega | (simp <;> omega)) _ | refine below_drewN ?_ _ | refine Below.drew ?_))⟩
    simp [lowB, *]

set_option maxHeartbeats 400000 in
theorem farther_any (o p q : XY) (w : World) : Calls Try.prog 92 #[xyv o, xyv p, xyv q] w (Ret (.bool (fartherB o p q)) w) := by
  go_enter Try.func92, Try.ntmps92
  go_wp2
  go_quiet (fail)
  go_wp2
  go_quiet (fail)
  go_wp2
  go_ret
  refine ⟨?_, by (repeat (first | exact Below.refl _ _ | assumption | refine Below.alloc ?_ (by first | exact Nat.le_refl _ | exact Below.size (by assumption) | omega | (simp <;> omega)) _ | refine Below.setCell ?_ (by first | exact Nat.le_refl _ | exact Below.size (by assumption) | omega | (simp <;> omega)) _ | refine below_drewN ?_ _ | refine Below.drew ?_))⟩
  simp [fartherB]
end Go.Proofs.Ytimehkeaeffcaaa

/- Blocks: the reference's exchanged: the walk. -/
import Derived.Test.YtbcnkcndhgihaaaDoorSC4
import Derived.Test.YtbcnkcndhgihaaaDoorSB
namespace Go.Proofs.YtbcnkcndhgihaaaDoor
open Go.RowKit
set_option linter.unusedSimpArgs false

theorem cx_three (p q r : T3) (w : World) : CX (((w.alloc (.cells #[.int .i64 p.x, .int .i64 p.y, .int .i64 p.z] 22)).alloc (.cells #[.int .i64 q.x, .int .i64 q.y, .int .i64 q.z] 22)).alloc (.cells #[.int .i64 r.x, .int .i64 r.y, .int .i64 r.z] 22)).drew (w.heap.size + 1) q := by
  have h := CX.new (w.alloc (.cells #[.int .i64 p.x, .int .i64 p.y, .int .i64 p.z] 22)) q
  rw [World.size_alloc] at h
  have hb : Below ((w.alloc (.cells #[.int .i64 p.x, .int .i64 p.y, .int .i64 p.z] 22)).alloc (.cells #[.int .i64 q.x, .int .i64 q.y, .int .i64 q.z] 22)).heap.size ((w.alloc (.cells #[.int .i64 p.x, .int .i64 p.y, .int .i64 p.z] 22)).alloc (.cells #[.int .i64 q.x, .int .i64 q.y, .int .i64 q.z] 22)) (((w.alloc (.cells #[.int .i64 p.x, .int .i64 p.y, .int .i64 p.z] 22)).alloc (.cells #[.int .i64 q.x, .int .i64 q.y, .int .i64 q.z] 22)).alloc (.cells #[.int .i64 r.x, .int .i64 r.y, .int .i64 r.z] 22)).drew := by (repeat (first | exact Below.refl _ _ | assumption | refine Below.alloc ?_ (by first | exact Nat.le_refl _ | exact Below.size (by assumption) | omega | (simp <;> omega)) _ | refine Below.setCell ?_ (by first | exact Nat.le_refl _ | exact Below.size (by assumption) | omega | (simp <;> omega)) _ | refine below_drewN ?_ _ | refine Below.drew ?_))
  exact h.below hb (by simp)
set_option maxRecDepth 100000 in
set_option maxHeartbeats 4000000 in
theorem exch_any (t : T3) (a : Int) (ha : Ax a) (w : World) : Calls Tryd.prog 85 #[val3 t, .int .i64 a] w (Ret (val3 (exch t a)) w) := by
  have hmx : Tryd.prog.follows .mixedOrders = true := by kernel_rfl
  obtain ⟨x, y, z⟩ := t
  rcases ha with rfl | rfl | rfl
  · obtain ⟨y0, y1, y2, _⟩ := (cx_three ⟨x, y, z⟩ ⟨x, z, y⟩ ⟨x, z, y⟩ w).c
    go_enter Tryd.func85, Tryd.ntmps85
    go_wp2
    go_region
    all_goals
      go_wp2
      refine bodyPost_ret (v := val3 ⟨x, z, y⟩) (by simp [results, Tryd.results85, go_sem, y0, y1, y2]) rfl ?_
      exact Ret.mk rfl (by (repeat (first | exact Below.refl _ _ | assumption | refine Below.alloc ?_ (by first | exact Nat.le_refl _ | exact Below.size (by assumption) | omega | (simp <;> omega)) _ | refine Below.setCell ?_ (by first | exact Nat.le_refl _ | exact Below.size (by assumption) | omega | (simp <;> omega)) _ | refine below_drewN ?_ _ | refine Below.drew ?_)))
  · obtain ⟨y0, y1, y2, _⟩ := (cx_three ⟨x, y, z⟩ ⟨z, y, x⟩ ⟨z, y, x⟩ w).c
    go_enter Tryd.func85, Tryd.ntmps85
    go_wp2
    go_region
    all_goals
      go_wp2
      refine bodyPost_ret (v := val3 ⟨z, y, x⟩) (by simp [results, Tryd.results85, go_sem, y0, y1, y2]) rfl ?_
      exact Ret.mk rfl (by (repeat (first | exact Below.refl _ _ | assumption | refine Below.alloc ?_ (by first | exact Nat.le_refl _ | exact Below.size (by assumption) | omega | (simp <;> omega)) _ | refine Below.setCell ?_ (by first | exact Nat.le_refl _ | exact Below.size (by assumption) | omega | (simp <;> omega)) _ | refine below_drewN ?_ _ | refine Below.drew ?_)))
  · obtain ⟨y0, y1, y2, _⟩ := (cx_three ⟨x, y, z⟩ ⟨y, x, z⟩ ⟨y, x, z⟩ w).c
    go_enter Tryd.func85, Tryd.ntmps85
    go_wp2
    go_region
    all_goals
      go_wp2
      refine bodyPost_ret (v := val3 ⟨y, x, z⟩) (by simp [results, Tryd.results85, go_sem, y0, y1, y2]) rfl ?_
      exact Ret.mk rfl (by (repeat (first | exact Below.refl _ _ | assumption | refine Below.alloc ?_ (by first | exact Nat.le_refl _ | exact Below.size (by assumption) | omega | (simp <;> omega)) _ | refine Below.setCell ?_ (by first | exact Nat.le_refl _ | exact Below.size (by assumption) | omega | (simp <;> omega)) _ | refine below_drewN ?_ _ | refine Below.drew ?_)))
end Go.Proofs.YtbcnkcndhgihaaaDoor

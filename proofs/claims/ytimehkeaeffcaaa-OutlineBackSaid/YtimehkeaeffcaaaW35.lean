/- The functions that mapped takes: the walks. -/
import Derived.Test.YtimehkeaeffcaaaW34
namespace Go.Proofs.Ytimehkeaeffcaaa
open Go.RowKit

theorem turned1_any (p : XY) (w : World) : Calls Try.prog 82 #[xyv p] w (Ret (xyv ⟨wrap64 (-p.X), wrap64 (-p.Y)⟩) w) := by
  go_enter Try.func82, Try.ntmps82
  go_wp2
  refine bodyPost_ret (v := xyv ⟨wrap64 (-p.X), wrap64 (-p.Y)⟩) (by simp [results, Try.results82, go_sem]) rfl ⟨rfl, by (repeat (first | exact Below.refl _ _ | assumption | refine Below.alloc ?_ (by first | exact Nat.le_refl _ | exact Below.size (by assumption) | omega | (simp <;> omega)) _ | refine Below.setCell ?_ (by first | exact Nat.le_refl _ | exact Below.size (by assumption) | omega | (simp <;> omega)) _ | refine below_drewN ?_ _ | refine Below.drew ?_))⟩
theorem mirror1_any (p : XY) (w : World) : Calls Try.prog 81 #[xyv p] w (Ret (xyv ⟨wrap64 (-p.X), p.Y⟩) w) := by
  go_enter Try.func81, Try.ntmps81
  go_wp2
  refine bodyPost_ret (v := xyv ⟨wrap64 (-p.X), p.Y⟩) (by simp [results, Try.results81, go_sem]) rfl ⟨rfl, by (repeat (first | exact Below.refl _ _ | assumption | refine Below.alloc ?_ (by first | exact Nat.le_refl _ | exact Below.size (by assumption) | omega | (simp <;> omega)) _ | refine Below.setCell ?_ (by first | exact Nat.le_refl _ | exact Below.size (by assumption) | omega | (simp <;> omega)) _ | refine below_drewN ?_ _ | refine Below.drew ?_))⟩
theorem moved1_any (p : XY) (B C : Nat) (dx dy : Int) (w : World) (h1 : w.cell? ⟨B, 0, none⟩ = some (.int .i64 dx)) (h2 : w.cell? ⟨C, 0, none⟩ = some (.int .i64 dy)) :
    Calls Try.prog 83 #[xyv p, .pointer (some ⟨B, 0, none⟩), .pointer (some ⟨C, 0, none⟩)] w (Ret (xyv ⟨wrap64 (p.X + dx), wrap64 (p.Y + dy)⟩) w) := by
  have hb1 := World.block_lt_of_cell? w _ h1
  have hb2 := World.block_lt_of_cell? w _ h2
  dsimp only at hb1 hb2
  go_enter Try.func83, Try.ntmps83
  go_wp2
  refine bodyPost_ret (v := xyv ⟨wrap64 (p.X + dx), wrap64 (p.Y + dy)⟩) (by simp [results, Try.results83, go_sem]) rfl ⟨rfl, by (repeat (first | exact Below.refl _ _ | assumption | refine Below.alloc ?_ (by first | exact Nat.le_refl _ | exact Below.size (by assumption) | omega | (simp <;> omega)) _ | refine Below.setCell ?_ (by first | exact Nat.le_refl _ | exact Below.size (by assumption) | omega | (simp <;> omega)) _ | refine below_drewN ?_ _ | refine Below.drew ?_))⟩
theorem centred1_any (p : XY) (B C : Nat) (dx dy : Int) (w : World) (h1 : w.cell? ⟨B, 0, none⟩ = some (.int .i64 dx)) (h2 : w.cell? ⟨C, 0, none⟩ = some (.int .i64 dy)) :
    Calls Try.prog 77 #[xyv p, .pointer (some ⟨B, 0, none⟩), .pointer (some ⟨C, 0, none⟩)] w (Ret (xyv ⟨wrap64 (p.X - dx / 2), wrap64 (p.Y - dy / 2)⟩) w) := by
  have hb1 := World.block_lt_of_cell? w _ h1
  have hb2 := World.block_lt_of_cell? w _ h2
  dsimp only at hb1 hb2
  go_enter Try.func77, Try.ntmps77
  go_wp2
  refine bodyPost_ret (v := xyv ⟨wrap64 (p.X - dx / 2), wrap64 (p.Y - dy / 2)⟩) (by simp [results, Try.results77, go_sem]) rfl ⟨rfl, by (repeat (first | exact Below.refl _ _ | assumption | refine Below.alloc ?_ (by first | exact Nat.le_refl _ | exact Below.size (by assumption) | omega | (simp <;> omega)) _ | refine Below.setCell ?_ (by first | exact Nat.le_refl _ | exact Below.size (by assumption) | omega | (simp <;> omega)) _ | refine below_drewN ?_ _ | refine Below.drew ?_))⟩
end Go.Proofs.Ytimehkeaeffcaaa

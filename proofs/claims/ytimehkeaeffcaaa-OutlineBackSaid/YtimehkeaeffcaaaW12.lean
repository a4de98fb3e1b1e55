/- within, in the program, and its closure: the walks. -/
import Derived.Test.YtimehkeaeffcaaaW3
import Derived.Test.YtimehkeaeffcaaaW10
namespace Go.Proofs.Ytimehkeaeffcaaa
open Go.RowKit Go.Shelf

theorem any_not_all (l : List XY) (f : XY → Bool) : (!l.any fun c => !f c) = l.all f := by
  induction l with
  | nil => rfl
  | cons a l ih => simp only [List.any_cons, List.all_cons, ← ih]; cases f a <;> simp

set_option maxHeartbeats 400000 in
theorem within1_any (A2 : Option Addr) (c2 : Nat) (l2 : List XY) (p : XY) (Bs : Nat) (w : World) (hm2 : l2.length ≤ 1000000) (hl2 : Rd w w.heap.size A2 l2) (hBs : w.cell? ⟨Bs, 0, none⟩ = some (.slice A2 l2.length c2)) :
    Calls Try.prog 84 #[xyv p, .pointer (some ⟨Bs, 0, none⟩)] w (Ret (.bool (!insideB l2 p)) w) := by
  have hlt := World.block_lt_of_cell? w _ hBs
  have HL := Lib.hid hl2; clear hl2
  go_enter Try.func84, Try.ntmps84
  go_wp2_with fail
  refine (holds_any A2 c2 l2 p _ hm2 (HL.out.now (by (repeat (first | exact Below.refl _ _ | assumption | refine Below.alloc ?_ (by first | exact Nat.le_refl _ | exact Below.size (by assumption) | omega | (simp <;> omega)) _ | refine Below.setCell ?_ (by first | exact Nat.le_refl _ | exact Below.size (by assumption) | omega | (simp <;> omega)) _ | refine below_drewN ?_ _ | refine Below.drew ?_))))).mono ?_
  rintro e w2 ⟨rfl, hb2⟩
  go_wp2
  go_ret
  exact ⟨rfl, ((Below.refl _ _).alloc (Nat.le_refl _) _).trans (hb2.mono (by simp))⟩

set_option maxHeartbeats 400000 in
theorem within_any (A A2 : Option Addr) (c c2 : Nat) (l l2 : List XY) (w : World) (hm : l.length ≤ 1000000) (hm2 : l2.length ≤ 1000000) (hl : Rd w w.heap.size A l) (hl2 : Rd w w.heap.size A2 l2) :
    Calls Try.prog 51 #[.slice A l.length c, .slice A2 l2.length c2] w (Ret (.bool (withinB l l2)) w) := by
  have HL := Lib.hid hl; clear hl
  have HL2 := Lib.hid hl2; clear hl2
  go_enter Try.func51, Try.ntmps51
  go_wp2_with fail
  have hT : Tells 84 #[.pointer (some ⟨w.heap.size, 0, none⟩)] (fun p => !insideB l2 p) (w.alloc (.cells #[.slice A2 l2.length c2] 22)) :=
    ⟨enters_of Try.func84 (by kernel_rfl) rfl, fun W p hb => within1_any A2 c2 l2 p w.heap.size W hm2 (HL2.out.now (((Below.refl _ w).alloc (Nat.le_refl _) _).trans (hb.mono (by simp))))
      ((hb.cell (p := ⟨w.heap.size, 0, none⟩) (by simp)).trans (by simp))⟩
  refine (containsFunc_any 84 #[.pointer (some ⟨w.heap.size, 0, none⟩)] (fun p => !insideB l2 p) A c l _ hT hm (HL.out.now (by (repeat (first | exact Below.refl _ _ | assumption | refine Below.alloc ?_ (by first | exact Nat.le_refl _ | exact Below.size (by assumption) | omega | (simp <;> omega)) _ | refine Below.setCell ?_ (by first | exact Nat.le_refl _ | exact Below.size (by assumption) | omega | (simp <;> omega)) _ | refine below_drewN ?_ _ | refine Below.drew ?_))))).mono ?_
  rintro e w2 ⟨rfl, hb2⟩
  rw [show (l.any fun p => !insideB l2 p) = !withinB l l2 from by rw [withinB, ← any_not_all]; simp]
  go_wp2
  go_ret
  exact Ret.mk (by simp) (((Below.refl _ _).alloc (Nat.le_refl _) _).trans (hb2.mono (by simp)))
end Go.Proofs.Ytimehkeaeffcaaa

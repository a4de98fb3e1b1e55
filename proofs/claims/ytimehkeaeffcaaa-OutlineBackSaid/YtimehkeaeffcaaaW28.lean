/- slices.Clone, and the reference's Turn: the walks. -/
import Derived.Test.YtimehkeaeffcaaaOwn
import Derived.Test.YtimehkeaeffcaaaW1
import Derived.StillTailTactics
namespace Go.Proofs.Ytimehkeaeffcaaa
open Go.RowKit

set_option maxHeartbeats 400000 in
theorem clone_any (A : Option Addr) (c : Nat) (l : List XY) (w : World) (hm : l.length ≤ 1000000) (hl : Rd w w.heap.size A l) (hA : ∀ a, A = some a → ∃ b off, a = ⟨b, off, none⟩) :
    Calls Try.prog 89 #[.slice A l.length c] w (RetO l w) := by
  have heq : ∀ (a : Option Addr) (n : Nat) (w' : World), (binOp .eql 22 (.slice a n c) (.slice none 0 0)).run Try.prog w' = .ok (.bool a.isNone) w' := fun a n w' => Lib.run_eql_slice_nil w' 22 37 a n c 0 0 Try.underlying22
  cases A with
  | none =>
    have h0 : l = [] := by
      match l, hl with
      | [], _ => rfl
      | p :: l, hl => obtain ⟨b, off, h, _⟩ := hl 0 p rfl; cases h
    subst h0
    go_enter Try.func89, Try.ntmps89
    go_wp2
    go_ret
    exact ⟨_, rfl, World.ownsRow_nil _ _ _ _, by (repeat (first | exact Below.refl _ _ | assumption | refine Below.alloc ?_ (by first | exact Nat.le_refl _ | exact Below.size (by assumption) | omega | (simp <;> omega)) _ | refine Below.setCell ?_ (by first | exact Nat.le_refl _ | exact Below.size (by assumption) | omega | (simp <;> omega)) _ | refine below_drewN ?_ _ | refine Below.drew ?_))⟩
  | some a =>
    obtain ⟨b, off, rfl⟩ := hA a rfl
    obtain ⟨i0, hi, hz0, hz1, hz2⟩ := info_parts Try.infoXY
    have hc : Rd (w.alloc (.cells #[] 37)) w.heap.size (some ⟨b, off, none⟩) l := hl.keep fun p hp => World.cell?_alloc_lt _ _ _ hp
    have HC := Lib.hid hc; clear hc
    have HI := Lib.hid hi; clear hi
    have own0 := World.ownsRow_made (base := w.heap.size) (e := 37) (size := 2) w #[] 0 (Nat.le_refl _) (by unfold maxLen; omega) rfl
    have HO := Lib.hid own0; clear own0
    go_enter Try.func89, Try.ntmps89
    go_wp2_with (at_builtin; refine wpList_append_own _ rfl _ _ 22 rfl w.heap.size 37 i0 (.agg #[.int .i64 0, .int .i64 0]) 2 16 Try.underlying22 HI.out hz0 hz1 hz2 rfl (by decide) _ _ _ rfl HO.out ⟨b, off, none⟩ l.length c (flat l) rfl (flat_length l) (rd_cells HC.out) (fun u hu => flat_one hu) (by unfold maxLen; omega) (by omega) (by simp) ?_; intro v' w1 hown hgrow _)
    go_wp2
    go_ret
    refine ⟨_, rfl, ?_, below_grown (w1 := w.alloc (.cells #[] 37)) (by (repeat (first | exact Below.refl _ _ | assumption | refine Below.alloc ?_ (by first | exact Nat.le_refl _ | exact Below.size (by assumption) | omega | (simp <;> omega)) _ | refine Below.setCell ?_ (by first | exact Nat.le_refl _ | exact Below.size (by assumption) | omega | (simp <;> omega)) _ | refine below_drewN ?_ _ | refine Below.drew ?_))) hgrow (fun k hk => by cases hk; exact Nat.le_refl _) (by simp)⟩
    simpa [OwnL] using hown
end Go.Proofs.Ytimehkeaeffcaaa

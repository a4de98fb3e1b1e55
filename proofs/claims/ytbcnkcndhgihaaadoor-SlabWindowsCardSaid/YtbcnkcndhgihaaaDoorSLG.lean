/- Blocks: the law's Large: the walk. -/
import Derived.Test.YtbcnkcndhgihaaaDoorSC7
namespace Go.Proofs.YtbcnkcndhgihaaaDoor
open Go.RowKit
set_option linter.unusedSimpArgs false

def largeB (b : BT) (n : Int) : Bool := match formS b with
  | .error _ => false
  | .ok s => decide (n < s.ext.x * s.ext.y * s.ext.z)
set_option maxRecDepth 100000 in
set_option maxHeartbeats 1000000 in
theorem Large_any (b : BT) (n : Int) (w : World) (hb : OkB w w.heap.size b) : Calls Tryd.prog 19 #[valB b, .int .i64 n] w (Ret (.bool (largeB b n)) w) := by
  have HE := Lib.hid (refExtent_any b _ (hb.now (w' := w.alloc (.cells #[.int .i64 b.op, .int .i64 b.ax, .int .u8 b.co, .int .i64 b.n0, .int .i64 b.n1, .int .i64 b.n2, .slice b.A b.ps.length b.cp] 25)) (by (repeat (first | exact Below.refl _ _ | assumption | refine Below.alloc ?_ (by first | exact Nat.le_refl _ | exact Below.size (by assumption) | omega | (simp <;> omega)) _ | refine Below.setCell ?_ (by first | exact Nat.le_refl _ | exact Below.size (by assumption) | omega | (simp <;> omega)) _ | refine below_drewN ?_ _ | refine Below.drew ?_)))))
  clear hb
  cases hf : formS b with
  | error er =>
    have hx := form_err hf
    have hE : extB b = (⟨0, 0, 0⟩, er) := by unfold extB; rw [hf]
    have HS : Hid (largeB b n = false) := by show _ = _; unfold largeB; rw [hf]
    rw [hE] at HE
    dsimp only at HE
    have hne : (er == 0) = false := by rw [beq_eq_false_iff_ne]; omega
    clear hE hf hx
    go_enter Tryd.func19, Tryd.ntmps19
    go_wp2_with fail
    refine HE.out.mono ?_
    rintro e w2 ⟨rfl, hb2⟩
    have hB2 : Below w.heap.size w w2 := below_next (by (repeat (first | exact Below.refl _ _ | assumption | refine Below.alloc ?_ (by first | exact Nat.le_refl _ | exact Below.size (by assumption) | omega | (simp <;> omega)) _ | refine Below.setCell ?_ (by first | exact Nat.le_refl _ | exact Below.size (by assumption) | omega | (simp <;> omega)) _ | refine below_drewN ?_ _ | refine Below.drew ?_))) hb2
    go_wp2
    go_ret
    exact Ret.mk (by rw [HS.out]; rfl) (by (repeat (first | exact Below.refl _ _ | assumption | refine Below.alloc ?_ (by first | exact Nat.le_refl _ | exact Below.size (by assumption) | omega | (simp <;> omega)) _ | refine Below.setCell ?_ (by first | exact Nat.le_refl _ | exact Below.size (by assumption) | omega | (simp <;> omega)) _ | refine below_drewN ?_ _ | refine Below.drew ?_)))
  | ok S =>
    have hE : extB b = (S.ext, 0) := by unfold extB; rw [hf]
    have hS : largeB b n = decide (n < S.ext.x * S.ext.y * S.ext.z) := by unfold largeB; rw [hf]
    have hbd := (form_ok hf).ext
    rw [hE] at HE
    dsimp only at HE
    obtain ⟨t, ht⟩ : ∃ t, S.ext = t := ⟨_, rfl⟩
    obtain ⟨t1, t2, t3⟩ := t
    rw [ht] at HE hS hbd
    unfold ExtOk at hbd
    dsimp only at hbd hS
    have HS := Lib.hid hS
    have h1 : 0 ≤ t1 * t2 ∧ t1 * t2 ≤ 200 * 200 := ⟨Int.mul_nonneg (by omega) (by omega), Int.mul_le_mul (by omega) (by omega) (by omega) (by omega)⟩
    have h2 : 0 ≤ t1 * t2 * t3 ∧ t1 * t2 * t3 ≤ 200 * 200 * 200 := ⟨Int.mul_nonneg (by omega) (by omega), Int.mul_le_mul (by omega) (by omega) (by omega) (by omega)⟩
    clear hE hf ht hS
    go_enter Tryd.func19, Tryd.ntmps19
    go_wp2_with fail
    refine HE.out.mono ?_
    rintro e w2 ⟨rfl, hb2⟩
    have hB2 : Below w.heap.size w w2 := below_next (by (repeat (first | exact Below.refl _ _ | assumption | refine Below.alloc ?_ (by first | exact Nat.le_refl _ | exact Below.size (by assumption) | omega | (simp <;> omega)) _ | refine Below.setCell ?_ (by first | exact Nat.le_refl _ | exact Below.size (by assumption) | omega | (simp <;> omega)) _ | refine below_drewN ?_ _ | refine Below.drew ?_))) hb2
    go_wp2
    go_ret
    exact Ret.mk (by rw [HS.out]; rfl) (by (repeat (first | exact Below.refl _ _ | assumption | refine Below.alloc ?_ (by first | exact Nat.le_refl _ | exact Below.size (by assumption) | omega | (simp <;> omega)) _ | refine Below.setCell ?_ (by first | exact Nat.le_refl _ | exact Below.size (by assumption) | omega | (simp <;> omega)) _ | refine below_drewN ?_ _ | refine Below.drew ?_)))
end Go.Proofs.YtbcnkcndhgihaaaDoor

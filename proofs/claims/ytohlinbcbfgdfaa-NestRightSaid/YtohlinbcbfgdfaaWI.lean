/- Which places name a part and are in range, in the reference: the walk. Check, in the program: the walk. Check, in the reference: the walk. -/
import Derived.Test.YtohlinbcbfgdfaaWH
import Derived.Deep.RegionHeld3
namespace Go.Proofs.Ytohlinbcbfgdfaa
open Go.RowKit

theorem far0_any (w : World) : Calls Try.prog 130 #[] w (Ret (.int .i64 120000) w) := by
  go_enter Try.func130, Try.ntmps130
  go_wp2
  go_ret
  exact Ret.mk rfl (Below.refl _ _)

set_option maxRecDepth 100000 in
set_option maxHeartbeats 2000000 in
theorem lies_any (A : Option Addr) (c : Nat) (n : Nat) (p : PL) (w : World) :
    Calls Try.prog 119 #[.slice A n c, valL p] w (Ret (.bool (placedB n p)) w) := by
  have hmx : Try.prog.follows .mixedOrders = true := by kernel_rfl
  obtain ⟨w0, hw0⟩ : ∃ w0, w.alloc (.cells #[.int .i64 p.part, .int .i64 p.X, .int .i64 p.Y, .bool p.t] 52) = w0 := ⟨_, rfl⟩
  have hB0 : Below w.heap.size w w0 := by rw [← hw0]; (repeat (first | exact Below.refl _ _ | assumption | refine Below.alloc ?_ (by first | exact Nat.le_refl _ | exact Below.size (by assumption) | omega | (simp <;> omega)) _ | refine Below.setCell ?_ (by first | exact Nat.le_refl _ | exact Below.size (by assumption) | omega | (simp <;> omega)) _ | refine below_drewN ?_ _ | refine Below.drew ?_))
  have hz0 : w0.heap.size = w.heap.size + 1 := by rw [← hw0]; simp
  have HPA := Lib.hid (show PlAt w0 w.heap.size p by rw [← hw0]; exact PlAt.new w p)
  have HC : Hid (∀ w', Below w0.heap.size w0 w' → w'.cell? ⟨w.heap.size, 0, none⟩ = some (.int .i64 p.part) ∧ w'.cell? ⟨w.heap.size, 1, none⟩ = some (.int .i64 p.X) ∧ w'.cell? ⟨w.heap.size, 2, none⟩ = some (.int .i64 p.Y)) := fun w' hC => by
    obtain ⟨a0, a1, a2, a3⟩ := HPA.out.below hC (by omega)
    exact ⟨a0, a1, a2⟩
  have hN : IntKind.i64.wrap (-120000) = -120000 := by decide
  obtain ⟨q0, q1, q2, q3⟩ := HPA.out
  by_cases h0 : ¬ 0 ≤ p.part
  · have HS : Hid (placedB n p = false) := by simp only [Hid, placedB, betw, Bool.and_eq_false_iff, decide_eq_false_iff_not]; omega
    have d0 : decide (0 ≤ p.part) = false := decide_eq_false h0
    go_enter Try.func119, Try.ntmps119
    go_wp2
    refine region_class (fun w' => Below w0.heap.size w0 w') hmx (by kernel_rfl) (by (repeat (first | exact Below.refl _ _ | assumption | refine Below.alloc ?_ (by first | exact Nat.le_refl _ | exact Below.size (by assumption) | omega | (simp <;> omega)) _ | refine Below.setCell ?_ (by first | exact Nat.le_refl _ | exact Below.size (by assumption) | omega | (simp <;> omega)) _ | refine below_drewN ?_ _ | refine Below.drew ?_))) ?_
    repeat (first | (refine quiet_read rfl (fun w' hC => by obtain ⟨f0, f1, f2⟩ := HC.out w' hC; clear hC; go_simp; rfl) ?_; simp only [Act.put, List.setIfInBounds_toArray, List.set_cons_succ, List.set_cons_zero]) | (refine quiet_pass rfl ?_; simp only [Act.put, List.setIfInBounds_toArray, List.set_cons_succ, List.set_cons_zero]))
    refine wpQuiet_nil ?_
    intro w9 hb9
    go_wp2
    go_ret
    exact Ret.mk (by rw [HS.out]; rfl) (hB0.trans (hb9.mono hB0.size))
  have g0 : 0 ≤ p.part := by omega
  clear h0
  by_cases h1 : ¬ p.part < (n : Int)
  · have HS : Hid (placedB n p = false) := by simp only [Hid, placedB, betw, Bool.and_eq_false_iff, decide_eq_false_iff_not]; omega
    have d1 : decide (p.part < (n : Int)) = false := decide_eq_false h1
    go_enter Try.func119, Try.ntmps119
    go_wp2
    refine region_class (fun w' => Below w0.heap.size w0 w') hmx (by kernel_rfl) (by (repeat (first | exact Below.refl _ _ | assumption | refine Below.alloc ?_ (by first | exact Nat.le_refl _ | exact Below.size (by assumption) | omega | (simp <;> omega)) _ | refine Below.setCell ?_ (by first | exact Nat.le_refl _ | exact Below.size (by assumption) | omega | (simp <;> omega)) _ | refine below_drewN ?_ _ | refine Below.drew ?_))) ?_
    repeat (first | (refine quiet_read rfl (fun w' hC => by obtain ⟨f0, f1, f2⟩ := HC.out w' hC; clear hC; go_simp; rfl) ?_; simp only [Act.put, List.setIfInBounds_toArray, List.set_cons_succ, List.set_cons_zero]) | (refine quiet_pass rfl ?_; simp only [Act.put, List.setIfInBounds_toArray, List.set_cons_succ, List.set_cons_zero]))
    refine wpQuiet_nil ?_
    intro w9 hb9
    go_wp2
    go_ret
    exact Ret.mk (by rw [HS.out]; rfl) (hB0.trans (hb9.mono hB0.size))
  have g1 : p.part < (n : Int) := by omega
  clear h1
  by_cases h2 : ¬ -120000 ≤ p.X
  · have HS : Hid (placedB n p = false) := by simp only [Hid, placedB, betw, Bool.and_eq_false_iff, decide_eq_false_iff_not]; omega
    have d2 : decide (-120000 ≤ p.X) = false := decide_eq_false h2
    go_enter Try.func119, Try.ntmps119
    go_wp2
    refine region_class (fun w' => Below w0.heap.size w0 w') hmx (by kernel_rfl) (by (repeat (first | exact Below.refl _ _ | assumption | refine Below.alloc ?_ (by first | exact Nat.le_refl _ | exact Below.size (by assumption) | omega | (simp <;> omega)) _ | refine Below.setCell ?_ (by first | exact Nat.le_refl _ | exact Below.size (by assumption) | omega | (simp <;> omega)) _ | refine below_drewN ?_ _ | refine Below.drew ?_))) ?_
    repeat (first | (refine quiet_read rfl (fun w' hC => by obtain ⟨f0, f1, f2⟩ := HC.out w' hC; clear hC; go_simp; rfl) ?_; simp only [Act.put, List.setIfInBounds_toArray, List.set_cons_succ, List.set_cons_zero]) | (refine quiet_pass rfl ?_; simp only [Act.put, List.setIfInBounds_toArray, List.set_cons_succ, List.set_cons_zero]))
    (refine quiet_call rfl (fun w' hC => by (go_simp; try rfl)) (fun w' hC => (far0_any w').mono (fun e w2 hr => ⟨hr.1, hC.trans (hr.2.mono hC.size)⟩)) ?_; simp only [Act.put, List.setIfInBounds_toArray, List.set_cons_succ, List.set_cons_zero])
    repeat (first | (refine quiet_read rfl (fun w' hC => by obtain ⟨f0, f1, f2⟩ := HC.out w' hC; clear hC; go_simp; rfl) ?_; simp only [Act.put, List.setIfInBounds_toArray, List.set_cons_succ, List.set_cons_zero]) | (refine quiet_pass rfl ?_; simp only [Act.put, List.setIfInBounds_toArray, List.set_cons_succ, List.set_cons_zero]))
    refine wpQuiet_nil ?_
    intro w9 hb9
    go_wp2
    go_ret
    exact Ret.mk (by rw [HS.out]; rfl) (hB0.trans (hb9.mono hB0.size))
  have g2 : -120000 ≤ p.X := by omega
  clear h2
  by_cases h3 : ¬ p.X ≤ 120000
  · have HS : Hid (placedB n p = false) := by simp only [Hid, placedB, betw, Bool.and_eq_false_iff, decide_eq_false_iff_not]; omega
    have d3 : decide (p.X ≤ 120000) = false := decide_eq_false h3
    go_enter Try.func119, Try.ntmps119
    go_wp2
    refine region_class (fun w' => Below w0.heap.size w0 w') hmx (by kernel_rfl) (by (repeat (first | exact Below.refl _ _ | assumption | refine Below.alloc ?_ (by first | exact Nat.le_refl _ | exact Below.size (by assumption) | omega | (simp <;> omega)) _ | refine Below.setCell ?_ (by first | exact Nat.le_refl _ | exact Below.size (by assumption) | omega | (simp <;> omega)) _ | refine below_drewN ?_ _ | refine Below.drew ?_))) ?_
    repeat (first | (refine quiet_read rfl (fun w' hC => by obtain ⟨f0, f1, f2⟩ := HC.out w' hC; clear hC; go_simp; rfl) ?_; simp only [Act.put, List.setIfInBounds_toArray, List.set_cons_succ, List.set_cons_zero]) | (refine quiet_pass rfl ?_; simp only [Act.put, List.setIfInBounds_toArray, List.set_cons_succ, List.set_cons_zero]))
    (refine quiet_call rfl (fun w' hC => by (go_simp; try rfl)) (fun w' hC => (far0_any w').mono (fun e w2 hr => ⟨hr.1, hC.trans (hr.2.mono hC.size)⟩)) ?_; simp only [Act.put, List.setIfInBounds_toArray, List.set_cons_succ, List.set_cons_zero])
    repeat (first | (refine quiet_read rfl (fun w' hC => by obtain ⟨f0, f1, f2⟩ := HC.out w' hC; clear hC; go_simp; rfl) ?_; simp only [Act.put, List.setIfInBounds_toArray, List.set_cons_succ, List.set_cons_zero]) | (refine quiet_pass rfl ?_; simp only [Act.put, List.setIfInBounds_toArray, List.set_cons_succ, List.set_cons_zero]))
    (refine quiet_call rfl (fun w' hC => by (go_simp; try rfl)) (fun w' hC => (far0_any w').mono (fun e w2 hr => ⟨hr.1, hC.trans (hr.2.mono hC.size)⟩)) ?_; simp only [Act.put, List.setIfInBounds_toArray, List.set_cons_succ, List.set_cons_zero])
    repeat (first | (refine quiet_read rfl (fun w' hC => by obtain ⟨f0, f1, f2⟩ := HC.out w' hC; clear hC; go_simp; rfl) ?_; simp only [Act.put, List.setIfInBounds_toArray, List.set_cons_succ, List.set_cons_zero]) | (refine quiet_pass rfl ?_; simp only [Act.put, List.setIfInBounds_toArray, List.set_cons_succ, List.set_cons_zero]))
    refine wpQuiet_nil ?_
    intro w9 hb9
    go_wp2
    go_ret
    exact Ret.mk (by rw [HS.out]; rfl) (hB0.trans (hb9.mono hB0.size))
  have g3 : p.X ≤ 120000 := by omega
  clear h3
  by_cases h4 : ¬ -120000 ≤ p.Y
  · have HS : Hid (placedB n p = false) := by simp only [Hid, placedB, betw, Bool.and_eq_false_iff, decide_eq_false_iff_not]; omega
    have d4 : decide (-120000 ≤ p.Y) = false := decide_eq_false h4
    go_enter Try.func119, Try.ntmps119
    go_wp2
    refine region_class (fun w' => Below w0.heap.size w0 w') hmx (by kernel_rfl) (by (repeat (first | exact Below.refl _ _ | assumption | refine Below.alloc ?_ (by first | exact Nat.le_refl _ | exact Below.size (by assumption) | omega | (simp <;> omega)) _ | refine Below.setCell ?_ (by first | exact Nat.le_refl _ | exact Below.size (by assumption) | omega | (simp <;> omega)) _ | refine below_drewN ?_ _ | refine Below.drew ?_))) ?_
    repeat (first | (refine quiet_read rfl (fun w' hC => by obtain ⟨f0, f1, f2⟩ := HC.out w' hC; clear hC; go_simp; rfl) ?_; simp only [Act.put, List.setIfInBounds_toArray, List.set_cons_succ, List.set_cons_zero]) | (refine quiet_pass rfl ?_; simp only [Act.put, List.setIfInBounds_toArray, List.set_cons_succ, List.set_cons_zero]))
    (refine quiet_call rfl (fun w' hC => by (go_simp; try rfl)) (fun w' hC => (far0_any w').mono (fun e w2 hr => ⟨hr.1, hC.trans (hr.2.mono hC.size)⟩)) ?_; simp only [Act.put, List.setIfInBounds_toArray, List.set_cons_succ, List.set_cons_zero])
    repeat (first | (refine quiet_read rfl (fun w' hC => by obtain ⟨f0, f1, f2⟩ := HC.out w' hC; clear hC; go_simp; rfl) ?_; simp only [Act.put, List.setIfInBounds_toArray, List.set_cons_succ, List.set_cons_zero]) | (refine quiet_pass rfl ?_; simp only [Act.put, List.setIfInBounds_toArray, List.set_cons_succ, List.set_cons_zero]))
    (refine quiet_call rfl (fun w' hC => by (go_simp; try rfl)) (fun w' hC => (far0_any w').mono (fun e w2 hr => ⟨hr.1, hC.trans (hr.2.mono hC.size)⟩)) ?_; simp only [Act.put, List.setIfInBounds_toArray, List.set_cons_succ, List.set_cons_zero])
    repeat (first | (refine quiet_read rfl (fun w' hC => by obtain ⟨f0, f1, f2⟩ := HC.out w' hC; clear hC; go_simp; rfl) ?_; simp only [Act.put, List.setIfInBounds_toArray, List.set_cons_succ, List.set_cons_zero]) | (refine quiet_pass rfl ?_; simp only [Act.put, List.setIfInBounds_toArray, List.set_cons_succ, List.set_cons_zero]))
    (refine quiet_call rfl (fun w' hC => by (go_simp; try rfl)) (fun w' hC => (far0_any w').mono (fun e w2 hr => ⟨hr.1, hC.trans (hr.2.mono hC.size)⟩)) ?_; simp only [Act.put, List.setIfInBounds_toArray, List.set_cons_succ, List.set_cons_zero])
    repeat (first | (refine quiet_read rfl (fun w' hC => by obtain ⟨f0, f1, f2⟩ := HC.out w' hC; clear hC; go_simp; rfl) ?_; simp only [Act.put, List.setIfInBounds_toArray, List.set_cons_succ, List.set_cons_zero]) | (refine quiet_pass rfl ?_; simp only [Act.put, List.setIfInBounds_toArray, List.set_cons_succ, List.set_cons_zero]))
    refine wpQuiet_nil ?_
    intro w9 hb9
    go_wp2
    go_ret
    exact Ret.mk (by rw [HS.out]; rfl) (hB0.trans (hb9.mono hB0.size))
  have g4 : -120000 ≤ p.Y := by omega
  clear h4
  by_cases h5 : ¬ p.Y ≤ 120000
  · have HS : Hid (placedB n p = false) := by simp only [Hid, placedB, betw, Bool.and_eq_false_iff, decide_eq_false_iff_not]; omega
    have d5 : decide (p.Y ≤ 120000) = false := decide_eq_false h5
    go_enter Try.func119, Try.ntmps119
    go_wp2
    refine region_class (fun w' => Below w0.heap.size w0 w') hmx (by kernel_rfl) (by (repeat (first | exact Below.refl _ _ | assumption | refine Below.alloc ?_ (by first | exact Nat.le_refl _ | exact Below.size (by assumption) | omega | (simp <;> omega)) _ | refine Below.setCell ?_ (by first | exact Nat.le_refl _ | exact Below.size (by assumption) | omega | (simp <;> omega)) _ | refine below_drewN ?_ _ | refine Below.drew ?_))) ?_
    repeat (first | (refine quiet_read rfl (fun w' hC => by obtain ⟨f0, f1, f2⟩ := HC.out w' hC; clear hC; go_simp; rfl) ?_; simp only [Act.put, List.setIfInBounds_toArray, List.set_cons_succ, List.set_cons_zero]) | (refine quiet_pass rfl ?_; simp only [Act.put, List.setIfInBounds_toArray, List.set_cons_succ, List.set_cons_zero]))
    (refine quiet_call rfl (fun w' hC => by (go_simp; try rfl)) (fun w' hC => (far0_any w').mono (fun e w2 hr => ⟨hr.1, hC.trans (hr.2.mono hC.size)⟩)) ?_; simp only [Act.put, List.setIfInBounds_toArray, List.set_cons_succ, List.set_cons_zero])
    repeat (first | (refine quiet_read rfl (fun w' hC => by obtain ⟨f0, f1, f2⟩ := HC.out w' hC; clear hC; go_simp; rfl) ?_; simp only [Act.put, List.setIfInBounds_toArray, List.set_cons_succ, List.set_cons_zero]) | (refine quiet_pass rfl ?_; simp only [Act.put, List.setIfInBounds_toArray, List.set_cons_succ, List.set_cons_zero]))
    (refine quiet_call rfl (fun w' hC => by (go_simp; try rfl)) (fun w' hC => (far0_any w').mono (fun e w2 hr => ⟨hr.1, hC.trans (hr.2.mono hC.size)⟩)) ?_; simp only [Act.put, List.setIfInBounds_toArray, List.set_cons_succ, List.set_cons_zero])
    repeat (first | (refine quiet_read rfl (fun w' hC => by obtain ⟨f0, f1, f2⟩ := HC.out w' hC; clear hC; go_simp; rfl) ?_; simp only [Act.put, List.setIfInBounds_toArray, List.set_cons_succ, List.set_cons_zero]) | (refine quiet_pass rfl ?_; simp only [Act.put, List.setIfInBounds_toArray, List.set_cons_succ, List.set_cons_zero]))
    (refine quiet_call rfl (fun w' hC => by (go_simp; try rfl)) (fun w' hC => (far0_any w').mono (fun e w2 hr => ⟨hr.1, hC.trans (hr.2.mono hC.size)⟩)) ?_; simp only [Act.put, List.setIfInBounds_toArray, List.set_cons_succ, List.set_cons_zero])
    repeat (first | (refine quiet_read rfl (fun w' hC => by obtain ⟨f0, f1, f2⟩ := HC.out w' hC; clear hC; go_simp; rfl) ?_; simp only [Act.put, List.setIfInBounds_toArray, List.set_cons_succ, List.set_cons_zero]) | (refine quiet_pass rfl ?_; simp only [Act.put, List.setIfInBounds_toArray, List.set_cons_succ, List.set_cons_zero]))
    (refine quiet_call rfl (fun w' hC => by (go_simp; try rfl)) (fun w' hC => (far0_any w').mono (fun e w2 hr => ⟨hr.1, hC.trans (hr.2.mono hC.size)⟩)) ?_; simp only [Act.put, List.setIfInBounds_toArray, List.set_cons_succ, List.set_cons_zero])
    repeat (first | (refine quiet_read rfl (fun w' hC => by obtain ⟨f0, f1, f2⟩ := HC.out w' hC; clear hC; go_simp; rfl) ?_; simp only [Act.put, List.setIfInBounds_toArray, List.set_cons_succ, List.set_cons_zero]) | (refine quiet_pass rfl ?_; simp only [Act.put, List.setIfInBounds_toArray, List.set_cons_succ, List.set_cons_zero]))
    refine wpQuiet_nil ?_
    intro w9 hb9
    go_wp2
    go_ret
    exact Ret.mk (by rw [HS.out]; rfl) (hB0.trans (hb9.mono hB0.size))
  have g5 : p.Y ≤ 120000 := by omega
  clear h5
  have HS : Hid (placedB n p = true) := by simp only [Hid, placedB, betw, Bool.and_eq_true, decide_eq_true_eq]; omega
  go_enter Try.func119, Try.ntmps119
  go_wp2
  refine region_class (fun w' => Below w0.heap.size w0 w') hmx (by kernel_rfl) (by (repeat (first | exact Below.refl _ _ | assumption | refine Below.alloc ?_ (by first | exact Nat.le_refl _ | exact Below.size (by assumption) | omega | (simp <;> omega)) _ | refine Below.setCell ?_ (by first | exact Nat.le_refl _ | exact Below.size (by assumption) | omega | (simp <;> omega)) _ | refine below_drewN ?_ _ | refine Below.drew ?_))) ?_
  repeat (first | (refine quiet_read rfl (fun w' hC => by obtain ⟨f0, f1, f2⟩ := HC.out w' hC; clear hC; go_simp; rfl) ?_; simp only [Act.put, List.setIfInBounds_toArray, List.set_cons_succ, List.set_cons_zero]) | (refine quiet_pass rfl ?_; simp only [Act.put, List.setIfInBounds_toArray, List.set_cons_succ, List.set_cons_zero]))
  (refine quiet_call rfl (fun w' hC => by (go_simp; try rfl)) (fun w' hC => (far0_any w').mono (fun e w2 hr => ⟨hr.1, hC.trans (hr.2.mono hC.size)⟩)) ?_; simp only [Act.put, List.setIfInBounds_toArray, List.set_cons_succ, List.set_cons_zero])
  repeat (first | (refine quiet_read rfl (fun w' hC => by obtain ⟨f0, f1, f2⟩ := HC.out w' hC; clear hC; go_simp; rfl) ?_; simp only [Act.put, List.setIfInBounds_toArray, List.set_cons_succ, List.set_cons_zero]) | (refine quiet_pass rfl ?_; simp only [Act.put, List.setIfInBounds_toArray, List.set_cons_succ, List.set_cons_zero]))
  (refine quiet_call rfl (fun w' hC => by (go_simp; try rfl)) (fun w' hC => (far0_any w').mono (fun e w2 hr => ⟨hr.1, hC.trans (hr.2.mono hC.size)⟩)) ?_; simp only [Act.put, List.setIfInBounds_toArray, List.set_cons_succ, List.set_cons_zero])
  repeat (first | (refine quiet_read rfl (fun w' hC => by obtain ⟨f0, f1, f2⟩ := HC.out w' hC; clear hC; go_simp; rfl) ?_; simp only [Act.put, List.setIfInBounds_toArray, List.set_cons_succ, List.set_cons_zero]) | (refine quiet_pass rfl ?_; simp only [Act.put, List.setIfInBounds_toArray, List.set_cons_succ, List.set_cons_zero]))
  (refine quiet_call rfl (fun w' hC => by (go_simp; try rfl)) (fun w' hC => (far0_any w').mono (fun e w2 hr => ⟨hr.1, hC.trans (hr.2.mono hC.size)⟩)) ?_; simp only [Act.put, List.setIfInBounds_toArray, List.set_cons_succ, List.set_cons_zero])
  repeat (first | (refine quiet_read rfl (fun w' hC => by obtain ⟨f0, f1, f2⟩ := HC.out w' hC; clear hC; go_simp; rfl) ?_; simp only [Act.put, List.setIfInBounds_toArray, List.set_cons_succ, List.set_cons_zero]) | (refine quiet_pass rfl ?_; simp only [Act.put, List.setIfInBounds_toArray, List.set_cons_succ, List.set_cons_zero]))
  (refine quiet_call rfl (fun w' hC => by (go_simp; try rfl)) (fun w' hC => (far0_any w').mono (fun e w2 hr => ⟨hr.1, hC.trans (hr.2.mono hC.size)⟩)) ?_; simp only [Act.put, List.setIfInBounds_toArray, List.set_cons_succ, List.set_cons_zero])
  repeat (first | (refine quiet_read rfl (fun w' hC => by obtain ⟨f0, f1, f2⟩ := HC.out w' hC; clear hC; go_simp; rfl) ?_; simp only [Act.put, List.setIfInBounds_toArray, List.set_cons_succ, List.set_cons_zero]) | (refine quiet_pass rfl ?_; simp only [Act.put, List.setIfInBounds_toArray, List.set_cons_succ, List.set_cons_zero]))
  refine wpQuiet_nil ?_
  intro w9 hb9
  go_wp2
  go_ret
  exact Ret.mk (by rw [HS.out]; rfl) (hB0.trans (hb9.mono hB0.size))

set_option maxRecDepth 100000 in
set_option maxHeartbeats 1000000 in
theorem right2_any (A : Option Addr) (c : Nat) (ps : List PT) (p : PL) (w : World) (hp : RdPP w w.heap.size A ps) :
    Calls Try.prog 96 #[.slice A ps.length c, valL p] w (Ret (.bool (rightB ps p)) w) := by
  have HP := Lib.hid hp; clear hp
  obtain ⟨w0, hw0⟩ : ∃ w0, w.alloc (.cells #[.int .i64 p.part, .int .i64 p.X, .int .i64 p.Y, .bool p.t] 52) = w0 := ⟨_, rfl⟩
  have hB0 : Below w.heap.size w w0 := by rw [← hw0]; (repeat (first | exact Below.refl _ _ | assumption | refine Below.alloc ?_ (by first | exact Nat.le_refl _ | exact Below.size (by assumption) | omega | (simp <;> omega)) _ | refine Below.setCell ?_ (by first | exact Nat.le_refl _ | exact Below.size (by assumption) | omega | (simp <;> omega)) _ | refine below_drewN ?_ _ | refine Below.drew ?_))
  have hz0 : w0.heap.size = w.heap.size + 1 := by rw [← hw0]; simp
  have HPA := Lib.hid (show PlAt w0 w.heap.size p by rw [← hw0]; exact PlAt.new w p)
  obtain ⟨q0, q1, q2, q3⟩ := HPA.out
  cases h1 : placedB ps.length p
  · have HS : Hid (rightB ps p = false) := by simp [Hid, rightB, h1]
    have H1 := Lib.hid h1; clear h1
    go_enter Try.func96, Try.ntmps96
    go_wp2_with fail
    clear hw0
    refine (lies_any A c ps.length p _).mono ?_
    rintro e w2 ⟨rfl, hb2⟩
    rw [H1.out]
    go_wp2
    go_ret
    exact Ret.mk (by rw [HS.out]; rfl) (hB0.trans (hb2.mono hB0.size))
  · obtain ⟨k, pt, hpk, hk, hat, _⟩ := placed_get h1
    have hkl : k < ps.length := (List.getElem?_eq_some_iff.1 hk).1
    obtain ⟨b, off, hA, hb, d0, d1⟩ := HP.out.flat k pt hk
    subst hA
    have hs : rightB ps p = (!p.t || pt.t) := by unfold rightB; rw [h1, hat]; rfl
    have H1 := Lib.hid h1; clear h1 hat hk
    have HPK := Lib.hid hpk; clear hpk
    have hkI : (k : Int) < (ps.length : Int) := by omega
    have HS := Lib.hid hs; clear hs
    go_enter Try.func96, Try.ntmps96
    go_wp2_with fail
    clear hw0
    refine (lies_any _ c ps.length p _).mono ?_
    rintro e w2 ⟨rfl, hb2⟩
    rw [H1.out]
    have hB2 := hB0.trans (hb2.mono hB0.size)
    have x1 := (hB2.cell (p := ⟨b, off + k * 2 + 1, none⟩) hb).trans d1
    have hbw2 : b < w2.heap.size := by have := hB2.size; omega
    clear q0 q1 q2 q3 d0 d1
    obtain ⟨q0, q1, q2, q3⟩ := HPA.out.below hb2 (by omega)
    rw [HPK.out] at q0
    have hz2 : w.heap.size < w2.heap.size := by have := hb2.size; omega
    cases ht : p.t
    · rw [ht] at q3 HS
      go_wp2
      go_ret
      exact Ret.mk (by rw [HS.out]; rfl) hB2
    · rw [ht] at q3 HS
      go_wp2
      go_ret
      exact Ret.mk (by rw [HS.out]; rfl) hB2
end Go.Proofs.Ytohlinbcbfgdfaa

namespace Go.Proofs.Ytohlinbcbfgdfaa
open Go.RowKit Go.Shelf

/-- List i clashes with one ahead of it. -/
def clash (g : Int) (os : List (List XY)) (i : Nat) : Bool := (os.take i).any (fun c => !apartB ((os[i]?).getD []) c g)
/-- What Check answers once the layout's places are right. -/
def check3S (b : BD) (os : List (List XY)) : Int × Int :=
  if os.any (beyondB b.W b.H) then (idxG (beyondB b.W b.H) os, 71) else
  if os.any (faultyB b.F) then (idxG (faultyB b.F) os, 72) else
  if (List.range os.length).any (clash b.G os) then (idxG (clash b.G os) (List.range os.length), 73) else (0, 0)
def checkS (b : BD) (ps : List PT) (L : List PL) : Int × Int :=
  if !(boardB b && partsB ps) then (0, 70) else if 200 < L.length then (0, 4) else
  if L.any (fun p => !rightB ps p) then (idxG (fun p => !rightB ps p) L, 2) else check3S b (L.map (lyP ps))

theorem idxG_yes {α : Type} {f : α → Bool} {l : List α} (h : l.any f = true) : 0 ≤ idxG f l := by unfold idxG; rw [if_pos h]; omega
theorem idxG_no {α : Type} {f : α → Bool} {l : List α} (h : l.any f = false) : idxG f l = -1 := by unfold idxG; rw [if_neg (by rw [h]; simp)]
theorem idxG_map {α β : Type} (g : α → β) (f : β → Bool) (l : List α) : idxG f (l.map g) = idxG (fun x => f (g x)) l := by
  unfold idxG
  rw [List.any_map]
  rw [List.findIdx_map]
  rfl
theorem any_map' {α β : Type} (g : α → β) (f : β → Bool) (l : List α) : (l.map g).any f = l.any (fun x => f (g x)) := by rw [List.any_map]; rfl
theorem rightB_placed {ps : List PT} {p : PL} (h : rightB ps p = true) : placedB ps.length p = true := by
  simp only [rightB, Bool.and_eq_true] at h; exact h.1
theorem lyP_len {ps : List PT} {p : PL} (hps : partsB ps = true) (h : placedB ps.length p = true) : 3 ≤ (lyP ps p).length ∧ (lyP ps p).length ≤ 64 := by
  obtain ⟨k, pt, hpk, hk, hat, hf⟩ := placed_get h
  have hv := partsB_each hps (List.mem_of_getElem? hk)
  unfold lyP
  rw [hat, ly_len hv]
  exact validB_len' hv
theorem lyP_lay {ps : List PT} {p : PL} (hps : partsB ps = true) (h : placedB ps.length p = true) : Lay (lyP ps p) := by
  obtain ⟨k, pt, hpk, hk, hat, hf⟩ := placed_get h
  have hv := partsB_each hps (List.mem_of_getElem? hk)
  unfold lyP
  rw [hat]
  exact lay_ly hv hf p.t
theorem all_right {ps : List PT} {L : List PL} (h : L.any (fun p => !rightB ps p) = false) : ∀ p ∈ L, rightB ps p = true := fun p hp => by
  rw [List.any_eq_false] at h
  have := h p hp
  simpa using this

set_option maxRecDepth 100000 in
set_option maxHeartbeats 4000000 in
theorem Check_any (b : BD) (A A2 A3 : Option Addr) (c c2 c3 : Nat) (ps : List PT) (L : List PL) (w : World) (hF : RdR w w.heap.size A b.F) (hp : RdPP w w.heap.size A2 ps) (hl : RdL w w.heap.size A3 L) :
    Calls Try.prog 16 #[bdv b A c, .slice A2 ps.length c2, .slice A3 L.length c3] w (Ret (.tuple #[.int .i64 (checkS b ps L).1, .int .i64 (checkS b ps L).2]) w) := by
  have HF := Lib.hid hF; clear hF
  have HP := Lib.hid hp; clear hp
  have HL := Lib.hid hl; clear hl
  obtain ⟨w0, hw0⟩ : ∃ w0, (w.alloc (.cells #[.int .i64 b.W, .int .i64 b.H, .int .i64 b.G, .slice A b.F.length c] 24)).alloc (.cells #[.slice A2 ps.length c2] 25) = w0 := ⟨_, rfl⟩
  have hB0 : Below w.heap.size w w0 := by rw [← hw0]; (repeat (first | exact Below.refl _ _ | assumption | refine Below.alloc ?_ (by first | exact Nat.le_refl _ | exact Below.size (by assumption) | omega | (simp <;> omega)) _ | refine Below.setCell ?_ (by first | exact Nat.le_refl _ | exact Below.size (by assumption) | omega | (simp <;> omega)) _ | refine below_drewN ?_ _ | refine Below.drew ?_))
  have hz0 : w0.heap.size = w.heap.size + 2 := by rw [← hw0]; simp
  have hbd : BdAt w0 w.heap.size b A c := by rw [← hw0]; exact ⟨by simp, by simp, by simp, by simp⟩
  have hbp : w0.cell? ⟨w.heap.size + 1, 0, none⟩ = some (.slice A2 ps.length c2) := by rw [← hw0]; simp
  have HBD := Lib.hid hbd
  have HBP := Lib.hid hbp
  obtain ⟨k0, k1, k2, k3⟩ := hbd
  have hs : checkS b ps L = if !(boardB b && partsB ps) then (0, 70) else if 200 < L.length then (0, 4) else if L.any (fun p => !rightB ps p) then (idxG (fun p => !rightB ps p) L, 2) else check3S b (L.map (lyP ps)) := rfl
  cases hv : boardB b && partsB ps
  · rw [hv] at hs
    have HS := Lib.hid hs; clear hs
    have HV := Lib.hid hv; clear hv
    go_enter Try.func16, Try.ntmps16
    go_wp2_with fail
    clear hw0
    refine (nvalid_any b A A2 c c2 ps _ (HF.out.now hB0) (HP.out.now hB0)).mono ?_
    rintro e w2 ⟨rfl, hb2⟩
    rw [HV.out]
    go_wp2
    go_ret2
    exact Ret.mk (by rw [HS.out]; rfl) (hB0.trans (hb2.mono hB0.size))
  rw [hv] at hs
  have hv' := hv
  simp only [Bool.and_eq_true] at hv'
  obtain ⟨hbv, hpv⟩ := hv'
  have hps := partsB_len hpv
  have hbf := boardB_facts hbv
  have HV := Lib.hid hv; clear hv
  by_cases h200 : 200 < L.length
  · rw [if_neg (by simp), if_pos h200] at hs
    have HS := Lib.hid hs; clear hs
    have h2 : 200 < (L.length : Int) := by omega
    go_enter Try.func16, Try.ntmps16
    go_wp2_with fail
    clear hw0
    refine (nvalid_any b A A2 c c2 ps _ (HF.out.now hB0) (HP.out.now hB0)).mono ?_
    rintro e w2 ⟨rfl, hb2⟩
    rw [HV.out]
    go_wp2
    go_ret2
    exact Ret.mk (by rw [HS.out]; rfl) (hB0.trans (hb2.mono hB0.size))
  rw [if_neg (by simp), if_neg h200] at hs
  have HSA := Lib.hid hs; clear hs
  have h2 : ¬ 200 < (L.length : Int) := by omega
  have HBV := Lib.hid (And.intro hbv hpv); clear hbv hpv
  obtain ⟨b1, b2, b3, b4, b5, b6, b7⟩ := hbf
  go_enter Try.func16, Try.ntmps16
  go_wp2_with fail
  clear hw0
  refine (nvalid_any b A A2 c c2 ps _ (HF.out.now hB0) (HP.out.now hB0)).mono ?_
  rintro e w1 ⟨rfl, hb1⟩
  rw [HV.out]
  have hB1 := hB0.trans (hb1.mono hB0.size)
  have hs1 := hb1.size
  clear k0 k1 k2 k3 hbp
  have hbp1 := (hb1.cell (p := ⟨w.heap.size + 1, 0, none⟩) (by show w.heap.size + 1 < _; omega)).trans HBP.out
  have htl : TellsL 34 #[.pointer (some ⟨w.heap.size + 1, 0, none⟩)] (fun p => !rightB ps p) L w1 :=
    ⟨enters_of Try.func34 (by kernel_rfl) rfl, fun W p _ hW => chk1_any A2 c2 ps (w.heap.size + 1) p W hps ((hW.cell (p := ⟨w.heap.size + 1, 0, none⟩) (by show w.heap.size + 1 < _; omega)).trans hbp1) (by have := hW.size; omega) (HP.out.now (hB1.trans (hW.mono hB1.size)))⟩
  have HCF := Lib.hid (indexFuncL_any 34 #[.pointer (some ⟨w.heap.size + 1, 0, none⟩)] (fun p => !rightB ps p) A3 c3 L w1 htl (by omega) (HL.out.now hB1))
  clear htl
  go_wp2_with fail
  refine HCF.out.mono ?_
  rintro e w2 ⟨rfl, hb2⟩
  have hB2 := hB1.trans (hb2.mono hB1.size)
  have hb02 := hb1.trans (hb2.mono hb1.size)
  clear HCF hbp1
  have hs := HSA.out
  clear HSA
  by_cases hr : L.any (fun p => !rightB ps p) = true
  · rw [if_pos hr] at hs
    have hi0 := idxG_yes hr
    have HS := Lib.hid hs; clear hs hr
    generalize idxG (fun p => !rightB ps p) L = ix at *
    go_wp2
    go_ret2
    exact Ret.mk (by rw [HS.out]; rfl) hB2
  rw [Bool.not_eq_true] at hr
  rw [if_neg (by rw [hr]; simp)] at hs
  have hall := all_right hr
  have hix := idxG_no hr
  rw [hix]
  clear hix hr
  have HAL := Lib.hid hall; clear hall
  have HSA := Lib.hid hs; clear hs
  have hbp2 := (hb02.cell (p := ⟨w.heap.size + 1, 0, none⟩) (by show w.heap.size + 1 < _; omega)).trans HBP.out
  have hs2 := hb02.size
  go_wp2_with fail
  refine (all_any A2 A3 c2 c3 ps L _ (by omega) HBV.out.2 (fun p hp => rightB_placed (HAL.out p hp)) (HP.out.now hB2) (HL.out.now hB2)).mono ?_
  rintro e w3 ⟨A4, c4, sl, rfl, hc4, _, hrs, hrd, hmap, hb3⟩
  have hlen : ∀ s ∈ sl, 3 ≤ s.l.length ∧ s.l.length ≤ 64 := fun s hs => by
    have : s.l ∈ L.map (lyP ps) := by rw [← hmap]; exact List.mem_map.2 ⟨s, hs, rfl⟩
    obtain ⟨p, hp, e⟩ := List.mem_map.1 this
    rw [← e]
    exact lyP_len HBV.out.2 (rightB_placed (HAL.out p hp))
  have hsll : sl.length = L.length := by
    have := congrArg List.length hmap
    simpa using this
  have hsl2 : sl.length ≤ 200 := by omega
  clear hsll
  have hs := HSA.out
  clear HSA
  rw [← hmap] at hs
  unfold check3S at hs
  rw [any_map', any_map', idxG_map, idxG_map] at hs
  have HSA := Lib.hid hs; clear hs
  clear hmap
  have HLEN := Lib.hid hlen; clear hlen
  have HRS := Lib.hid hrs; clear hrs
  have HRD := Lib.hid hrd; clear hrd
  have hB3 := hB2.trans (hb3.mono hB2.size)
  have hb03 := hb02.trans (hb3.mono hb02.size)
  obtain ⟨w4, hw4⟩ : ∃ w4, w3.alloc (.cells #[.slice A4 sl.length c4] 68) = w4 := ⟨_, rfl⟩
  have hb34 : Below w3.heap.size w3 w4 := by rw [← hw4]; (repeat (first | exact Below.refl _ _ | assumption | refine Below.alloc ?_ (by first | exact Nat.le_refl _ | exact Below.size (by assumption) | omega | (simp <;> omega)) _ | refine Below.setCell ?_ (by first | exact Nat.le_refl _ | exact Below.size (by assumption) | omega | (simp <;> omega)) _ | refine below_drewN ?_ _ | refine Below.drew ?_))
  have hz4 : w4.heap.size = w3.heap.size + 1 := by rw [← hw4]; simp
  have ho4 : w4.cell? ⟨w3.heap.size, 0, none⟩ = some (.slice A4 sl.length c4) := by rw [← hw4]; simp
  have HO4 := Lib.hid ho4
  have hB4 := hB3.trans (hb34.mono hB3.size)
  have hb04 := hb03.trans (hb34.mono hb03.size)
  have hs4 := hb04.size
  have HBD4 := Lib.hid (HBD.out.below hb04 (by omega))
  have htl : TellsS 38 #[.pointer (some ⟨w.heap.size, 0, none⟩)] (fun s => beyondB b.W b.H s.l) sl w4 :=
    ⟨enters_of Try.func38 (by kernel_rfl) rfl, fun W s hs hW => chk2_any b A c w.heap.size s W (by have := HLEN.out s hs; omega) (HBD4.out.below hW (by omega)) ((HRD.out s hs).now (hb34.trans (hW.mono hb34.size)))⟩
  have HCF := Lib.hid (indexFuncS_any 38 #[.pointer (some ⟨w.heap.size, 0, none⟩)] (fun s => beyondB b.W b.H s.l) A4 c4 sl w4 htl (by omega) (HRS.out.now hb34))
  clear htl hbp2
  have HW4 := Lib.hid hw4; clear hw4
  go_upto_region 9 with fail
  rw [HW4.out]
  clear HW4
  go_wp2_with fail
  refine HCF.out.mono ?_
  rintro e w5 ⟨rfl, hb5⟩
  have hB5 := hB4.trans (hb5.mono hB4.size)
  have hb35 := hb34.trans (hb5.mono hb34.size)
  clear HCF
  have hs := HSA.out
  clear HSA
  by_cases hr : sl.any (fun s => beyondB b.W b.H s.l) = true
  · rw [if_pos hr] at hs
    have hi0 := idxG_yes hr
    have HS := Lib.hid hs; clear hs hr
    generalize idxG (fun s => beyondB b.W b.H s.l) sl = ix at *
    go_wp2
    go_ret2
    exact Ret.mk (by rw [HS.out]; rfl) hB5
  rw [Bool.not_eq_true] at hr
  rw [if_neg (by rw [hr]; simp)] at hs
  have hix := idxG_no hr
  rw [hix]
  clear hix hr
  have HSA := Lib.hid hs; clear hs
  have hs5 := hb5.size
  have hb05 := hb04.trans (hb5.mono hb04.size)
  have HBD5 := Lib.hid (HBD.out.below hb05 (by omega))
  have HO5 := Lib.hid ((hb5.cell (p := ⟨w3.heap.size, 0, none⟩) (by show w3.heap.size < _; omega)).trans HO4.out)
  have ho5 := HO5.out
  have htl : TellsS 40 #[.pointer (some ⟨w.heap.size, 0, none⟩)] (fun s => faultyB b.F s.l) sl w5 :=
    ⟨enters_of Try.func40 (by kernel_rfl) rfl, fun W s hs hW => chk3_any b A c w.heap.size s W (by have := HLEN.out s hs; omega) (by have := HLEN.out s hs; omega) (by omega) (HBD5.out.below hW (by omega)) (HF.out.now (hB5.trans (hW.mono hB5.size))) ((HRD.out s hs).now (hb35.trans (hW.mono hb35.size)))⟩
  have HCF := Lib.hid (indexFuncS_any 40 #[.pointer (some ⟨w.heap.size, 0, none⟩)] (fun s => faultyB b.F s.l) A4 c4 sl w5 htl (by omega) (HRS.out.now hb35))
  clear htl ho4
  have hz35 : w3.heap.size < w5.heap.size := by omega
  go_wp2_with fail
  refine HCF.out.mono ?_
  rintro e w6 ⟨rfl, hb6⟩
  have hB6 := hB5.trans (hb6.mono hB5.size)
  have hb36 := hb35.trans (hb6.mono hb35.size)
  clear HCF
  have hs := HSA.out
  clear HSA
  by_cases hr : sl.any (fun s => faultyB b.F s.l) = true
  · rw [if_pos hr] at hs
    have hi0 := idxG_yes hr
    have HS := Lib.hid hs; clear hs hr
    generalize idxG (fun s => faultyB b.F s.l) sl = ix at *
    go_wp2
    go_ret2
    exact Ret.mk (by rw [HS.out]; rfl) hB6
  rw [Bool.not_eq_true] at hr
  rw [if_neg (by rw [hr]; simp)] at hs
  have hix := idxG_no hr
  rw [hix]
  clear hix hr
  have hs6 := hb6.size
  have hb06 := hb05.trans (hb6.mono hb05.size)
  have HBD6 := Lib.hid (HBD.out.below hb06 (by omega))
  have HO6 := Lib.hid ((hb6.cell (p := ⟨w3.heap.size, 0, none⟩) (by show w3.heap.size < _; omega)).trans ho5)
  clear ho5
  have ho6 := HO6.out
  have hz36 : w3.heap.size < w6.heap.size := by omega
  have hww6 : w.heap.size < w6.heap.size := by omega
  have hln : (sl.map (·.l)).length = sl.length := List.length_map _
  rw [hln] at hs
  have HLN := Lib.hid hln; clear hln
  have HS0 := Lib.hid hs; clear hs
  go_wp2
  clear ho6
  go_loopw [12, 45] (fun _ iv wr => ∃ k : Nat, k ≤ sl.length ∧ iv = .int .i64 k ∧ (∀ x ∈ (List.range sl.length).take k, clash b.G (sl.map (·.l)) x = false) ∧ Below w6.heap.size w6 wr) (fun _ iv _ => sl.length - (intOf iv).toNat)
  case atStart => exact ⟨0, Nat.zero_le _, rfl, by simp, Below.refl _ _⟩
  case round =>
    obtain ⟨k, hk, rfl, hno, hB⟩ := hrel
    have HN := Lib.hid hno; clear hno
    have hsB := hB.size
    by_cases hlt : k < sl.length
    · obtain ⟨t, ht⟩ := getElem?_of_lt hlt
      have hmt : t ∈ sl := List.mem_of_getElem? ht
      obtain ⟨wa, hwa⟩ : ∃ wa, wr.alloc (.cells #[.int .i64 (k : Int)] 3) = wa := ⟨_, rfl⟩
      have hba : Below wr.heap.size wr wa := by rw [← hwa]; (repeat (first | exact Below.refl _ _ | assumption | refine Below.alloc ?_ (by first | exact Nat.le_refl _ | exact Below.size (by assumption) | omega | (simp <;> omega)) _ | refine Below.setCell ?_ (by first | exact Nat.le_refl _ | exact Below.size (by assumption) | omega | (simp <;> omega)) _ | refine below_drewN ?_ _ | refine Below.drew ?_))
      have hza : wa.heap.size = wr.heap.size + 1 := by rw [← hwa]; simp
      have hia : wa.cell? ⟨wr.heap.size, 0, none⟩ = some (.int .i64 (k : Int)) := by rw [← hwa]; simp
      have hb6a := hB.trans (hba.mono hsB)
      have hoa := (hb6a.cell (p := ⟨w3.heap.size, 0, none⟩) hz36).trans HO6.out
      have HOA := Lib.hid hoa
      have HIA := Lib.hid hia
      have HBDA := Lib.hid (HBD6.out.below hb6a hww6)
      have hB6a := hB6.trans (hb6a.mono hB6.size)
      have hb3a := hb36.trans (hb6a.mono hb36.size)
      have hx0 : k ≤ sl.length := hk
      have htk : (sl.take k).length = k := by simp; omega
      have HCLS : Hid (∀ s ∈ sl, ∀ W : World, Below wa.heap.size wa W → Calls Try.prog 43 (#[valS s] ++ #[.pointer (some ⟨w3.heap.size, 0, none⟩), .pointer (some ⟨wr.heap.size, 0, none⟩), .pointer (some ⟨w.heap.size, 0, none⟩)]) W (Ret (.bool (!apartB t.l s.l b.G)) W)) := fun s hs W hW =>
        chk4_any b A A4 c c4 w3.heap.size wr.heap.size w.heap.size sl k s t W ht (by have := HLEN.out s hs; omega) (by have := HLEN.out s hs; omega) (by have := HLEN.out t hmt; omega) (by have := HLEN.out t hmt; omega)
          ((hW.cell (p := ⟨w3.heap.size, 0, none⟩) (by show w3.heap.size < _; omega)).trans HOA.out) (by have := hW.size; omega) ((hW.cell (p := ⟨wr.heap.size, 0, none⟩) (by show wr.heap.size < _; omega)).trans HIA.out) (by have := hW.size; omega)
          (HBDA.out.below hW (by omega)) (by have := hW.size; omega) (HRS.out.now (hb3a.trans (hW.mono hb3a.size))) ((HRD.out s hs).now (hb3a.trans (hW.mono hb3a.size))) ((HRD.out t hmt).now (hb3a.trans (hW.mono hb3a.size)))
      have hrk : RdS wa wa.heap.size A4 (sl.take k) := fun i p hp => by
        have hik : i < k := by have := (List.getElem?_eq_some_iff.1 hp).1; omega
        exact (HRS.out.now hb3a) i p (by rw [List.getElem?_take, if_pos hik] at hp; exact hp)
      have hcf := containsFuncS_any 43 #[.pointer (some ⟨w3.heap.size, 0, none⟩), .pointer (some ⟨wr.heap.size, 0, none⟩), .pointer (some ⟨w.heap.size, 0, none⟩)] (fun s => !apartB t.l s.l b.G) A4 c4 (sl.take k) wa
        ⟨enters_of Try.func43 (by kernel_rfl) rfl, fun W s hs hW => HCLS.out s (List.mem_of_mem_take hs) W hW⟩ (by omega) hrk
      rw [htk] at hcf
      have HCF := Lib.hid hcf; clear hcf hrk
      have hcl : clash b.G (sl.map (·.l)) k = (sl.take k).any (fun s => !apartB t.l s.l b.G) := by
        unfold clash
        rw [List.getElem?_map, ht, ← List.map_take, any_map']
        rfl
      have HCL := Lib.hid hcl; clear hcl htk hia hoa ht
      have HWA := Lib.hid hwa; clear hwa
      have hrg : (List.range sl.length)[k]? = some k := by rw [List.getElem?_range hlt]
      have HRG := Lib.hid hrg; clear hrg
      go_upto_region 18 with fail
      rw [HWA.out]
      clear HWA
      have hoa := HOA.out
      have hia := HIA.out
      have hwra : wr.heap.size < wa.heap.size := by omega
      have hw3a : w3.heap.size < wa.heap.size := by omega
      have hkI : (k : Int) ≤ (c4 : Int) := by omega
      go_wp2_with fail
      refine HCF.out.mono ?_
      rintro e w8 ⟨rfl, hb8⟩
      have hb68 := hb6a.trans (hb8.mono hb6a.size)
      have hi8 := (hb8.cell (p := ⟨wr.heap.size, 0, none⟩) hwra).trans hia
      have hz8 : wr.heap.size < w8.heap.size := by have := hb8.size; omega
      clear hoa hia
      rw [← HCL.out]
      cases hc : clash b.G (sl.map (·.l)) k
      · have HC := Lib.hid hc; clear hc
        go_wp2
        go_roundw
        case rel => exact ⟨k + 1, by omega, by go_num, noG_take_succ HN.out HRG.out HC.out, hb68⟩
        case measure => simp [intOf]; omega
      · have hany : (List.range sl.length).any (clash b.G (sl.map (·.l))) = true := List.any_eq_true.2 ⟨k, List.mem_range.2 hlt, hc⟩
        have hidx := idxG_hit HN.out HRG.out hc
        have hs := HS0.out
        rw [if_pos hany, hidx] at hs
        have HS := Lib.hid hs; clear hs hany hidx hc HS0
        go_wp2
        go_ret2
        exact Ret.mk (by rw [HS.out]; rfl) (hB6.trans (hb68.mono hB6.size))
    · obtain rfl : k = sl.length := by omega
      have hany : (List.range sl.length).any (clash b.G (sl.map (·.l))) = false := by
        rw [List.any_eq_false]
        intro x hx
        rw [HN.out x (by rw [List.take_of_length_le (by simp)]; exact hx)]
        simp
      have hs := HS0.out
      rw [if_neg (by rw [hany]; simp)] at hs
      have HS := Lib.hid hs; clear hs hany HS0
      go_wp2
      go_ret2
      exact Ret.mk (by rw [HS.out]; rfl) (hB6.trans (hB.mono hB6.size))
end Go.Proofs.Ytohlinbcbfgdfaa

namespace Go.Proofs.Ytohlinbcbfgdfaa
open Go.RowKit Go.Shelf

theorem take_idx {α β : Type} {f : β → Bool} {g : α → β} {L : List α} {k : Nat} {q : α} (hno : ∀ x ∈ L.take k, f (g x) = false) (h : L[k]? = some q) (hq : f (g q) = true) : (L.map g).any f = true ∧ idxG f (L.map g) = k := by
  rw [any_map', idxG_map]
  exact ⟨List.any_eq_true.2 ⟨q, List.mem_of_getElem? h, hq⟩, idxG_hit (f := fun x => f (g x)) hno h hq⟩
theorem take_none {α β : Type} {f : β → Bool} {g : α → β} {L : List α} (hno : ∀ x ∈ L.take L.length, f (g x) = false) : (L.map g).any f = false := by
  rw [any_map', List.any_eq_false]
  intro x hx
  rw [hno x (by rw [List.take_length]; exact hx)]; simp

set_option maxRecDepth 100000 in
set_option maxHeartbeats 8000000 in
theorem check2_any (b : BD) (A A2 A3 : Option Addr) (c c2 c3 : Nat) (ps : List PT) (L : List PL) (w : World) (hc3 : L.length ≤ c3) (hbv : boardB b = true) (hpv : partsB ps = true) (hF : RdR w w.heap.size A b.F) (hp : RdPP w w.heap.size A2 ps) (hl : RdL w w.heap.size A3 L) :
    Calls Try.prog 67 #[bdv b A c, .slice A2 ps.length c2, .slice A3 L.length c3] w (Ret (.tuple #[.int .i64 (checkS b ps L).1, .int .i64 (checkS b ps L).2]) w) := by
  have HF := Lib.hid hF; clear hF
  have HP := Lib.hid hp; clear hp
  have HL := Lib.hid hl; clear hl
  have hmx : Try.prog.follows .mixedOrders = true := by kernel_rfl
  obtain ⟨w0, hw0⟩ : ∃ w0, w.alloc (.cells #[.int .i64 b.W, .int .i64 b.H, .int .i64 b.G, .slice A b.F.length c] 24) = w0 := ⟨_, rfl⟩
  have hB0 : Below w.heap.size w w0 := by rw [← hw0]; (repeat (first | exact Below.refl _ _ | assumption | refine Below.alloc ?_ (by first | exact Nat.le_refl _ | exact Below.size (by assumption) | omega | (simp <;> omega)) _ | refine Below.setCell ?_ (by first | exact Nat.le_refl _ | exact Below.size (by assumption) | omega | (simp <;> omega)) _ | refine below_drewN ?_ _ | refine Below.drew ?_))
  have hz0 : w0.heap.size = w.heap.size + 1 := by rw [← hw0]; simp
  have HBD := Lib.hid (show BdAt w0 w.heap.size b A c by rw [← hw0]; exact BdAt.new w b A c)
  obtain ⟨k0, k1, k2, k3⟩ := HBD.out
  have hs : checkS b ps L = if 200 < L.length then (0, 4) else if L.any (fun p => !rightB ps p) then (idxG (fun p => !rightB ps p) L, 2) else check3S b (L.map (lyP ps)) := by
    unfold checkS; rw [hbv, hpv]; rfl
  obtain ⟨b1, b2, b3, b4, b5, b6, b7⟩ := boardB_facts hbv
  have HBV := Lib.hid (And.intro hbv hpv); clear hbv hpv
  by_cases h200 : 200 < L.length
  · rw [if_pos h200] at hs
    have HS := Lib.hid hs; clear hs
    have h2 : 200 < (L.length : Int) := by omega
    go_enter Try.func67, Try.ntmps67
    go_wp2
    go_ret2
    exact Ret.mk (by rw [HS.out]; rfl) hB0
  rw [if_neg h200] at hs
  have HSA := Lib.hid hs; clear hs
  have h2 : ¬ 200 < (L.length : Int) := by omega
  go_enter Try.func67, Try.ntmps67
  go_wp2
  clear hw0 k0 k1 k2 k3
  go_loopw [8, 9, 23] (fun _ _ i wr => ∃ k : Nat, k ≤ L.length ∧ i = .int .i64 k ∧ (∀ x ∈ L.take k, (!rightB ps x) = false) ∧ Below w0.heap.size w0 wr) (fun _ _ i _ => L.length - (intOf i).toNat)
  case atStart => exact ⟨0, Nat.zero_le _, rfl, by simp, Below.refl _ _⟩
  case round =>
    obtain ⟨k, hk, rfl, hno, hB⟩ := hrel
    have HN := Lib.hid hno; clear hno
    have hBw := hB0.trans (hB.mono hB0.size)
    have hsB := hB.size
    by_cases hlt : k < L.length
    · obtain ⟨q, hq⟩ := getElem?_of_lt hlt
      obtain ⟨bb, off, hA, hbb, d0, d1, d2, d3⟩ := (HL.out.below hBw) k q hq
      subst hA
      have HQ := Lib.hid hq; clear hq
      have hBq : Below w0.heap.size w0 (wr.alloc (.cells #[.int .i64 q.part, .int .i64 q.X, .int .i64 q.Y, .bool q.t] 52)) := by (repeat (first | exact Below.refl _ _ | assumption | refine Below.alloc ?_ (by first | exact Nat.le_refl _ | exact Below.size (by assumption) | omega | (simp <;> omega)) _ | refine Below.setCell ?_ (by first | exact Nat.le_refl _ | exact Below.size (by assumption) | omega | (simp <;> omega)) _ | refine below_drewN ?_ _ | refine Below.drew ?_))
      have HBQ := Lib.hid hBq; clear hBq
      go_wp2_with fail
      refine (right2_any A2 c2 ps q _ (HP.out.now (hB0.trans (HBQ.out.mono hB0.size)))).mono ?_
      rintro e w5 ⟨rfl, hb5⟩
      have hB5 := HBQ.out.trans (hb5.mono HBQ.out.size)
      cases hr : rightB ps q
      · have hs := HSA.out
        rw [if_pos (List.any_eq_true.2 ⟨q, List.mem_of_getElem? HQ.out, by rw [hr]; rfl⟩), idxG_hit HN.out HQ.out (by rw [hr]; rfl)] at hs
        have HS := Lib.hid hs; clear hs
        have HR := Lib.hid hr; clear hr
        go_wp2
        go_ret2
        exact Ret.mk (by rw [HS.out]; rfl) (hB0.trans (hB5.mono hB0.size))
      · have HR := Lib.hid hr; clear hr
        go_wp2
        go_roundw
        case rel => exact ⟨k + 1, by omega, by go_num, noG_take_succ (f := fun x : PL => !rightB ps x) HN.out HQ.out (by rw [HR.out]; rfl), hB5⟩
        case measure => simp [intOf]; omega
    · obtain rfl : k = L.length := by omega
      have hany : L.any (fun p => !rightB ps p) = false := by
        rw [List.any_eq_false]
        intro x hx
        rw [HN.out x (by rw [List.take_length]; exact hx)]; simp
      have HAL := Lib.hid (all_right hany)
      have hs := HSA.out
      rw [if_neg (by rw [hany]; simp)] at hs
      unfold check3S at hs
      have HSB := Lib.hid hs; clear hs HSA HN hany
      have hly : ∀ p ∈ L, ∀ W : World, Below w.heap.size w W → Calls Try.prog 98 #[.slice A2 ps.length c2, valL p] W (RetO (lyP ps p) W) := fun p hpm W hW => by
        obtain ⟨k, pt, hpk, hk, hat, _⟩ := placed_get (rightB_placed (HAL.out p hpm))
        have := lying2_any A2 c2 ps k p.X p.Y p.t pt W hk (partsB_each HBV.out.2 (List.mem_of_getElem? hk)) (HP.out.now hW)
        unfold lyP
        rw [hat, ← hpk] at *
        exact this
      have HLY := Lib.hid hly; clear hly
      have hllen : ∀ p ∈ L, 3 ≤ (lyP ps p).length ∧ (lyP ps p).length ≤ 64 := fun p hpm => lyP_len HBV.out.2 (rightB_placed (HAL.out p hpm))
      have hlay : ∀ p ∈ L, Lay (lyP ps p) := fun p hpm => lyP_lay HBV.out.2 (rightB_placed (HAL.out p hpm))
      have hon : ∀ p ∈ L, ∀ (A9 : Option Addr) (c9 : Nat) (W : World), Rd W W.heap.size A9 (lyP ps p) → Calls Try.prog 97 #[bdv b A c, .slice A9 (lyP ps p).length c9] W (Ret (.bool (!beyondB b.W b.H (lyP ps p))) W) :=
        fun p hpm A9 c9 W h => on_any b A A9 c c9 _ W (by have := hllen p hpm; omega) (hlay p hpm).1 h
      have hcl : ∀ p ∈ L, ∀ (A9 : Option Addr) (c9 : Nat) (W : World), RdR W W.heap.size A b.F → Rd W W.heap.size A9 (lyP ps p) → Calls Try.prog 99 #[bdv b A c, .slice A9 (lyP ps p).length c9] W (Ret (.bool (!faultyB b.F (lyP ps p))) W) :=
        fun p hpm A9 c9 W h1 h => clear_any b A A9 c c9 _ W (by have := hllen p hpm; omega) (by have := hllen p hpm; omega) (by omega) (fun r hr => apart_lay (hlay p hpm) (lay_rc HBV.out.1 hr) (by omega) (by omega)) h1 h
      have hap : ∀ p ∈ L, ∀ q ∈ L, ∀ (A8 A9 : Option Addr) (c8 c9 : Nat) (W : World), Rd W W.heap.size A8 (lyP ps p) → Rd W W.heap.size A9 (lyP ps q) → Calls Try.prog 100 #[.slice A8 (lyP ps p).length c8, .slice A9 (lyP ps q).length c9, .int .i64 b.G] W (Ret (.bool (apartB (lyP ps p) (lyP ps q) b.G)) W) :=
        fun p hpm q hqm A8 A9 c8 c9 W h8 h9 => by
          rw [← apart_lay (hlay p hpm) (hlay q hqm) b5 b6]
          have h1 := hllen p hpm
          have h2 := hllen q hqm
          exact apart2_any b.G A8 A9 c8 c9 _ _ W (by omega) (by omega) (by omega) (by omega) h8 h9
      have HON := Lib.hid hon; clear hon
      have HCLR := Lib.hid hcl; clear hcl
      have HAP := Lib.hid hap; clear hap hllen hlay
      obtain ⟨wx, rfl⟩ : ∃ wx : World, wx = wr := ⟨_, rfl⟩
      have HBX := Lib.hid (HBD.out.below hB (by omega))
      have hzx : w.heap.size < wx.heap.size := by omega
      clear hk hlt
      go_wp2
      clear hB hsB
      -- on the board
      go_loopw [10, 11, 36] (fun _ _ i wr => ∃ k : Nat, k ≤ L.length ∧ i = .int .i64 k ∧ (∀ x ∈ L.take k, beyondB b.W b.H (lyP ps x) = false) ∧ Below wx.heap.size wx wr) (fun _ _ i _ => L.length - (intOf i).toNat)
      case atStart => exact ⟨0, Nat.zero_le _, rfl, by simp, Below.refl _ _⟩
      case round =>
        obtain ⟨k, hk, rfl, hno, hB⟩ := hrel
        have HN := Lib.hid hno; clear hno
        have hsB := hB.size
        by_cases hlt : k < L.length
        · obtain ⟨q, hq⟩ := getElem?_of_lt hlt
          obtain ⟨bb, off, hA, hbb, d0, d1, d2, d3⟩ := (HL.out.below (hBw.trans (hB.mono hBw.size))) k q hq
          subst hA
          have hmem : q ∈ L := List.mem_of_getElem? hq
          have HQ := Lib.hid hq; clear hq
          obtain ⟨wa, hwa⟩ : ∃ wa, wr.alloc (.cells #[.int .i64 q.part, .int .i64 q.X, .int .i64 q.Y, .bool q.t] 52) = wa := ⟨_, rfl⟩
          have hba : Below wx.heap.size wx wa := by rw [← hwa]; (repeat (first | exact Below.refl _ _ | assumption | refine Below.alloc ?_ (by first | exact Nat.le_refl _ | exact Below.size (by assumption) | omega | (simp <;> omega)) _ | refine Below.setCell ?_ (by first | exact Nat.le_refl _ | exact Below.size (by assumption) | omega | (simp <;> omega)) _ | refine below_drewN ?_ _ | refine Below.drew ?_))
          have HPA := Lib.hid (show PlAt wa wr.heap.size q by rw [← hwa]; exact PlAt.new wr q)
          have hza : wa.heap.size = wr.heap.size + 1 := by rw [← hwa]; simp
          have HWA := Lib.hid hwa; clear hwa
          have HBA := Lib.hid (hBw.trans (hba.mono hBw.size))
          have HBDA := Lib.hid (HBX.out.below hba hzx)
          go_upto_region 12 with fail
          rw [HWA.out]
          clear HWA d0 d1 d2 d3
          obtain ⟨k0, k1, k2, k3⟩ := HBDA.out
          obtain ⟨q0, q1, q2, q3⟩ := HPA.out
          have hwa : w.heap.size < wa.heap.size := by omega
          go_cut [46] (fun v wx' => v = .bool (beyondB b.W b.H (lyP ps q)) ∧ Below wa.heap.size wa wx')
          case first =>
            go_region_law (first | (go_simp; go_at_call 98; refine (HLY.out q hmem _ (below_drewN HBA.out 1)).mono ?_; rintro e w10 ⟨v10, rfl, hown10, hb10⟩; have hb10' : Below wa.heap.size wa w10 := below_of_drewN hb10; have hB10 := HBA.out.trans (hb10'.mono HBA.out.size); obtain ⟨m0, m1, m2, m3⟩ := HBDA.out.below hb10' hwa; obtain ⟨A10, c10, rfl, hr10⟩ := own_rd hown10; have HR10 := Lib.hid hr10; clear hr10 hown10 hb10) | (go_simp; go_at_call 97; refine (HON.out q hmem A10 c10 _ HR10.out).mono ?_; rintro e w11 ⟨rfl, hb11⟩))
            all_goals
              go_wp2_with fail
              go_meet
              exact ⟨by simp, hb10'.trans (hb11.mono hb10'.size)⟩
          case rest =>
            obtain ⟨rfl, hbx⟩ := hcut
            have hbc := hba.trans (hbx.mono hba.size)
            cases hr : beyondB b.W b.H (lyP ps q)
            · have HR := Lib.hid hr; clear hr
              go_wp2
              go_roundw
              case rel => exact ⟨k + 1, by omega, by go_num, noG_take_succ (f := fun x : PL => beyondB b.W b.H (lyP ps x)) HN.out HQ.out HR.out, hbc⟩
              case measure => simp [intOf]; omega
            · obtain ⟨t1, t2⟩ := take_idx (f := beyondB b.W b.H) (g := lyP ps) HN.out HQ.out hr
              have hs := HSB.out
              rw [if_pos t1, t2] at hs
              have HS := Lib.hid hs; clear hs hr t1 t2
              go_wp2
              go_ret2
              exact Ret.mk (by rw [HS.out]; rfl) (hBw.trans (hbc.mono hBw.size))
        · obtain rfl : k = L.length := by omega
          have t1 := take_none (f := beyondB b.W b.H) (g := lyP ps) HN.out
          have hs := HSB.out
          rw [if_neg (by rw [t1]; simp)] at hs
          have HSC := Lib.hid hs; clear hs HSB t1 HN
          obtain ⟨wy, rfl⟩ : ∃ wy : World, wy = wr := ⟨_, rfl⟩
          have HBY := Lib.hid (HBX.out.below hB hzx)
          have hzy : w.heap.size < wy.heap.size := by omega
          have hBy := hBw.trans (hB.mono hBw.size)
          clear hk hlt
          go_wp2
          clear hB hsB
          -- clear of faults
          go_loopw [12, 13, 51] (fun _ _ i wr => ∃ k : Nat, k ≤ L.length ∧ i = .int .i64 k ∧ (∀ x ∈ L.take k, faultyB b.F (lyP ps x) = false) ∧ Below wy.heap.size wy wr) (fun _ _ i _ => L.length - (intOf i).toNat)
          case atStart => exact ⟨0, Nat.zero_le _, rfl, by simp, Below.refl _ _⟩
          case round =>
            obtain ⟨k, hk, rfl, hno, hB⟩ := hrel
            have HN := Lib.hid hno; clear hno
            have hsB := hB.size
            by_cases hlt : k < L.length
            · obtain ⟨q, hq⟩ := getElem?_of_lt hlt
              obtain ⟨bb, off, hA, hbb, d0, d1, d2, d3⟩ := (HL.out.below (hBy.trans (hB.mono hBy.size))) k q hq
              subst hA
              have hmem : q ∈ L := List.mem_of_getElem? hq
              have HQ := Lib.hid hq; clear hq
              obtain ⟨wa, hwa⟩ : ∃ wa, wr.alloc (.cells #[.int .i64 q.part, .int .i64 q.X, .int .i64 q.Y, .bool q.t] 52) = wa := ⟨_, rfl⟩
              have hba : Below wy.heap.size wy wa := by rw [← hwa]; (repeat (first | exact Below.refl _ _ | assumption | refine Below.alloc ?_ (by first | exact Nat.le_refl _ | exact Below.size (by assumption) | omega | (simp <;> omega)) _ | refine Below.setCell ?_ (by first | exact Nat.le_refl _ | exact Below.size (by assumption) | omega | (simp <;> omega)) _ | refine below_drewN ?_ _ | refine Below.drew ?_))
              have HPA := Lib.hid (show PlAt wa wr.heap.size q by rw [← hwa]; exact PlAt.new wr q)
              have hza : wa.heap.size = wr.heap.size + 1 := by rw [← hwa]; simp
              have HWA := Lib.hid hwa; clear hwa
              have HBA := Lib.hid (hBy.trans (hba.mono hBy.size))
              have HBDA := Lib.hid (HBY.out.below hba hzy)
              go_upto_region 18 with fail
              rw [HWA.out]
              clear HWA d0 d1 d2 d3
              obtain ⟨k0, k1, k2, k3⟩ := HBDA.out
              obtain ⟨q0, q1, q2, q3⟩ := HPA.out
              have hwa : w.heap.size < wa.heap.size := by omega
              go_cut [61] (fun v wx' => v = .bool (faultyB b.F (lyP ps q)) ∧ Below wa.heap.size wa wx')
              case first =>
                go_region_law (first | (go_simp; go_at_call 98; refine (HLY.out q hmem _ (below_drewN HBA.out 1)).mono ?_; rintro e w10 ⟨v10, rfl, hown10, hb10⟩; have hb10' : Below wa.heap.size wa w10 := below_of_drewN hb10; have hB10 := HBA.out.trans (hb10'.mono HBA.out.size); obtain ⟨m0, m1, m2, m3⟩ := HBDA.out.below hb10' hwa; obtain ⟨A10, c10, rfl, hr10⟩ := own_rd hown10; have HR10 := Lib.hid hr10; clear hr10 hown10 hb10) | (go_simp; go_at_call 99; refine (HCLR.out q hmem A10 c10 _ (HF.out.now hB10) HR10.out).mono ?_; rintro e w11 ⟨rfl, hb11⟩))
                all_goals
                  go_wp2_with fail
                  go_meet
                  exact ⟨by simp, hb10'.trans (hb11.mono hb10'.size)⟩
              case rest =>
                obtain ⟨rfl, hbx⟩ := hcut
                have hbc := hba.trans (hbx.mono hba.size)
                cases hr : faultyB b.F (lyP ps q)
                · have HR := Lib.hid hr; clear hr
                  go_wp2
                  go_roundw
                  case rel => exact ⟨k + 1, by omega, by go_num, noG_take_succ (f := fun x : PL => faultyB b.F (lyP ps x)) HN.out HQ.out HR.out, hbc⟩
                  case measure => simp [intOf]; omega
                · obtain ⟨t1, t2⟩ := take_idx (f := faultyB b.F) (g := lyP ps) HN.out HQ.out hr
                  have hs := HSC.out
                  rw [if_pos t1, t2] at hs
                  have HS := Lib.hid hs; clear hs hr t1 t2
                  go_wp2
                  go_ret2
                  exact Ret.mk (by rw [HS.out]; rfl) (hBy.trans (hbc.mono hBy.size))
            · obtain rfl : k = L.length := by omega
              have t1 := take_none (f := faultyB b.F) (g := lyP ps) HN.out
              have hs := HSC.out
              rw [if_neg (by rw [t1]; simp), show (L.map (lyP ps)).length = L.length by simp] at hs
              have HSD := Lib.hid hs; clear hs HSC t1 HN
              obtain ⟨wz, rfl⟩ : ∃ wz : World, wz = wr := ⟨_, rfl⟩
              have HBZ := Lib.hid (HBY.out.below hB hzy)
              have hzz : w.heap.size < wz.heap.size := by omega
              have hBz := hBy.trans (hB.mono hBy.size)
              clear hk hlt
              go_wp2
              clear hB hsB
              -- apart from those ahead
              go_loopw [14, 15, 17, 66] (fun _ _ _ i wr => ∃ k : Nat, k ≤ L.length ∧ i = .int .i64 k ∧ (∀ x ∈ (List.range L.length).take k, clash b.G (L.map (lyP ps)) x = false) ∧ Below wz.heap.size wz wr) (fun _ _ _ i _ => L.length - (intOf i).toNat)
              case atStart => exact ⟨0, Nat.zero_le _, rfl, by simp, Below.refl _ _⟩
              case round =>
                obtain ⟨k, hk, rfl, hno, hB⟩ := hrel
                have HN := Lib.hid hno; clear hno
                have hsB := hB.size
                by_cases hlt : k < L.length
                · obtain ⟨p, hp⟩ := getElem?_of_lt hlt
                  obtain ⟨bb, off, hA, hbb, d0, d1, d2, d3⟩ := (HL.out.below (hBz.trans (hB.mono hBz.size))) k p hp
                  subst hA
                  have hmp : p ∈ L := List.mem_of_getElem? hp
                  have hcl : clash b.G (L.map (lyP ps)) k = (L.take k).any (fun q => !apartB (lyP ps p) (lyP ps q) b.G) := by
                    unfold clash
                    rw [List.getElem?_map, hp, ← List.map_take, any_map']
                    rfl
                  have hrg : (List.range L.length)[k]? = some k := by rw [List.getElem?_range hlt]
                  have HRG := Lib.hid hrg; clear hrg
                  have HCL := Lib.hid hcl; clear hcl hp
                  obtain ⟨wb, hwb⟩ : ∃ wb, wr.alloc (.cells #[.int .i64 p.part, .int .i64 p.X, .int .i64 p.Y, .bool p.t] 52) = wb := ⟨_, rfl⟩
                  have hbb' : Below wz.heap.size wz wb := by rw [← hwb]; (repeat (first | exact Below.refl _ _ | assumption | refine Below.alloc ?_ (by first | exact Nat.le_refl _ | exact Below.size (by assumption) | omega | (simp <;> omega)) _ | refine Below.setCell ?_ (by first | exact Nat.le_refl _ | exact Below.size (by assumption) | omega | (simp <;> omega)) _ | refine below_drewN ?_ _ | refine Below.drew ?_))
                  have HPB := Lib.hid (show PlAt wb wr.heap.size p by rw [← hwb]; exact PlAt.new wr p)
                  have hzb : wb.heap.size = wr.heap.size + 1 := by rw [← hwb]; simp
                  have HWB := Lib.hid hwb; clear hwb
                  have hBb := hBz.trans (hbb'.mono hBz.size)
                  have HBDB := Lib.hid (HBZ.out.below hbb' hzz)
                  have hkc : (k : Int) ≤ (c3 : Int) := by omega
                  obtain ⟨wo, rfl⟩ : ∃ wo : World, wo = wr := ⟨_, rfl⟩
                  go_upto_region 24 with fail
                  rw [HWB.out]
                  clear HWB d0 d1 d2 d3
                  go_wp2
                  clear hkc
                  go_loopw [17, 75] (fun _ i wr => ∃ n : Nat, n ≤ k ∧ i = .int .i64 n ∧ (∀ x ∈ (L.take k).take n, (!apartB (lyP ps p) (lyP ps x) b.G) = false) ∧ Below wb.heap.size wb wr) (fun _ i _ => k - (intOf i).toNat)
                  case atStart => exact ⟨0, Nat.zero_le _, rfl, by simp, Below.refl _ _⟩
                  case round =>
                    obtain ⟨n, hn, rfl, hno, hBn⟩ := hrel
                    have HNN := Lib.hid hno; clear hno
                    have hsBn := hBn.size
                    by_cases hltn : n < k
                    · obtain ⟨q, hq⟩ := getElem?_of_lt (show n < L.length by omega)
                      obtain ⟨bq, offq, hA, hbq, d0, d1, d2, d3⟩ := (HL.out.below (hBb.trans (hBn.mono hBb.size))) n q hq
                      have hA' := Option.some.inj hA
                      injection hA' with e1 e2 e3
                      subst e1 e2
                      clear hA e3
                      have hmq : q ∈ L := List.mem_of_getElem? hq
                      have hqk : (L.take k)[n]? = some q := by rw [List.getElem?_take, if_pos hltn]; exact hq
                      have HQ := Lib.hid hqk; clear hqk hq
                      obtain ⟨wa, hwa⟩ : ∃ wa, wr.alloc (.cells #[.int .i64 q.part, .int .i64 q.X, .int .i64 q.Y, .bool q.t] 52) = wa := ⟨_, rfl⟩
                      have hba : Below wb.heap.size wb wa := by rw [← hwa]; (repeat (first | exact Below.refl _ _ | assumption | refine Below.alloc ?_ (by first | exact Nat.le_refl _ | exact Below.size (by assumption) | omega | (simp <;> omega)) _ | refine Below.setCell ?_ (by first | exact Nat.le_refl _ | exact Below.size (by assumption) | omega | (simp <;> omega)) _ | refine below_drewN ?_ _ | refine Below.drew ?_))
                      have hwra : Below wr.heap.size wr wa := by rw [← hwa]; (repeat (first | exact Below.refl _ _ | assumption | refine Below.alloc ?_ (by first | exact Nat.le_refl _ | exact Below.size (by assumption) | omega | (simp <;> omega)) _ | refine Below.setCell ?_ (by first | exact Nat.le_refl _ | exact Below.size (by assumption) | omega | (simp <;> omega)) _ | refine below_drewN ?_ _ | refine Below.drew ?_))
                      have HQA := Lib.hid (show PlAt wa wr.heap.size q by rw [← hwa]; exact PlAt.new wr q)
                      have hza : wa.heap.size = wr.heap.size + 1 := by rw [← hwa]; simp
                      have HWA := Lib.hid hwa; clear hwa
                      have HBA := Lib.hid (hBb.trans (hba.mono hBb.size))
                      have HPA := Lib.hid (HPB.out.below hba (by omega))
                      have HBDA := Lib.hid (HBDB.out.below hba (by omega))
                      go_upto_region 27 with fail
                      rw [HWA.out]
                      clear HWA d0 d1 d2 d3
                      have hwa : w.heap.size < wa.heap.size := by omega
                      have HKP : Hid (∀ w', Below wa.heap.size wa w' → w'.cell? ⟨wo.heap.size, 0, none⟩ = some (.int .i64 p.part) ∧ w'.cell? ⟨wo.heap.size, 1, none⟩ = some (.int .i64 p.X) ∧ w'.cell? ⟨wo.heap.size, 2, none⟩ = some (.int .i64 p.Y) ∧ w'.cell? ⟨wo.heap.size, 3, none⟩ = some (.bool p.t) ∧ w'.cell? ⟨wr.heap.size, 0, none⟩ = some (.int .i64 q.part) ∧ w'.cell? ⟨wr.heap.size, 1, none⟩ = some (.int .i64 q.X) ∧ w'.cell? ⟨wr.heap.size, 2, none⟩ = some (.int .i64 q.Y) ∧ w'.cell? ⟨wr.heap.size, 3, none⟩ = some (.bool q.t) ∧ w'.cell? ⟨w.heap.size, 2, none⟩ = some (.int .i64 b.G)) := fun w' hC =>
                        ⟨(HPA.out.below hC (by omega)).c0, (HPA.out.below hC (by omega)).c1, (HPA.out.below hC (by omega)).c2, (HPA.out.below hC (by omega)).c3, (HQA.out.below hC (by omega)).c0, (HQA.out.below hC (by omega)).c1, (HQA.out.below hC (by omega)).c2, (HQA.out.below hC (by omega)).c3, (HBDA.out.below hC hwa).c2⟩
                      have hdr : Below wa.heap.size wa wa.drew := (Below.refl _ _).drew
                      go_cut [88] (fun v wx' => v = .bool (!apartB (lyP ps p) (lyP ps q) b.G) ∧ Below wa.heap.size wa wx')
                      case first =>
                        go_region_held3 (fun w' => w'.cell? ⟨wo.heap.size, 0, none⟩ = some (.int .i64 p.part) ∧ w'.cell? ⟨wo.heap.size, 1, none⟩ = some (.int .i64 p.X) ∧ w'.cell? ⟨wo.heap.size, 2, none⟩ = some (.int .i64 p.Y) ∧ w'.cell? ⟨wo.heap.size, 3, none⟩ = some (.bool p.t) ∧ w'.cell? ⟨wr.heap.size, 0, none⟩ = some (.int .i64 q.part) ∧ w'.cell? ⟨wr.heap.size, 1, none⟩ = some (.int .i64 q.X) ∧ w'.cell? ⟨wr.heap.size, 2, none⟩ = some (.int .i64 q.Y) ∧ w'.cell? ⟨wr.heap.size, 3, none⟩ = some (.bool q.t) ∧ w'.cell? ⟨w.heap.size, 2, none⟩ = some (.int .i64 b.G)) (first | exact HKP.out _ hdr | exact HKP.out _ hb10' | exact HKP.out _ hb11' | exact HKP.out _ hb12') (first | (go_at_call 98; refine (HLY.out q hmq _ hB10).mono ?_; rintro e w11 ⟨v11, rfl, hown11, hb11⟩; have hb11' := hb10'.trans (hb11.mono hb10'.size); have HR10' := Lib.hid (HR10.out.now hb11); obtain ⟨A11, c11, rfl, hr11⟩ := own_rd hown11; have HR11 := Lib.hid hr11; clear hr11 hown11 hb11) | (go_at_call 98; refine (HLY.out p hmp _ (HBA.out.trans (hdr.mono HBA.out.size))).mono ?_; rintro e w10 ⟨v10, rfl, hown10, hb10⟩; have hb10' : Below wa.heap.size wa w10 := below_of_drew hb10; have hB10 := HBA.out.trans (hb10'.mono HBA.out.size); obtain ⟨A10, c10, rfl, hr10⟩ := own_rd hown10; have HR10 := Lib.hid hr10; clear hr10 hown10 hb10) | (go_at_call 100; refine (HAP.out p hmp q hmq A10 A11 c10 c11 _ HR10'.out HR11.out).mono ?_; rintro e w12 ⟨rfl, hb12⟩; have hb12' := hb11'.trans (hb12.mono hb11'.size)))
                        all_goals
                          go_wp2_with fail
                          go_meet
                          exact ⟨rfl, hb12'⟩
                      case rest =>
                        obtain ⟨rfl, hbx⟩ := hcut
                        have hbc := hba.trans (hbx.mono hba.size)
                        cases hr : apartB (lyP ps p) (lyP ps q) b.G
                        · have hcl : clash b.G (L.map (lyP ps)) k = true := by
                            rw [HCL.out]; exact List.any_eq_true.2 ⟨q, List.mem_of_getElem? HQ.out, by rw [hr]; rfl⟩
                          have hs := HSD.out
                          rw [if_pos (List.any_eq_true.2 ⟨k, List.mem_range.2 hlt, hcl⟩), idxG_hit HN.out HRG.out hcl] at hs
                          have HS := Lib.hid hs; clear hs hr hcl
                          go_wp2
                          go_ret2
                          exact Ret.mk (by rw [HS.out]; rfl) (hBb.trans (hbc.mono hBb.size))
                        · have HR := Lib.hid hr; clear hr
                          go_wp2
                          go_roundw
                          case rel => exact ⟨n + 1, by omega, by go_num, noG_take_succ (f := fun x : PL => !apartB (lyP ps p) (lyP ps x) b.G) HNN.out HQ.out (by rw [HR.out]; rfl), hbc⟩
                          case measure => simp [intOf]; omega
                    · obtain rfl : n = k := by omega
                      have hcl : clash b.G (L.map (lyP ps)) n = false := by
                        rw [HCL.out, List.any_eq_false]
                        intro x hx
                        rw [HNN.out x (by rw [List.take_of_length_le (by simp; omega)]; exact hx)]; simp
                      have HC := Lib.hid hcl; clear hcl
                      have hbc := hbb'.trans (hBn.mono hbb'.size)
                      go_wp2
                      go_roundw
                      case rel => exact ⟨n + 1, by omega, by go_num, noG_take_succ HN.out HRG.out HC.out, hbc⟩
                      case measure => simp [intOf]; omega
                · obtain rfl : k = L.length := by omega
                  have hany : (List.range L.length).any (clash b.G (L.map (lyP ps))) = false := by
                    rw [List.any_eq_false]
                    intro x hx
                    rw [HN.out x (by rw [List.take_of_length_le (by simp)]; exact hx)]; simp
                  have hs := HSD.out
                  rw [if_neg (by rw [hany]; simp)] at hs
                  have HS := Lib.hid hs; clear hs hany
                  go_wp2
                  go_ret2
                  exact Ret.mk (by rw [HS.out]; rfl) (hBz.trans (hB.mono hBz.size))
end Go.Proofs.Ytohlinbcbfgdfaa

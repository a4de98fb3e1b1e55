/- Blocks: the reference's formed, allFormed: the walks. Printed by gensc3.py. -/
import Derived.Test.YtbcnkcndhgihaaaDoorSC2
namespace Go.Proofs.YtbcnkcndhgihaaaDoor
open Go.RowKit
set_option linter.unusedSimpArgs false

theorem bx_two (b : BT) (w : World) (l : T3) : BxB ((w.alloc (.cells #[.int .i64 b.op, .int .i64 b.ax, .int .u8 b.co, .int .i64 b.n0, .int .i64 b.n1, .int .i64 b.n2, .slice b.A b.ps.length b.cp] 25)).alloc (.cells #[.int .i64 l.x, .int .i64 l.y, .int .i64 l.z] 22)) w.heap.size b := by
  have hb : Below (w.alloc (.cells #[.int .i64 b.op, .int .i64 b.ax, .int .u8 b.co, .int .i64 b.n0, .int .i64 b.n1, .int .i64 b.n2, .slice b.A b.ps.length b.cp] 25)).heap.size (w.alloc (.cells #[.int .i64 b.op, .int .i64 b.ax, .int .u8 b.co, .int .i64 b.n0, .int .i64 b.n1, .int .i64 b.n2, .slice b.A b.ps.length b.cp] 25)) ((w.alloc (.cells #[.int .i64 b.op, .int .i64 b.ax, .int .u8 b.co, .int .i64 b.n0, .int .i64 b.n1, .int .i64 b.n2, .slice b.A b.ps.length b.cp] 25)).alloc (.cells #[.int .i64 l.x, .int .i64 l.y, .int .i64 l.z] 22)) := by (repeat (first | exact Below.refl _ _ | assumption | refine Below.alloc ?_ (by first | exact Nat.le_refl _ | exact Below.size (by assumption) | omega | (simp <;> omega)) _ | refine Below.setCell ?_ (by first | exact Nat.le_refl _ | exact Below.size (by assumption) | omega | (simp <;> omega)) _ | refine below_drewN ?_ _ | refine Below.drew ?_))
  exact (BxB.new w b 25).under hb (by simp)
set_option maxRecDepth 100000 in
set_option maxHeartbeats 1000000 in
theorem formed1_any (b : BT) (w : World) (ho : b.op = 1) : Calls Tryd.prog 84 #[valB b] w (Ret (.bool (oneS b)) w) := by
  have HS : Hid (oneS b = (decide (b.ax = 0) && (decide (97 ≤ b.co) && decide (b.co ≤ 105)) && (decide (b.ps.length = 0) && numsB b ⟨1, 1, 1⟩))) := by
    show _ = _
    rw [← formed_eq]
    unfold formedB
    simp only [ho]
    simp
  have HK := Lib.hid (fun w => numbers_any2 b ⟨1, 1, 1⟩ w)
  obtain ⟨N, hN⟩ : ∃ N, numsB b ⟨1, 1, 1⟩ = N := ⟨_, rfl⟩
  rw [hN] at HS HK
  clear hN
  obtain ⟨f0, f1, f2, f3, f4, f5, f6⟩ := bx_two b w ⟨-1, -1, -1⟩
  obtain ⟨g0, g1, g2, g3, g4, g5, g6⟩ := bx_two b w ⟨1, 1, 1⟩

  have e1 : (b.op == 1) = true := by rw [ho]; rfl
  have e2 : (b.op == 2) = false := by rw [ho]; rfl
  have e3 : (b.op == 3) = false := by rw [ho]; rfl
  have e4 : (b.op == 4) = false := by rw [ho]; rfl
  have e5 : (b.op == 5) = false := by rw [ho]; rfl
  have e6 : (b.op == 6) = false := by rw [ho]; rfl
  clear ho
  by_cases a0 : b.ax = 0
  case neg =>
    have d0 : (b.ax != 0) = true := by rw [bne_iff_ne]; exact a0
    have A0 := Lib.hid a0
    clear a0
    go_enter Tryd.func84, Tryd.ntmps84
    go_wp2
    go_ret
    exact Ret.mk (by rw [HS.out]; rw [decide_eq_false A0.out]; simp) (by (repeat (first | exact Below.refl _ _ | assumption | refine Below.alloc ?_ (by first | exact Nat.le_refl _ | exact Below.size (by assumption) | omega | (simp <;> omega)) _ | refine Below.setCell ?_ (by first | exact Nat.le_refl _ | exact Below.size (by assumption) | omega | (simp <;> omega)) _ | refine below_drewN ?_ _ | refine Below.drew ?_)))
  case pos =>
    have d0 : (b.ax != 0) = false := by rw [bne_eq_false_iff_eq]; exact a0
    have A0 := Lib.hid a0
    clear a0
    by_cases a1 : 97 ≤ b.co
    case neg =>
      go_enter Tryd.func84, Tryd.ntmps84
      go_wp2
      go_ret
      exact Ret.mk (by rw [HS.out]; rw [decide_eq_false (show ¬ (97 ≤ b.co) by omega)]; simp) (by (repeat (first | exact Below.refl _ _ | assumption | refine Below.alloc ?_ (by first | exact Nat.le_refl _ | exact Below.size (by assumption) | omega | (simp <;> omega)) _ | refine Below.setCell ?_ (by first | exact Nat.le_refl _ | exact Below.size (by assumption) | omega | (simp <;> omega)) _ | refine below_drewN ?_ _ | refine Below.drew ?_)))
    case pos =>
      by_cases a2 : b.co ≤ 105
      case neg =>
        go_enter Tryd.func84, Tryd.ntmps84
        go_wp2
        go_ret
        exact Ret.mk (by rw [HS.out]; rw [decide_eq_false (show ¬ (b.co ≤ 105) by omega)]; simp) (by (repeat (first | exact Below.refl _ _ | assumption | refine Below.alloc ?_ (by first | exact Nat.le_refl _ | exact Below.size (by assumption) | omega | (simp <;> omega)) _ | refine Below.setCell ?_ (by first | exact Nat.le_refl _ | exact Below.size (by assumption) | omega | (simp <;> omega)) _ | refine below_drewN ?_ _ | refine Below.drew ?_)))
      case pos =>
        by_cases a3 : b.ps.length = 0
        case neg =>
          have HA := Lib.hid a3
          have hL : ((b.ps.length : Int) == 0) = false := by rw [beq_eq_false_iff_ne]; omega
          clear a3
          go_enter Tryd.func84, Tryd.ntmps84
          go_wp2
          go_ret
          exact Ret.mk (by rw [HS.out]; rw [decide_eq_false HA.out]; simp) (by (repeat (first | exact Below.refl _ _ | assumption | refine Below.alloc ?_ (by first | exact Nat.le_refl _ | exact Below.size (by assumption) | omega | (simp <;> omega)) _ | refine Below.setCell ?_ (by first | exact Nat.le_refl _ | exact Below.size (by assumption) | omega | (simp <;> omega)) _ | refine below_drewN ?_ _ | refine Below.drew ?_)))
        case pos =>
          have hL : ((b.ps.length : Int) == 0) = true := by rw [a3]; rfl
          have HA := Lib.hid a3
          clear a3
          go_enter Tryd.func84, Tryd.ntmps84
          go_wp2_with fail
          refine (HK.out _).mono ?_
          rintro e w2 ⟨rfl, hb2⟩
          have hB2 : Below w.heap.size w w2 := Below.trans (by (repeat (first | exact Below.refl _ _ | assumption | refine Below.alloc ?_ (by first | exact Nat.le_refl _ | exact Below.size (by assumption) | omega | (simp <;> omega)) _ | refine Below.setCell ?_ (by first | exact Nat.le_refl _ | exact Below.size (by assumption) | omega | (simp <;> omega)) _ | refine below_drewN ?_ _ | refine Below.drew ?_))) (hb2.mono (by simp; omega))
          go_wp2
          go_ret
          exact Ret.mk (by rw [HS.out]; rw [decide_eq_true HA.out, decide_eq_true A0.out, decide_eq_true (show 97 ≤ b.co by omega), decide_eq_true (show b.co ≤ 105 by omega)]; simp) (hB2)
set_option maxRecDepth 100000 in
set_option maxHeartbeats 1000000 in
theorem formed2_any (b : BT) (w : World) (ho : b.op = 2) : Calls Tryd.prog 84 #[valB b] w (Ret (.bool (oneS b)) w) := by
  have HS : Hid (oneS b = (decide (0 ≤ b.ax) && decide (b.ax ≤ 2) && decide (b.co = 0) && (decide (b.ps.length = 2) && numsB b ⟨-1, -1, -1⟩))) := by
    show _ = _
    rw [← formed_eq]
    unfold formedB
    simp only [ho]
    simp
  have HK := Lib.hid (fun w => numbers_any2 b ⟨-1, -1, -1⟩ w)
  obtain ⟨N, hN⟩ : ∃ N, numsB b ⟨-1, -1, -1⟩ = N := ⟨_, rfl⟩
  rw [hN] at HS HK
  clear hN
  obtain ⟨f0, f1, f2, f3, f4, f5, f6⟩ := bx_two b w ⟨-1, -1, -1⟩
  obtain ⟨g0, g1, g2, g3, g4, g5, g6⟩ := bx_two b w ⟨-1, -1, -1⟩

  have e1 : (b.op == 1) = false := by rw [ho]; rfl
  have e2 : (b.op == 2) = true := by rw [ho]; rfl
  have e3 : (b.op == 3) = false := by rw [ho]; rfl
  have e4 : (b.op == 4) = false := by rw [ho]; rfl
  have e5 : (b.op == 5) = false := by rw [ho]; rfl
  have e6 : (b.op == 6) = false := by rw [ho]; rfl
  clear ho
  by_cases a0 : 0 ≤ b.ax
  case neg =>
    go_enter Tryd.func84, Tryd.ntmps84
    go_wp2
    go_ret
    exact Ret.mk (by rw [HS.out]; rw [decide_eq_false (show ¬ (0 ≤ b.ax) by omega)]; simp) (by (repeat (first | exact Below.refl _ _ | assumption | refine Below.alloc ?_ (by first | exact Nat.le_refl _ | exact Below.size (by assumption) | omega | (simp <;> omega)) _ | refine Below.setCell ?_ (by first | exact Nat.le_refl _ | exact Below.size (by assumption) | omega | (simp <;> omega)) _ | refine below_drewN ?_ _ | refine Below.drew ?_)))
  case pos =>
    by_cases a1 : b.ax ≤ 2
    case neg =>
      go_enter Tryd.func84, Tryd.ntmps84
      go_wp2
      go_ret
      exact Ret.mk (by rw [HS.out]; rw [decide_eq_false (show ¬ (b.ax ≤ 2) by omega)]; simp) (by (repeat (first | exact Below.refl _ _ | assumption | refine Below.alloc ?_ (by first | exact Nat.le_refl _ | exact Below.size (by assumption) | omega | (simp <;> omega)) _ | refine Below.setCell ?_ (by first | exact Nat.le_refl _ | exact Below.size (by assumption) | omega | (simp <;> omega)) _ | refine below_drewN ?_ _ | refine Below.drew ?_)))
    case pos =>
      by_cases a2 : b.co = 0
      case neg =>
        have d2 : (b.co != 0) = true := by rw [bne_iff_ne]; exact a2
        have A2 := Lib.hid a2
        clear a2
        go_enter Tryd.func84, Tryd.ntmps84
        go_wp2
        go_ret
        exact Ret.mk (by rw [HS.out]; rw [decide_eq_false A2.out]; simp) (by (repeat (first | exact Below.refl _ _ | assumption | refine Below.alloc ?_ (by first | exact Nat.le_refl _ | exact Below.size (by assumption) | omega | (simp <;> omega)) _ | refine Below.setCell ?_ (by first | exact Nat.le_refl _ | exact Below.size (by assumption) | omega | (simp <;> omega)) _ | refine below_drewN ?_ _ | refine Below.drew ?_)))
      case pos =>
        have d2 : (b.co != 0) = false := by rw [bne_eq_false_iff_eq]; exact a2
        have A2 := Lib.hid a2
        clear a2
        by_cases a3 : b.ps.length = 2
        case neg =>
          have HA := Lib.hid a3
          have hL : ((b.ps.length : Int) == 2) = false := by rw [beq_eq_false_iff_ne]; omega
          clear a3
          go_enter Tryd.func84, Tryd.ntmps84
          go_wp2
          go_ret
          exact Ret.mk (by rw [HS.out]; rw [decide_eq_false HA.out]; simp) (by (repeat (first | exact Below.refl _ _ | assumption | refine Below.alloc ?_ (by first | exact Nat.le_refl _ | exact Below.size (by assumption) | omega | (simp <;> omega)) _ | refine Below.setCell ?_ (by first | exact Nat.le_refl _ | exact Below.size (by assumption) | omega | (simp <;> omega)) _ | refine below_drewN ?_ _ | refine Below.drew ?_)))
        case pos =>
          have hL : ((b.ps.length : Int) == 2) = true := by rw [a3]; rfl
          have HA := Lib.hid a3
          clear a3
          go_enter Tryd.func84, Tryd.ntmps84
          go_wp2_with fail
          refine (HK.out _).mono ?_
          rintro e w2 ⟨rfl, hb2⟩
          have hB2 : Below w.heap.size w w2 := Below.trans (by (repeat (first | exact Below.refl _ _ | assumption | refine Below.alloc ?_ (by first | exact Nat.le_refl _ | exact Below.size (by assumption) | omega | (simp <;> omega)) _ | refine Below.setCell ?_ (by first | exact Nat.le_refl _ | exact Below.size (by assumption) | omega | (simp <;> omega)) _ | refine below_drewN ?_ _ | refine Below.drew ?_))) (hb2.mono (by simp; omega))
          go_wp2
          go_ret
          exact Ret.mk (by rw [HS.out]; rw [decide_eq_true HA.out, decide_eq_true (show 0 ≤ b.ax by omega), decide_eq_true (show b.ax ≤ 2 by omega), decide_eq_true A2.out]; simp) (hB2)
set_option maxRecDepth 100000 in
set_option maxHeartbeats 1000000 in
theorem formed3_any (b : BT) (w : World) (ho : b.op = 3) : Calls Tryd.prog 84 #[valB b] w (Ret (.bool (oneS b)) w) := by
  have HS : Hid (oneS b = (decide (0 ≤ b.ax) && decide (b.ax ≤ 2) && decide (b.co = 0) && (decide (b.ps.length = 1) && numsB b ⟨-1, -1, -1⟩))) := by
    show _ = _
    rw [← formed_eq]
    unfold formedB
    simp only [ho]
    simp
  have HK := Lib.hid (fun w => numbers_any2 b ⟨-1, -1, -1⟩ w)
  obtain ⟨N, hN⟩ : ∃ N, numsB b ⟨-1, -1, -1⟩ = N := ⟨_, rfl⟩
  rw [hN] at HS HK
  clear hN
  obtain ⟨f0, f1, f2, f3, f4, f5, f6⟩ := bx_two b w ⟨-1, -1, -1⟩
  obtain ⟨g0, g1, g2, g3, g4, g5, g6⟩ := bx_two b w ⟨-1, -1, -1⟩

  have e1 : (b.op == 1) = false := by rw [ho]; rfl
  have e2 : (b.op == 2) = false := by rw [ho]; rfl
  have e3 : (b.op == 3) = true := by rw [ho]; rfl
  have e4 : (b.op == 4) = false := by rw [ho]; rfl
  have e5 : (b.op == 5) = false := by rw [ho]; rfl
  have e6 : (b.op == 6) = false := by rw [ho]; rfl
  clear ho
  by_cases a0 : 0 ≤ b.ax
  case neg =>
    go_enter Tryd.func84, Tryd.ntmps84
    go_wp2
    go_ret
    exact Ret.mk (by rw [HS.out]; rw [decide_eq_false (show ¬ (0 ≤ b.ax) by omega)]; simp) (by (repeat (first | exact Below.refl _ _ | assumption | refine Below.alloc ?_ (by first | exact Nat.le_refl _ | exact Below.size (by assumption) | omega | (simp <;> omega)) _ | refine Below.setCell ?_ (by first | exact Nat.le_refl _ | exact Below.size (by assumption) | omega | (simp <;> omega)) _ | refine below_drewN ?_ _ | refine Below.drew ?_)))
  case pos =>
    by_cases a1 : b.ax ≤ 2
    case neg =>
      go_enter Tryd.func84, Tryd.ntmps84
      go_wp2
      go_ret
      exact Ret.mk (by rw [HS.out]; rw [decide_eq_false (show ¬ (b.ax ≤ 2) by omega)]; simp) (by (repeat (first | exact Below.refl _ _ | assumption | refine Below.alloc ?_ (by first | exact Nat.le_refl _ | exact Below.size (by assumption) | omega | (simp <;> omega)) _ | refine Below.setCell ?_ (by first | exact Nat.le_refl _ | exact Below.size (by assumption) | omega | (simp <;> omega)) _ | refine below_drewN ?_ _ | refine Below.drew ?_)))
    case pos =>
      by_cases a2 : b.co = 0
      case neg =>
        have d2 : (b.co != 0) = true := by rw [bne_iff_ne]; exact a2
        have A2 := Lib.hid a2
        clear a2
        go_enter Tryd.func84, Tryd.ntmps84
        go_wp2
        go_ret
        exact Ret.mk (by rw [HS.out]; rw [decide_eq_false A2.out]; simp) (by (repeat (first | exact Below.refl _ _ | assumption | refine Below.alloc ?_ (by first | exact Nat.le_refl _ | exact Below.size (by assumption) | omega | (simp <;> omega)) _ | refine Below.setCell ?_ (by first | exact Nat.le_refl _ | exact Below.size (by assumption) | omega | (simp <;> omega)) _ | refine below_drewN ?_ _ | refine Below.drew ?_)))
      case pos =>
        have d2 : (b.co != 0) = false := by rw [bne_eq_false_iff_eq]; exact a2
        have A2 := Lib.hid a2
        clear a2
        by_cases a3 : b.ps.length = 1
        case neg =>
          have HA := Lib.hid a3
          have hL : ((b.ps.length : Int) == 1) = false := by rw [beq_eq_false_iff_ne]; omega
          clear a3
          go_enter Tryd.func84, Tryd.ntmps84
          go_wp2
          go_ret
          exact Ret.mk (by rw [HS.out]; rw [decide_eq_false HA.out]; simp) (by (repeat (first | exact Below.refl _ _ | assumption | refine Below.alloc ?_ (by first | exact Nat.le_refl _ | exact Below.size (by assumption) | omega | (simp <;> omega)) _ | refine Below.setCell ?_ (by first | exact Nat.le_refl _ | exact Below.size (by assumption) | omega | (simp <;> omega)) _ | refine below_drewN ?_ _ | refine Below.drew ?_)))
        case pos =>
          have hL : ((b.ps.length : Int) == 1) = true := by rw [a3]; rfl
          have HA := Lib.hid a3
          clear a3
          go_enter Tryd.func84, Tryd.ntmps84
          go_wp2_with fail
          refine (HK.out _).mono ?_
          rintro e w2 ⟨rfl, hb2⟩
          have hB2 : Below w.heap.size w w2 := Below.trans (by (repeat (first | exact Below.refl _ _ | assumption | refine Below.alloc ?_ (by first | exact Nat.le_refl _ | exact Below.size (by assumption) | omega | (simp <;> omega)) _ | refine Below.setCell ?_ (by first | exact Nat.le_refl _ | exact Below.size (by assumption) | omega | (simp <;> omega)) _ | refine below_drewN ?_ _ | refine Below.drew ?_))) (hb2.mono (by simp; omega))
          go_wp2
          go_ret
          exact Ret.mk (by rw [HS.out]; rw [decide_eq_true HA.out, decide_eq_true (show 0 ≤ b.ax by omega), decide_eq_true (show b.ax ≤ 2 by omega), decide_eq_true A2.out]; simp) (hB2)
set_option maxRecDepth 100000 in
set_option maxHeartbeats 1000000 in
theorem formed4_any (b : BT) (w : World) (ho : b.op = 4) : Calls Tryd.prog 84 #[valB b] w (Ret (.bool (oneS b)) w) := by
  have HS : Hid (oneS b = (decide (0 ≤ b.ax) && decide (b.ax ≤ 2) && decide (b.co = 0) && (decide (b.ps.length = 1) && numsB b ⟨0, 1, -1⟩))) := by
    show _ = _
    rw [← formed_eq]
    unfold formedB
    simp only [ho]
    simp
  have HK := Lib.hid (fun w => numbers_any2 b ⟨0, 1, -1⟩ w)
  obtain ⟨N, hN⟩ : ∃ N, numsB b ⟨0, 1, -1⟩ = N := ⟨_, rfl⟩
  rw [hN] at HS HK
  clear hN
  obtain ⟨f0, f1, f2, f3, f4, f5, f6⟩ := bx_two b w ⟨-1, -1, -1⟩
  obtain ⟨g0, g1, g2, g3, g4, g5, g6⟩ := bx_two b w ⟨0, 1, -1⟩

  have e1 : (b.op == 1) = false := by rw [ho]; rfl
  have e2 : (b.op == 2) = false := by rw [ho]; rfl
  have e3 : (b.op == 3) = false := by rw [ho]; rfl
  have e4 : (b.op == 4) = true := by rw [ho]; rfl
  have e5 : (b.op == 5) = false := by rw [ho]; rfl
  have e6 : (b.op == 6) = false := by rw [ho]; rfl
  clear ho
  by_cases a0 : 0 ≤ b.ax
  case neg =>
    go_enter Tryd.func84, Tryd.ntmps84
    go_wp2
    go_ret
    exact Ret.mk (by rw [HS.out]; rw [decide_eq_false (show ¬ (0 ≤ b.ax) by omega)]; simp) (by (repeat (first | exact Below.refl _ _ | assumption | refine Below.alloc ?_ (by first | exact Nat.le_refl _ | exact Below.size (by assumption) | omega | (simp <;> omega)) _ | refine Below.setCell ?_ (by first | exact Nat.le_refl _ | exact Below.size (by assumption) | omega | (simp <;> omega)) _ | refine below_drewN ?_ _ | refine Below.drew ?_)))
  case pos =>
    by_cases a1 : b.ax ≤ 2
    case neg =>
      go_enter Tryd.func84, Tryd.ntmps84
      go_wp2
      go_ret
      exact Ret.mk (by rw [HS.out]; rw [decide_eq_false (show ¬ (b.ax ≤ 2) by omega)]; simp) (by (repeat (first | exact Below.refl _ _ | assumption | refine Below.alloc ?_ (by first | exact Nat.le_refl _ | exact Below.size (by assumption) | omega | (simp <;> omega)) _ | refine Below.setCell ?_ (by first | exact Nat.le_refl _ | exact Below.size (by assumption) | omega | (simp <;> omega)) _ | refine below_drewN ?_ _ | refine Below.drew ?_)))
    case pos =>
      by_cases a2 : b.co = 0
      case neg =>
        have d2 : (b.co != 0) = true := by rw [bne_iff_ne]; exact a2
        have A2 := Lib.hid a2
        clear a2
        go_enter Tryd.func84, Tryd.ntmps84
        go_wp2
        go_ret
        exact Ret.mk (by rw [HS.out]; rw [decide_eq_false A2.out]; simp) (by (repeat (first | exact Below.refl _ _ | assumption | refine Below.alloc ?_ (by first | exact Nat.le_refl _ | exact Below.size (by assumption) | omega | (simp <;> omega)) _ | refine Below.setCell ?_ (by first | exact Nat.le_refl _ | exact Below.size (by assumption) | omega | (simp <;> omega)) _ | refine below_drewN ?_ _ | refine Below.drew ?_)))
      case pos =>
        have d2 : (b.co != 0) = false := by rw [bne_eq_false_iff_eq]; exact a2
        have A2 := Lib.hid a2
        clear a2
        by_cases a3 : b.ps.length = 1
        case neg =>
          have HA := Lib.hid a3
          have hL : ((b.ps.length : Int) == 1) = false := by rw [beq_eq_false_iff_ne]; omega
          clear a3
          go_enter Tryd.func84, Tryd.ntmps84
          go_wp2
          go_ret
          exact Ret.mk (by rw [HS.out]; rw [decide_eq_false HA.out]; simp) (by (repeat (first | exact Below.refl _ _ | assumption | refine Below.alloc ?_ (by first | exact Nat.le_refl _ | exact Below.size (by assumption) | omega | (simp <;> omega)) _ | refine Below.setCell ?_ (by first | exact Nat.le_refl _ | exact Below.size (by assumption) | omega | (simp <;> omega)) _ | refine below_drewN ?_ _ | refine Below.drew ?_)))
        case pos =>
          have hL : ((b.ps.length : Int) == 1) = true := by rw [a3]; rfl
          have HA := Lib.hid a3
          clear a3
          go_enter Tryd.func84, Tryd.ntmps84
          go_wp2_with fail
          refine (HK.out _).mono ?_
          rintro e w2 ⟨rfl, hb2⟩
          have hB2 : Below w.heap.size w w2 := Below.trans (by (repeat (first | exact Below.refl _ _ | assumption | refine Below.alloc ?_ (by first | exact Nat.le_refl _ | exact Below.size (by assumption) | omega | (simp <;> omega)) _ | refine Below.setCell ?_ (by first | exact Nat.le_refl _ | exact Below.size (by assumption) | omega | (simp <;> omega)) _ | refine below_drewN ?_ _ | refine Below.drew ?_))) (hb2.mono (by simp; omega))
          go_wp2
          go_ret
          exact Ret.mk (by rw [HS.out]; rw [decide_eq_true HA.out, decide_eq_true (show 0 ≤ b.ax by omega), decide_eq_true (show b.ax ≤ 2 by omega), decide_eq_true A2.out]; simp) (hB2)
set_option maxRecDepth 100000 in
set_option maxHeartbeats 1000000 in
theorem formed5_any (b : BT) (w : World) (ho : b.op = 5) : Calls Tryd.prog 84 #[valB b] w (Ret (.bool (oneS b)) w) := by
  have HS : Hid (oneS b = (decide (0 ≤ b.ax) && decide (b.ax ≤ 2) && decide (b.co = 0) && (decide (b.ps.length = 1) && numsB b ⟨-1, -1, -1⟩))) := by
    show _ = _
    rw [← formed_eq]
    unfold formedB
    simp only [ho]
    simp
  have HK := Lib.hid (fun w => numbers_any2 b ⟨-1, -1, -1⟩ w)
  obtain ⟨N, hN⟩ : ∃ N, numsB b ⟨-1, -1, -1⟩ = N := ⟨_, rfl⟩
  rw [hN] at HS HK
  clear hN
  obtain ⟨f0, f1, f2, f3, f4, f5, f6⟩ := bx_two b w ⟨-1, -1, -1⟩
  obtain ⟨g0, g1, g2, g3, g4, g5, g6⟩ := bx_two b w ⟨-1, -1, -1⟩

  have e1 : (b.op == 1) = false := by rw [ho]; rfl
  have e2 : (b.op == 2) = false := by rw [ho]; rfl
  have e3 : (b.op == 3) = false := by rw [ho]; rfl
  have e4 : (b.op == 4) = false := by rw [ho]; rfl
  have e5 : (b.op == 5) = true := by rw [ho]; rfl
  have e6 : (b.op == 6) = false := by rw [ho]; rfl
  clear ho
  by_cases a0 : 0 ≤ b.ax
  case neg =>
    go_enter Tryd.func84, Tryd.ntmps84
    go_wp2
    go_ret
    exact Ret.mk (by rw [HS.out]; rw [decide_eq_false (show ¬ (0 ≤ b.ax) by omega)]; simp) (by (repeat (first | exact Below.refl _ _ | assumption | refine Below.alloc ?_ (by first | exact Nat.le_refl _ | exact Below.size (by assumption) | omega | (simp <;> omega)) _ | refine Below.setCell ?_ (by first | exact Nat.le_refl _ | exact Below.size (by assumption) | omega | (simp <;> omega)) _ | refine below_drewN ?_ _ | refine Below.drew ?_)))
  case pos =>
    by_cases a1 : b.ax ≤ 2
    case neg =>
      go_enter Tryd.func84, Tryd.ntmps84
      go_wp2
      go_ret
      exact Ret.mk (by rw [HS.out]; rw [decide_eq_false (show ¬ (b.ax ≤ 2) by omega)]; simp) (by (repeat (first | exact Below.refl _ _ | assumption | refine Below.alloc ?_ (by first | exact Nat.le_refl _ | exact Below.size (by assumption) | omega | (simp <;> omega)) _ | refine Below.setCell ?_ (by first | exact Nat.le_refl _ | exact Below.size (by assumption) | omega | (simp <;> omega)) _ | refine below_drewN ?_ _ | refine Below.drew ?_)))
    case pos =>
      by_cases a2 : b.co = 0
      case neg =>
        have d2 : (b.co != 0) = true := by rw [bne_iff_ne]; exact a2
        have A2 := Lib.hid a2
        clear a2
        go_enter Tryd.func84, Tryd.ntmps84
        go_wp2
        go_ret
        exact Ret.mk (by rw [HS.out]; rw [decide_eq_false A2.out]; simp) (by (repeat (first | exact Below.refl _ _ | assumption | refine Below.alloc ?_ (by first | exact Nat.le_refl _ | exact Below.size (by assumption) | omega | (simp <;> omega)) _ | refine Below.setCell ?_ (by first | exact Nat.le_refl _ | exact Below.size (by assumption) | omega | (simp <;> omega)) _ | refine below_drewN ?_ _ | refine Below.drew ?_)))
      case pos =>
        have d2 : (b.co != 0) = false := by rw [bne_eq_false_iff_eq]; exact a2
        have A2 := Lib.hid a2
        clear a2
        by_cases a3 : b.ps.length = 1
        case neg =>
          have HA := Lib.hid a3
          have hL : ((b.ps.length : Int) == 1) = false := by rw [beq_eq_false_iff_ne]; omega
          clear a3
          go_enter Tryd.func84, Tryd.ntmps84
          go_wp2
          go_ret
          exact Ret.mk (by rw [HS.out]; rw [decide_eq_false HA.out]; simp) (by (repeat (first | exact Below.refl _ _ | assumption | refine Below.alloc ?_ (by first | exact Nat.le_refl _ | exact Below.size (by assumption) | omega | (simp <;> omega)) _ | refine Below.setCell ?_ (by first | exact Nat.le_refl _ | exact Below.size (by assumption) | omega | (simp <;> omega)) _ | refine below_drewN ?_ _ | refine Below.drew ?_)))
        case pos =>
          have hL : ((b.ps.length : Int) == 1) = true := by rw [a3]; rfl
          have HA := Lib.hid a3
          clear a3
          go_enter Tryd.func84, Tryd.ntmps84
          go_wp2_with fail
          refine (HK.out _).mono ?_
          rintro e w2 ⟨rfl, hb2⟩
          have hB2 : Below w.heap.size w w2 := Below.trans (by (repeat (first | exact Below.refl _ _ | assumption | refine Below.alloc ?_ (by first | exact Nat.le_refl _ | exact Below.size (by assumption) | omega | (simp <;> omega)) _ | refine Below.setCell ?_ (by first | exact Nat.le_refl _ | exact Below.size (by assumption) | omega | (simp <;> omega)) _ | refine below_drewN ?_ _ | refine Below.drew ?_))) (hb2.mono (by simp; omega))
          go_wp2
          go_ret
          exact Ret.mk (by rw [HS.out]; rw [decide_eq_true HA.out, decide_eq_true (show 0 ≤ b.ax by omega), decide_eq_true (show b.ax ≤ 2 by omega), decide_eq_true A2.out]; simp) (hB2)
set_option maxRecDepth 100000 in
set_option maxHeartbeats 1000000 in
theorem formed6_any (b : BT) (w : World) (ho : b.op = 6) : Calls Tryd.prog 84 #[valB b] w (Ret (.bool (oneS b)) w) := by
  have HS : Hid (oneS b = (decide (0 ≤ b.ax) && decide (b.ax ≤ 2) && decide (b.co = 0) && (decide (b.ps.length = 1) && numsB b ⟨1, -1, -1⟩))) := by
    show _ = _
    rw [← formed_eq]
    unfold formedB
    simp only [ho]
    simp
  have HK := Lib.hid (fun w => numbers_any2 b ⟨1, -1, -1⟩ w)
  obtain ⟨N, hN⟩ : ∃ N, numsB b ⟨1, -1, -1⟩ = N := ⟨_, rfl⟩
  rw [hN] at HS HK
  clear hN
  obtain ⟨f0, f1, f2, f3, f4, f5, f6⟩ := bx_two b w ⟨-1, -1, -1⟩
  obtain ⟨g0, g1, g2, g3, g4, g5, g6⟩ := bx_two b w ⟨1, -1, -1⟩

  have e1 : (b.op == 1) = false := by rw [ho]; rfl
  have e2 : (b.op == 2) = false := by rw [ho]; rfl
  have e3 : (b.op == 3) = false := by rw [ho]; rfl
  have e4 : (b.op == 4) = false := by rw [ho]; rfl
  have e5 : (b.op == 5) = false := by rw [ho]; rfl
  have e6 : (b.op == 6) = true := by rw [ho]; rfl
  clear ho
  by_cases a0 : 0 ≤ b.ax
  case neg =>
    go_enter Tryd.func84, Tryd.ntmps84
    go_wp2
    go_ret
    exact Ret.mk (by rw [HS.out]; rw [decide_eq_false (show ¬ (0 ≤ b.ax) by omega)]; simp) (by (repeat (first | exact Below.refl _ _ | assumption | refine Below.alloc ?_ (by first | exact Nat.le_refl _ | exact Below.size (by assumption) | omega | (simp <;> omega)) _ | refine Below.setCell ?_ (by first | exact Nat.le_refl _ | exact Below.size (by assumption) | omega | (simp <;> omega)) _ | refine below_drewN ?_ _ | refine Below.drew ?_)))
  case pos =>
    by_cases a1 : b.ax ≤ 2
    case neg =>
      go_enter Tryd.func84, Tryd.ntmps84
      go_wp2
      go_ret
      exact Ret.mk (by rw [HS.out]; rw [decide_eq_false (show ¬ (b.ax ≤ 2) by omega)]; simp) (by (repeat (first | exact Below.refl _ _ | assumption | refine Below.alloc ?_ (by first | exact Nat.le_refl _ | exact Below.size (by assumption) | omega | (simp <;> omega)) _ | refine Below.setCell ?_ (by first | exact Nat.le_refl _ | exact Below.size (by assumption) | omega | (simp <;> omega)) _ | refine below_drewN ?_ _ | refine Below.drew ?_)))
    case pos =>
      by_cases a2 : b.co = 0
      case neg =>
        have d2 : (b.co != 0) = true := by rw [bne_iff_ne]; exact a2
        have A2 := Lib.hid a2
        clear a2
        go_enter Tryd.func84, Tryd.ntmps84
        go_wp2
        go_ret
        exact Ret.mk (by rw [HS.out]; rw [decide_eq_false A2.out]; simp) (by (repeat (first | exact Below.refl _ _ | assumption | refine Below.alloc ?_ (by first | exact Nat.le_refl _ | exact Below.size (by assumption) | omega | (simp <;> omega)) _ | refine Below.setCell ?_ (by first | exact Nat.le_refl _ | exact Below.size (by assumption) | omega | (simp <;> omega)) _ | refine below_drewN ?_ _ | refine Below.drew ?_)))
      case pos =>
        have d2 : (b.co != 0) = false := by rw [bne_eq_false_iff_eq]; exact a2
        have A2 := Lib.hid a2
        clear a2
        by_cases a3 : b.ps.length = 1
        case neg =>
          have HA := Lib.hid a3
          have hL : ((b.ps.length : Int) == 1) = false := by rw [beq_eq_false_iff_ne]; omega
          clear a3
          go_enter Tryd.func84, Tryd.ntmps84
          go_wp2
          go_ret
          exact Ret.mk (by rw [HS.out]; rw [decide_eq_false HA.out]; simp) (by (repeat (first | exact Below.refl _ _ | assumption | refine Below.alloc ?_ (by first | exact Nat.le_refl _ | exact Below.size (by assumption) | omega | (simp <;> omega)) _ | refine Below.setCell ?_ (by first | exact Nat.le_refl _ | exact Below.size (by assumption) | omega | (simp <;> omega)) _ | refine below_drewN ?_ _ | refine Below.drew ?_)))
        case pos =>
          have hL : ((b.ps.length : Int) == 1) = true := by rw [a3]; rfl
          have HA := Lib.hid a3
          clear a3
          go_enter Tryd.func84, Tryd.ntmps84
          go_wp2_with fail
          refine (HK.out _).mono ?_
          rintro e w2 ⟨rfl, hb2⟩
          have hB2 : Below w.heap.size w w2 := Below.trans (by (repeat (first | exact Below.refl _ _ | assumption | refine Below.alloc ?_ (by first | exact Nat.le_refl _ | exact Below.size (by assumption) | omega | (simp <;> omega)) _ | refine Below.setCell ?_ (by first | exact Nat.le_refl _ | exact Below.size (by assumption) | omega | (simp <;> omega)) _ | refine below_drewN ?_ _ | refine Below.drew ?_))) (hb2.mono (by simp; omega))
          go_wp2
          go_ret
          exact Ret.mk (by rw [HS.out]; rw [decide_eq_true HA.out, decide_eq_true (show 0 ≤ b.ax by omega), decide_eq_true (show b.ax ≤ 2 by omega), decide_eq_true A2.out]; simp) (hB2)
set_option maxRecDepth 100000 in
set_option maxHeartbeats 1000000 in
theorem formed_any (b : BT) (w : World) : Calls Tryd.prog 84 #[valB b] w (Ret (.bool (oneS b)) w) := by
  by_cases o1 : b.op = 1
  · exact formed1_any b w o1
  by_cases o2 : b.op = 2
  · exact formed2_any b w o2
  by_cases o3 : b.op = 3
  · exact formed3_any b w o3
  by_cases o4 : b.op = 4
  · exact formed4_any b w o4
  by_cases o5 : b.op = 5
  · exact formed5_any b w o5
  by_cases o6 : b.op = 6
  · exact formed6_any b w o6
  have HS : Hid (oneS b = false) := by
    show _ = _
    rw [← formed_eq]
    unfold formedB
    rw [if_neg o1, if_neg o2, if_neg (by omega), if_neg o4, if_neg o6]
  obtain ⟨f0, f1, f2, f3, f4, f5, f6⟩ := bx_two b w ⟨-1, -1, -1⟩
  have e1 : (b.op == 1) = false := by simpa using o1
  have e2 : (b.op == 2) = false := by simpa using o2
  have e3 : (b.op == 3) = false := by simpa using o3
  have e4 : (b.op == 4) = false := by simpa using o4
  have e5 : (b.op == 5) = false := by simpa using o5
  have e6 : (b.op == 6) = false := by simpa using o6
  clear o1 o2 o3 o4 o5 o6
  go_enter Tryd.func84, Tryd.ntmps84
  go_wp2
  go_ret
  exact Ret.mk (by rw [HS.out]; rfl) (by (repeat (first | exact Below.refl _ _ | assumption | refine Below.alloc ?_ (by first | exact Nat.le_refl _ | exact Below.size (by assumption) | omega | (simp <;> omega)) _ | refine Below.setCell ?_ (by first | exact Nat.le_refl _ | exact Below.size (by assumption) | omega | (simp <;> omega)) _ | refine below_drewN ?_ _ | refine Below.drew ?_)))
end Go.Proofs.YtbcnkcndhgihaaaDoor

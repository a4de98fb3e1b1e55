/- Blocks: the reference's numbers, formed, allFormed: the walks. Printed by gensc2.py. -/
import Derived.Test.YtbcnkcndhgihaaaDoorSC1
namespace Go.Proofs.YtbcnkcndhgihaaaDoor
open Go.RowKit
set_option linter.unusedSimpArgs false

set_option maxRecDepth 100000 in
set_option maxHeartbeats 4000000 in
theorem numbers_any2 (b : BT) (l : T3) (w : World) : Calls Tryd.prog 97 #[valB b, val3 l] w (Ret (.bool (numsB b l)) w) := by
  have hmx : Tryd.prog.follows .mixedOrders = true := by kernel_rfl
  have HS : Hid (numsB b l = (num1B l.x b.n0 && (num1B l.y b.n1 && num1B l.z b.n2))) := rfl
  have HBX := Lib.hid (BxB.new w b 25)
  have HCX := Lib.hid (CX.new (w.alloc (.cells #[.int .i64 b.op, .int .i64 b.ax, .int .u8 b.co, .int .i64 b.n0, .int .i64 b.n1, .int .i64 b.n2, .slice b.A b.ps.length b.cp] 25)) l)
  obtain ⟨wa, hwa⟩ : ∃ wa, (w.alloc (.cells #[.int .i64 b.op, .int .i64 b.ax, .int .u8 b.co, .int .i64 b.n0, .int .i64 b.n1, .int .i64 b.n2, .slice b.A b.ps.length b.cp] 25)).alloc (.cells #[.int .i64 l.x, .int .i64 l.y, .int .i64 l.z] 22) = wa := ⟨_, rfl⟩
  have hBa : Below w.heap.size w wa := by rw [← hwa]; (repeat (first | exact Below.refl _ _ | assumption | refine Below.alloc ?_ (by first | exact Nat.le_refl _ | exact Below.size (by assumption) | omega | (simp <;> omega)) _ | refine Below.setCell ?_ (by first | exact Nat.le_refl _ | exact Below.size (by assumption) | omega | (simp <;> omega)) _ | refine below_drewN ?_ _ | refine Below.drew ?_))
  have hza : wa.heap.size = w.heap.size + 2 := by rw [← hwa]; simp
  have HXA : Hid (∀ W, Below wa.heap.size wa W → BxB W w.heap.size b ∧ CX W (w.heap.size + 1) l) := by
    intro W hW
    have h1 := HBX.out
    have h2 := HCX.out
    rw [hwa] at h2
    rw [World.size_alloc] at h2
    refine ⟨?_, h2.below hW (by omega)⟩
    have hb : Below (w.alloc (.cells #[.int .i64 b.op, .int .i64 b.ax, .int .u8 b.co, .int .i64 b.n0, .int .i64 b.n1, .int .i64 b.n2, .slice b.A b.ps.length b.cp] 25)).heap.size (w.alloc (.cells #[.int .i64 b.op, .int .i64 b.ax, .int .u8 b.co, .int .i64 b.n0, .int .i64 b.n1, .int .i64 b.n2, .slice b.A b.ps.length b.cp] 25)) wa := by rw [← hwa]; (repeat (first | exact Below.refl _ _ | assumption | refine Below.alloc ?_ (by first | exact Nat.le_refl _ | exact Below.size (by assumption) | omega | (simp <;> omega)) _ | refine Below.setCell ?_ (by first | exact Nat.le_refl _ | exact Below.size (by assumption) | omega | (simp <;> omega)) _ | refine below_drewN ?_ _ | refine Below.drew ?_))
    have h3 := h1.under hb (by simp)
    exact h3.under hW (by omega)
  have HWA := Lib.hid hwa
  clear hwa
  go_enter Tryd.func97, Tryd.ntmps97
  go_wp2
  go_loopw [5] (fun i wr => ∃ j : Nat, j ≤ 3 ∧ i = .int .i64 j ∧ (1 ≤ j → num1B l.x b.n0 = true) ∧ (2 ≤ j → num1B l.y b.n1 = true) ∧ (3 ≤ j → num1B l.z b.n2 = true) ∧ Below wa.heap.size wa wr) (fun i _ => 3 - (intOf i).toNat)
  case atStart => exact ⟨0, by omega, rfl, by omega, by omega, by omega, by rw [HWA.out]; exact Below.refl _ _⟩
  case round =>
    obtain ⟨j, hj, rfl, k0, k1, k2, hB⟩ := hrel
    have K0 := Lib.hid k0; have K1 := Lib.hid k1; have K2 := Lib.hid k2
    clear k0 k1 k2
    obtain ⟨⟨f0, f1, f2, f3, f4, f5, f6⟩, hcx⟩ := HXA.out wr hB
    obtain ⟨x0, x1, x2, _⟩ := hcx.c
    have hBw := hBa.trans (hB.mono hBa.size)
    clear hcx
    rcases (show j = 0 ∨ j = 1 ∨ j = 2 ∨ j = 3 by omega) with rfl | rfl | rfl | rfl
    · by_cases hm : l.x < 0
      · have d1 : decide (l.x < 0) = true := decide_eq_true hm
        have d2 : decide (0 ≤ l.x) = false := decide_eq_false (by omega)
        by_cases hn : b.n0 = 0
        · have d3 : (b.n0 != 0) = false := by simpa using hn
          have h0 : num1B l.x b.n0 = true := by unfold num1B; rw [if_pos hm]; simpa using hn
          clear h0
          go_wp2
          go_quiet (fail)
          go_wp2
          go_roundw
          case rel => have h0 : num1B l.x b.n0 = true := (by unfold num1B; rw [if_pos hm]; simpa using hn); exact ⟨1, by omega, rfl, (fun _ => h0), (fun h => absurd h (by omega)), (fun h => absurd h (by omega)), below_drewN hB _⟩
          case measure => simp [intOf]
        · have d3 : (b.n0 != 0) = true := by simpa using hn
          go_wp2
          go_quiet (fail)
          go_wp2
          go_ret
          have h0 : num1B l.x b.n0 = false := by unfold num1B; rw [if_pos hm]; simpa using hn
          exact Ret.mk (by rw [HS.out, h0]; rfl) (below_drewN hBw _)
      · have d1 : decide (l.x < 0) = false := decide_eq_false hm
        have d2 : decide (0 ≤ l.x) = true := decide_eq_true (by omega)
        by_cases hn : b.n0 < l.x
        · have d3 : decide (b.n0 < l.x) = true := decide_eq_true hn
          go_wp2
          go_quiet (fail)
          go_wp2
          go_ret
          have h0 : num1B l.x b.n0 = false := by unfold num1B; rw [if_neg (by omega)]; simp; omega
          exact Ret.mk (by rw [HS.out, h0]; rfl) (below_drewN hBw _)
        · have d3 : decide (b.n0 < l.x) = false := decide_eq_false hn
          by_cases hn2 : 999 < b.n0
          · have d4 : decide (999 < b.n0) = true := decide_eq_true hn2
            go_wp2
            go_quiet (fail)
            go_wp2
            go_ret
            have h0 : num1B l.x b.n0 = false := by unfold num1B; rw [if_neg (by omega)]; simp; omega
            exact Ret.mk (by rw [HS.out, h0]; rfl) (below_drewN hBw _)
          · have d4 : decide (999 < b.n0) = false := decide_eq_false hn2
            have h0 : num1B l.x b.n0 = true := by unfold num1B; rw [if_neg (by omega)]; simp; omega
            clear h0
            go_wp2
            go_quiet (fail)
            go_wp2
            go_roundw
            case rel => have h0 : num1B l.x b.n0 = true := (by unfold num1B; rw [if_neg (by omega)]; simp; omega); exact ⟨1, by omega, rfl, (fun _ => h0), (fun h => absurd h (by omega)), (fun h => absurd h (by omega)), below_drewN hB _⟩
            case measure => simp [intOf]
    · by_cases hm : l.y < 0
      · have d1 : decide (l.y < 0) = true := decide_eq_true hm
        have d2 : decide (0 ≤ l.y) = false := decide_eq_false (by omega)
        by_cases hn : b.n1 = 0
        · have d3 : (b.n1 != 0) = false := by simpa using hn
          have h0 : num1B l.y b.n1 = true := by unfold num1B; rw [if_pos hm]; simpa using hn
          clear h0
          go_wp2
          go_quiet (fail)
          go_wp2
          go_roundw
          case rel => have h0 : num1B l.y b.n1 = true := (by unfold num1B; rw [if_pos hm]; simpa using hn); exact ⟨2, by omega, rfl, (fun _ => K0.out (by omega)), (fun _ => h0), (fun h => absurd h (by omega)), below_drewN hB _⟩
          case measure => simp [intOf]
        · have d3 : (b.n1 != 0) = true := by simpa using hn
          go_wp2
          go_quiet (fail)
          go_wp2
          go_ret
          have h0 : num1B l.y b.n1 = false := by unfold num1B; rw [if_pos hm]; simpa using hn
          exact Ret.mk (by rw [HS.out, h0]; cases num1B l.x b.n0 <;> rfl) (below_drewN hBw _)
      · have d1 : decide (l.y < 0) = false := decide_eq_false hm
        have d2 : decide (0 ≤ l.y) = true := decide_eq_true (by omega)
        by_cases hn : b.n1 < l.y
        · have d3 : decide (b.n1 < l.y) = true := decide_eq_true hn
          go_wp2
          go_quiet (fail)
          go_wp2
          go_ret
          have h0 : num1B l.y b.n1 = false := by unfold num1B; rw [if_neg (by omega)]; simp; omega
          exact Ret.mk (by rw [HS.out, h0]; cases num1B l.x b.n0 <;> rfl) (below_drewN hBw _)
        · have d3 : decide (b.n1 < l.y) = false := decide_eq_false hn
          by_cases hn2 : 999 < b.n1
          · have d4 : decide (999 < b.n1) = true := decide_eq_true hn2
            go_wp2
            go_quiet (fail)
            go_wp2
            go_ret
            have h0 : num1B l.y b.n1 = false := by unfold num1B; rw [if_neg (by omega)]; simp; omega
            exact Ret.mk (by rw [HS.out, h0]; cases num1B l.x b.n0 <;> rfl) (below_drewN hBw _)
          · have d4 : decide (999 < b.n1) = false := decide_eq_false hn2
            have h0 : num1B l.y b.n1 = true := by unfold num1B; rw [if_neg (by omega)]; simp; omega
            clear h0
            go_wp2
            go_quiet (fail)
            go_wp2
            go_roundw
            case rel => have h0 : num1B l.y b.n1 = true := (by unfold num1B; rw [if_neg (by omega)]; simp; omega); exact ⟨2, by omega, rfl, (fun _ => K0.out (by omega)), (fun _ => h0), (fun h => absurd h (by omega)), below_drewN hB _⟩
            case measure => simp [intOf]
    · by_cases hm : l.z < 0
      · have d1 : decide (l.z < 0) = true := decide_eq_true hm
        have d2 : decide (0 ≤ l.z) = false := decide_eq_false (by omega)
        by_cases hn : b.n2 = 0
        · have d3 : (b.n2 != 0) = false := by simpa using hn
          have h0 : num1B l.z b.n2 = true := by unfold num1B; rw [if_pos hm]; simpa using hn
          clear h0
          go_wp2
          go_quiet (fail)
          go_wp2
          go_roundw
          case rel => have h0 : num1B l.z b.n2 = true := (by unfold num1B; rw [if_pos hm]; simpa using hn); exact ⟨3, by omega, rfl, (fun _ => K0.out (by omega)), (fun _ => K1.out (by omega)), (fun _ => h0), below_drewN hB _⟩
          case measure => simp [intOf]
        · have d3 : (b.n2 != 0) = true := by simpa using hn
          go_wp2
          go_quiet (fail)
          go_wp2
          go_ret
          have h0 : num1B l.z b.n2 = false := by unfold num1B; rw [if_pos hm]; simpa using hn
          exact Ret.mk (by rw [HS.out, h0]; cases num1B l.x b.n0 <;> cases num1B l.y b.n1 <;> rfl) (below_drewN hBw _)
      · have d1 : decide (l.z < 0) = false := decide_eq_false hm
        have d2 : decide (0 ≤ l.z) = true := decide_eq_true (by omega)
        by_cases hn : b.n2 < l.z
        · have d3 : decide (b.n2 < l.z) = true := decide_eq_true hn
          go_wp2
          go_quiet (fail)
          go_wp2
          go_ret
          have h0 : num1B l.z b.n2 = false := by unfold num1B; rw [if_neg (by omega)]; simp; omega
          exact Ret.mk (by rw [HS.out, h0]; cases num1B l.x b.n0 <;> cases num1B l.y b.n1 <;> rfl) (below_drewN hBw _)
        · have d3 : decide (b.n2 < l.z) = false := decide_eq_false hn
          by_cases hn2 : 999 < b.n2
          · have d4 : decide (999 < b.n2) = true := decide_eq_true hn2
            go_wp2
            go_quiet (fail)
            go_wp2
            go_ret
            have h0 : num1B l.z b.n2 = false := by unfold num1B; rw [if_neg (by omega)]; simp; omega
            exact Ret.mk (by rw [HS.out, h0]; cases num1B l.x b.n0 <;> cases num1B l.y b.n1 <;> rfl) (below_drewN hBw _)
          · have d4 : decide (999 < b.n2) = false := decide_eq_false hn2
            have h0 : num1B l.z b.n2 = true := by unfold num1B; rw [if_neg (by omega)]; simp; omega
            clear h0
            go_wp2
            go_quiet (fail)
            go_wp2
            go_roundw
            case rel => have h0 : num1B l.z b.n2 = true := (by unfold num1B; rw [if_neg (by omega)]; simp; omega); exact ⟨3, by omega, rfl, (fun _ => K0.out (by omega)), (fun _ => K1.out (by omega)), (fun _ => h0), below_drewN hB _⟩
            case measure => simp [intOf]
    · go_wp2
      go_ret
      exact Ret.mk (by rw [HS.out, K0.out (by omega), K1.out (by omega), K2.out (by omega)]; rfl) hBw
end Go.Proofs.YtbcnkcndhgihaaaDoor

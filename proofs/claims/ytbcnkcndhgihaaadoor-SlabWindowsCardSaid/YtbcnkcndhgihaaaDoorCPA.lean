/- Blocks: the law's Large, the reference's inside, At: the walks. Printed by gencp.py. Blocks: the law's Large and same, the program's At: the walks. Blocks: the program's At: the walk. Printed by gencp3.py. -/
import Derived.Test.YtbcnkcndhgihaaaDoorCO6
import Derived.Test.YtbcnkcndhgihaaaDoorSLG
import Derived.Test.YtbcnkcndhgihaaaDoorSL2
namespace Go.Proofs.YtbcnkcndhgihaaaDoor
open Go.RowKit
set_option linter.unusedSimpArgs false

def insB (e c : T3) : Bool := (decide (0 ≤ c.x) && decide (c.x < e.x)) && ((decide (0 ≤ c.y) && decide (c.y < e.y)) && (decide (0 ≤ c.z) && decide (c.z < e.z)))
theorem ins_iff {e c : T3} : insB e c = true ↔ InE e c := by
  unfold insB InE
  simp
theorem cx_two (p q : T3) (w : World) : CX ((w.alloc (.cells #[.int .i64 p.x, .int .i64 p.y, .int .i64 p.z] 22)).alloc (.cells #[.int .i64 q.x, .int .i64 q.y, .int .i64 q.z] 22)) w.heap.size p ∧ CX ((w.alloc (.cells #[.int .i64 p.x, .int .i64 p.y, .int .i64 p.z] 22)).alloc (.cells #[.int .i64 q.x, .int .i64 q.y, .int .i64 q.z] 22)) (w.heap.size + 1) q := by
  have h := CX.new (w.alloc (.cells #[.int .i64 p.x, .int .i64 p.y, .int .i64 p.z] 22)) q
  rw [World.size_alloc] at h
  have hb : Below (w.alloc (.cells #[.int .i64 p.x, .int .i64 p.y, .int .i64 p.z] 22)).heap.size (w.alloc (.cells #[.int .i64 p.x, .int .i64 p.y, .int .i64 p.z] 22)) ((w.alloc (.cells #[.int .i64 p.x, .int .i64 p.y, .int .i64 p.z] 22)).alloc (.cells #[.int .i64 q.x, .int .i64 q.y, .int .i64 q.z] 22)) := by (repeat (first | exact Below.refl _ _ | assumption | refine Below.alloc ?_ (by first | exact Nat.le_refl _ | exact Below.size (by assumption) | omega | (simp <;> omega)) _ | refine Below.setCell ?_ (by first | exact Nat.le_refl _ | exact Below.size (by assumption) | omega | (simp <;> omega)) _ | refine below_drewN ?_ _ | refine Below.drew ?_))
  exact ⟨(CX.new w p).below hb (by simp), h⟩
set_option maxRecDepth 100000 in
set_option maxHeartbeats 4000000 in
theorem inside_any (e c : T3) (w : World) : Calls Tryd.prog 57 #[val3 e, val3 c] w (Ret (.bool (insB e c)) w) := by
  have hmx : Tryd.prog.follows .mixedOrders = true := by kernel_rfl
  have HS : Hid (insB e c = ((decide (0 ≤ c.x) && decide (c.x < e.x)) && ((decide (0 ≤ c.y) && decide (c.y < e.y)) && (decide (0 ≤ c.z) && decide (c.z < e.z))))) := rfl
  have HTW := Lib.hid (cx_two e c w)
  obtain ⟨wa, hwa⟩ : ∃ wa, (w.alloc (.cells #[.int .i64 e.x, .int .i64 e.y, .int .i64 e.z] 22)).alloc (.cells #[.int .i64 c.x, .int .i64 c.y, .int .i64 c.z] 22) = wa := ⟨_, rfl⟩
  have hBa : Below w.heap.size w wa := by rw [← hwa]; (repeat (first | exact Below.refl _ _ | assumption | refine Below.alloc ?_ (by first | exact Nat.le_refl _ | exact Below.size (by assumption) | omega | (simp <;> omega)) _ | refine Below.setCell ?_ (by first | exact Nat.le_refl _ | exact Below.size (by assumption) | omega | (simp <;> omega)) _ | refine below_drewN ?_ _ | refine Below.drew ?_))
  have hza : wa.heap.size = w.heap.size + 2 := by rw [← hwa]; simp
  have HXA : Hid (∀ W, Below wa.heap.size wa W → CX W w.heap.size e ∧ CX W (w.heap.size + 1) c) := by
    intro W hW
    have h := HTW.out
    rw [hwa] at h
    exact ⟨h.1.below hW (by omega), h.2.below hW (by omega)⟩
  have HWA := Lib.hid hwa
  clear hwa HTW
  go_enter Tryd.func57, Tryd.ntmps57
  go_wp2
  go_loopw [5] (fun i wr => ∃ j : Nat, j ≤ 3 ∧ i = .int .i64 j ∧ (1 ≤ j → 0 ≤ c.x ∧ c.x < e.x) ∧ (2 ≤ j → 0 ≤ c.y ∧ c.y < e.y) ∧ (3 ≤ j → 0 ≤ c.z ∧ c.z < e.z) ∧ Below wa.heap.size wa wr) (fun i _ => 3 - (intOf i).toNat)
  case atStart => exact ⟨0, by omega, rfl, by omega, by omega, by omega, by rw [HWA.out]; exact Below.refl _ _⟩
  case round =>
    obtain ⟨j, hj, rfl, k0, k1, k2, hB⟩ := hrel
    have K0 := Lib.hid k0; have K1 := Lib.hid k1; have K2 := Lib.hid k2
    clear k0 k1 k2
    obtain ⟨h1, h2⟩ := HXA.out wr hB
    obtain ⟨x0, x1, x2, _⟩ := h1.c
    obtain ⟨y0, y1, y2, _⟩ := h2.c
    have hBw := hBa.trans (hB.mono hBa.size)
    clear h1 h2
    rcases (show j = 0 ∨ j = 1 ∨ j = 2 ∨ j = 3 by omega) with rfl | rfl | rfl | rfl
    · by_cases h0 : c.x < 0
      · have d1 : decide (c.x < 0) = true := decide_eq_true h0
        have HF : Hid (insB e c = false) := by show _ = _; rw [HS.out, show decide (0 ≤ c.x) = false from decide_eq_false (by omega)]; simp
        go_wp2
        go_quiet (fail)
        go_wp2
        go_ret
        exact Ret.mk (by rw [HF.out]; rfl) (below_drewN hBw _)
      · have d1 : decide (c.x < 0) = false := decide_eq_false h0
        by_cases h1 : e.x ≤ c.x
        · have d2 : decide (e.x ≤ c.x) = true := decide_eq_true h1
          have HF : Hid (insB e c = false) := by show _ = _; rw [HS.out, show decide (c.x < e.x) = false from decide_eq_false (by omega)]; simp
          go_wp2
          go_quiet (fail)
          go_wp2
          go_ret
          exact Ret.mk (by rw [HF.out]; rfl) (below_drewN hBw _)
        · have d2 : decide (e.x ≤ c.x) = false := decide_eq_false h1
          go_wp2
          go_quiet (fail)
          go_wp2
          go_roundw
          case rel => exact ⟨1, by omega, rfl, (fun _ => by omega), (fun h => absurd h (by omega)), (fun h => absurd h (by omega)), below_drewN hB _⟩
          case measure => simp [intOf]
    · by_cases h0 : c.y < 0
      · have d1 : decide (c.y < 0) = true := decide_eq_true h0
        have HF : Hid (insB e c = false) := by show _ = _; rw [HS.out, show decide (0 ≤ c.y) = false from decide_eq_false (by omega)]; simp
        go_wp2
        go_quiet (fail)
        go_wp2
        go_ret
        exact Ret.mk (by rw [HF.out]; rfl) (below_drewN hBw _)
      · have d1 : decide (c.y < 0) = false := decide_eq_false h0
        by_cases h1 : e.y ≤ c.y
        · have d2 : decide (e.y ≤ c.y) = true := decide_eq_true h1
          have HF : Hid (insB e c = false) := by show _ = _; rw [HS.out, show decide (c.y < e.y) = false from decide_eq_false (by omega)]; simp
          go_wp2
          go_quiet (fail)
          go_wp2
          go_ret
          exact Ret.mk (by rw [HF.out]; rfl) (below_drewN hBw _)
        · have d2 : decide (e.y ≤ c.y) = false := decide_eq_false h1
          go_wp2
          go_quiet (fail)
          go_wp2
          go_roundw
          case rel => exact ⟨2, by omega, rfl, (fun _ => K0.out (by omega)), (fun _ => by omega), (fun h => absurd h (by omega)), below_drewN hB _⟩
          case measure => simp [intOf]
    · by_cases h0 : c.z < 0
      · have d1 : decide (c.z < 0) = true := decide_eq_true h0
        have HF : Hid (insB e c = false) := by show _ = _; rw [HS.out, show decide (0 ≤ c.z) = false from decide_eq_false (by omega)]; simp
        go_wp2
        go_quiet (fail)
        go_wp2
        go_ret
        exact Ret.mk (by rw [HF.out]; rfl) (below_drewN hBw _)
      · have d1 : decide (c.z < 0) = false := decide_eq_false h0
        by_cases h1 : e.z ≤ c.z
        · have d2 : decide (e.z ≤ c.z) = true := decide_eq_true h1
          have HF : Hid (insB e c = false) := by show _ = _; rw [HS.out, show decide (c.z < e.z) = false from decide_eq_false (by omega)]; simp
          go_wp2
          go_quiet (fail)
          go_wp2
          go_ret
          exact Ret.mk (by rw [HF.out]; rfl) (below_drewN hBw _)
        · have d2 : decide (e.z ≤ c.z) = false := decide_eq_false h1
          go_wp2
          go_quiet (fail)
          go_wp2
          go_roundw
          case rel => exact ⟨3, by omega, rfl, (fun _ => K0.out (by omega)), (fun _ => K1.out (by omega)), (fun _ => by omega), below_drewN hB _⟩
          case measure => simp [intOf]
    · have HT : Hid (insB e c = true) := ins_iff.2 ⟨K0.out (by omega), K1.out (by omega), K2.out (by omega)⟩
      go_wp2
      go_ret
      exact Ret.mk (by rw [HT.out]; rfl) hBw
/-- At: the colour of a cell, or the error. -/
def atB (b : BT) (c : T3) : Int × Int := match formS b with
  | .error x => (0, x)
  | .ok s => if insB s.ext c then (s.at c, 0) else (0, 2)
set_option maxRecDepth 100000 in
set_option maxHeartbeats 2000000 in
theorem refAt_any (b : BT) (c : T3) (w : World) (hb : OkB w w.heap.size b) : Calls Tryd.prog 21 #[valB b, val3 c] w (Ret (.tuple #[.int .u8 (atB b c).1, .int .i64 (atB b c).2]) w) := by
  obtain ⟨x, y, z⟩ := c
  obtain ⟨wa, hwa⟩ : ∃ wa, (w.alloc (.cells #[.int .i64 b.op, .int .i64 b.ax, .int .u8 b.co, .int .i64 b.n0, .int .i64 b.n1, .int .i64 b.n2, .slice b.A b.ps.length b.cp] 25)).alloc (.cells #[.int .i64 x, .int .i64 y, .int .i64 z] 22) = wa := ⟨_, rfl⟩
  have hBa : Below w.heap.size w wa := by rw [← hwa]; (repeat (first | exact Below.refl _ _ | assumption | refine Below.alloc ?_ (by first | exact Nat.le_refl _ | exact Below.size (by assumption) | omega | (simp <;> omega)) _ | refine Below.setCell ?_ (by first | exact Nat.le_refl _ | exact Below.size (by assumption) | omega | (simp <;> omega)) _ | refine below_drewN ?_ _ | refine Below.drew ?_))
  have hza : wa.heap.size = w.heap.size + 2 := by rw [← hwa]; simp
  have HXA : Hid (∀ W, Below wa.heap.size wa W → BxB W w.heap.size b ∧ CX W (w.heap.size + 1) ⟨x, y, z⟩) := by
    intro W hW
    have h1 := bx_two b w ⟨x, y, z⟩
    have h2 := CX.new (w.alloc (.cells #[.int .i64 b.op, .int .i64 b.ax, .int .u8 b.co, .int .i64 b.n0, .int .i64 b.n1, .int .i64 b.n2, .slice b.A b.ps.length b.cp] 25)) ⟨x, y, z⟩
    rw [hwa] at h2
    rw [World.size_alloc] at h2
    dsimp only at h1
    rw [hwa] at h1
    exact ⟨h1.under hW (by omega), h2.below hW (by omega)⟩
  have HE := Lib.hid (fun W (hB : Below w.heap.size w W) => refExtent_any b W (hb.now hB))
  have HCOL := Lib.hid (fun S (h : formS b = .ok S) (hi : InE S.ext ⟨x, y, z⟩) W (hB : Below w.heap.size w W) => col_any b S (form_whole h).2 (form_whole h).1 ⟨x, y, z⟩ W hi (hb.now hB))
  clear hb
  have HWA := Lib.hid hwa
  clear hwa
  obtain ⟨⟨f0, f1, f2, f3, f4, f5, f6⟩, _⟩ := HXA.out wa (Below.refl _ _)
  rw [← HWA.out] at f0 f1 f2 f3 f4 f5 f6
  have hlt0 : w.heap.size + 1 < wa.heap.size := by omega
  cases hf : formS b with
  | error er =>
    have hx := form_err hf
    have hE : extB b = (⟨0, 0, 0⟩, er) := by unfold extB; rw [hf]
    have HS : Hid (atB b ⟨x, y, z⟩ = (0, er)) := by show _ = _; unfold atB; rw [hf]
    rw [hE] at HE
    dsimp only at HE
    have hne : (er != 0) = true := by simp; omega
    clear hE hf hx
    go_enter Tryd.func21, Tryd.ntmps21
    go_wp2_with fail
    rw [HWA.out]
    refine (HE.out _ hBa).mono ?_
    rintro e w2 ⟨rfl, hb2⟩
    have hB2 := hBa.trans (hb2.mono hBa.size)
    have hs2 := hB2.size
    clear f0 f1 f2 f3 f4 f5 f6
    go_wp2
    go_ret2
    exact Ret.mk (by rw [HS.out]; rfl) (by (repeat (first | exact Below.refl _ _ | assumption | refine Below.alloc ?_ (by first | exact Nat.le_refl _ | exact Below.size (by assumption) | omega | (simp <;> omega)) _ | refine Below.setCell ?_ (by first | exact Nat.le_refl _ | exact Below.size (by assumption) | omega | (simp <;> omega)) _ | refine below_drewN ?_ _ | refine Below.drew ?_)))
  | ok S =>
    have hE : extB b = (S.ext, 0) := by unfold extB; rw [hf]
    have hS : atB b ⟨x, y, z⟩ = if insB S.ext ⟨x, y, z⟩ then (S.at ⟨x, y, z⟩, 0) else (0, 2) := by unfold atB; rw [hf]
    rw [hE] at HE
    dsimp only at HE
    have HC := Lib.hid (HCOL.out S hf)
    have HI := Lib.hid (fun W => inside_any S.ext ⟨x, y, z⟩ W)
    have HIN := Lib.hid (ins_iff (e := S.ext) (c := ⟨x, y, z⟩))
    generalize S.at ⟨x, y, z⟩ = v at HC hS
    obtain ⟨t, ht⟩ : ∃ t, S.ext = t := ⟨_, rfl⟩
    rw [ht] at HE HC HI HIN hS
    obtain ⟨t1, t2, t3⟩ := t
    have HSF := Lib.hid (fun (h : insB ⟨t1, t2, t3⟩ ⟨x, y, z⟩ = false) => hS.trans (if_neg (by rw [h]; simp)))
    have HST := Lib.hid (fun (h : insB ⟨t1, t2, t3⟩ ⟨x, y, z⟩ = true) => hS.trans (if_pos h))
    clear hE hf ht HCOL hS
    go_enter Tryd.func21, Tryd.ntmps21
    go_wp2_with fail
    rw [HWA.out]
    refine (HE.out _ hBa).mono ?_
    rintro e w2 ⟨rfl, hb2⟩
    have hB2 := hBa.trans (hb2.mono hBa.size)
    have hs2 := hb2.size
    clear f0 f1 f2 f3 f4 f5 f6
    obtain ⟨⟨f0, f1, f2, f3, f4, f5, f6⟩, hX⟩ := HXA.out (w2.alloc (.cells #[.int .i64 t1, .int .i64 t2, .int .i64 t3] 22)) (by (repeat (first | exact Below.refl _ _ | assumption | refine Below.alloc ?_ (by first | exact Nat.le_refl _ | exact Below.size (by assumption) | omega | (simp <;> omega)) _ | refine Below.setCell ?_ (by first | exact Nat.le_refl _ | exact Below.size (by assumption) | omega | (simp <;> omega)) _ | refine below_drewN ?_ _ | refine Below.drew ?_)))
    obtain ⟨x0, x1, x2, _⟩ := hX.c
    cases hi : insB ⟨t1, t2, t3⟩ ⟨x, y, z⟩
    · rw [hi] at HI
      have HS := Lib.hid (HSF.out hi)
      clear hi
      go_wp2_with fail
      refine (HI.out _).mono ?_
      rintro e w3 ⟨rfl, hb3⟩
      have hB3 : Below w.heap.size w w3 := Below.trans (b := w2.alloc (.cells #[.int .i64 t1, .int .i64 t2, .int .i64 t3] 22)) (by (repeat (first | exact Below.refl _ _ | assumption | refine Below.alloc ?_ (by first | exact Nat.le_refl _ | exact Below.size (by assumption) | omega | (simp <;> omega)) _ | refine Below.setCell ?_ (by first | exact Nat.le_refl _ | exact Below.size (by assumption) | omega | (simp <;> omega)) _ | refine below_drewN ?_ _ | refine Below.drew ?_))) (hb3.mono (by have := hB2.size; simp; omega))
      clear f0 f1 f2 f3 f4 f5 f6 x0 x1 x2 hX
      go_wp2
      go_ret2
      exact Ret.mk (by rw [HS.out]; rfl) hB3
    · have hin := HIN.out.1 hi
      rw [hi] at HI
      have HS := Lib.hid (HST.out hi)
      have HC2 := Lib.hid (HC.out hin)
      clear hi hin HC
      go_wp2_with fail
      refine (HI.out _).mono ?_
      rintro e w3 ⟨rfl, hb3⟩
      have hba3 : Below wa.heap.size wa w3 := Below.trans (b := w2.alloc (.cells #[.int .i64 t1, .int .i64 t2, .int .i64 t3] 22)) (by (repeat (first | exact Below.refl _ _ | assumption | refine Below.alloc ?_ (by first | exact Nat.le_refl _ | exact Below.size (by assumption) | omega | (simp <;> omega)) _ | refine Below.setCell ?_ (by first | exact Nat.le_refl _ | exact Below.size (by assumption) | omega | (simp <;> omega)) _ | refine below_drewN ?_ _ | refine Below.drew ?_))) (hb3.mono (by simp; omega))
      have hB3 := hBa.trans (hba3.mono hBa.size)
      clear f0 f1 f2 f3 f4 f5 f6 x0 x1 x2 hX
      obtain ⟨⟨f0, f1, f2, f3, f4, f5, f6⟩, hX⟩ := HXA.out w3 hba3
      obtain ⟨x0, x1, x2, _⟩ := hX.c
      go_wp2_with fail
      refine (HC2.out _ hB3).mono ?_
      rintro e w4 ⟨rfl, hb4⟩
      have hB4 := hB3.trans (hb4.mono hB3.size)
      go_wp2
      go_ret2
      exact Ret.mk (by rw [HS.out]; rfl) hB4
end Go.Proofs.YtbcnkcndhgihaaaDoor

namespace Go.Proofs.YtbcnkcndhgihaaaDoor
open Go.RowKit
set_option linter.unusedSimpArgs false

theorem RdST.now {w w' : World} {A : Option Addr} {l : List ByteArray} (h : RdST w w.heap.size A l) (hb : Below w.heap.size w w') : RdST w' w'.heap.size A l := by
  intro i v hi
  obtain ⟨b, off, hA, hbb, hc⟩ := h i v hi
  exact ⟨b, off, hA, Nat.lt_of_lt_of_le hbb hb.size, (hb.cell (p := ⟨b, off + i, none⟩) hbb).trans hc⟩
set_option maxRecDepth 100000 in
set_option maxHeartbeats 2000000 in
/-- Two lists that read the same are the same. -/
theorem same_any (A A' : Option Addr) (c c' : Nat) (l : List ByteArray) (w : World) (h : RdST w w.heap.size A l) (h' : RdST w w.heap.size A' l) (hm : l.length ≤ 1000000) : Calls Tryd.prog 26 #[.slice A l.length c, .slice A' l.length c'] w (Ret (.bool true) w) := by
  have hmx : Tryd.prog.follows .mixedOrders = true := by kernel_rfl
  have HL := Lib.hid h; have HR := Lib.hid h'
  clear h h'
  go_enter Tryd.func26, Tryd.ntmps26
  go_wp2
  go_loopw [5] (fun i wr => ∃ k : Nat, k ≤ l.length ∧ i = .int .i64 k ∧ Below w.heap.size w wr) (fun i _ => l.length - (intOf i).toNat)
  case atStart => exact ⟨0, Nat.zero_le _, rfl, Below.refl _ _⟩
  case round =>
    obtain ⟨k, hk, rfl, hB⟩ := hrel
    by_cases hlt : k < l.length
    · obtain ⟨q, hq⟩ := getElem?_of_lt hlt
      obtain ⟨b1, o1, hA1, hb1, c1⟩ := (HL.out.now hB) k q hq
      obtain ⟨b2, o2, hA2, hb2, c2⟩ := (HR.out.now hB) k q hq
      have heq : ∀ W, (binOp .neq 9 (.string q) (.string q)).run Tryd.prog W = .ok (.bool false) W := fun W => by
        have u3 := Tryd.underlying9
        go_simp
      subst hA1 hA2
      clear hq
      go_wp2
      go_quiet (fail)
      go_wp2
      go_roundw
      case rel => exact ⟨k + 1, by omega, by go_num, below_drewN hB _⟩
      case measure => simp [intOf]; omega
    · go_wp2
      go_ret
      exact Ret.mk rfl hB
end Go.Proofs.YtbcnkcndhgihaaaDoor

namespace Go.Proofs.YtbcnkcndhgihaaaDoor
open Go.RowKit
set_option linter.unusedSimpArgs false

set_option maxRecDepth 100000 in
set_option maxHeartbeats 4000000 in
theorem At_any (b : BT) (c : T3) (w : World) (hb : OkB w w.heap.size b) : Calls Tryd.prog 20 #[valB b, val3 c] w (Ret (.tuple #[.int .u8 (atB b c).1, .int .i64 (atB b c).2]) w) := by
  obtain ⟨x, y, z⟩ := c
  obtain ⟨wa, hwa⟩ : ∃ wa, (w.alloc (.cells #[.int .i64 b.op, .int .i64 b.ax, .int .u8 b.co, .int .i64 b.n0, .int .i64 b.n1, .int .i64 b.n2, .slice b.A b.ps.length b.cp] 25)).alloc (.cells #[.int .i64 x, .int .i64 y, .int .i64 z] 22) = wa := ⟨_, rfl⟩
  have hBa : Below w.heap.size w wa := by rw [← hwa]; (repeat (first | exact Below.refl _ _ | assumption | refine Below.alloc ?_ (by first | exact Nat.le_refl _ | exact Below.size (by assumption) | omega | (simp <;> omega)) _ | refine Below.setCell ?_ (by first | exact Nat.le_refl _ | exact Below.size (by assumption) | omega | (simp <;> omega)) _ | refine below_drewN ?_ _ | refine Below.drew ?_))
  have hza : wa.heap.size = w.heap.size + 2 := by rw [← hwa]; simp
  have HXA : Hid (∀ W, Below wa.heap.size wa W → CX W (w.heap.size + 1) ⟨x, y, z⟩) := by
    intro W hW
    have h2 := CX.new (w.alloc (.cells #[.int .i64 b.op, .int .i64 b.ax, .int .u8 b.co, .int .i64 b.n0, .int .i64 b.n1, .int .i64 b.n2, .slice b.A b.ps.length b.cp] 25)) ⟨x, y, z⟩
    rw [hwa] at h2
    rw [World.size_alloc] at h2
    exact h2.below hW (by omega)
  have HFORM := Lib.hid (form_any b wa (hb.now hBa))
  have hbx := bx_two b w ⟨x, y, z⟩
  clear hb
  have HWA := Lib.hid hwa
  clear hwa
  obtain ⟨f0, f1, f2, f3, f4, f5, f6⟩ := hbx
  have hlt0 : w.heap.size + 1 < wa.heap.size := by omega
  go_enter Tryd.func20, Tryd.ntmps20
  go_wp2_with fail
  rw [HWA.out]
  refine HFORM.out.mono ?_
  rintro e w2 ⟨hb2, v, er, rfl, hok, her⟩
  have hB2 := hBa.trans (hb2.mono hBa.size)
  clear f0 f1 f2 f3 f4 f5 f6
  cases hf : formS b with
  | error er2 =>
    obtain rfl := her er2 hf
    have hx := form_err hf
    have HS : Hid (atB b ⟨x, y, z⟩ = (0, er)) := by show _ = _; unfold atB; rw [hf]
    have hne : (er != 0) = true := by simp; omega
    clear hf hx hok her
    go_wp2
    go_ret2
    exact Ret.mk (by rw [HS.out]; rfl) hB2
  | ok S =>
    obtain ⟨rfl, rfl⟩ := hok S hf
    have hSok := form_ok hf
    have hS : atB b ⟨x, y, z⟩ = if insB S.ext ⟨x, y, z⟩ then (S.at ⟨x, y, z⟩, 0) else (0, 2) := by unfold atB; rw [hf]
    have HAT := Lib.hid (fun W => at_any S hSok ⟨x, y, z⟩ W)
    have HIN := Lib.hid (ins_iff (e := S.ext) (c := ⟨x, y, z⟩))
    have hbd := hSok.ext
    have hm := S.ma
    have hea := S.ea
    generalize S.at ⟨x, y, z⟩ = v at HAT hS
    obtain ⟨t, ht⟩ : ∃ t, S.ext = t := ⟨_, rfl⟩
    have hx := S.me
    rw [ht] at HAT HIN hS hbd hx
    obtain ⟨t1, t2, t3⟩ := t
    unfold ExtOk at hbd
    dsimp only at hbd
    have i0 := ix0 t1 t2 t3
    have i1 := ix1 t1 t2 t3
    have i2 := ix2 t1 t2 t3
    have hw1 : wrap64 (t1 - 1) = t1 - 1 := w64b (by omega) (by omega)
    have hw2 : wrap64 (t2 - 1) = t2 - 1 := w64b (by omega) (by omega)
    have hw3 : wrap64 (t3 - 1) = t3 - 1 := w64b (by omega) (by omega)
    have HSF := Lib.hid (fun (h : ¬ InE ⟨t1, t2, t3⟩ ⟨x, y, z⟩) => hS.trans (if_neg (fun hh => h (HIN.out.1 hh))))
    have HST := Lib.hid (fun (h : InE ⟨t1, t2, t3⟩ ⟨x, y, z⟩) => hS.trans (if_pos (HIN.out.2 h)))
    clear hf ht hS hok her hSok HIN
    go_wp2_with fail
    refine (ext_ret ⟨t1, t2, t3⟩ _).mono ?_
    rintro e w3 ⟨rfl, hb3⟩
    have hba3 := hb2.trans (hb3.mono hb2.size)
    have hB3 := hBa.trans (hba3.mono hBa.size)
    go_wp2
    go_loopw [8, 9, 20] (fun _ _ i wr => ∃ j : Nat, j ≤ 3 ∧ i = .int .i64 j ∧ (1 ≤ j → 0 ≤ x ∧ x < t1) ∧ (2 ≤ j → 0 ≤ y ∧ y < t2) ∧ (3 ≤ j → 0 ≤ z ∧ z < t3) ∧ Below wa.heap.size wa wr) (fun _ _ i _ => 3 - (intOf i).toNat)
    case atStart => exact ⟨0, by omega, rfl, by omega, by omega, by omega, hba3⟩
    case round =>
      obtain ⟨j, hj, rfl, k0, k1, k2, hB⟩ := hrel
      have K0 := Lib.hid k0; have K1 := Lib.hid k1; have K2 := Lib.hid k2
      clear k0 k1 k2
      have hX := HXA.out wr hB
      obtain ⟨y0, y1, y2, _⟩ := hX.c
      have hBw := hBa.trans (hB.mono hBa.size)
      clear hX
      rcases (show j = 0 ∨ j = 1 ∨ j = 2 ∨ j = 3 by omega) with rfl | rfl | rfl | rfl
      · by_cases h0 : 0 ≤ x ∧ x < t1
        · have hbt : btw 0 x (t1 - 1) = true := by unfold btw; simp; omega
          go_wp2_with fail
          refine (between_any _ _ _ _).mono ?_
          rintro e w9 ⟨rfl, rfl⟩
          rw [hbt]
          go_wp2
          go_roundw
          case rel => exact ⟨1, by omega, rfl, (fun _ => by omega), (fun h => absurd h (by omega)), (fun h => absurd h (by omega)), hB⟩
          case measure => simp [intOf]
        · have hbt : btw 0 x (t1 - 1) = false := by unfold btw; simp; omega
          have HF := Lib.hid (HSF.out (fun h => by have := h.1; dsimp only at this; omega))
          go_wp2_with fail
          refine (between_any _ _ _ _).mono ?_
          rintro e w9 ⟨rfl, rfl⟩
          rw [hbt]
          go_wp2
          go_ret2
          exact Ret.mk (by rw [HF.out]; rfl) hBw
      · by_cases h0 : 0 ≤ y ∧ y < t2
        · have hbt : btw 0 y (t2 - 1) = true := by unfold btw; simp; omega
          go_wp2_with fail
          refine (between_any _ _ _ _).mono ?_
          rintro e w9 ⟨rfl, rfl⟩
          rw [hbt]
          go_wp2
          go_roundw
          case rel => exact ⟨2, by omega, rfl, (fun _ => K0.out (by omega)), (fun _ => by omega), (fun h => absurd h (by omega)), hB⟩
          case measure => simp [intOf]
        · have hbt : btw 0 y (t2 - 1) = false := by unfold btw; simp; omega
          have HF := Lib.hid (HSF.out (fun h => by have := h.2.1; dsimp only at this; omega))
          go_wp2_with fail
          refine (between_any _ _ _ _).mono ?_
          rintro e w9 ⟨rfl, rfl⟩
          rw [hbt]
          go_wp2
          go_ret2
          exact Ret.mk (by rw [HF.out]; rfl) hBw
      · by_cases h0 : 0 ≤ z ∧ z < t3
        · have hbt : btw 0 z (t3 - 1) = true := by unfold btw; simp; omega
          go_wp2_with fail
          refine (between_any _ _ _ _).mono ?_
          rintro e w9 ⟨rfl, rfl⟩
          rw [hbt]
          go_wp2
          go_roundw
          case rel => exact ⟨3, by omega, rfl, (fun _ => K0.out (by omega)), (fun _ => K1.out (by omega)), (fun _ => by omega), hB⟩
          case measure => simp [intOf]
        · have hbt : btw 0 z (t3 - 1) = false := by unfold btw; simp; omega
          have HF := Lib.hid (HSF.out (fun h => by have := h.2.2; dsimp only at this; omega))
          go_wp2_with fail
          refine (between_any _ _ _ _).mono ?_
          rintro e w9 ⟨rfl, rfl⟩
          rw [hbt]
          go_wp2
          go_ret2
          exact Ret.mk (by rw [HF.out]; rfl) hBw
      · have hin : InE ⟨t1, t2, t3⟩ ⟨x, y, z⟩ := ⟨K0.out (by omega), K1.out (by omega), K2.out (by omega)⟩
        have HT := Lib.hid (HST.out hin)
        have HC := Lib.hid (fun W => HAT.out W hin)
        clear hin
        go_wp2_with fail
        refine (HC.out _).mono ?_
        rintro e w4 ⟨rfl, hb4⟩
        have hB4 := hBw.trans (hb4.mono hBw.size)
        go_wp2
        go_ret2
        exact Ret.mk (by rw [HT.out]; rfl) hB4
end Go.Proofs.YtbcnkcndhgihaaaDoor

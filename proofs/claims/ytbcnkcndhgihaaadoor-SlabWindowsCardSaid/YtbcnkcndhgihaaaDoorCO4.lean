/- Blocks: the reference's colour at repeats: the walk. Printed by gencol.py. -/
import Derived.Test.YtbcnkcndhgihaaaDoorSC7
namespace Go.Proofs.YtbcnkcndhgihaaaDoor
open Go.RowKit
set_option linter.unusedSimpArgs false


set_option maxRecDepth 100000 in
set_option maxHeartbeats 4000000 in
theorem col_rep0 (p : BT) (s : Sh) (co n0 n1 n2 : Int) (cp bb off : Nat) (x y z t1 t2 t3 v : Int) (w : World) (hwp : wholeS p = true) (hs : builtS p = .ok s) (he : s.ext = ⟨t1, t2, t3⟩)
    (hbd : (1 ≤ t1 ∧ t1 ≤ 200) ∧ (1 ≤ t2 ∧ t2 ≤ 200) ∧ 1 ≤ t3 ∧ t3 ≤ 200) (hcd : (0 ≤ x ∧ x ≤ 1000) ∧ (0 ≤ y ∧ y ≤ 1000) ∧ 0 ≤ z ∧ z ≤ 1000) (hbb : bb < w.heap.size) (hc : w.cell? ⟨bb, off, none⟩ = some (.int .i64 p.op) ∧ w.cell? ⟨bb, off + 1, none⟩ = some (.int .i64 p.ax) ∧ w.cell? ⟨bb, off + 2, none⟩ = some (.int .u8 p.co) ∧ w.cell? ⟨bb, off + 3, none⟩ = some (.int .i64 p.n0) ∧ w.cell? ⟨bb, off + 4, none⟩ = some (.int .i64 p.n1) ∧ w.cell? ⟨bb, off + 5, none⟩ = some (.int .i64 p.n2) ∧ w.cell? ⟨bb, off + 6, none⟩ = some (.slice p.A p.ps.length p.cp))
    (hkp : ∀ W, Below w.heap.size w W → OkB W W.heap.size p)
    (hv : ∀ W, OkB W W.heap.size p → Calls Tryd.prog 58 #[valB p, val3 ⟨x % t1, y, z⟩] W (Ret (.int .u8 v) W)) : Calls Tryd.prog 58 #[.agg #[.int .i64 6, .int .i64 0, .int .u8 co, .int .i64 n0, .int .i64 n1, .int .i64 n2, .slice (some ⟨bb, off, none⟩) 1 cp], val3 ⟨x, y, z⟩] w (Ret (.int .u8 v) w) := by
  have hmx : Tryd.prog.follows .mixedOrders = true := by kernel_rfl
  obtain ⟨c0, c1, c2, c3, c4, c5, c6⟩ := hc
  have HKP := Lib.hid hkp
  have HM := Lib.hid (fun W (hB : Below w.heap.size w W) => meas_any p W hwp (HKP.out W hB))
  rw [meas_ok hs, he] at HM
  dsimp only at HM
  obtain ⟨wa, hwa⟩ : ∃ wa, (w.alloc (.cells #[.int .i64 6, .int .i64 0, .int .u8 co, .int .i64 n0, .int .i64 n1, .int .i64 n2, .slice (some ⟨bb, off, none⟩) 1 cp] 25)).alloc (.cells #[.int .i64 x, .int .i64 y, .int .i64 z] 22) = wa := ⟨_, rfl⟩
  have hBa : Below w.heap.size w wa := by rw [← hwa]; (repeat (first | exact Below.refl _ _ | assumption | refine Below.alloc ?_ (by first | exact Nat.le_refl _ | exact Below.size (by assumption) | omega | (simp <;> omega)) _ | refine Below.setCell ?_ (by first | exact Nat.le_refl _ | exact Below.size (by assumption) | omega | (simp <;> omega)) _ | refine below_drewN ?_ _ | refine Below.drew ?_))
  have hza : wa.heap.size = w.heap.size + 2 := by rw [← hwa]; simp
  have HF : Hid (∀ W, Below wa.heap.size wa W → (W.cell? ⟨w.heap.size, 0, none⟩ = some (.int .i64 6) ∧ W.cell? ⟨w.heap.size, 1, none⟩ = some (.int .i64 0) ∧ W.cell? ⟨w.heap.size, 2, none⟩ = some (.int .u8 co) ∧ W.cell? ⟨w.heap.size, 3, none⟩ = some (.int .i64 n0) ∧ W.cell? ⟨w.heap.size, 4, none⟩ = some (.int .i64 n1) ∧ W.cell? ⟨w.heap.size, 5, none⟩ = some (.int .i64 n2) ∧ W.cell? ⟨w.heap.size, 6, none⟩ = some (.slice (some ⟨bb, off, none⟩) 1 cp)) ∧
      CX W (w.heap.size + 1) ⟨x, y, z⟩ ∧ (W.cell? ⟨bb, off, none⟩ = some (.int .i64 p.op) ∧ W.cell? ⟨bb, off + 1, none⟩ = some (.int .i64 p.ax) ∧ W.cell? ⟨bb, off + 2, none⟩ = some (.int .u8 p.co) ∧ W.cell? ⟨bb, off + 3, none⟩ = some (.int .i64 p.n0) ∧ W.cell? ⟨bb, off + 4, none⟩ = some (.int .i64 p.n1) ∧ W.cell? ⟨bb, off + 5, none⟩ = some (.int .i64 p.n2) ∧ W.cell? ⟨bb, off + 6, none⟩ = some (.slice p.A p.ps.length p.cp)) ∧ Below w.heap.size w W) := by
    intro W hW
    have h1 := bx_two (.mk 6 0 co n0 n1 n2 (some ⟨bb, off, none⟩) cp [p]) w ⟨x, y, z⟩
    have h2 := CX.new (w.alloc (.cells #[.int .i64 6, .int .i64 0, .int .u8 co, .int .i64 n0, .int .i64 n1, .int .i64 n2, .slice (some ⟨bb, off, none⟩) 1 cp] 25)) ⟨x, y, z⟩
    rw [hwa] at h2
    rw [World.size_alloc] at h2
    dsimp only [BT.op, BT.ax, BT.co, BT.n0, BT.n1, BT.n2, BT.A, BT.cp, BT.ps, List.length_singleton] at h1
    rw [hwa] at h1
    obtain ⟨g0, g1, g2, g3, g4, g5, g6⟩ := h1.under hW (by omega)
    have hBW := hBa.trans (hW.mono hBa.size)
    exact ⟨⟨g0, g1, g2, g3, g4, g5, g6⟩, h2.below hW (by omega), ⟨(hBW.cell hbb).trans c0, (hBW.cell hbb).trans c1, (hBW.cell hbb).trans c2, (hBW.cell hbb).trans c3, (hBW.cell hbb).trans c4, (hBW.cell hbb).trans c5, (hBW.cell hbb).trans c6⟩, hBW⟩
  have HWA := Lib.hid hwa
  have HV := Lib.hid hv
  have hlt0 : w.heap.size + 1 < wa.heap.size := by omega
  clear hwa c0 c1 c2 c3 c4 c5 c6 hs he hv hwp hkp
  obtain ⟨⟨f0, f1, f2, f3, f4, f5, f6⟩, hX, ⟨c0, c1, c2, c3, c4, c5, c6⟩, _⟩ := HF.out wa (Below.refl _ _)
  rw [← HWA.out] at c0 c1 c2 c3 c4 c5 c6 f0 f1 f2 f3 f4 f5 f6
  go_enter Tryd.func58, Tryd.ntmps58
  go_wp2_with fail
  rw [HWA.out]
  refine (HM.out _ hBa).mono ?_
  rintro e w5 ⟨rfl, hb5⟩
  clear f0 f1 f2 f3 f4 f5 f6 c0 c1 c2 c3 c4 c5 c6 hX HM HWA
  have hs5 := hb5.size
  have hb6 : Below wa.heap.size wa (w5.alloc (.cells #[.int .i64 t1, .int .i64 t2, .int .i64 t3] 22)) := hb5.alloc hs5 _
  have hb7 : Below wa.heap.size wa ((w5.alloc (.cells #[.int .i64 t1, .int .i64 t2, .int .i64 t3] 22)).alloc (.cells #[.int .i64 x, .int .i64 y, .int .i64 z] 22)) := by (repeat (first | exact Below.refl _ _ | assumption | refine Below.alloc ?_ (by first | exact Nat.le_refl _ | exact Below.size (by assumption) | omega | (simp <;> omega)) _ | refine Below.setCell ?_ (by first | exact Nat.le_refl _ | exact Below.size (by assumption) | omega | (simp <;> omega)) _ | refine below_drewN ?_ _ | refine Below.drew ?_))
  have hXX := (HF.out _ hb6).2.1
  obtain ⟨x0, x1, x2, _⟩ := hXX.c
  obtain ⟨⟨f0, f1, f2, f3, f4, f5, f6⟩, hX7, _⟩ := HF.out _ hb7
  obtain ⟨z0, z1, z2, _⟩ := hX7.c
  have HZ : Hid (∀ W, Below ((w5.alloc (.cells #[.int .i64 t1, .int .i64 t2, .int .i64 t3] 22)).alloc (.cells #[.int .i64 x, .int .i64 y, .int .i64 z] 22)).heap.size ((w5.alloc (.cells #[.int .i64 t1, .int .i64 t2, .int .i64 t3] 22)).alloc (.cells #[.int .i64 x, .int .i64 y, .int .i64 z] 22)) W → Below wa.heap.size wa W ∧ CX W w5.heap.size ⟨t1, t2, t3⟩ ∧ CX W (w5.heap.size + 1) ⟨x, y, z⟩) := by
    intro W h
    have h1 := (CX.new w5 ⟨t1, t2, t3⟩).below (B := (w5.alloc (.cells #[.int .i64 t1, .int .i64 t2, .int .i64 t3] 22)).heap.size) (w' := W) (below_next (by (repeat (first | exact Below.refl _ _ | assumption | refine Below.alloc ?_ (by first | exact Nat.le_refl _ | exact Below.size (by assumption) | omega | (simp <;> omega)) _ | refine Below.setCell ?_ (by first | exact Nat.le_refl _ | exact Below.size (by assumption) | omega | (simp <;> omega)) _ | refine below_drewN ?_ _ | refine Below.drew ?_))) h) (by simp)
    have h2 := (CX.new (w5.alloc (.cells #[.int .i64 t1, .int .i64 t2, .int .i64 t3] 22)) ⟨x, y, z⟩).below h (by simp)
    rw [World.size_alloc] at h2
    exact ⟨hb7.trans (h.mono hb7.size), h1, h2⟩
  clear hXX hX7
  go_wp2
  refine region_const hmx (by kernel_rfl) ?_
  repeat (first | (refine k_read rfl (by skip; go_simp; rfl) ?_; simp only [Act.put, List.setIfInBounds_toArray, List.set_cons_succ, List.set_cons_zero]) | (refine k_skip (by first | (simp [Region.wanted, yielded]; done) | (simp [Region.wanted, yielded]; intro h; cases h)) ?_; simp only [Act.put, List.setIfInBounds_toArray, List.set_cons_succ, List.set_cons_zero]))
  refine l_nil ?_
  clear f0 f1 f2 f3 f4 f5 f6 x0 x1 x2 z0 z1 z2
  have hwi : Int.tmod x t1 = x % t1 := Int.tmod_eq_emod_of_nonneg (by omega)
  have hne : (t1 == 0) = false := by rw [beq_eq_false_iff_ne]; omega
  have hne2 : ¬ t1 = 0 := by omega
  have hmb := Int.emod_nonneg x (b := t1) (by omega)
  have hmb2 := Int.emod_lt_of_pos x (b := t1) (by omega)
  have hwj : IntKind.i64.wrap (x % t1) = x % t1 := IntWalk.i64_in _ (by omega)
  obtain ⟨hz1, hz2, hz3⟩ := HZ.out (((w5.alloc (.cells #[.int .i64 t1, .int .i64 t2, .int .i64 t3] 22)).alloc (.cells #[.int .i64 x, .int .i64 y, .int .i64 z] 22)).drew) (by (repeat (first | exact Below.refl _ _ | assumption | refine Below.alloc ?_ (by first | exact Nat.le_refl _ | exact Below.size (by assumption) | omega | (simp <;> omega)) _ | refine Below.setCell ?_ (by first | exact Nat.le_refl _ | exact Below.size (by assumption) | omega | (simp <;> omega)) _ | refine below_drewN ?_ _ | refine Below.drew ?_)))
  obtain ⟨⟨f0, f1, f2, f3, f4, f5, f6⟩, _, _, _⟩ := HF.out _ hz1
  clear hz1 hz2 hz3
  go_wp2
  clear f0 f1 f2 f3 f4 f5 f6
  refine region_tail 12 (fun W => Below ((w5.alloc (.cells #[.int .i64 t1, .int .i64 t2, .int .i64 t3] 22)).alloc (.cells #[.int .i64 x, .int .i64 y, .int .i64 z] 22)).heap.size ((w5.alloc (.cells #[.int .i64 t1, .int .i64 t2, .int .i64 t3] 22)).alloc (.cells #[.int .i64 x, .int .i64 y, .int .i64 z] 22)) W) hmx (by kernel_rfl) (by (repeat (first | exact Below.refl _ _ | assumption | refine Below.alloc ?_ (by first | exact Nat.le_refl _ | exact Below.size (by assumption) | omega | (simp <;> omega)) _ | refine Below.setCell ?_ (by first | exact Nat.le_refl _ | exact Below.size (by assumption) | omega | (simp <;> omega)) _ | refine below_drewN ?_ _ | refine Below.drew ?_))) ?_
  simp only [List.take_succ_cons, List.take_zero, List.drop_succ_cons, List.drop_zero]
  repeat (first | (refine qw_read rfl (fun w' hC => by obtain ⟨h1, h2, _⟩ := HZ.out w' hC; obtain ⟨⟨f0, f1, f2, f3, f4, f5, f6⟩, h3, _, _⟩ := HF.out w' h1; obtain ⟨x0, x1, x2, _⟩ := h2.c; obtain ⟨y0, y1, y2, _⟩ := h3.c; clear h1 h2 h3; clear hC; go_simp; rfl) ?_; simp only [Act.put, List.setIfInBounds_toArray, List.set_cons_succ, List.set_cons_zero]) | (refine qw_pass (by first | (simp [Region.wanted, yielded]; done) | (simp [Region.wanted, yielded]; intro h; cases h)) ?_; simp only [Act.put, List.setIfInBounds_toArray, List.set_cons_succ, List.set_cons_zero]))
  refine qw_nil ?_
  intro w9 hb9
  obtain ⟨hba9, _, hc9⟩ := HZ.out w9 hb9
  obtain ⟨p0, p1, p2, p3, p4, p5⟩ := hc9.c
  obtain ⟨⟨f0, f1, f2, f3, f4, f5, f6⟩, _, _, _⟩ := HF.out w9 hba9
  have hs9 := hba9.size
  have hs9b := hb9.size
  simp at hs9b
  have hba10 : Below wa.heap.size wa (w9.setCell ⟨w5.heap.size + 1, 0, none⟩ (.int .i64 (x % t1))) := by (repeat (first | exact Below.refl _ _ | assumption | refine Below.alloc ?_ (by first | exact Nat.le_refl _ | exact Below.size (by assumption) | omega | (simp <;> omega)) _ | refine Below.setCell ?_ (by first | exact Nat.le_refl _ | exact Below.size (by assumption) | omega | (simp <;> omega)) _ | refine below_drewN ?_ _ | refine Below.drew ?_))
  have hc10 : CX (w9.setCell ⟨w5.heap.size + 1, 0, none⟩ (.int .i64 (x % t1))) (w5.heap.size + 1) ⟨x % t1, y, z⟩ := hc9.set0 (x % t1)
  obtain ⟨⟨g0, g1, g2, g3, g4, g5, g6⟩, _, _, _⟩ := HF.out _ hba10
  have C10 := Lib.hid hc10
  have hs10 : (w9.setCell ⟨w5.heap.size + 1, 0, none⟩ (.int .i64 (x % t1))).heap.size = w9.heap.size := by simp [World.setCell]
  clear hc9 hc10
  go_wp2
  clear f0 f1 f2 f3 f4 f5 f6 g0 g1 g2 g3 g4 g5 g6 p0 p1 p2 p3 p4 p5
  have HY : Hid (∀ W, Below ((w9.setCell ⟨w5.heap.size + 1, 0, none⟩ (.int .i64 (x % t1)))).heap.size ((w9.setCell ⟨w5.heap.size + 1, 0, none⟩ (.int .i64 (x % t1)))) W → Below wa.heap.size wa W ∧ CX W (w5.heap.size + 1) ⟨x % t1, y, z⟩) := by
    intro W h
    exact ⟨hba10.trans (h.mono (by omega)), C10.out.below h (by omega)⟩
  clear HZ
  refine region_qw (fun W => Below ((w9.setCell ⟨w5.heap.size + 1, 0, none⟩ (.int .i64 (x % t1)))).heap.size ((w9.setCell ⟨w5.heap.size + 1, 0, none⟩ (.int .i64 (x % t1)))) W) hmx (by kernel_rfl) (by (repeat (first | exact Below.refl _ _ | assumption | refine Below.alloc ?_ (by first | exact Nat.le_refl _ | exact Below.size (by assumption) | omega | (simp <;> omega)) _ | refine Below.setCell ?_ (by first | exact Nat.le_refl _ | exact Below.size (by assumption) | omega | (simp <;> omega)) _ | refine below_drewN ?_ _ | refine Below.drew ?_))) ?_
  repeat (first | (refine qw_read rfl (fun w' hC => by obtain ⟨h1, h2⟩ := HY.out w' hC; obtain ⟨⟨f0, f1, f2, f3, f4, f5, f6⟩, _, ⟨c0, c1, c2, c3, c4, c5, c6⟩, _⟩ := HF.out w' h1; obtain ⟨x0, x1, x2, _⟩ := h2.c; clear h1 h2; clear hC; go_simp; rfl) ?_; simp only [Act.put, List.setIfInBounds_toArray, List.set_cons_succ, List.set_cons_zero]) | (refine qw_pass (by first | (simp [Region.wanted, yielded]; done) | (simp [Region.wanted, yielded]; intro h; cases h)) ?_; simp only [Act.put, List.setIfInBounds_toArray, List.set_cons_succ, List.set_cons_zero]))
  (refine qw_call rfl (fun w' hC => by (go_simp; try rfl)) (fun w' hC => (HV.out w' (HKP.out w' (HF.out w' (HY.out w' hC).1).2.2.2)).mono (fun e w2 hr => ⟨hr.1, hC.trans (hr.2.mono hC.size)⟩)) ?_; simp only [Act.put, List.setIfInBounds_toArray, List.set_cons_succ, List.set_cons_zero])
  repeat (first | (refine qw_read rfl (fun w' hC => by skip; clear hC; go_simp; rfl) ?_; simp only [Act.put, List.setIfInBounds_toArray, List.set_cons_succ, List.set_cons_zero]) | (refine qw_pass (by first | (simp [Region.wanted, yielded]; done) | (simp [Region.wanted, yielded]; intro h; cases h)) ?_; simp only [Act.put, List.setIfInBounds_toArray, List.set_cons_succ, List.set_cons_zero]))
  refine qw_nil ?_
  intro w10 hb10
  have hB10 := (HF.out w10 (HY.out w10 hb10).1).2.2.2
  go_wp2
  go_ret
  exact Ret.mk rfl hB10

set_option maxRecDepth 100000 in
set_option maxHeartbeats 4000000 in
theorem col_rep1 (p : BT) (s : Sh) (co n0 n1 n2 : Int) (cp bb off : Nat) (x y z t1 t2 t3 v : Int) (w : World) (hwp : wholeS p = true) (hs : builtS p = .ok s) (he : s.ext = ⟨t1, t2, t3⟩)
    (hbd : (1 ≤ t1 ∧ t1 ≤ 200) ∧ (1 ≤ t2 ∧ t2 ≤ 200) ∧ 1 ≤ t3 ∧ t3 ≤ 200) (hcd : (0 ≤ x ∧ x ≤ 1000) ∧ (0 ≤ y ∧ y ≤ 1000) ∧ 0 ≤ z ∧ z ≤ 1000) (hbb : bb < w.heap.size) (hc : w.cell? ⟨bb, off, none⟩ = some (.int .i64 p.op) ∧ w.cell? ⟨bb, off + 1, none⟩ = some (.int .i64 p.ax) ∧ w.cell? ⟨bb, off + 2, none⟩ = some (.int .u8 p.co) ∧ w.cell? ⟨bb, off + 3, none⟩ = some (.int .i64 p.n0) ∧ w.cell? ⟨bb, off + 4, none⟩ = some (.int .i64 p.n1) ∧ w.cell? ⟨bb, off + 5, none⟩ = some (.int .i64 p.n2) ∧ w.cell? ⟨bb, off + 6, none⟩ = some (.slice p.A p.ps.length p.cp))
    (hkp : ∀ W, Below w.heap.size w W → OkB W W.heap.size p)
    (hv : ∀ W, OkB W W.heap.size p → Calls Tryd.prog 58 #[valB p, val3 ⟨x, y % t2, z⟩] W (Ret (.int .u8 v) W)) : Calls Tryd.prog 58 #[.agg #[.int .i64 6, .int .i64 1, .int .u8 co, .int .i64 n0, .int .i64 n1, .int .i64 n2, .slice (some ⟨bb, off, none⟩) 1 cp], val3 ⟨x, y, z⟩] w (Ret (.int .u8 v) w) := by
  have hmx : Tryd.prog.follows .mixedOrders = true := by kernel_rfl
  obtain ⟨c0, c1, c2, c3, c4, c5, c6⟩ := hc
  have HKP := Lib.hid hkp
  have HM := Lib.hid (fun W (hB : Below w.heap.size w W) => meas_any p W hwp (HKP.out W hB))
  rw [meas_ok hs, he] at HM
  dsimp only at HM
  obtain ⟨wa, hwa⟩ : ∃ wa, (w.alloc (.cells #[.int .i64 6, .int .i64 1, .int .u8 co, .int .i64 n0, .int .i64 n1, .int .i64 n2, .slice (some ⟨bb, off, none⟩) 1 cp] 25)).alloc (.cells #[.int .i64 x, .int .i64 y, .int .i64 z] 22) = wa := ⟨_, rfl⟩
  have hBa : Below w.heap.size w wa := by rw [← hwa]; (repeat (first | exact Below.refl _ _ | assumption | refine Below.alloc ?_ (by first | exact Nat.le_refl _ | exact Below.size (by assumption) | omega | (simp <;> omega)) _ | refine Below.setCell ?_ (by first | exact Nat.le_refl _ | exact Below.size (by assumption) | omega | (simp <;> omega)) _ | refine below_drewN ?_ _ | refine Below.drew ?_))
  have hza : wa.heap.size = w.heap.size + 2 := by rw [← hwa]; simp
  have HF : Hid (∀ W, Below wa.heap.size wa W → (W.cell? ⟨w.heap.size, 0, none⟩ = some (.int .i64 6) ∧ W.cell? ⟨w.heap.size, 1, none⟩ = some (.int .i64 1) ∧ W.cell? ⟨w.heap.size, 2, none⟩ = some (.int .u8 co) ∧ W.cell? ⟨w.heap.size, 3, none⟩ = some (.int .i64 n0) ∧ W.cell? ⟨w.heap.size, 4, none⟩ = some (.int .i64 n1) ∧ W.cell? ⟨w.heap.size, 5, none⟩ = some (.int .i64 n2) ∧ W.cell? ⟨w.heap.size, 6, none⟩ = some (.slice (some ⟨bb, off, none⟩) 1 cp)) ∧
      CX W (w.heap.size + 1) ⟨x, y, z⟩ ∧ (W.cell? ⟨bb, off, none⟩ = some (.int .i64 p.op) ∧ W.cell? ⟨bb, off + 1, none⟩ = some (.int .i64 p.ax) ∧ W.cell? ⟨bb, off + 2, none⟩ = some (.int .u8 p.co) ∧ W.cell? ⟨bb, off + 3, none⟩ = some (.int .i64 p.n0) ∧ W.cell? ⟨bb, off + 4, none⟩ = some (.int .i64 p.n1) ∧ W.cell? ⟨bb, off + 5, none⟩ = some (.int .i64 p.n2) ∧ W.cell? ⟨bb, off + 6, none⟩ = some (.slice p.A p.ps.length p.cp)) ∧ Below w.heap.size w W) := by
    intro W hW
    have h1 := bx_two (.mk 6 1 co n0 n1 n2 (some ⟨bb, off, none⟩) cp [p]) w ⟨x, y, z⟩
    have h2 := CX.new (w.alloc (.cells #[.int .i64 6, .int .i64 1, .int .u8 co, .int .i64 n0, .int .i64 n1, .int .i64 n2, .slice (some ⟨bb, off, none⟩) 1 cp] 25)) ⟨x, y, z⟩
    rw [hwa] at h2
    rw [World.size_alloc] at h2
    dsimp only [BT.op, BT.ax, BT.co, BT.n0, BT.n1, BT.n2, BT.A, BT.cp, BT.ps, List.length_singleton] at h1
    rw [hwa] at h1
    obtain ⟨g0, g1, g2, g3, g4, g5, g6⟩ := h1.under hW (by omega)
    have hBW := hBa.trans (hW.mono hBa.size)
    exact ⟨⟨g0, g1, g2, g3, g4, g5, g6⟩, h2.below hW (by omega), ⟨(hBW.cell hbb).trans c0, (hBW.cell hbb).trans c1, (hBW.cell hbb).trans c2, (hBW.cell hbb).trans c3, (hBW.cell hbb).trans c4, (hBW.cell hbb).trans c5, (hBW.cell hbb).trans c6⟩, hBW⟩
  have HWA := Lib.hid hwa
  have HV := Lib.hid hv
  have hlt0 : w.heap.size + 1 < wa.heap.size := by omega
  clear hwa c0 c1 c2 c3 c4 c5 c6 hs he hv hwp hkp
  obtain ⟨⟨f0, f1, f2, f3, f4, f5, f6⟩, hX, ⟨c0, c1, c2, c3, c4, c5, c6⟩, _⟩ := HF.out wa (Below.refl _ _)
  rw [← HWA.out] at c0 c1 c2 c3 c4 c5 c6 f0 f1 f2 f3 f4 f5 f6
  go_enter Tryd.func58, Tryd.ntmps58
  go_wp2_with fail
  rw [HWA.out]
  refine (HM.out _ hBa).mono ?_
  rintro e w5 ⟨rfl, hb5⟩
  clear f0 f1 f2 f3 f4 f5 f6 c0 c1 c2 c3 c4 c5 c6 hX HM HWA
  have hs5 := hb5.size
  have hb6 : Below wa.heap.size wa (w5.alloc (.cells #[.int .i64 t1, .int .i64 t2, .int .i64 t3] 22)) := hb5.alloc hs5 _
  have hb7 : Below wa.heap.size wa ((w5.alloc (.cells #[.int .i64 t1, .int .i64 t2, .int .i64 t3] 22)).alloc (.cells #[.int .i64 x, .int .i64 y, .int .i64 z] 22)) := by (repeat (first | exact Below.refl _ _ | assumption | refine Below.alloc ?_ (by first | exact Nat.le_refl _ | exact Below.size (by assumption) | omega | (simp <;> omega)) _ | refine Below.setCell ?_ (by first | exact Nat.le_refl _ | exact Below.size (by assumption) | omega | (simp <;> omega)) _ | refine below_drewN ?_ _ | refine Below.drew ?_))
  have hXX := (HF.out _ hb6).2.1
  obtain ⟨x0, x1, x2, _⟩ := hXX.c
  obtain ⟨⟨f0, f1, f2, f3, f4, f5, f6⟩, hX7, _⟩ := HF.out _ hb7
  obtain ⟨z0, z1, z2, _⟩ := hX7.c
  have HZ : Hid (∀ W, Below ((w5.alloc (.cells #[.int .i64 t1, .int .i64 t2, .int .i64 t3] 22)).alloc (.cells #[.int .i64 x, .int .i64 y, .int .i64 z] 22)).heap.size ((w5.alloc (.cells #[.int .i64 t1, .int .i64 t2, .int .i64 t3] 22)).alloc (.cells #[.int .i64 x, .int .i64 y, .int .i64 z] 22)) W → Below wa.heap.size wa W ∧ CX W w5.heap.size ⟨t1, t2, t3⟩ ∧ CX W (w5.heap.size + 1) ⟨x, y, z⟩) := by
    intro W h
    have h1 := (CX.new w5 ⟨t1, t2, t3⟩).below (B := (w5.alloc (.cells #[.int .i64 t1, .int .i64 t2, .int .i64 t3] 22)).heap.size) (w' := W) (below_next (by (repeat (first | exact Below.refl _ _ | assumption | refine Below.alloc ?_ (by first | exact Nat.le_refl _ | exact Below.size (by assumption) | omega | (simp <;> omega)) _ | refine Below.setCell ?_ (by first | exact Nat.le_refl _ | exact Below.size (by assumption) | omega | (simp <;> omega)) _ | refine below_drewN ?_ _ | refine Below.drew ?_))) h) (by simp)
    have h2 := (CX.new (w5.alloc (.cells #[.int .i64 t1, .int .i64 t2, .int .i64 t3] 22)) ⟨x, y, z⟩).below h (by simp)
    rw [World.size_alloc] at h2
    exact ⟨hb7.trans (h.mono hb7.size), h1, h2⟩
  clear hXX hX7
  go_wp2
  refine region_const hmx (by kernel_rfl) ?_
  repeat (first | (refine k_read rfl (by skip; go_simp; rfl) ?_; simp only [Act.put, List.setIfInBounds_toArray, List.set_cons_succ, List.set_cons_zero]) | (refine k_skip (by first | (simp [Region.wanted, yielded]; done) | (simp [Region.wanted, yielded]; intro h; cases h)) ?_; simp only [Act.put, List.setIfInBounds_toArray, List.set_cons_succ, List.set_cons_zero]))
  refine l_nil ?_
  clear f0 f1 f2 f3 f4 f5 f6 x0 x1 x2 z0 z1 z2
  have hwi : Int.tmod y t2 = y % t2 := Int.tmod_eq_emod_of_nonneg (by omega)
  have hne : (t2 == 0) = false := by rw [beq_eq_false_iff_ne]; omega
  have hne2 : ¬ t2 = 0 := by omega
  have hmb := Int.emod_nonneg y (b := t2) (by omega)
  have hmb2 := Int.emod_lt_of_pos y (b := t2) (by omega)
  have hwj : IntKind.i64.wrap (y % t2) = y % t2 := IntWalk.i64_in _ (by omega)
  obtain ⟨hz1, hz2, hz3⟩ := HZ.out (((w5.alloc (.cells #[.int .i64 t1, .int .i64 t2, .int .i64 t3] 22)).alloc (.cells #[.int .i64 x, .int .i64 y, .int .i64 z] 22)).drew) (by (repeat (first | exact Below.refl _ _ | assumption | refine Below.alloc ?_ (by first | exact Nat.le_refl _ | exact Below.size (by assumption) | omega | (simp <;> omega)) _ | refine Below.setCell ?_ (by first | exact Nat.le_refl _ | exact Below.size (by assumption) | omega | (simp <;> omega)) _ | refine below_drewN ?_ _ | refine Below.drew ?_)))
  obtain ⟨⟨f0, f1, f2, f3, f4, f5, f6⟩, _, _, _⟩ := HF.out _ hz1
  clear hz1 hz2 hz3
  go_wp2
  clear f0 f1 f2 f3 f4 f5 f6
  refine region_tail 12 (fun W => Below ((w5.alloc (.cells #[.int .i64 t1, .int .i64 t2, .int .i64 t3] 22)).alloc (.cells #[.int .i64 x, .int .i64 y, .int .i64 z] 22)).heap.size ((w5.alloc (.cells #[.int .i64 t1, .int .i64 t2, .int .i64 t3] 22)).alloc (.cells #[.int .i64 x, .int .i64 y, .int .i64 z] 22)) W) hmx (by kernel_rfl) (by (repeat (first | exact Below.refl _ _ | assumption | refine Below.alloc ?_ (by first | exact Nat.le_refl _ | exact Below.size (by assumption) | omega | (simp <;> omega)) _ | refine Below.setCell ?_ (by first | exact Nat.le_refl _ | exact Below.size (by assumption) | omega | (simp <;> omega)) _ | refine below_drewN ?_ _ | refine Below.drew ?_))) ?_
  simp only [List.take_succ_cons, List.take_zero, List.drop_succ_cons, List.drop_zero]
  repeat (first | (refine qw_read rfl (fun w' hC => by obtain ⟨h1, h2, _⟩ := HZ.out w' hC; obtain ⟨⟨f0, f1, f2, f3, f4, f5, f6⟩, h3, _, _⟩ := HF.out w' h1; obtain ⟨x0, x1, x2, _⟩ := h2.c; obtain ⟨y0, y1, y2, _⟩ := h3.c; clear h1 h2 h3; clear hC; go_simp; rfl) ?_; simp only [Act.put, List.setIfInBounds_toArray, List.set_cons_succ, List.set_cons_zero]) | (refine qw_pass (by first | (simp [Region.wanted, yielded]; done) | (simp [Region.wanted, yielded]; intro h; cases h)) ?_; simp only [Act.put, List.setIfInBounds_toArray, List.set_cons_succ, List.set_cons_zero]))
  refine qw_nil ?_
  intro w9 hb9
  obtain ⟨hba9, _, hc9⟩ := HZ.out w9 hb9
  obtain ⟨p0, p1, p2, p3, p4, p5⟩ := hc9.c
  obtain ⟨⟨f0, f1, f2, f3, f4, f5, f6⟩, _, _, _⟩ := HF.out w9 hba9
  have hs9 := hba9.size
  have hs9b := hb9.size
  simp at hs9b
  have hba10 : Below wa.heap.size wa (w9.setCell ⟨w5.heap.size + 1, 1, none⟩ (.int .i64 (y % t2))) := by (repeat (first | exact Below.refl _ _ | assumption | refine Below.alloc ?_ (by first | exact Nat.le_refl _ | exact Below.size (by assumption) | omega | (simp <;> omega)) _ | refine Below.setCell ?_ (by first | exact Nat.le_refl _ | exact Below.size (by assumption) | omega | (simp <;> omega)) _ | refine below_drewN ?_ _ | refine Below.drew ?_))
  have hc10 : CX (w9.setCell ⟨w5.heap.size + 1, 1, none⟩ (.int .i64 (y % t2))) (w5.heap.size + 1) ⟨x, y % t2, z⟩ := hc9.set1 (y % t2)
  obtain ⟨⟨g0, g1, g2, g3, g4, g5, g6⟩, _, _, _⟩ := HF.out _ hba10
  have C10 := Lib.hid hc10
  have hs10 : (w9.setCell ⟨w5.heap.size + 1, 1, none⟩ (.int .i64 (y % t2))).heap.size = w9.heap.size := by simp [World.setCell]
  clear hc9 hc10
  go_wp2
  clear f0 f1 f2 f3 f4 f5 f6 g0 g1 g2 g3 g4 g5 g6 p0 p1 p2 p3 p4 p5
  have HY : Hid (∀ W, Below ((w9.setCell ⟨w5.heap.size + 1, 1, none⟩ (.int .i64 (y % t2)))).heap.size ((w9.setCell ⟨w5.heap.size + 1, 1, none⟩ (.int .i64 (y % t2)))) W → Below wa.heap.size wa W ∧ CX W (w5.heap.size + 1) ⟨x, y % t2, z⟩) := by
    intro W h
    exact ⟨hba10.trans (h.mono (by omega)), C10.out.below h (by omega)⟩
  clear HZ
  refine region_qw (fun W => Below ((w9.setCell ⟨w5.heap.size + 1, 1, none⟩ (.int .i64 (y % t2)))).heap.size ((w9.setCell ⟨w5.heap.size + 1, 1, none⟩ (.int .i64 (y % t2)))) W) hmx (by kernel_rfl) (by (repeat (first | exact Below.refl _ _ | assumption | refine Below.alloc ?_ (by first | exact Nat.le_refl _ | exact Below.size (by assumption) | omega | (simp <;> omega)) _ | refine Below.setCell ?_ (by first | exact Nat.le_refl _ | exact Below.size (by assumption) | omega | (simp <;> omega)) _ | refine below_drewN ?_ _ | refine Below.drew ?_))) ?_
  repeat (first | (refine qw_read rfl (fun w' hC => by obtain ⟨h1, h2⟩ := HY.out w' hC; obtain ⟨⟨f0, f1, f2, f3, f4, f5, f6⟩, _, ⟨c0, c1, c2, c3, c4, c5, c6⟩, _⟩ := HF.out w' h1; obtain ⟨x0, x1, x2, _⟩ := h2.c; clear h1 h2; clear hC; go_simp; rfl) ?_; simp only [Act.put, List.setIfInBounds_toArray, List.set_cons_succ, List.set_cons_zero]) | (refine qw_pass (by first | (simp [Region.wanted, yielded]; done) | (simp [Region.wanted, yielded]; intro h; cases h)) ?_; simp only [Act.put, List.setIfInBounds_toArray, List.set_cons_succ, List.set_cons_zero]))
  (refine qw_call rfl (fun w' hC => by (go_simp; try rfl)) (fun w' hC => (HV.out w' (HKP.out w' (HF.out w' (HY.out w' hC).1).2.2.2)).mono (fun e w2 hr => ⟨hr.1, hC.trans (hr.2.mono hC.size)⟩)) ?_; simp only [Act.put, List.setIfInBounds_toArray, List.set_cons_succ, List.set_cons_zero])
  repeat (first | (refine qw_read rfl (fun w' hC => by skip; clear hC; go_simp; rfl) ?_; simp only [Act.put, List.setIfInBounds_toArray, List.set_cons_succ, List.set_cons_zero]) | (refine qw_pass (by first | (simp [Region.wanted, yielded]; done) | (simp [Region.wanted, yielded]; intro h; cases h)) ?_; simp only [Act.put, List.setIfInBounds_toArray, List.set_cons_succ, List.set_cons_zero]))
  refine qw_nil ?_
  intro w10 hb10
  have hB10 := (HF.out w10 (HY.out w10 hb10).1).2.2.2
  go_wp2
  go_ret
  exact Ret.mk rfl hB10

set_option maxRecDepth 100000 in
set_option maxHeartbeats 4000000 in
theorem col_rep2 (p : BT) (s : Sh) (co n0 n1 n2 : Int) (cp bb off : Nat) (x y z t1 t2 t3 v : Int) (w : World) (hwp : wholeS p = true) (hs : builtS p = .ok s) (he : s.ext = ⟨t1, t2, t3⟩)
    (hbd : (1 ≤ t1 ∧ t1 ≤ 200) ∧ (1 ≤ t2 ∧ t2 ≤ 200) ∧ 1 ≤ t3 ∧ t3 ≤ 200) (hcd : (0 ≤ x ∧ x ≤ 1000) ∧ (0 ≤ y ∧ y ≤ 1000) ∧ 0 ≤ z ∧ z ≤ 1000) (hbb : bb < w.heap.size) (hc : w.cell? ⟨bb, off, none⟩ = some (.int .i64 p.op) ∧ w.cell? ⟨bb, off + 1, none⟩ = some (.int .i64 p.ax) ∧ w.cell? ⟨bb, off + 2, none⟩ = some (.int .u8 p.co) ∧ w.cell? ⟨bb, off + 3, none⟩ = some (.int .i64 p.n0) ∧ w.cell? ⟨bb, off + 4, none⟩ = some (.int .i64 p.n1) ∧ w.cell? ⟨bb, off + 5, none⟩ = some (.int .i64 p.n2) ∧ w.cell? ⟨bb, off + 6, none⟩ = some (.slice p.A p.ps.length p.cp))
    (hkp : ∀ W, Below w.heap.size w W → OkB W W.heap.size p)
    (hv : ∀ W, OkB W W.heap.size p → Calls Tryd.prog 58 #[valB p, val3 ⟨x, y, z % t3⟩] W (Ret (.int .u8 v) W)) : Calls Tryd.prog 58 #[.agg #[.int .i64 6, .int .i64 2, .int .u8 co, .int .i64 n0, .int .i64 n1, .int .i64 n2, .slice (some ⟨bb, off, none⟩) 1 cp], val3 ⟨x, y, z⟩] w (Ret (.int .u8 v) w) := by
  have hmx : Tryd.prog.follows .mixedOrders = true := by kernel_rfl
  obtain ⟨c0, c1, c2, c3, c4, c5, c6⟩ := hc
  have HKP := Lib.hid hkp
  have HM := Lib.hid (fun W (hB : Below w.heap.size w W) => meas_any p W hwp (HKP.out W hB))
  rw [meas_ok hs, he] at HM
  dsimp only at HM
  obtain ⟨wa, hwa⟩ : ∃ wa, (w.alloc (.cells #[.int .i64 6, .int .i64 2, .int .u8 co, .int .i64 n0, .int .i64 n1, .int .i64 n2, .slice (some ⟨bb, off, none⟩) 1 cp] 25)).alloc (.cells #[.int .i64 x, .int .i64 y, .int .i64 z] 22) = wa := ⟨_, rfl⟩
  have hBa : Below w.heap.size w wa := by rw [← hwa]; (repeat (first | exact Below.refl _ _ | assumption | refine Below.alloc ?_ (by first | exact Nat.le_refl _ | exact Below.size (by assumption) | omega | (simp <;> omega)) _ | refine Below.setCell ?_ (by first | exact Nat.le_refl _ | exact Below.size (by assumption) | omega | (simp <;> omega)) _ | refine below_drewN ?_ _ | refine Below.drew ?_))
  have hza : wa.heap.size = w.heap.size + 2 := by rw [← hwa]; simp
  have HF : Hid (∀ W, Below wa.heap.size wa W → (W.cell? ⟨w.heap.size, 0, none⟩ = some (.int .i64 6) ∧ W.cell? ⟨w.heap.size, 1, none⟩ = some (.int .i64 2) ∧ W.cell? ⟨w.heap.size, 2, none⟩ = some (.int .u8 co) ∧ W.cell? ⟨w.heap.size, 3, none⟩ = some (.int .i64 n0) ∧ W.cell? ⟨w.heap.size, 4, none⟩ = some (.int .i64 n1) ∧ W.cell? ⟨w.heap.size, 5, none⟩ = some (.int .i64 n2) ∧ W.cell? ⟨w.heap.size, 6, none⟩ = some (.slice (some ⟨bb, off, none⟩) 1 cp)) ∧
      CX W (w.heap.size + 1) ⟨x, y, z⟩ ∧ (W.cell? ⟨bb, off, none⟩ = some (.int .i64 p.op) ∧ W.cell? ⟨bb, off + 1, none⟩ = some (.int .i64 p.ax) ∧ W.cell? ⟨bb, off + 2, none⟩ = some (.int .u8 p.co) ∧ W.cell? ⟨bb, off + 3, none⟩ = some (.int .i64 p.n0) ∧ W.cell? ⟨bb, off + 4, none⟩ = some (.int .i64 p.n1) ∧ W.cell? ⟨bb, off + 5, none⟩ = some (.int .i64 p.n2) ∧ W.cell? ⟨bb, off + 6, none⟩ = some (.slice p.A p.ps.length p.cp)) ∧ Below w.heap.size w W) := by
    intro W hW
    have h1 := bx_two (.mk 6 2 co n0 n1 n2 (some ⟨bb, off, none⟩) cp [p]) w ⟨x, y, z⟩
    have h2 := CX.new (w.alloc (.cells #[.int .i64 6, .int .i64 2, .int .u8 co, .int .i64 n0, .int .i64 n1, .int .i64 n2, .slice (some ⟨bb, off, none⟩) 1 cp] 25)) ⟨x, y, z⟩
    rw [hwa] at h2
    rw [World.size_alloc] at h2
    dsimp only [BT.op, BT.ax, BT.co, BT.n0, BT.n1, BT.n2, BT.A, BT.cp, BT.ps, List.length_singleton] at h1
    rw [hwa] at h1
    obtain ⟨g0, g1, g2, g3, g4, g5, g6⟩ := h1.under hW (by omega)
    have hBW := hBa.trans (hW.mono hBa.size)
    exact ⟨⟨g0, g1, g2, g3, g4, g5, g6⟩, h2.below hW (by omega), ⟨(hBW.cell hbb).trans c0, (hBW.cell hbb).trans c1, (hBW.cell hbb).trans c2, (hBW.cell hbb).trans c3, (hBW.cell hbb).trans c4, (hBW.cell hbb).trans c5, (hBW.cell hbb).trans c6⟩, hBW⟩
  have HWA := Lib.hid hwa
  have HV := Lib.hid hv
  have hlt0 : w.heap.size + 1 < wa.heap.size := by omega
  clear hwa c0 c1 c2 c3 c4 c5 c6 hs he hv hwp hkp
  obtain ⟨⟨f0, f1, f2, f3, f4, f5, f6⟩, hX, ⟨c0, c1, c2, c3, c4, c5, c6⟩, _⟩ := HF.out wa (Below.refl _ _)
  rw [← HWA.out] at c0 c1 c2 c3 c4 c5 c6 f0 f1 f2 f3 f4 f5 f6
  go_enter Tryd.func58, Tryd.ntmps58
  go_wp2_with fail
  rw [HWA.out]
  refine (HM.out _ hBa).mono ?_
  rintro e w5 ⟨rfl, hb5⟩
  clear f0 f1 f2 f3 f4 f5 f6 c0 c1 c2 c3 c4 c5 c6 hX HM HWA
  have hs5 := hb5.size
  have hb6 : Below wa.heap.size wa (w5.alloc (.cells #[.int .i64 t1, .int .i64 t2, .int .i64 t3] 22)) := hb5.alloc hs5 _
  have hb7 : Below wa.heap.size wa ((w5.alloc (.cells #[.int .i64 t1, .int .i64 t2, .int .i64 t3] 22)).alloc (.cells #[.int .i64 x, .int .i64 y, .int .i64 z] 22)) := by (repeat (first | exact Below.refl _ _ | assumption | refine Below.alloc ?_ (by first | exact Nat.le_refl _ | exact Below.size (by assumption) | omega | (simp <;> omega)) _ | refine Below.setCell ?_ (by first | exact Nat.le_refl _ | exact Below.size (by assumption) | omega | (simp <;> omega)) _ | refine below_drewN ?_ _ | refine Below.drew ?_))
  have hXX := (HF.out _ hb6).2.1
  obtain ⟨x0, x1, x2, _⟩ := hXX.c
  obtain ⟨⟨f0, f1, f2, f3, f4, f5, f6⟩, hX7, _⟩ := HF.out _ hb7
  obtain ⟨z0, z1, z2, _⟩ := hX7.c
  have HZ : Hid (∀ W, Below ((w5.alloc (.cells #[.int .i64 t1, .int .i64 t2, .int .i64 t3] 22)).alloc (.cells #[.int .i64 x, .int .i64 y, .int .i64 z] 22)).heap.size ((w5.alloc (.cells #[.int .i64 t1, .int .i64 t2, .int .i64 t3] 22)).alloc (.cells #[.int .i64 x, .int .i64 y, .int .i64 z] 22)) W → Below wa.heap.size wa W ∧ CX W w5.heap.size ⟨t1, t2, t3⟩ ∧ CX W (w5.heap.size + 1) ⟨x, y, z⟩) := by
    intro W h
    have h1 := (CX.new w5 ⟨t1, t2, t3⟩).below (B := (w5.alloc (.cells #[.int .i64 t1, .int .i64 t2, .int .i64 t3] 22)).heap.size) (w' := W) (below_next (by (repeat (first | exact Below.refl _ _ | assumption | refine Below.alloc ?_ (by first | exact Nat.le_refl _ | exact Below.size (by assumption) | omega | (simp <;> omega)) _ | refine Below.setCell ?_ (by first | exact Nat.le_refl _ | exact Below.size (by assumption) | omega | (simp <;> omega)) _ | refine below_drewN ?_ _ | refine Below.drew ?_))) h) (by simp)
    have h2 := (CX.new (w5.alloc (.cells #[.int .i64 t1, .int .i64 t2, .int .i64 t3] 22)) ⟨x, y, z⟩).below h (by simp)
    rw [World.size_alloc] at h2
    exact ⟨hb7.trans (h.mono hb7.size), h1, h2⟩
  clear hXX hX7
  go_wp2
  refine region_const hmx (by kernel_rfl) ?_
  repeat (first | (refine k_read rfl (by skip; go_simp; rfl) ?_; simp only [Act.put, List.setIfInBounds_toArray, List.set_cons_succ, List.set_cons_zero]) | (refine k_skip (by first | (simp [Region.wanted, yielded]; done) | (simp [Region.wanted, yielded]; intro h; cases h)) ?_; simp only [Act.put, List.setIfInBounds_toArray, List.set_cons_succ, List.set_cons_zero]))
  refine l_nil ?_
  clear f0 f1 f2 f3 f4 f5 f6 x0 x1 x2 z0 z1 z2
  have hwi : Int.tmod z t3 = z % t3 := Int.tmod_eq_emod_of_nonneg (by omega)
  have hne : (t3 == 0) = false := by rw [beq_eq_false_iff_ne]; omega
  have hne2 : ¬ t3 = 0 := by omega
  have hmb := Int.emod_nonneg z (b := t3) (by omega)
  have hmb2 := Int.emod_lt_of_pos z (b := t3) (by omega)
  have hwj : IntKind.i64.wrap (z % t3) = z % t3 := IntWalk.i64_in _ (by omega)
  obtain ⟨hz1, hz2, hz3⟩ := HZ.out (((w5.alloc (.cells #[.int .i64 t1, .int .i64 t2, .int .i64 t3] 22)).alloc (.cells #[.int .i64 x, .int .i64 y, .int .i64 z] 22)).drew) (by (repeat (first | exact Below.refl _ _ | assumption | refine Below.alloc ?_ (by first | exact Nat.le_refl _ | exact Below.size (by assumption) | omega | (simp <;> omega)) _ | refine Below.setCell ?_ (by first | exact Nat.le_refl _ | exact Below.size (by assumption) | omega | (simp <;> omega)) _ | refine below_drewN ?_ _ | refine Below.drew ?_)))
  obtain ⟨⟨f0, f1, f2, f3, f4, f5, f6⟩, _, _, _⟩ := HF.out _ hz1
  clear hz1 hz2 hz3
  go_wp2
  clear f0 f1 f2 f3 f4 f5 f6
  refine region_tail 12 (fun W => Below ((w5.alloc (.cells #[.int .i64 t1, .int .i64 t2, .int .i64 t3] 22)).alloc (.cells #[.int .i64 x, .int .i64 y, .int .i64 z] 22)).heap.size ((w5.alloc (.cells #[.int .i64 t1, .int .i64 t2, .int .i64 t3] 22)).alloc (.cells #[.int .i64 x, .int .i64 y, .int .i64 z] 22)) W) hmx (by kernel_rfl) (by (repeat (first | exact Below.refl _ _ | assumption | refine Below.alloc ?_ (by first | exact Nat.le_refl _ | exact Below.size (by assumption) | omega | (simp <;> omega)) _ | refine Below.setCell ?_ (by first | exact Nat.le_refl _ | exact Below.size (by assumption) | omega | (simp <;> omega)) _ | refine below_drewN ?_ _ | refine Below.drew ?_))) ?_
  simp only [List.take_succ_cons, List.take_zero, List.drop_succ_cons, List.drop_zero]
  repeat (first | (refine qw_read rfl (fun w' hC => by obtain ⟨h1, h2, _⟩ := HZ.out w' hC; obtain ⟨⟨f0, f1, f2, f3, f4, f5, f6⟩, h3, _, _⟩ := HF.out w' h1; obtain ⟨x0, x1, x2, _⟩ := h2.c; obtain ⟨y0, y1, y2, _⟩ := h3.c; clear h1 h2 h3; clear hC; go_simp; rfl) ?_; simp only [Act.put, List.setIfInBounds_toArray, List.set_cons_succ, List.set_cons_zero]) | (refine qw_pass (by first | (simp [Region.wanted, yielded]; done) | (simp [Region.wanted, yielded]; intro h; cases h)) ?_; simp only [Act.put, List.setIfInBounds_toArray, List.set_cons_succ, List.set_cons_zero]))
  refine qw_nil ?_
  intro w9 hb9
  obtain ⟨hba9, _, hc9⟩ := HZ.out w9 hb9
  obtain ⟨p0, p1, p2, p3, p4, p5⟩ := hc9.c
  obtain ⟨⟨f0, f1, f2, f3, f4, f5, f6⟩, _, _, _⟩ := HF.out w9 hba9
  have hs9 := hba9.size
  have hs9b := hb9.size
  simp at hs9b
  have hba10 : Below wa.heap.size wa (w9.setCell ⟨w5.heap.size + 1, 2, none⟩ (.int .i64 (z % t3))) := by (repeat (first | exact Below.refl _ _ | assumption | refine Below.alloc ?_ (by first | exact Nat.le_refl _ | exact Below.size (by assumption) | omega | (simp <;> omega)) _ | refine Below.setCell ?_ (by first | exact Nat.le_refl _ | exact Below.size (by assumption) | omega | (simp <;> omega)) _ | refine below_drewN ?_ _ | refine Below.drew ?_))
  have hc10 : CX (w9.setCell ⟨w5.heap.size + 1, 2, none⟩ (.int .i64 (z % t3))) (w5.heap.size + 1) ⟨x, y, z % t3⟩ := hc9.set2 (z % t3)
  obtain ⟨⟨g0, g1, g2, g3, g4, g5, g6⟩, _, _, _⟩ := HF.out _ hba10
  have C10 := Lib.hid hc10
  have hs10 : (w9.setCell ⟨w5.heap.size + 1, 2, none⟩ (.int .i64 (z % t3))).heap.size = w9.heap.size := by simp [World.setCell]
  clear hc9 hc10
  go_wp2
  clear f0 f1 f2 f3 f4 f5 f6 g0 g1 g2 g3 g4 g5 g6 p0 p1 p2 p3 p4 p5
  have HY : Hid (∀ W, Below ((w9.setCell ⟨w5.heap.size + 1, 2, none⟩ (.int .i64 (z % t3)))).heap.size ((w9.setCell ⟨w5.heap.size + 1, 2, none⟩ (.int .i64 (z % t3)))) W → Below wa.heap.size wa W ∧ CX W (w5.heap.size + 1) ⟨x, y, z % t3⟩) := by
    intro W h
    exact ⟨hba10.trans (h.mono (by omega)), C10.out.below h (by omega)⟩
  clear HZ
  refine region_qw (fun W => Below ((w9.setCell ⟨w5.heap.size + 1, 2, none⟩ (.int .i64 (z % t3)))).heap.size ((w9.setCell ⟨w5.heap.size + 1, 2, none⟩ (.int .i64 (z % t3)))) W) hmx (by kernel_rfl) (by (repeat (first | exact Below.refl _ _ | assumption | refine Below.alloc ?_ (by first | exact Nat.le_refl _ | exact Below.size (by assumption) | omega | (simp <;> omega)) _ | refine Below.setCell ?_ (by first | exact Nat.le_refl _ | exact Below.size (by assumption) | omega | (simp <;> omega)) _ | refine below_drewN ?_ _ | refine Below.drew ?_))) ?_
  repeat (first | (refine qw_read rfl (fun w' hC => by obtain ⟨h1, h2⟩ := HY.out w' hC; obtain ⟨⟨f0, f1, f2, f3, f4, f5, f6⟩, _, ⟨c0, c1, c2, c3, c4, c5, c6⟩, _⟩ := HF.out w' h1; obtain ⟨x0, x1, x2, _⟩ := h2.c; clear h1 h2; clear hC; go_simp; rfl) ?_; simp only [Act.put, List.setIfInBounds_toArray, List.set_cons_succ, List.set_cons_zero]) | (refine qw_pass (by first | (simp [Region.wanted, yielded]; done) | (simp [Region.wanted, yielded]; intro h; cases h)) ?_; simp only [Act.put, List.setIfInBounds_toArray, List.set_cons_succ, List.set_cons_zero]))
  (refine qw_call rfl (fun w' hC => by (go_simp; try rfl)) (fun w' hC => (HV.out w' (HKP.out w' (HF.out w' (HY.out w' hC).1).2.2.2)).mono (fun e w2 hr => ⟨hr.1, hC.trans (hr.2.mono hC.size)⟩)) ?_; simp only [Act.put, List.setIfInBounds_toArray, List.set_cons_succ, List.set_cons_zero])
  repeat (first | (refine qw_read rfl (fun w' hC => by skip; clear hC; go_simp; rfl) ?_; simp only [Act.put, List.setIfInBounds_toArray, List.set_cons_succ, List.set_cons_zero]) | (refine qw_pass (by first | (simp [Region.wanted, yielded]; done) | (simp [Region.wanted, yielded]; intro h; cases h)) ?_; simp only [Act.put, List.setIfInBounds_toArray, List.set_cons_succ, List.set_cons_zero]))
  refine qw_nil ?_
  intro w10 hb10
  have hB10 := (HF.out w10 (HY.out w10 hb10).1).2.2.2
  go_wp2
  go_ret
  exact Ret.mk rfl hB10

end Go.Proofs.YtbcnkcndhgihaaaDoor

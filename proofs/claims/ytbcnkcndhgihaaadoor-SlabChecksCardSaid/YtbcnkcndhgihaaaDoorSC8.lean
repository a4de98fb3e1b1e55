/- Blocks: the law of the checks: the walk. -/
import Derived.Test.YtbcnkcndhgihaaaDoorSC7
import Derived.Test.YtbcnkcndhgihaaaDoorSane
namespace Go.Proofs.YtbcnkcndhgihaaaDoor
open Go.RowKit
set_option linter.unusedSimpArgs false

set_option maxRecDepth 100000 in
set_option maxHeartbeats 2000000 in
theorem checks_any (b : BT) (w : World) (hb : OkB w w.heap.size b) : Calls Tryd.prog 3 #[valB b] w (Ret (.bool true) w) := by
  have hmx : Tryd.prog.follows .mixedOrders = true := by kernel_rfl
  obtain ⟨wa, hwa⟩ : ∃ wa, w.alloc (.cells #[.int .i64 b.op, .int .i64 b.ax, .int .u8 b.co, .int .i64 b.n0, .int .i64 b.n1, .int .i64 b.n2, .slice b.A b.ps.length b.cp] 25) = wa := ⟨_, rfl⟩
  have hBa : Below w.heap.size w wa := by rw [← hwa]; (repeat (first | exact Below.refl _ _ | assumption | refine Below.alloc ?_ (by first | exact Nat.le_refl _ | exact Below.size (by assumption) | omega | (simp <;> omega)) _ | refine Below.setCell ?_ (by first | exact Nat.le_refl _ | exact Below.size (by assumption) | omega | (simp <;> omega)) _ | refine below_drewN ?_ _ | refine Below.drew ?_))
  have hza : wa.heap.size = w.heap.size + 1 := by rw [← hwa]; simp
  have HXA : Hid (∀ W, Below wa.heap.size wa W → BxB W w.heap.size b) := by
    intro W hW
    have h1 := BxB.new w b 25
    rw [hwa] at h1
    exact h1.under hW (by omega)
  have HU := Lib.hid (fun W (hB : Below w.heap.size w W) => Bushy_any 60 (by omega) b W (hb.now hB))
  have HE := Lib.hid (fun W (hB : Below w.heap.size w W) => Extent_any b W (hb.now hB))
  have HF := Lib.hid (fun W (hB : Below w.heap.size w W) => refExtent_any b W (hb.now hB))
  have HC := Lib.hid (fun W (hB : Below w.heap.size w W) => Check_any b W (hb.now hB))
  have HD := Lib.hid (fun W (hB : Below w.heap.size w W) => refCheck_any b W (hb.now hB))
  clear hb
  have HWA := Lib.hid hwa
  clear hwa
  obtain ⟨f0, f1, f2, f3, f4, f5, f6⟩ := HXA.out wa (Below.refl _ _)
  cases hbu : bushyS b 60
  · rw [hbu] at HU
    clear hbu
    obtain ⟨M, hM⟩ : ∃ M, extB b = M := ⟨_, rfl⟩
    rw [hM] at HE HF
    obtain ⟨T, er⟩ := M
    obtain ⟨t1, t2, t3⟩ := T
    obtain ⟨ce, hce⟩ : ∃ ce, checkB b = ce := ⟨_, rfl⟩
    rw [hce] at HC HD
    clear hM hce
    dsimp only at HE HF
    go_enter Tryd.func3, Tryd.ntmps3
    go_wp2_with fail
    rw [HWA.out]
    refine (HU.out _ hBa).mono ?_
    rintro e w2 ⟨rfl, hb2⟩
    clear f0 f1 f2 f3 f4 f5 f6
    obtain ⟨f0, f1, f2, f3, f4, f5, f6⟩ := HXA.out w2 hb2
    have hB2 := hBa.trans (hb2.mono hBa.size)
    go_wp2_with fail
    refine (HE.out _ hB2).mono ?_
    rintro e w3 ⟨rfl, hb3⟩
    have hba3 := hb2.trans (hb3.mono hb2.size)
    clear f0 f1 f2 f3 f4 f5 f6
    have hB3 := hBa.trans (hba3.mono hBa.size)
    have hs3 := hba3.size
    obtain ⟨f0, f1, f2, f3, f4, f5, f6⟩ := HXA.out (w3.alloc (.cells #[.int .i64 t1, .int .i64 t2, .int .i64 t3] 22)) (by (repeat (first | exact Below.refl _ _ | assumption | refine Below.alloc ?_ (by first | exact Nat.le_refl _ | exact Below.size (by assumption) | omega | (simp <;> omega)) _ | refine Below.setCell ?_ (by first | exact Nat.le_refl _ | exact Below.size (by assumption) | omega | (simp <;> omega)) _ | refine below_drewN ?_ _ | refine Below.drew ?_)))
    go_wp2_with fail
    refine (HF.out _ (by (repeat (first | exact Below.refl _ _ | assumption | refine Below.alloc ?_ (by first | exact Nat.le_refl _ | exact Below.size (by assumption) | omega | (simp <;> omega)) _ | refine Below.setCell ?_ (by first | exact Nat.le_refl _ | exact Below.size (by assumption) | omega | (simp <;> omega)) _ | refine below_drewN ?_ _ | refine Below.drew ?_)))).mono ?_
    rintro e w4 ⟨rfl, hb4⟩
    have hba4 : Below wa.heap.size wa w4 := Below.trans (by (repeat (first | exact Below.refl _ _ | assumption | refine Below.alloc ?_ (by first | exact Nat.le_refl _ | exact Below.size (by assumption) | omega | (simp <;> omega)) _ | refine Below.setCell ?_ (by first | exact Nat.le_refl _ | exact Below.size (by assumption) | omega | (simp <;> omega)) _ | refine below_drewN ?_ _ | refine Below.drew ?_))) (hb4.mono (by simp; omega))
    have hc4 : CX w4 w3.heap.size ⟨t1, t2, t3⟩ := (CX.new w3 ⟨t1, t2, t3⟩).below hb4 (by simp)
    have hs4 := hb4.size
    simp at hs4
    clear f0 f1 f2 f3 f4 f5 f6
    have HZ : Hid (∀ W, Below (w4.alloc (.cells #[.int .i64 t1, .int .i64 t2, .int .i64 t3] 22)).heap.size (w4.alloc (.cells #[.int .i64 t1, .int .i64 t2, .int .i64 t3] 22)) W → BxB W w.heap.size b ∧ CX W w3.heap.size ⟨t1, t2, t3⟩ ∧ CX W w4.heap.size ⟨t1, t2, t3⟩ ∧ Below w.heap.size w W) := by
      intro W h
      have h4 : Below w4.heap.size w4 W := below_next (by (repeat (first | exact Below.refl _ _ | assumption | refine Below.alloc ?_ (by first | exact Nat.le_refl _ | exact Below.size (by assumption) | omega | (simp <;> omega)) _ | refine Below.setCell ?_ (by first | exact Nat.le_refl _ | exact Below.size (by assumption) | omega | (simp <;> omega)) _ | refine below_drewN ?_ _ | refine Below.drew ?_))) h
      have h5 := hba4.trans (h4.mono hba4.size)
      exact ⟨HXA.out W h5, hc4.below h4 (by omega), (CX.new w4 ⟨t1, t2, t3⟩).below h (by simp), hBa.trans (h5.mono hBa.size)⟩
    have heq : ∀ W, (binOp .eql 22 (val3 ⟨t1, t2, t3⟩) (val3 ⟨t1, t2, t3⟩)).run Tryd.prog W = .ok (.bool true) W := fun W => by rw [run_eq3]; simp
    clear hc4
    go_wp2
    refine region_qw (fun W => Below (w4.alloc (.cells #[.int .i64 t1, .int .i64 t2, .int .i64 t3] 22)).heap.size (w4.alloc (.cells #[.int .i64 t1, .int .i64 t2, .int .i64 t3] 22)) W) hmx (by kernel_rfl) (by (repeat (first | exact Below.refl _ _ | assumption | refine Below.alloc ?_ (by first | exact Nat.le_refl _ | exact Below.size (by assumption) | omega | (simp <;> omega)) _ | refine Below.setCell ?_ (by first | exact Nat.le_refl _ | exact Below.size (by assumption) | omega | (simp <;> omega)) _ | refine below_drewN ?_ _ | refine Below.drew ?_))) ?_
    repeat (first | (refine qw_read rfl (fun w' hC => by obtain ⟨⟨f0, f1, f2, f3, f4, f5, f6⟩, h1, h2, _⟩ := HZ.out w' hC; obtain ⟨x0, x1, x2, _⟩ := h1.c; obtain ⟨y0, y1, y2, _⟩ := h2.c; clear h1 h2; clear hC; go_simp; rfl) ?_; simp only [Act.put, List.setIfInBounds_toArray, List.set_cons_succ, List.set_cons_zero]) | (refine qw_pass (by first | (simp [Region.wanted, yielded]; done) | (simp [Region.wanted, yielded]; intro h; cases h)) ?_; simp only [Act.put, List.setIfInBounds_toArray, List.set_cons_succ, List.set_cons_zero]))
    (refine qw_call rfl (fun w' hC => by (go_simp; try rfl)) (fun w' hC => (HC.out w' (HZ.out w' hC).2.2.2).mono (fun e w2 hr => ⟨hr.1, hC.trans (hr.2.mono hC.size)⟩)) ?_; simp only [Act.put, List.setIfInBounds_toArray, List.set_cons_succ, List.set_cons_zero])
    repeat (first | (refine qw_read rfl (fun w' hC => by obtain ⟨⟨f0, f1, f2, f3, f4, f5, f6⟩, h1, h2, _⟩ := HZ.out w' hC; obtain ⟨x0, x1, x2, _⟩ := h1.c; obtain ⟨y0, y1, y2, _⟩ := h2.c; clear h1 h2; clear hC; go_simp; rfl) ?_; simp only [Act.put, List.setIfInBounds_toArray, List.set_cons_succ, List.set_cons_zero]) | (refine qw_pass (by first | (simp [Region.wanted, yielded]; done) | (simp [Region.wanted, yielded]; intro h; cases h)) ?_; simp only [Act.put, List.setIfInBounds_toArray, List.set_cons_succ, List.set_cons_zero]))
    (refine qw_call rfl (fun w' hC => by (go_simp; try rfl)) (fun w' hC => (HD.out w' (HZ.out w' hC).2.2.2).mono (fun e w2 hr => ⟨hr.1, hC.trans (hr.2.mono hC.size)⟩)) ?_; simp only [Act.put, List.setIfInBounds_toArray, List.set_cons_succ, List.set_cons_zero])
    repeat (first | (refine qw_read rfl (fun w' hC => by obtain ⟨⟨f0, f1, f2, f3, f4, f5, f6⟩, h1, h2, _⟩ := HZ.out w' hC; obtain ⟨x0, x1, x2, _⟩ := h1.c; obtain ⟨y0, y1, y2, _⟩ := h2.c; clear h1 h2; clear hC; go_simp; rfl) ?_; simp only [Act.put, List.setIfInBounds_toArray, List.set_cons_succ, List.set_cons_zero]) | (refine qw_pass (by first | (simp [Region.wanted, yielded]; done) | (simp [Region.wanted, yielded]; intro h; cases h)) ?_; simp only [Act.put, List.setIfInBounds_toArray, List.set_cons_succ, List.set_cons_zero]))
    (refine qw_call rfl (fun w' hC => by (go_simp; try rfl)) (fun w' hC => (sane_any w').mono (fun e w2 hr => ⟨hr.1, hC.trans (hr.2.mono hC.size)⟩)) ?_; simp only [Act.put, List.setIfInBounds_toArray, List.set_cons_succ, List.set_cons_zero])
    repeat (first | (refine qw_read rfl (fun w' hC => by obtain ⟨⟨f0, f1, f2, f3, f4, f5, f6⟩, h1, h2, _⟩ := HZ.out w' hC; obtain ⟨x0, x1, x2, _⟩ := h1.c; obtain ⟨y0, y1, y2, _⟩ := h2.c; clear h1 h2; clear hC; go_simp; rfl) ?_; simp only [Act.put, List.setIfInBounds_toArray, List.set_cons_succ, List.set_cons_zero]) | (refine qw_pass (by first | (simp [Region.wanted, yielded]; done) | (simp [Region.wanted, yielded]; intro h; cases h)) ?_; simp only [Act.put, List.setIfInBounds_toArray, List.set_cons_succ, List.set_cons_zero]))
    refine qw_nil ?_
    intro w9 hb9
    have hB9 := (HZ.out w9 hb9).2.2.2
    go_wp2
    go_ret
    exact Ret.mk rfl hB9
  · rw [hbu] at HU
    clear hbu
    go_enter Tryd.func3, Tryd.ntmps3
    go_wp2_with fail
    rw [HWA.out]
    refine (HU.out _ hBa).mono ?_
    rintro e w2 ⟨rfl, hb2⟩
    have hB2 := hBa.trans (hb2.mono hBa.size)
    go_wp2_with fail
    refine (sane_any _).mono ?_
    rintro e w3 ⟨rfl, hb3⟩
    have hB3 := hB2.trans (hb3.mono hB2.size)
    go_wp2
    go_ret
    exact Ret.mk rfl hB3
end Go.Proofs.YtbcnkcndhgihaaaDoor

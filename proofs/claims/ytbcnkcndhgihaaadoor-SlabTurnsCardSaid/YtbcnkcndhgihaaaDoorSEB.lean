/- Blocks: same of the reference: the walk. Printed by gense2.py. Blocks: Equal and Mirrored of the reference: the walks. -/
import Derived.Test.YtbcnkcndhgihaaaDoorCO6
import Derived.Test.YtbcnkcndhgihaaaDoorSRM
import Derived.Test.YtbcnkcndhgihaaaDoorSC7
import Derived.Test.YtbcnkcndhgihaaaDoorSEA
namespace Go.Proofs.YtbcnkcndhgihaaaDoor
open Go.RowKit
set_option linter.unusedSimpArgs false

/-- Three cells, stored. -/
def put3 (w : World) (k : Nat) (t : T3) : World := w.setRow k #[.int .i64 t.x, .int .i64 t.y, .int .i64 t.z]
theorem CX.put3 {w : World} {k : Nat} {t : T3} (h : CX w k t) (q : T3) : CX (put3 w k q) k q := setRow_heap w k _ _ _ _ h
theorem put3_below {w : World} {k C : Nat} (q : T3) (h : C ≤ k) : Below C w (put3 w k q) :=
  ⟨rfl, rfl, rfl, Nat.le_of_eq (setRow_size w k _).symm, fun i hi => setRow_other w k i _ (by omega)⟩
theorem exec_store3 {o : Oper} {a : Act} {w : World} {k : Nat} {f : T3} (g : T3) (x y : Operand) (h : CX w k f) (ho : o.op = .store 22 x y) (hx : a.eval x = .pointer (some ⟨k, 0, none⟩)) (hy : a.eval y = val3 g) : (execOp a.eval o).run Tryd.prog w = .ok .skip (put3 w k g) := by
  unfold execOp
  rw [ho]
  have h2 : (storeVar 22 ⟨k, 0, none⟩ (.agg #[.int .i64 g.x, .int .i64 g.y, .int .i64 g.z])).run Tryd.prog w = .ok () (put3 w k g) := run_storeVar_row w k 22 22 _ _ h (by kernel_rfl) rfl (by simp [Value.oneCell'])
  have h3 : (Instr.storeAt 22 (.pointer (some ⟨k, 0, none⟩)) (.agg #[.int .i64 g.x, .int .i64 g.y, .int .i64 g.z])).run Tryd.prog w = .ok () (put3 w k g) := by
    simpa [Instr.storeAt, Instr.sureAddr, Sem.run_bind, Sem.run_pure] using h2
  simp [hx, hy, Sem.run_bind, h3]
theorem bx_pair (b c : BT) (w : World) : BX ((w.alloc (.cells #[.int .i64 b.op, .int .i64 b.ax, .int .u8 b.co, .int .i64 b.n0, .int .i64 b.n1, .int .i64 b.n2, .slice b.A b.ps.length b.cp] 25)).alloc (.cells #[.int .i64 c.op, .int .i64 c.ax, .int .u8 c.co, .int .i64 c.n0, .int .i64 c.n1, .int .i64 c.n2, .slice c.A c.ps.length c.cp] 25)) w.heap.size b ∧ BX ((w.alloc (.cells #[.int .i64 b.op, .int .i64 b.ax, .int .u8 b.co, .int .i64 b.n0, .int .i64 b.n1, .int .i64 b.n2, .slice b.A b.ps.length b.cp] 25)).alloc (.cells #[.int .i64 c.op, .int .i64 c.ax, .int .u8 c.co, .int .i64 c.n0, .int .i64 c.n1, .int .i64 c.n2, .slice c.A c.ps.length c.cp] 25)) (w.heap.size + 1) c := by
  constructor
  · exact (BX.new w b).below (B := w.heap.size + 1) (by (repeat (first | exact Below.refl _ _ | assumption | refine Below.alloc ?_ (by first | exact Nat.le_refl _ | exact Below.size (by assumption) | omega | (simp <;> omega)) _ | refine Below.setCell ?_ (by first | exact Nat.le_refl _ | exact Below.size (by assumption) | omega | (simp <;> omega)) _ | refine below_drewN ?_ _ | refine Below.drew ?_))) (by omega)
  · have h := BX.new (w.alloc (.cells #[.int .i64 b.op, .int .i64 b.ax, .int .u8 b.co, .int .i64 b.n0, .int .i64 b.n1, .int .i64 b.n2, .slice b.A b.ps.length b.cp] 25)) c
    rw [World.size_alloc] at h
    exact h
set_option maxRecDepth 100000 in
set_option maxHeartbeats 8000000 in
theorem refSame_any (b c : BT) (S T : Sh) (w : World) (hbS : builtS b = .ok S) (hwb : wholeS b = true) (hcT : builtS c = .ok T) (hwc : wholeS c = true) (hb : OkB w w.heap.size b) (hc : OkB w w.heap.size c) : Calls Tryd.prog 62 #[valB b, valB c] w (Ret (.bool (sameS S T)) w) := by
  have hmx : Tryd.prog.follows .mixedOrders = true := by kernel_rfl
  have hS := built_ok b hwb S hbS
  have hT := built_ok c hwc T hcT
  obtain ⟨wa, hwa⟩ : ∃ wa, (w.alloc (.cells #[.int .i64 b.op, .int .i64 b.ax, .int .u8 b.co, .int .i64 b.n0, .int .i64 b.n1, .int .i64 b.n2, .slice b.A b.ps.length b.cp] 25)).alloc (.cells #[.int .i64 c.op, .int .i64 c.ax, .int .u8 c.co, .int .i64 c.n0, .int .i64 c.n1, .int .i64 c.n2, .slice c.A c.ps.length c.cp] 25) = wa := ⟨_, rfl⟩
  have hBa : Below w.heap.size w wa := by rw [← hwa]; (repeat (first | exact Below.refl _ _ | assumption | refine Below.alloc ?_ (by first | exact Nat.le_refl _ | exact Below.size (by assumption) | omega | (simp <;> omega)) _ | refine Below.setCell ?_ (by first | exact Nat.le_refl _ | exact Below.size (by assumption) | omega | (simp <;> omega)) _ | refine below_drewN ?_ _ | refine Below.drew ?_))
  have hza : wa.heap.size = w.heap.size + 2 := by rw [← hwa]; simp
  have hp := bx_pair b c w
  rw [hwa] at hp
  have HXA : Hid (∀ W, Below wa.heap.size wa W → BX W w.heap.size b ∧ BX W (w.heap.size + 1) c) := fun W h => ⟨hp.1.below h (by omega), hp.2.below h (by omega)⟩
  have HM1 := Lib.hid (fun W (hB : Below w.heap.size w W) => meas_any b W hwb (hb.now hB))
  have HM2 := Lib.hid (fun W (hB : Below w.heap.size w W) => meas_any c W hwc (hc.now hB))
  rw [meas_ok hbS] at HM1
  rw [meas_ok hcT] at HM2
  dsimp only at HM1 HM2
  have HC1 := Lib.hid (fun cc (hi : InE S.ext cc) W (hB : Below w.heap.size w W) => col_any b S hbS hwb cc W hi (hb.now hB))
  have HC2 := Lib.hid (fun cc (hi : InE T.ext cc) W (hB : Below w.heap.size w W) => col_any c T hcT hwc cc W hi (hc.now hB))
  have HWA := Lib.hid hwa
  clear hb hc hwa hbS hcT hwb hwc hp
  obtain ⟨a1, b1, c1, he, ha0, hb0, hc0, ha2, hb2', hc2, h8⟩ := nat_ext hS.ext
  obtain ⟨x1, x2, hXX⟩ := HXA.out wa (Below.refl _ _) |>.imp (fun h => h.c) (fun h => h.c) |> fun h => (⟨h.1, h.2, trivial⟩ : ∃ (_ : BxB wa w.heap.size b) (_ : BxB wa (w.heap.size + 1) c), True)
  clear hXX
  obtain ⟨f0, f1, f2, f3, f4, f5, f6⟩ := x1
  by_cases heq : S.ext = T.ext
  · have HSA : Hid ((∀ k, k < a1 * b1 * c1 → S.at (cellN ⟨a1, b1, c1⟩ k) = T.at (cellN ⟨a1, b1, c1⟩ k)) → sameS S T = true) := fun h => same_all heq (by rw [he]; exact h)
    have HSN : Hid (∀ k, k < a1 * b1 * c1 → S.at (cellN ⟨a1, b1, c1⟩ k) ≠ T.at (cellN ⟨a1, b1, c1⟩ k) → sameS S T = false) := fun k hk h => same_not (k := k) (by rw [he]; exact hk) (by rw [he]; exact h)
    have hin : ∀ k, k < a1 * b1 * c1 → InE ⟨a1, b1, c1⟩ (cellN ⟨a1, b1, c1⟩ k) := fun k hk => by
      have := cellN_in hS.ext (n := k) (by rw [he]; exact hk)
      rw [he] at this
      exact this
    have HK : Hid (∀ k, k < a1 * b1 * c1 → ∃ u v : Int, S.at (cellN ⟨a1, b1, c1⟩ k) = u ∧ T.at (cellN ⟨a1, b1, c1⟩ k) = v ∧ (∀ W, Below w.heap.size w W → Calls Tryd.prog 58 #[valB b, .agg #[.int .i64 ((k : Int) % a1), .int .i64 ((k : Int) / a1 % b1), .int .i64 ((k : Int) / a1 / b1)]] W (Ret (.int .u8 u) W)) ∧ ∀ W, Below w.heap.size w W → Calls Tryd.prog 58 #[valB c, .agg #[.int .i64 ((k : Int) % a1), .int .i64 ((k : Int) / a1 % b1), .int .i64 ((k : Int) / a1 / b1)]] W (Ret (.int .u8 v) W)) := fun k hk => by
      have h := hin k hk
      have k1 := fun W hB => HC1.out (cellN ⟨a1, b1, c1⟩ k) (by rw [he]; exact h) W hB
      have k2 := fun W hB => HC2.out (cellN ⟨a1, b1, c1⟩ k) (by rw [← heq, he]; exact h) W hB
      refine ⟨_, _, rfl, rfl, ?_, ?_⟩
      · intro W hB
        have := k1 W hB
        rw [cellN_nat] at this ⊢
        rw [Int.natCast_emod, Int.natCast_emod, Int.natCast_ediv, Int.natCast_ediv] at this ⊢
        exact this
      · intro W hB
        have := k2 W hB
        rw [cellN_nat] at this ⊢
        rw [Int.natCast_emod, Int.natCast_emod, Int.natCast_ediv, Int.natCast_ediv] at this ⊢
        exact this
    rw [← heq] at HM2
    rw [he] at HM1 HM2
    have hne : ∀ W, (binOp .neq 22 (val3 ⟨a1, b1, c1⟩) (val3 ⟨a1, b1, c1⟩)).run Tryd.prog W = .ok (.bool false) W := fun W => by rw [run_ne3]; simp
    clear he heq hS hT hin HC1 HC2
    go_enter Tryd.func62, Tryd.ntmps62
    go_wp2_with fail
    rw [HWA.out]
    refine (HM1.out _ hBa).mono ?_
    rintro e w2 ⟨rfl, hb2⟩
    clear f0 f1 f2 f3 f4 f5 f6 x2
    have hB2 := hBa.trans (hb2.mono hBa.size)
    have hs2 := hb2.size
    have hba2 : Below wa.heap.size wa (w2.alloc (.cells #[.int .i64 a1, .int .i64 b1, .int .i64 c1] 22)) := by (repeat (first | exact Below.refl _ _ | assumption | refine Below.alloc ?_ (by first | exact Nat.le_refl _ | exact Below.size (by assumption) | omega | (simp <;> omega)) _ | refine Below.setCell ?_ (by first | exact Nat.le_refl _ | exact Below.size (by assumption) | omega | (simp <;> omega)) _ | refine below_drewN ?_ _ | refine Below.drew ?_))
    obtain ⟨f0, f1, f2, f3, f4, f5, f6⟩ := (HXA.out _ hba2).2.c
    have HE2 := Lib.hid (CX.new w2 ⟨a1, b1, c1⟩)
    go_wp2_with fail
    refine (HM2.out _ (hBa.trans (hba2.mono hBa.size))).mono ?_
    rintro e w3 ⟨rfl, hb3⟩
    clear f0 f1 f2 f3 f4 f5 f6
    have hs3 := hb3.size
    rw [World.size_alloc] at hs3
    have hb4 : Below (w2.alloc (.cells #[.int .i64 a1, .int .i64 b1, .int .i64 c1] 22)).heap.size (w2.alloc (.cells #[.int .i64 a1, .int .i64 b1, .int .i64 c1] 22)) (w3.alloc (.cells #[.int .i64 a1, .int .i64 b1, .int .i64 c1] 22)) := by (repeat (first | exact Below.refl _ _ | assumption | refine Below.alloc ?_ (by first | exact Nat.le_refl _ | exact Below.size (by assumption) | omega | (simp <;> omega)) _ | refine Below.setCell ?_ (by first | exact Nat.le_refl _ | exact Below.size (by assumption) | omega | (simp <;> omega)) _ | refine below_drewN ?_ _ | refine Below.drew ?_))
    have hba4 := hba2.trans (hb4.mono hba2.size)
    have HE4 : Hid (CX (w3.alloc (.cells #[.int .i64 a1, .int .i64 b1, .int .i64 c1] 22)) w2.heap.size ⟨a1, b1, c1⟩) := HE2.out.below hb4 (by simp)
    have HE5 : Hid (CX (w3.alloc (.cells #[.int .i64 a1, .int .i64 b1, .int .i64 c1] 22)) w3.heap.size ⟨a1, b1, c1⟩) := CX.new w3 ⟨a1, b1, c1⟩
    obtain ⟨x0, x1, x2, _⟩ := HE4.out.c
    obtain ⟨y0, y1, y2, _⟩ := HE5.out.c
    dsimp only at x0 x1 x2 y0 y1 y2
    go_wp2
    clear x0 x1 x2 y0 y1 y2
    obtain ⟨wx, hwx⟩ : ∃ wx, w3.alloc (.cells #[.int .i64 a1, .int .i64 b1, .int .i64 c1] 22) = wx := ⟨_, rfl⟩
    have hzx : wx.heap.size = w3.heap.size + 1 := by rw [← hwx]; simp
    rw [hwx] at hba4 HE4 ⊢
    clear hwx hb4
    go_loopw [9] (fun i wr => ∃ k : Nat, k ≤ a1 * b1 * c1 ∧ i = .int .i64 k ∧ (∀ j, j < k → S.at (cellN ⟨a1, b1, c1⟩ j) = T.at (cellN ⟨a1, b1, c1⟩ j)) ∧ Below wx.heap.size wx wr) (fun i _ => a1 * b1 * c1 - (intOf i).toNat)
    case atStart => exact ⟨0, Nat.zero_le _, rfl, fun j hj => by omega, Below.refl _ _⟩
    case round =>
      obtain ⟨k, hk, rfl, hno, hB⟩ := hrel
      have HNO := Lib.hid hno
      clear hno
      have hsB := hB.size
      have HF : Hid (∀ W, Below wr.heap.size wr W → BX W w.heap.size b ∧ BX W (w.heap.size + 1) c ∧ CX W w2.heap.size ⟨a1, b1, c1⟩ ∧ Below w.heap.size w W ∧ Below wx.heap.size wx W) := fun W h => by
        have h1 := hB.trans (h.mono hsB)
        have h2 := hba4.trans (h1.mono hba4.size)
        exact ⟨(HXA.out W h2).1, (HXA.out W h2).2, HE4.out.below h1 (by omega), hBa.trans (h2.mono hBa.size), h1⟩
      obtain ⟨x0, x1, x2, _⟩ := (HF.out wr (Below.refl _ _)).2.2.1.c
      dsimp only at x0 x1 x2
      have m1 : a1 * b1 ≤ 200 * 200 := Nat.mul_le_mul ha2 hb2'
      have w1 : wrap64 ((a1 : Int) * b1) = ((a1 * b1 : Nat) : Int) := by rw [← Int.natCast_mul]; exact w64b (by omega) (by omega)
      have w2' : wrap64 (((a1 * b1 : Nat) : Int) * c1) = ((a1 * b1 * c1 : Nat) : Int) := by rw [← Int.natCast_mul]; exact w64b (by omega) (by omega)
      clear m1
      obtain ⟨N, hN⟩ : ∃ N, a1 * b1 * c1 = N := ⟨_, rfl⟩
      obtain ⟨M, hM⟩ : ∃ M, a1 * b1 = M := ⟨_, rfl⟩
      rw [hN] at w2' hk h8 HK HSA HSN ⊢
      rw [hM] at w1 w2'
      clear hN hM
      by_cases hlt : k < N
      · obtain ⟨u, v, hu, hv, hcu, hcv⟩ := HK.out k hlt
        have HCU := Lib.hid (fun W (h : Below w.heap.size w W) => hcu W h)
        have HCV := Lib.hid (fun W (h : Below w.heap.size w W) => hcv W h)
        have HUV : Hid (u = v → S.at (cellN ⟨a1, b1, c1⟩ k) = T.at (cellN ⟨a1, b1, c1⟩ k)) := fun h => by rw [hu, hv, h]
        have HUN : Hid (u ≠ v → sameS S T = false) := fun h => HSN.out k hlt (by rw [hu, hv]; exact h)
        clear hu hv hcu hcv
        have n1 : ¬ a1 = 0 := by omega
        have n2 : ¬ b1 = 0 := by omega
        have hk9 : k ≤ 100000000 := Nat.le_trans hk (Nat.le_trans h8 (by decide))
        have e1 := rem_nat k a1
        have e2 := quo_nat (m := k) (n := a1) hk9
        have e3 := rem_nat2 k a1 b1
        have e4 := quo_nat2 (m := k) (n := a1) (k := b1) hk9
        clear hk9
        obtain ⟨cell, hcell⟩ : ∃ cell : T3, cell = ⟨(k : Int) % a1, (k : Int) / a1 % b1, (k : Int) / a1 / b1⟩ := ⟨_, rfl⟩
        have hl1 : Below wr.heap.size wr (wr.drew.alloc (.cells #[.int .i64 0, .int .i64 0, .int .i64 0] 22)) := by (repeat (first | exact Below.refl _ _ | assumption | refine Below.alloc ?_ (by first | exact Nat.le_refl _ | exact Below.size (by assumption) | omega | (simp <;> omega)) _ | refine Below.setCell ?_ (by first | exact Nat.le_refl _ | exact Below.size (by assumption) | omega | (simp <;> omega)) _ | refine below_drewN ?_ _ | refine Below.drew ?_))
        have hcx1 : CX (wr.drew.alloc (.cells #[.int .i64 0, .int .i64 0, .int .i64 0] 22)) wr.heap.size ⟨0, 0, 0⟩ := CX.new wr.drew ⟨0, 0, 0⟩
        have hl2 : Below wr.heap.size wr (put3 (wr.drew.alloc (.cells #[.int .i64 0, .int .i64 0, .int .i64 0] 22)) wr.heap.size cell) := hl1.trans (put3_below _ (Nat.le_refl _))
        have hcx2 := hcx1.put3 cell
        have HCX1 := Lib.hid hcx1
        have HTW : Hid (∀ W, W = wr.drew ∨ W = wr.drew.alloc (.cells #[.int .i64 0, .int .i64 0, .int .i64 0] 22) ∨ W = put3 (wr.drew.alloc (.cells #[.int .i64 0, .int .i64 0, .int .i64 0] 22)) wr.heap.size cell → CX W w2.heap.size ⟨a1, b1, c1⟩) := fun W h => by
          rcases h with rfl | rfl | rfl
          · exact (HF.out _ (by (repeat (first | exact Below.refl _ _ | assumption | refine Below.alloc ?_ (by first | exact Nat.le_refl _ | exact Below.size (by assumption) | omega | (simp <;> omega)) _ | refine Below.setCell ?_ (by first | exact Nat.le_refl _ | exact Below.size (by assumption) | omega | (simp <;> omega)) _ | refine below_drewN ?_ _ | refine Below.drew ?_)))).2.2.1
          · exact (HF.out _ hl1).2.2.1
          · exact (HF.out _ hl2).2.2.1
        have HL2 := Lib.hid hl2
        have HCX2 := Lib.hid hcx2
        have hzl : (put3 (wr.drew.alloc (.cells #[.int .i64 0, .int .i64 0, .int .i64 0] 22)) wr.heap.size cell).heap.size = wr.heap.size + 1 := by unfold put3; simp
        clear hl1 hcx1 hl2 hcx2
        have HCELL := Lib.hid hcell
        have HCU2 : Hid (∀ W, Below w.heap.size w W → Calls Tryd.prog 58 #[valB b, .agg #[.int .i64 cell.x, .int .i64 cell.y, .int .i64 cell.z]] W (Ret (.int .u8 u) W)) := by rw [hcell]; exact HCU.out
        have HCV2 : Hid (∀ W, Below w.heap.size w W → Calls Tryd.prog 58 #[valB c, .agg #[.int .i64 cell.x, .int .i64 cell.y, .int .i64 cell.z]] W (Ret (.int .u8 v) W)) := by rw [hcell]; exact HCV.out
        go_wp2
        clear x0 x1 x2
        refine region_two 19 20 (wr.drew.alloc (.cells #[.int .i64 0, .int .i64 0, .int .i64 0] 22)) (put3 (wr.drew.alloc (.cells #[.int .i64 0, .int .i64 0, .int .i64 0] 22)) wr.heap.size cell) hmx (by kernel_rfl) (by kernel_rfl) ?_
        clear hcell
        iterate 19 ((refine t_read rfl (by decide) (by decide) (fun w' hC => by obtain ⟨x0, x1, x2, _⟩ := (HTW.out w' hC).c; clear hC; go_simp; rfl) ?_; simp only [Act.put, List.setIfInBounds_toArray, List.set_cons_succ, List.set_cons_zero]))
        (refine t_lay rfl (by decide) (by skip; go_simp; rfl) ?_; simp only [Act.put, List.setIfInBounds_toArray, List.set_cons_succ, List.set_cons_zero])
        (refine t_put rfl (by decide) rfl (by kernel_rfl) (exec_store3 cell _ _ HCX1.out rfl rfl (by rw [HCELL.out]; rfl)) ?_; simp only [Act.put, List.setIfInBounds_toArray, List.set_cons_succ, List.set_cons_zero])
        refine l_nil ?_
        generalize put3 (wr.drew.alloc (.cells #[.int .i64 0, .int .i64 0, .int .i64 0] 22)) wr.heap.size cell = wc at *
        have HG : Hid (∀ W, Below wc.heap.size wc W → BxB W w.heap.size b ∧ BxB W (w.heap.size + 1) c ∧ CX W wr.heap.size cell ∧ Below w.heap.size w W ∧ Below wx.heap.size wx W) := fun W h => by
          obtain ⟨q1, q2, _, q4, q5⟩ := HF.out W (HL2.out.trans (h.mono (by rw [hzl]; exact Nat.le_succ _)))
          exact ⟨q1.c, q2.c, HCX2.out.below h (by rw [hzl]; exact Nat.lt_succ_self _), q4, q5⟩
        clear HTW HL2 HCX1 HCX2 e1 e2 e3 e4 w1 w2' n1 n2
        go_wp2
        refine region_qw (fun W => Below wc.heap.size wc W) hmx (by kernel_rfl) (by (repeat (first | exact Below.refl _ _ | assumption | refine Below.alloc ?_ (by first | exact Nat.le_refl _ | exact Below.size (by assumption) | omega | (simp <;> omega)) _ | refine Below.setCell ?_ (by first | exact Nat.le_refl _ | exact Below.size (by assumption) | omega | (simp <;> omega)) _ | refine below_drewN ?_ _ | refine Below.drew ?_))) ?_
        repeat (first | (refine qw_read rfl (fun w' hC => by obtain ⟨⟨f0, f1, f2, f3, f4, f5, f6⟩, ⟨g0, g1, g2, g3, g4, g5, g6⟩, hx, _⟩ := HG.out w' hC; obtain ⟨x0, x1, x2, _⟩ := hx.c; clear hC; go_simp; rfl) ?_; simp only [Act.put, List.setIfInBounds_toArray, List.set_cons_succ, List.set_cons_zero]) | (refine qw_pass (by first | (simp [Region.wanted, yielded]; done) | (simp [Region.wanted, yielded]; intro h; cases h)) ?_; simp only [Act.put, List.setIfInBounds_toArray, List.set_cons_succ, List.set_cons_zero]))
        (refine qw_call rfl (fun w' hC => by (go_simp; try rfl)) (fun w' hC => (HCU2.out w' (HG.out w' hC).2.2.2.1).mono (fun e w2 hr => ⟨hr.1, hC.trans (hr.2.mono hC.size)⟩)) ?_; simp only [Act.put, List.setIfInBounds_toArray, List.set_cons_succ, List.set_cons_zero])
        repeat (first | (refine qw_read rfl (fun w' hC => by obtain ⟨⟨f0, f1, f2, f3, f4, f5, f6⟩, ⟨g0, g1, g2, g3, g4, g5, g6⟩, hx, _⟩ := HG.out w' hC; obtain ⟨x0, x1, x2, _⟩ := hx.c; clear hC; go_simp; rfl) ?_; simp only [Act.put, List.setIfInBounds_toArray, List.set_cons_succ, List.set_cons_zero]) | (refine qw_pass (by first | (simp [Region.wanted, yielded]; done) | (simp [Region.wanted, yielded]; intro h; cases h)) ?_; simp only [Act.put, List.setIfInBounds_toArray, List.set_cons_succ, List.set_cons_zero]))
        (refine qw_call rfl (fun w' hC => by (go_simp; try rfl)) (fun w' hC => (HCV2.out w' (HG.out w' hC).2.2.2.1).mono (fun e w2 hr => ⟨hr.1, hC.trans (hr.2.mono hC.size)⟩)) ?_; simp only [Act.put, List.setIfInBounds_toArray, List.set_cons_succ, List.set_cons_zero])
        repeat (first | (refine qw_read rfl (fun w' hC => by obtain ⟨⟨f0, f1, f2, f3, f4, f5, f6⟩, ⟨g0, g1, g2, g3, g4, g5, g6⟩, hx, _⟩ := HG.out w' hC; obtain ⟨x0, x1, x2, _⟩ := hx.c; clear hC; go_simp; rfl) ?_; simp only [Act.put, List.setIfInBounds_toArray, List.set_cons_succ, List.set_cons_zero]) | (refine qw_pass (by first | (simp [Region.wanted, yielded]; done) | (simp [Region.wanted, yielded]; intro h; cases h)) ?_; simp only [Act.put, List.setIfInBounds_toArray, List.set_cons_succ, List.set_cons_zero]))
        refine qw_nil ?_
        intro w9 hb9
        have hB9 := (HG.out w9 hb9).2.2.2
        by_cases huv : u = v
        · have HEQ := Lib.hid (HUV.out huv)
          have d1 : (u != v) = false := by simp [huv]
          have HNO2 : Hid (∀ j, j < k + 1 → S.at (cellN ⟨a1, b1, c1⟩ j) = T.at (cellN ⟨a1, b1, c1⟩ j)) := fun j hj => by
            rcases Nat.lt_succ_iff_lt_or_eq.1 hj with h | rfl
            · exact HNO.out j h
            · exact HEQ.out
          clear huv
          go_wp2
          go_roundw
          case rel => exact ⟨k + 1, hlt, by go_num, HNO2.out, hB9.2⟩
          case measure => simp [intOf]; omega
        · have HS := Lib.hid (HUN.out huv)
          have d1 : (u != v) = true := by simp [huv]
          clear huv
          go_wp2
          go_ret
          exact Ret.mk (by rw [HS.out]; rfl) hB9.1
      · obtain rfl : k = N := Nat.le_antisymm hk (Nat.not_lt.1 hlt)
        have HT := Lib.hid (HSA.out HNO.out)
        have hBw := (HF.out wr (Below.refl _ _)).2.2.2.1
        go_wp2
        go_ret
        exact Ret.mk (by rw [HT.out]; rfl) hBw
  · have HS := Lib.hid (same_ext heq)
    have hne : ∀ W, (binOp .neq 22 (val3 S.ext) (val3 T.ext)).run Tryd.prog W = .ok (.bool true) W := fun W => by rw [run_ne3, decide_eq_false heq]; rfl
    clear he heq hS hT HC1 HC2
    obtain ⟨e, hee⟩ : ∃ e, S.ext = e := ⟨_, rfl⟩
    obtain ⟨g, hgg⟩ : ∃ g, T.ext = g := ⟨_, rfl⟩
    rw [hee] at HM1 hne
    rw [hgg] at HM2 hne
    clear hee hgg
    obtain ⟨p1, p2, p3⟩ := e
    obtain ⟨q1, q2, q3⟩ := g
    go_enter Tryd.func62, Tryd.ntmps62
    go_wp2_with fail
    rw [HWA.out]
    refine (HM1.out _ hBa).mono ?_
    rintro e w2 ⟨rfl, hb2⟩
    clear f0 f1 f2 f3 f4 f5 f6 x2
    have hB2 := hBa.trans (hb2.mono hBa.size)
    have hs2 := hb2.size
    have hba2 : Below wa.heap.size wa (w2.alloc (.cells #[.int .i64 p1, .int .i64 p2, .int .i64 p3] 22)) := by (repeat (first | exact Below.refl _ _ | assumption | refine Below.alloc ?_ (by first | exact Nat.le_refl _ | exact Below.size (by assumption) | omega | (simp <;> omega)) _ | refine Below.setCell ?_ (by first | exact Nat.le_refl _ | exact Below.size (by assumption) | omega | (simp <;> omega)) _ | refine below_drewN ?_ _ | refine Below.drew ?_))
    obtain ⟨f0, f1, f2, f3, f4, f5, f6⟩ := (HXA.out _ hba2).2.c
    have HE2 := Lib.hid (CX.new w2 ⟨p1, p2, p3⟩)
    go_wp2_with fail
    refine (HM2.out _ (hBa.trans (hba2.mono hBa.size))).mono ?_
    rintro e w3 ⟨rfl, hb3⟩
    clear f0 f1 f2 f3 f4 f5 f6
    have hs3 := hb3.size
    rw [World.size_alloc] at hs3
    have hb4 : Below (w2.alloc (.cells #[.int .i64 p1, .int .i64 p2, .int .i64 p3] 22)).heap.size (w2.alloc (.cells #[.int .i64 p1, .int .i64 p2, .int .i64 p3] 22)) (w3.alloc (.cells #[.int .i64 q1, .int .i64 q2, .int .i64 q3] 22)) := by (repeat (first | exact Below.refl _ _ | assumption | refine Below.alloc ?_ (by first | exact Nat.le_refl _ | exact Below.size (by assumption) | omega | (simp <;> omega)) _ | refine Below.setCell ?_ (by first | exact Nat.le_refl _ | exact Below.size (by assumption) | omega | (simp <;> omega)) _ | refine below_drewN ?_ _ | refine Below.drew ?_))
    have hba4 := hba2.trans (hb4.mono hba2.size)
    have HE4 : Hid (CX (w3.alloc (.cells #[.int .i64 q1, .int .i64 q2, .int .i64 q3] 22)) w2.heap.size ⟨p1, p2, p3⟩) := HE2.out.below hb4 (by simp)
    have HE5 : Hid (CX (w3.alloc (.cells #[.int .i64 q1, .int .i64 q2, .int .i64 q3] 22)) w3.heap.size ⟨q1, q2, q3⟩) := CX.new w3 ⟨q1, q2, q3⟩
    obtain ⟨x0, x1, x2, _⟩ := HE4.out.c
    obtain ⟨y0, y1, y2, _⟩ := HE5.out.c
    dsimp only at x0 x1 x2 y0 y1 y2
    go_wp2
    go_ret
    exact Ret.mk (by rw [HS.out]; rfl) (hBa.trans (hba4.mono hBa.size))
end Go.Proofs.YtbcnkcndhgihaaaDoor

namespace Go.Proofs.YtbcnkcndhgihaaaDoor
open Go.RowKit
set_option linter.unusedSimpArgs false

theorem check_equal {b c : BT} {S : Sh} (hf : formS b = .ok S) {x : Int} (hc : formS c = .error x) : equalB b c = (false, x) := by unfold equalB; rw [hf, hc]
theorem ok_wrap {W : World} {b : BT} {op ax n0 n1 : Int} {k : Nat} (hb : OkB W W.heap.size b) (hk : k < W.heap.size) (hc : ∀ j v, b.cl[j]? = some v → W.cell? ⟨k, j, none⟩ = some v)
    (b1 : -9223372036854775808 ≤ op ∧ op ≤ 9223372036854775807) (b2 : -9223372036854775808 ≤ ax ∧ ax ≤ 9223372036854775807) (b4 : -9223372036854775808 ≤ n0 ∧ n0 ≤ 9223372036854775807) (b5 : -9223372036854775808 ≤ n1 ∧ n1 ≤ 9223372036854775807) : OkB W W.heap.size (opB op ax n0 n1 (some ⟨k, 0, none⟩) 1 [b]) := by
  refine .mk _ ?_ ?_ (Nat.le_refl _) (show 1 ≤ maxLen by unfold maxLen; decide) (fun h => by cases h) b1 b2 (show (0 : Int) ≤ 0 ∧ (0 : Int) ≤ 255 by decide) b4 b5 (show (-9223372036854775808 : Int) ≤ 0 ∧ (0 : Int) ≤ 9223372036854775807 by decide)
  · intro i p hp
    match i, hp with
    | 0, hp =>
      simp [BT.ps] at hp
      subst hp
      exact ⟨k, 0, rfl, hk, fun j v hj => by simpa using hc j v hj⟩
    | i + 1, hp => simp [BT.ps] at hp
  · intro p hp
    simp [BT.ps] at hp
    subst hp
    exact hb
theorem cl_cells {W : World} {k : Nat} {b : BT} (h : BX W k b) : ∀ j v, b.cl[j]? = some v → W.cell? ⟨k, j, none⟩ = some v := by
  obtain ⟨f0, f1, f2, f3, f4, f5, f6⟩ := h.c
  intro j v hj
  have hj7 : j < 7 := (List.getElem?_eq_some_iff.1 hj).1
  rcases (show j = 0 ∨ j = 1 ∨ j = 2 ∨ j = 3 ∨ j = 4 ∨ j = 5 ∨ j = 6 by omega) with rfl | rfl | rfl | rfl | rfl | rfl | rfl <;> (simp [BT.cl] at hj; subst hj; assumption)
theorem built_flip_of {b : BT} {S : Sh} {ax : Int} {A : Option Addr} {cp : Nat} (h : builtS b = .ok S) : builtS (opB 5 ax 0 0 A cp [b]) = .ok (.flip S.ext ax S) := by
  rw [builtS_eq, show (opB 5 ax 0 0 A cp [b]).ps = [b] from rfl, builtL_cons, h]
  rfl
theorem whole_op {op ax n0 n1 : Int} {A : Option Addr} {cp : Nat} {b : BT} (h1 : oneS (opB op ax n0 n1 A cp [b]) = true) (h : wholeS b = true) : wholeS (opB op ax n0 n1 A cp [b]) = true := by
  rw [wholeS_eq, h1]
  show (true && [b].all wholeS) = true
  simp [h]
theorem one_flip {ax : Int} {A : Option Addr} {cp : Nat} {b : BT} (h : Ax ax) : oneS (opB 5 ax 0 0 A cp [b]) = true := by
  rcases h with rfl | rfl | rfl <;> rfl
set_option maxRecDepth 100000 in
set_option maxHeartbeats 4000000 in
theorem refEqual_any (b c : BT) (w : World) (hb : OkB w w.heap.size b) (hc : OkB w w.heap.size c) : Calls Tryd.prog 28 #[valB b, valB c] w (Ret (.tuple #[.bool (equalB b c).1, .int .i64 (equalB b c).2]) w) := by
  obtain ⟨wa, hwa⟩ : ∃ wa, (w.alloc (.cells #[.int .i64 b.op, .int .i64 b.ax, .int .u8 b.co, .int .i64 b.n0, .int .i64 b.n1, .int .i64 b.n2, .slice b.A b.ps.length b.cp] 25)).alloc (.cells #[.int .i64 c.op, .int .i64 c.ax, .int .u8 c.co, .int .i64 c.n0, .int .i64 c.n1, .int .i64 c.n2, .slice c.A c.ps.length c.cp] 25) = wa := ⟨_, rfl⟩
  have hBa : Below w.heap.size w wa := by rw [← hwa]; (repeat (first | exact Below.refl _ _ | assumption | refine Below.alloc ?_ (by first | exact Nat.le_refl _ | exact Below.size (by assumption) | omega | (simp <;> omega)) _ | refine Below.setCell ?_ (by first | exact Nat.le_refl _ | exact Below.size (by assumption) | omega | (simp <;> omega)) _ | refine below_drewN ?_ _ | refine Below.drew ?_))
  have hza : wa.heap.size = w.heap.size + 2 := by rw [← hwa]; simp
  have hp := bx_pair b c w
  rw [hwa] at hp
  have HXA : Hid (∀ W, Below wa.heap.size wa W → BxB W w.heap.size b ∧ BxB W (w.heap.size + 1) c) := fun W h => ⟨(hp.1.below h (by omega)).c, (hp.2.below h (by omega)).c⟩
  have HC1 := Lib.hid (fun W (hB : Below w.heap.size w W) => refCheck_any b W (hb.now hB))
  have HC2 := Lib.hid (fun W (hB : Below w.heap.size w W) => refCheck_any c W (hc.now hB))
  have HWA := Lib.hid hwa
  clear hwa hp
  obtain ⟨f0, f1, f2, f3, f4, f5, f6⟩ := (HXA.out wa (Below.refl _ _)).1
  cases hf : formS b with
  | error er =>
    have hx := form_err hf
    have HS : Hid (equalB b c = (false, er)) := by show _ = _; unfold equalB; rw [hf]
    rw [check_err hf] at HC1
    have hne : (er != 0) = true := by simp; omega
    have hne2 : (er == 0) = false := by simp; omega
    clear hf hx hb hc
    go_enter Tryd.func28, Tryd.ntmps28
    go_wp2_with fail
    rw [HWA.out]
    refine (HC1.out _ hBa).mono ?_
    rintro e w2 ⟨rfl, hb2⟩
    have hB2 := hBa.trans (hb2.mono hBa.size)
    clear f0 f1 f2 f3 f4 f5 f6
    go_wp2
    go_ret2
    exact Ret.mk (by rw [HS.out]; rfl) hB2
  | ok S =>
    rw [check_ok hf] at HC1
    cases hg : formS c with
    | error er =>
      have hx := form_err hg
      have HS : Hid (equalB b c = (false, er)) := by show _ = _; unfold equalB; rw [hf, hg]
      rw [check_err hg] at HC2
      have hne : (er != 0) = true := by simp; omega
      clear hf hg hx hb hc
      go_enter Tryd.func28, Tryd.ntmps28
      go_wp2_with fail
      rw [HWA.out]
      refine (HC1.out _ hBa).mono ?_
      rintro e w2 ⟨rfl, hb2⟩
      have hB2 := hBa.trans (hb2.mono hBa.size)
      clear f0 f1 f2 f3 f4 f5 f6
      obtain ⟨_, f0, f1, f2, f3, f4, f5, f6⟩ := HXA.out w2 hb2
      go_wp2_with fail
      refine (HC2.out _ hB2).mono ?_
      rintro e w3 ⟨rfl, hb3⟩
      have hB3 := hB2.trans (hb3.mono hB2.size)
      clear f0 f1 f2 f3 f4 f5 f6
      go_wp2
      go_ret2
      exact Ret.mk (by rw [HS.out]; rfl) hB3
    | ok T =>
      have HS : Hid (equalB b c = (sameS S T, 0)) := by show _ = _; unfold equalB; rw [hf, hg]
      rw [check_ok hg] at HC2
      have HSM := Lib.hid (fun W (hB : Below w.heap.size w W) => refSame_any b c S T W (form_whole hf).2 (form_whole hf).1 (form_whole hg).2 (form_whole hg).1 (hb.now hB) (hc.now hB))
      clear hf hg hb hc
      go_enter Tryd.func28, Tryd.ntmps28
      go_wp2_with fail
      rw [HWA.out]
      refine (HC1.out _ hBa).mono ?_
      rintro e w2 ⟨rfl, hb2⟩
      have hB2 := hBa.trans (hb2.mono hBa.size)
      clear f0 f1 f2 f3 f4 f5 f6
      obtain ⟨_, f0, f1, f2, f3, f4, f5, f6⟩ := HXA.out w2 hb2
      go_wp2_with fail
      refine (HC2.out _ hB2).mono ?_
      rintro e w3 ⟨rfl, hb3⟩
      have hba3 := hb2.trans (hb3.mono hb2.size)
      have hB3 := hB2.trans (hb3.mono hB2.size)
      clear f0 f1 f2 f3 f4 f5 f6
      obtain ⟨⟨f0, f1, f2, f3, f4, f5, f6⟩, g0, g1, g2, g3, g4, g5, g6⟩ := HXA.out w3 hba3
      go_wp2_with fail
      refine (HSM.out _ hB3).mono ?_
      rintro e w4 ⟨rfl, hb4⟩
      have hB4 := hB3.trans (hb4.mono hB3.size)
      clear f0 f1 f2 f3 f4 f5 f6 g0 g1 g2 g3 g4 g5 g6
      go_wp2
      go_ret2
      exact Ret.mk (by rw [HS.out]; rfl) hB4
set_option maxRecDepth 100000 in
set_option maxHeartbeats 4000000 in
theorem refMirrored_any (b : BT) (ax : Int) (w : World) (hb : OkB w w.heap.size b) : Calls Tryd.prog 30 #[valB b, .int .i64 ax] w (Ret (.tuple #[.bool (mirrB b ax).1, .int .i64 (mirrB b ax).2]) w) := by
  obtain ⟨wa, hwa⟩ : ∃ wa, w.alloc (.cells #[.int .i64 b.op, .int .i64 b.ax, .int .u8 b.co, .int .i64 b.n0, .int .i64 b.n1, .int .i64 b.n2, .slice b.A b.ps.length b.cp] 25) = wa := ⟨_, rfl⟩
  have hBa : Below w.heap.size w wa := by rw [← hwa]; (repeat (first | exact Below.refl _ _ | assumption | refine Below.alloc ?_ (by first | exact Nat.le_refl _ | exact Below.size (by assumption) | omega | (simp <;> omega)) _ | refine Below.setCell ?_ (by first | exact Nat.le_refl _ | exact Below.size (by assumption) | omega | (simp <;> omega)) _ | refine below_drewN ?_ _ | refine Below.drew ?_))
  have hza : wa.heap.size = w.heap.size + 1 := by rw [← hwa]; simp
  have hp := BX.new w b
  rw [hwa] at hp
  have HXA : Hid (∀ W, Below wa.heap.size wa W → BxB W w.heap.size b) := fun W h => (hp.below h (by omega)).c
  have HC1 := Lib.hid (fun W (hB : Below w.heap.size w W) => refCheck_any b W (hb.now hB))
  have HB := Lib.hid (fun W (hB : Below w.heap.size w W) => hb.now hB)
  have HWA := Lib.hid hwa
  clear hwa hp hb
  obtain ⟨f0, f1, f2, f3, f4, f5, f6⟩ := HXA.out wa (Below.refl _ _)
  cases hf : formS b with
  | error er =>
    have hx := form_err hf
    have HS : Hid (mirrB b ax = (false, er)) := by show _ = _; unfold mirrB; rw [hf]
    rw [check_err hf] at HC1
    have hne : (er != 0) = true := by simp; omega
    clear hf hx
    go_enter Tryd.func30, Tryd.ntmps30
    go_wp2_with fail
    rw [HWA.out]
    refine (HC1.out _ hBa).mono ?_
    rintro e w2 ⟨rfl, hb2⟩
    have hB2 := hBa.trans (hb2.mono hBa.size)
    clear f0 f1 f2 f3 f4 f5 f6
    go_wp2
    go_ret2
    exact Ret.mk (by rw [HS.out]; rfl) hB2
  | ok S =>
    rw [check_ok hf] at HC1
    have HSP : Hid (mirrB b ax = if 0 ≤ ax ∧ ax ≤ 2 then (sameS S (.flip S.ext ax S), 0) else (false, 2)) := by show _ = _; unfold mirrB; rw [hf]
    have HFW := Lib.hid (form_whole hf)
    clear hf
    by_cases hax : 0 ≤ ax ∧ ax ≤ 2
    · have HS := Lib.hid (HSP.out.trans (if_pos hax))
      have HAX : Hid (Ax ax) := by unfold Hid Ax; omega
      have d1 : decide (ax < 0) = false := decide_eq_false (by omega)
      have d2 : decide (2 < ax) = false := decide_eq_false (by omega)
      have HSM : Hid (∀ (W : World) (k : Nat), Below w.heap.size w W → BX W k b → Calls Tryd.prog 62 #[valB b, .agg #[.int .i64 5, .int .i64 ax, .int .u8 0, .int .i64 0, .int .i64 0, .int .i64 0, .slice (some ⟨k, 0, none⟩) 1 1]] W (Ret (.bool (sameS S (.flip S.ext ax S))) W)) := fun W k hB hX =>
        refSame_any b (opB 5 ax 0 0 (some ⟨k, 0, none⟩) 1 [b]) S (.flip S.ext ax S) W HFW.out.2 HFW.out.1 (built_flip_of HFW.out.2) (whole_op (one_flip HAX.out) HFW.out.1) (HB.out W hB) (ok_wrap (HB.out W hB) hX.lt (cl_cells hX) (by decide) (by omega) (by decide) (by decide))
      clear hax
      go_enter Tryd.func30, Tryd.ntmps30
      go_wp2_with fail
      rw [HWA.out]
      refine (HC1.out _ hBa).mono ?_
      rintro e w2 ⟨rfl, hb2⟩
      have hB2 := hBa.trans (hb2.mono hBa.size)
      clear f0 f1 f2 f3 f4 f5 f6
      obtain ⟨f0, f1, f2, f3, f4, f5, f6⟩ := HXA.out w2 hb2
      go_wp2_with fail
      refine (HSM.out _ w2.heap.size (by (repeat (first | exact Below.refl _ _ | assumption | refine Below.alloc ?_ (by first | exact Nat.le_refl _ | exact Below.size (by assumption) | omega | (simp <;> omega)) _ | refine Below.setCell ?_ (by first | exact Nat.le_refl _ | exact Below.size (by assumption) | omega | (simp <;> omega)) _ | refine below_drewN ?_ _ | refine Below.drew ?_))) (BX.new w2 b)).mono ?_
      rintro e w4 ⟨rfl, hb4⟩
      have hB4 : Below w.heap.size w w4 := below_next (by (repeat (first | exact Below.refl _ _ | assumption | refine Below.alloc ?_ (by first | exact Nat.le_refl _ | exact Below.size (by assumption) | omega | (simp <;> omega)) _ | refine Below.setCell ?_ (by first | exact Nat.le_refl _ | exact Below.size (by assumption) | omega | (simp <;> omega)) _ | refine below_drewN ?_ _ | refine Below.drew ?_))) hb4
      clear f0 f1 f2 f3 f4 f5 f6
      go_wp2
      go_ret2
      exact Ret.mk (by rw [HS.out]; rfl) hB4
    · have HS := Lib.hid (HSP.out.trans (if_neg hax))
      go_enter Tryd.func30, Tryd.ntmps30
      go_wp2_with fail
      rw [HWA.out]
      refine (HC1.out _ hBa).mono ?_
      rintro e w2 ⟨rfl, hb2⟩
      have hB2 := hBa.trans (hb2.mono hBa.size)
      clear f0 f1 f2 f3 f4 f5 f6
      rcases Int.lt_or_le ax 0 with h0 | h0
      · have d1 : decide (ax < 0) = true := decide_eq_true h0
        clear hax h0
        go_wp2
        go_ret2
        exact Ret.mk (by rw [HS.out]; rfl) hB2
      · have d1 : decide (ax < 0) = false := decide_eq_false (by omega)
        have d2 : decide (2 < ax) = true := decide_eq_true (by omega)
        clear hax h0
        go_wp2
        go_ret2
        exact Ret.mk (by rw [HS.out]; rfl) hB2
end Go.Proofs.YtbcnkcndhgihaaaDoor

/- Blocks: the reader: recipe: the walk. -/
import Derived.Test.YtbcnkcndhgihaaaDoorSRM
import Derived.Test.YtbcnkcndhgihaaaDoorRoundX
namespace Go.Proofs.YtbcnkcndhgihaaaDoor
open Go.RowKit Go.Shelf
set_option linter.unusedSimpArgs false

theorem exec_store7 {o : Oper} {a : Act} {w : World} {k : Nat} {b : BT} (q : BT) (x y : Operand) (h : BX w k b) (ho : o.op = .store 25 x y) (hx : a.eval x = .pointer (some ⟨k, 0, none⟩)) (hy : a.eval y = valB q) : (execOp a.eval o).run Tryd.prog w = .ok .skip (putB w k q) := by
  unfold execOp
  rw [ho]
  have h2 := run_putB2 h q
  simp [hx, hy, Sem.run_bind, h2]
set_option maxRecDepth 100000 in
set_option maxHeartbeats 16000000 in
theorem rec_step (f : Nat) (ih : ∀ (k : Nat) (r : Bs) (w : World), RdrX w k r → r.length < f → r.length ≤ 100000 → Calls Tryd.prog 80 #[.pointer (some ⟨k, 0, none⟩)] w (RecR k f r w))
    (k : Nat) (r : Bs) (w : World) (h : RdrX w k r) (hlen : r.length < f + 1) (hlim : r.length ≤ 100000) : Calls Tryd.prog 80 #[.pointer (some ⟨k, 0, none⟩)] w (RecR k (f + 1) r w) := by
  have IH := Lib.hid ih; clear ih
  have hmx : Tryd.prog.follows .mixedOrders = true := by kernel_rfl
  have hk := h.lt
  have HX := Lib.hid h; clear h
  have HLEN := Lib.hid hlen; clear hlen
  have HLIM := Lib.hid hlim; clear hlim
  obtain ⟨i0, hj0, hz0, hz1, hz2⟩ := infoS_partsB Tryd.infoSB
  have HJ := Lib.hid hj0; clear hj0
  go_enter Tryd.func80, Tryd.ntmps80
  go_wp2_with fail
  refine (head_any k r _ (HX.out.below (B := w.heap.size) (by (repeat (first | exact Below.refl _ _ | assumption | refine Below.alloc ?_ (by first | exact Nat.le_refl _ | exact Below.size (by assumption) | omega | (simp <;> omega)) _ | refine Below.setCell ?_ (by first | exact Nat.le_refl _ | exact Below.size (by assumption) | omega | (simp <;> omega)) _ | refine below_drewN ?_ _ | refine Below.drew ?_))) hk)).mono ?_
  rintro e w1 ⟨hg1, hm⟩
  have hR1 : BX w1 w.heap.size zeroB := (BX.new w zeroB).grown hg1 (by omega)
  have hgw1 : w.grownBy w1 (some k) := grownBy_first hg1
  clear hg1
  have hl1 := hR1.lt
  cases hh : headS r with
  | none =>
    rw [hh] at hm
    obtain ⟨q, rfl, hq⟩ := hm
    have HN : Hid (recS (f + 1) r = none) := by show _ = _; unfold recS; rw [hh]
    obtain ⟨z, hz⟩ : ∃ z, z = zeroB := ⟨_, rfl⟩
    rw [← hz] at hR1 ⊢
    have HW := Lib.hid (And.intro hq (And.intro hgw1 hR1))
    clear hq hgw1 hR1 hh hz
    have hbz : Hid (BX (w1.alloc (.cells #[.int .i64 z.op, .int .i64 z.ax, .int .u8 z.co, .int .i64 z.n0, .int .i64 z.n1, .int .i64 z.n2, .slice z.A z.ps.length z.cp] 25)) w.heap.size z) := HW.out.2.2.below (B := w1.heap.size) (by (repeat (first | exact Below.refl _ _ | assumption | refine Below.alloc ?_ (by first | exact Nat.le_refl _ | exact Below.size (by assumption) | omega | (simp <;> omega)) _ | refine Below.setCell ?_ (by first | exact Nat.le_refl _ | exact Below.size (by assumption) | omega | (simp <;> omega)) _ | refine below_drewN ?_ _ | refine Below.drew ?_))) hl1
    go_wp2_with ((with_reducible refine at_store7 ?_); refine wpList_store7 z _ _ hbz.out rfl rfl rfl rfl ?_)
    obtain ⟨y0, y1, y2, y3, y4, y5, y6⟩ := (hbz.out.put z).c
    refine bodyPost_ret (v := .tuple #[valB z, .bool false]) (by simp [results, Tryd.results80, go_sem, y0, y1, y2, y3, y4, y5, y6]) rfl ?_
    refine ⟨grown_then (Lib.grownBy_below HW.out.2.1 (by (repeat (first | exact Below.refl _ _ | assumption | refine Below.alloc ?_ (by first | exact Nat.le_refl _ | exact Below.size (by assumption) | omega | (simp <;> omega)) _ | refine Below.setCell ?_ (by first | exact Nat.le_refl _ | exact Below.size (by assumption) | omega | (simp <;> omega)) _ | refine below_drewN ?_ _ | refine Below.drew ?_)))) (putB_grown _ w.heap.size _) (Nat.le_refl _), ?_⟩
    rw [HN.out]
    exact ⟨_, _, rfl, (HW.out.1.below (B := w1.heap.size) (by (repeat (first | exact Below.refl _ _ | assumption | refine Below.alloc ?_ (by first | exact Nat.le_refl _ | exact Below.size (by assumption) | omega | (simp <;> omega)) _ | refine Below.setCell ?_ (by first | exact Nat.le_refl _ | exact Below.size (by assumption) | omega | (simp <;> omega)) _ | refine below_drewN ?_ _ | refine Below.drew ?_))) HW.out.1.lt).putB (by omega)⟩
  | some x =>
    obtain ⟨op, ax, co, r1⟩ := x
    rw [hh] at hm
    obtain ⟨rfl, hq⟩ := hm
    dsimp only [valB, BT.op, BT.ax, BT.co, BT.n0, BT.n1, BT.n2, BT.A, BT.cp, BT.ps, List.length_nil]
    have hh2 := head_op hh
    have hhl := head_len hh
    have HREC : Hid (recS (f + 1) r = match numsS (nnum op) r1 with
      | none => none
      | some (l, r2) => match partsR (recS f) (seps op) r2 with
        | none => none
        | some (ps, r3) => match (if ps.length = 0 then some r3 else takeS [41] r3) with
          | none => none
          | some r4 => some (.mk op ax co (nth l 0) (nth l 1) (nth l 2) none 0 ps, r4)) := by
      show recS (f + 1) r = _
      rw [recS, hh]
      rfl
    clear hh
    obtain ⟨w2, hw2⟩ : ∃ w2, w1.alloc (.cells #[.int .i64 op, .int .i64 ax, .int .u8 co, .int .i64 0, .int .i64 0, .int .i64 0, .slice none 0 0] 25) = w2 := ⟨_, rfl⟩
    have hP2 : BX w2 w1.heap.size (.mk op ax co 0 0 0 none 0 []) := by rw [← hw2]; exact BX.new w1 (.mk op ax co 0 0 0 none 0 [])
    have hb12 : Below w1.heap.size w1 w2 := by rw [← hw2]; (repeat (first | exact Below.refl _ _ | assumption | refine Below.alloc ?_ (by first | exact Nat.le_refl _ | exact Below.size (by assumption) | omega | (simp <;> omega)) _ | refine Below.setCell ?_ (by first | exact Nat.le_refl _ | exact Below.size (by assumption) | omega | (simp <;> omega)) _ | refine below_drewN ?_ _ | refine Below.drew ?_))
    have hR2 := hR1.below hb12 hl1
    have hq2 := hq.below hb12 hq.lt
    have hgw2 := Lib.grownBy_below hgw1 hb12
    obtain ⟨P, hP⟩ : ∃ P, w1.heap.size = P := ⟨_, rfl⟩
    rw [hP] at hP2 hl1
    have hs2 : w2.heap.size = P + 1 := by rw [← hw2]; simp [hP]
    have HW := Lib.hid (And.intro hq2 (And.intro hgw2 (And.intro hR2 hP2)))
    obtain ⟨f0, f1, f2, f3, f4, f5, f6⟩ := hP2.c
    dsimp only [BT.op, BT.ax, BT.co, BT.n0, BT.n1, BT.n2, BT.A, BT.cp, BT.ps, List.length_nil] at f0 f1 f2 f3 f4 f5 f6
    have HW2 := Lib.hid hw2
    clear hq hgw1 hR1 hb12 hR2 hq2 hgw2 hP2 hw2
    have HPS := Lib.hid hP
    clear hP
    go_wp2_with fail
    rw [HW2.out, HPS.out]
    refine (numbers_any op _).mono ?_
    rintro e w9 ⟨rfl, rfl⟩
    have hn3 : nnum op ≤ 3 := by unfold nnum; split <;> (try split) <;> (try split) <;> omega
    obtain ⟨N, hN⟩ : ∃ N, nnum op = N := ⟨_, rfl⟩
    rw [hN] at hn3 HREC ⊢
    have hlim1 : r1.length ≤ 100000 := by have := HLIM.out; omega
    have hPk : P ≠ k := by omega
    have hPw : w.heap.size < P := hl1
    go_wp2
    clear f0 f1 f2 f3 f4 f5 f6
    go_loopw [6, 7, 8, 23] (fun _ _ _ i wr => ∃ (j : Nat) (l : List Int) (q : Bs), i = .int .i64 j ∧ j ≤ N ∧ numsS j r1 = some (l, q) ∧ BX wr P (.mk op ax co (nth l 0) (nth l 1) (nth l 2) none 0 []) ∧ RdrX wr k q ∧ BX wr w.heap.size zeroB ∧ w.grownBy wr (some k)) (fun _ _ _ i _ => N - (intOf i).toNat)
    case atStart => exact ⟨0, [], r1, rfl, Nat.zero_le _, rfl, HW.out.2.2.2, HW.out.1, HW.out.2.2.1, HW.out.2.1⟩
    case round =>
      obtain ⟨j, l, q, rfl, hj, hnums, hbx0, hrd, hRx, hgw⟩ := hrel
      have hq1 := (nums_len _ _ _ _ hnums).2
      have hll := (nums_len _ _ _ _ hnums).1
      have hj4 : (j = 0 ∧ 0 < N) ∨ (j = 1 ∧ 1 < N) ∨ (j = 2 ∧ 2 < N) ∨ j = N := by omega
      rcases hj4 with ⟨rfl, hjn⟩ | ⟨rfl, hjn⟩ | ⟨rfl, hjn⟩ | rfl
      · -- number 0
        obtain rfl : l = [] := by
          exact List.length_eq_zero_iff.1 hll
        have hbx : BX wr P (.mk op ax co 0 0 0 none 0 []) := hbx0
        obtain ⟨f0, f1, f2, f3, f4, f5, f6⟩ := hbx.c
        dsimp only [BT.op, BT.ax, BT.co, BT.n0, BT.n1, BT.n2, BT.A, BT.cp, BT.ps, List.length_nil] at f0 f1 f2 f3 f4 f5 f6
        clear hbx0
        go_wp2_with fail
        refine (number_any k q wr hrd (by omega)).mono ?_
        rintro e w3 ⟨hg3, hm3⟩
        have hbx3 := hbx.grown hg3 hPk
        have hR3 := hRx.grown hg3 (by omega)
        have hgw3 := Lib.grownBy_trans hgw hg3
        clear f0 f1 f2 f3 f4 f5 f6
        cases hnq : numS q with
        | none =>
          rw [hnq] at hm3
          obtain ⟨v, q3, rfl, hrd3⟩ := hm3
          have HN : Hid (recS (f + 1) r = none) := by show _ = _; rw [HREC.out, nums_stop 0 _ _ _ _ hjn hnums hnq]
          clear hnq hnums
          obtain ⟨f0, f1, f2, f3, f4, f5, f6⟩ := hbx3.c
          dsimp only [BT.op, BT.ax, BT.co, BT.n0, BT.n1, BT.n2, BT.A, BT.cp, BT.ps, List.length_nil] at f0 f1 f2 f3 f4 f5 f6
          go_wp2_with ((with_reducible refine at_store7 ?_); refine wpList_store7 (.mk op ax co 0 0 0 none 0 []) _ _ hR3 rfl rfl rfl rfl ?_)
          obtain ⟨y0, y1, y2, y3, y4, y5, y6⟩ := (BX.put hR3 (.mk op ax co 0 0 0 none 0 [])).c
          refine bodyPost_ret (v := .tuple #[valB (.mk op ax co 0 0 0 none 0 []), .bool false]) (by simp [results, Tryd.results80, go_sem, y0, y1, y2, y3, y4, y5, y6]) rfl ?_
          refine ⟨grown_then hgw3 (putB_grown _ w.heap.size _) (Nat.le_refl _), ?_⟩
          rw [HN.out]
          exact ⟨_, _, rfl, RdrX.putB hrd3 (by omega)⟩

        | some x =>
          obtain ⟨n, q3⟩ := x
          rw [hnq] at hm3
          obtain ⟨rfl, hrd3⟩ := hm3
          have hsn := nums_snoc 0 _ _ _ _ _ hnums hnq
          have hfz := hbx3.f
          obtain ⟨f0, f1, f2, f3, f4, f5, f6⟩ := hbx3.c
          dsimp only [BT.op, BT.ax, BT.co, BT.n0, BT.n1, BT.n2, BT.A, BT.cp, BT.ps, List.length_nil] at f0 f1 f2 f3 f4 f5 f6
          obtain ⟨z0, z1, z2, z3, z4, z5, z6⟩ := hfz
          have HW4 := Lib.hid (And.intro (hbx3.setN0 n) (And.intro (hrd3.grown (Lib.grownBy_setCell w3 P 3 (.int .i64 n)) (by omega)) (And.intro (hR3.grown (Lib.grownBy_setCell w3 P 3 (.int .i64 n)) (by omega)) (grown_then hgw3 (Lib.grownBy_setCell w3 P 3 (.int .i64 n)) (by omega)))))
          have HSN := Lib.hid hsn
          have HJN := Lib.hid hjn
          clear hnq hnums hsn hjn hbx3 hR3 hgw3 hbx hRx hgw hrd hrd3
          go_wp2
          go_roundw
          case rel => exact ⟨1, _, q3, rfl, HJN.out, HSN.out, HW4.out.1, HW4.out.2.1, HW4.out.2.2.1, HW4.out.2.2.2⟩
          case measure => have := HJN.out; simp [intOf]; omega
      · -- number 1
        obtain ⟨a0, rfl⟩ : ∃ a0, l = [a0] := by
          exact List.length_eq_one_iff.1 hll
        have hbx : BX wr P (.mk op ax co a0 0 0 none 0 []) := hbx0
        obtain ⟨f0, f1, f2, f3, f4, f5, f6⟩ := hbx.c
        dsimp only [BT.op, BT.ax, BT.co, BT.n0, BT.n1, BT.n2, BT.A, BT.cp, BT.ps, List.length_nil] at f0 f1 f2 f3 f4 f5 f6
        clear hbx0
        go_wp2_with fail
        refine (number_any k q wr hrd (by omega)).mono ?_
        rintro e w3 ⟨hg3, hm3⟩
        have hbx3 := hbx.grown hg3 hPk
        have hR3 := hRx.grown hg3 (by omega)
        have hgw3 := Lib.grownBy_trans hgw hg3
        clear f0 f1 f2 f3 f4 f5 f6
        cases hnq : numS q with
        | none =>
          rw [hnq] at hm3
          obtain ⟨v, q3, rfl, hrd3⟩ := hm3
          have HN : Hid (recS (f + 1) r = none) := by show _ = _; rw [HREC.out, nums_stop 1 _ _ _ _ hjn hnums hnq]
          clear hnq hnums
          obtain ⟨f0, f1, f2, f3, f4, f5, f6⟩ := hbx3.c
          dsimp only [BT.op, BT.ax, BT.co, BT.n0, BT.n1, BT.n2, BT.A, BT.cp, BT.ps, List.length_nil] at f0 f1 f2 f3 f4 f5 f6
          go_wp2_with ((with_reducible refine at_store7 ?_); refine wpList_store7 (.mk op ax co a0 0 0 none 0 []) _ _ hR3 rfl rfl rfl rfl ?_)
          obtain ⟨y0, y1, y2, y3, y4, y5, y6⟩ := (BX.put hR3 (.mk op ax co a0 0 0 none 0 [])).c
          refine bodyPost_ret (v := .tuple #[valB (.mk op ax co a0 0 0 none 0 []), .bool false]) (by simp [results, Tryd.results80, go_sem, y0, y1, y2, y3, y4, y5, y6]) rfl ?_
          refine ⟨grown_then hgw3 (putB_grown _ w.heap.size _) (Nat.le_refl _), ?_⟩
          rw [HN.out]
          exact ⟨_, _, rfl, RdrX.putB hrd3 (by omega)⟩

        | some x =>
          obtain ⟨n, q3⟩ := x
          rw [hnq] at hm3
          obtain ⟨rfl, hrd3⟩ := hm3
          have hsn := nums_snoc 1 _ _ _ _ _ hnums hnq
          have hfz := hbx3.f
          obtain ⟨f0, f1, f2, f3, f4, f5, f6⟩ := hbx3.c
          dsimp only [BT.op, BT.ax, BT.co, BT.n0, BT.n1, BT.n2, BT.A, BT.cp, BT.ps, List.length_nil] at f0 f1 f2 f3 f4 f5 f6
          obtain ⟨z0, z1, z2, z3, z4, z5, z6⟩ := hfz
          have HW4 := Lib.hid (And.intro (hbx3.setN1 n) (And.intro (hrd3.grown (Lib.grownBy_setCell w3 P 4 (.int .i64 n)) (by omega)) (And.intro (hR3.grown (Lib.grownBy_setCell w3 P 4 (.int .i64 n)) (by omega)) (grown_then hgw3 (Lib.grownBy_setCell w3 P 4 (.int .i64 n)) (by omega)))))
          have HSN := Lib.hid hsn
          have HJN := Lib.hid hjn
          clear hnq hnums hsn hjn hbx3 hR3 hgw3 hbx hRx hgw hrd hrd3
          go_wp2
          go_roundw
          case rel => exact ⟨2, _, q3, rfl, HJN.out, HSN.out, HW4.out.1, HW4.out.2.1, HW4.out.2.2.1, HW4.out.2.2.2⟩
          case measure => have := HJN.out; simp [intOf]; omega
      · -- number 2
        obtain ⟨a0, a1, rfl⟩ : ∃ a0 a1, l = [a0, a1] := by
          exact len_two hll
        have hbx : BX wr P (.mk op ax co a0 a1 0 none 0 []) := hbx0
        obtain ⟨f0, f1, f2, f3, f4, f5, f6⟩ := hbx.c
        dsimp only [BT.op, BT.ax, BT.co, BT.n0, BT.n1, BT.n2, BT.A, BT.cp, BT.ps, List.length_nil] at f0 f1 f2 f3 f4 f5 f6
        clear hbx0
        go_wp2_with fail
        refine (number_any k q wr hrd (by omega)).mono ?_
        rintro e w3 ⟨hg3, hm3⟩
        have hbx3 := hbx.grown hg3 hPk
        have hR3 := hRx.grown hg3 (by omega)
        have hgw3 := Lib.grownBy_trans hgw hg3
        clear f0 f1 f2 f3 f4 f5 f6
        cases hnq : numS q with
        | none =>
          rw [hnq] at hm3
          obtain ⟨v, q3, rfl, hrd3⟩ := hm3
          have HN : Hid (recS (f + 1) r = none) := by show _ = _; rw [HREC.out, nums_stop 2 _ _ _ _ hjn hnums hnq]
          clear hnq hnums
          obtain ⟨f0, f1, f2, f3, f4, f5, f6⟩ := hbx3.c
          dsimp only [BT.op, BT.ax, BT.co, BT.n0, BT.n1, BT.n2, BT.A, BT.cp, BT.ps, List.length_nil] at f0 f1 f2 f3 f4 f5 f6
          go_wp2_with ((with_reducible refine at_store7 ?_); refine wpList_store7 (.mk op ax co a0 a1 0 none 0 []) _ _ hR3 rfl rfl rfl rfl ?_)
          obtain ⟨y0, y1, y2, y3, y4, y5, y6⟩ := (BX.put hR3 (.mk op ax co a0 a1 0 none 0 [])).c
          refine bodyPost_ret (v := .tuple #[valB (.mk op ax co a0 a1 0 none 0 []), .bool false]) (by simp [results, Tryd.results80, go_sem, y0, y1, y2, y3, y4, y5, y6]) rfl ?_
          refine ⟨grown_then hgw3 (putB_grown _ w.heap.size _) (Nat.le_refl _), ?_⟩
          rw [HN.out]
          exact ⟨_, _, rfl, RdrX.putB hrd3 (by omega)⟩

        | some x =>
          obtain ⟨n, q3⟩ := x
          rw [hnq] at hm3
          obtain ⟨rfl, hrd3⟩ := hm3
          have hsn := nums_snoc 2 _ _ _ _ _ hnums hnq
          have hfz := hbx3.f
          obtain ⟨f0, f1, f2, f3, f4, f5, f6⟩ := hbx3.c
          dsimp only [BT.op, BT.ax, BT.co, BT.n0, BT.n1, BT.n2, BT.A, BT.cp, BT.ps, List.length_nil] at f0 f1 f2 f3 f4 f5 f6
          obtain ⟨z0, z1, z2, z3, z4, z5, z6⟩ := hfz
          have HW4 := Lib.hid (And.intro (hbx3.setN2 n) (And.intro (hrd3.grown (Lib.grownBy_setCell w3 P 5 (.int .i64 n)) (by omega)) (And.intro (hR3.grown (Lib.grownBy_setCell w3 P 5 (.int .i64 n)) (by omega)) (grown_then hgw3 (Lib.grownBy_setCell w3 P 5 (.int .i64 n)) (by omega)))))
          have HSN := Lib.hid hsn
          have HJN := Lib.hid hjn
          clear hnq hnums hsn hjn hbx3 hR3 hgw3 hbx hRx hgw hrd hrd3
          go_wp2
          go_roundw
          case rel => exact ⟨3, _, q3, rfl, HJN.out, HSN.out, HW4.out.1, HW4.out.2.1, HW4.out.2.2.1, HW4.out.2.2.2⟩
          case measure => have := HJN.out; simp [intOf]; omega
      · have hl9 := nums_bd _ _ _ _ hnums
        have hREC2 : recS (f + 1) r = match partsR (recS f) (seps op) q with
          | none => none
          | some (ps, r3) => match (if ps.length = 0 then some r3 else takeS [41] r3) with
            | none => none
            | some r4 => some (.mk op ax co (nth l 0) (nth l 1) (nth l 2) none 0 ps, r4) := by rw [HREC.out, hnums]
        have hb0 := nth_bd hl9 0
        have hb1 := nth_bd hl9 1
        have hb2 := nth_bd hl9 2
        obtain ⟨n0, hn0⟩ : ∃ n, nth l 0 = n := ⟨_, rfl⟩
        obtain ⟨n1, hn1⟩ : ∃ n, nth l 1 = n := ⟨_, rfl⟩
        obtain ⟨n2, hn2⟩ : ∃ n, nth l 2 = n := ⟨_, rfl⟩
        rw [hn0, hn1, hn2] at hREC2 hbx0
        rw [hn0] at hb0
        rw [hn1] at hb1
        rw [hn2] at hb2
        have HB := Lib.hid (And.intro hh2 (And.intro hb0 (And.intro hb1 hb2)))
        have HREC3 := Lib.hid hREC2
        have hq9 : q.length < f := by have := HLEN.out; omega
        have hq10 : q.length ≤ 100000 := by omega
        have HQ := Lib.hid (And.intro hq9 hq10)
        obtain ⟨f0, f1, f2, f3, f4, f5, f6⟩ := hbx0.c
        dsimp only [BT.op, BT.ax, BT.co, BT.n0, BT.n1, BT.n2, BT.A, BT.cp, BT.ps, List.length_nil] at f0 f1 f2 f3 f4 f5 f6
        have hps := seps_len hh2.1
        have hM2 := seps_two op
        obtain ⟨S, hS⟩ : ∃ S, seps op = S := ⟨_, rfl⟩
        obtain ⟨M, hM⟩ : ∃ M, S.length = M := ⟨_, rfl⟩
        rw [hS] at hps hM2 HREC3
        rw [hM] at hps
        have HSM := Lib.hid (And.intro hM2 hM)
        have hM3 : M ≤ 2 := by rw [← hM]; exact two_len hM2
        have HW5 := Lib.hid (And.intro hbx0 (And.intro hrd (And.intro hRx hgw)))
        clear hREC2 hn0 hn1 hn2 hb0 hb1 hb2 hbx0 hrd hRx hgw hS hM hM2 hl9 hnums hll hq1 hh2 hq9 hq10 HREC
        go_wp2_with fail
        refine (parts_any op _).mono ?_
        rintro e w9 ⟨rfl, rfl⟩
        rw [hps]
        clear hps
        go_wp2
        clear f0 f1 f2 f3 f4 f5 f6
        go_loopw [9, 10, 11, 42] (fun _ _ _ i wr => ∃ (j : Nat) (ps : List BT) (q2 : Bs) (A : Option Addr) (cp : Nat), i = .int .i64 j ∧ j ≤ M ∧ ps.length = j ∧ (j = 0 → A = none ∧ cp = 0) ∧ partsR (recS f) (S.take j) q = some (ps.map strip, q2) ∧ OwnSB wr (P + 1) (.slice A ps.length cp) ps ∧ BX wr P (.mk op ax co n0 n1 n2 A cp ps) ∧ RdrX wr k q2 ∧ BX wr w.heap.size zeroB ∧ w.grownBy wr (some k) ∧ ∀ p ∈ ps, OkI wr (fun i => P + 1 ≤ i ∧ i < wr.heap.size ∧ (ps.length < 2 → ∀ a, A = some a → i ≠ a.block)) p) (fun _ _ _ i _ => M - (intOf i).toNat)
        case atStart => exact ⟨0, [], q, none, 0, rfl, Nat.zero_le _, rfl, fun _ => ⟨rfl, rfl⟩, rfl, World.ownsRow_nil _ _ _ _, HW5.out.1, HW5.out.2.1, HW5.out.2.2.1, HW5.out.2.2.2, fun p hp => by simp at hp⟩
        case round =>
          obtain ⟨i, ps, q2, A, cp, rfl, hi, hpl, hA0, hpar, hown, hbx, hrd, hRx, hgw, hkid⟩ := hrel
          have hi2 : (i = 0 ∧ 0 < M) ∨ (i = 1 ∧ 1 < M) ∨ i = M := by omega
          rcases hi2 with ⟨rfl, hjn⟩ | ⟨rfl, hjn⟩ | rfl
          · -- part 0
            obtain rfl : ps = [] := List.length_eq_zero_iff.1 hpl
            obtain ⟨rfl, rfl⟩ := hA0 rfl
            have hsep : S[0]? = some [32, 40] := sep_at0 HSM.out.1 (by have := HSM.out.2; omega)
            obtain ⟨wb, hwb⟩ : ∃ wb, wr.alloc (.cells #[.string ⟨#[32, 40]⟩, .string ⟨#[44, 32]⟩] 9) = wb := ⟨_, rfl⟩
            have hbb : Below wr.heap.size wr wb := by rw [← hwb]; (repeat (first | exact Below.refl _ _ | assumption | refine Below.alloc ?_ (by first | exact Nat.le_refl _ | exact Below.size (by assumption) | omega | (simp <;> omega)) _ | refine Below.setCell ?_ (by first | exact Nat.le_refl _ | exact Below.size (by assumption) | omega | (simp <;> omega)) _ | refine below_drewN ?_ _ | refine Below.drew ?_))
            have hbx1 := hbx.below hbb hbx.lt
            have hrd1 := hrd.below hbb hrd.lt
            have hRx1 := hRx.below hbb hRx.lt
            have hgw1 := Lib.grownBy_below hgw hbb
            have hsb := hbb.size
            have hown1 : OwnSB wb (P + 1) (.slice none ([] : List BT).length 0) [] := own_belowS hown hbb
            
            have HWB := Lib.hid hwb
            obtain ⟨f0, f1, f2, f3, f4, f5, f6⟩ := hbx1.c
            dsimp only [BT.op, BT.ax, BT.co, BT.n0, BT.n1, BT.n2, BT.A, BT.cp, BT.ps, List.length_nil, List.length_singleton] at f0 f1 f2 f3 f4 f5 f6
            have hlq := (partsR_len (recS f) (rec_len f) _ _ _ _ hpar).1
            have HPAR := Lib.hid hpar
            have hwrs : P < wr.heap.size := hbx.lt
            clear hwb hbb hbx hrd hRx hgw hown hkid hpar
            go_wp2_with fail
            rw [HWB.out]
            cases hp : preB q2 [32, 40]
            · refine (take_no k q2 [32, 40] wb hrd1 hp).mono ?_
              rintro e w9 ⟨rfl, rfl⟩
              have HN : Hid (recS (f + 1) r = none) := by
                show _ = _
                have : partsR (recS f) S q = none := by
                  rw [sep_split hsep]; exact partsR_stop _ _ _ _ _ _ _ HPAR.out (.inl (by unfold takeS; rw [hp]; rfl))
                rw [HREC3.out, this]
              clear hp
              go_wp2_with ((with_reducible refine at_store7 ?_); refine wpList_store7 (.mk op ax co n0 n1 n2 none 0 [] : BT) _ _ hRx1 rfl rfl rfl rfl ?_)
              obtain ⟨y0, y1, y2, y3, y4, y5, y6⟩ := (BX.put hRx1 (.mk op ax co n0 n1 n2 none 0 [] : BT)).c
              refine bodyPost_ret (v := .tuple #[valB (.mk op ax co n0 n1 n2 none 0 [] : BT), .bool false]) (by simp [results, Tryd.results80, go_sem, y0, y1, y2, y3, y4, y5, y6]) rfl ?_
              refine ⟨grown_then hgw1 (putB_grown _ w.heap.size _) (Nat.le_refl _), ?_⟩
              rw [HN.out]
              exact ⟨_, _, rfl, RdrX.putB hrd1 (by omega)⟩

            · refine (take_yes k q2 [32, 40] wb hrd1 hp).mono ?_
              rintro e w9 ⟨rfl, hw9⟩
              have hq3 : takeS [32, 40] q2 = some (q2.drop 2) := by unfold takeS; rw [hp]; rfl
              have hw9' : w9 = wb.setCell ⟨k, 0, none⟩ (.string ⟨(q2.drop 2).toArray⟩) := hw9
              have hql : (q2.drop 2).length ≤ q2.length := by rw [List.length_drop]; omega
              obtain ⟨q3, hq3d⟩ : ∃ q3, q2.drop 2 = q3 := ⟨_, rfl⟩
              rw [hq3d] at hq3 hw9' hql
              have hrd2 : RdrX w9 k q3 := by rw [hw9']; exact hrd1.set q3
              have hgt : wb.grownBy w9 (some k) := by rw [hw9']; exact Lib.grownBy_setCell wb k 0 _
              have hbx2 := hbx1.grown hgt hPk
              have hRx2 := hRx1.grown hgt (by omega)
              have hgw2 := Lib.grownBy_trans hgw1 hgt
              have hown2 := own_far hown1 hgt (by omega)
              have hs9 := hgt.size
              
              
              have HQ3 := Lib.hid hq3
              obtain ⟨f0', f1', f2', f3', f4', f5', f6'⟩ := hbx2.c
              dsimp only [BT.op, BT.ax, BT.co, BT.n0, BT.n1, BT.n2, BT.A, BT.cp, BT.ps, List.length_nil, List.length_singleton] at f0' f1' f2' f3' f4' f5' f6'
              clear hp hq3 hw9 hw9' hq3d hgt hbx1 hrd1 hRx1 hgw1 hown1 f0 f1 f2 f3 f4 f5 f6
              
              go_wp2_with fail
              refine (IH.out k q3 w9 hrd2 (by have := HQ.out; omega) (by have := HQ.out; omega)).mono ?_
              rintro e w5 ⟨hg5, hm5⟩
              have hbx5 := hbx2.grown hg5 hPk
              have hRx5 := hRx2.grown hg5 (by omega)
              have hgw5 := Lib.grownBy_trans hgw2 hg5
              have hown5 := own_far hown2 hg5 (by omega)
              have hs5 := hg5.size
              
              clear hbx2 hrd2 hRx2 hgw2 hown2 hg5 f0' f1' f2' f3' f4' f5' f6'
              
              cases hrc : recS f q3 with
              | none =>
                rw [hrc] at hm5
                obtain ⟨v, q5, rfl, hrd5⟩ := hm5
                have HN : Hid (recS (f + 1) r = none) := by
                  show _ = _
                  have : partsR (recS f) S q = none := by
                    rw [sep_split hsep]; exact partsR_stop _ _ _ _ _ _ _ HPAR.out (.inr ⟨q3, HQ3.out, hrc⟩)
                  rw [HREC3.out, this]
                clear hrc
                obtain ⟨wv, hwv⟩ : ∃ wv, w5.alloc (.cells #[.int .i64 v.op, .int .i64 v.ax, .int .u8 v.co, .int .i64 v.n0, .int .i64 v.n1, .int .i64 v.n2, .slice v.A v.ps.length v.cp] 25) = wv := ⟨_, rfl⟩
                have hbv : Below w5.heap.size w5 wv := by rw [← hwv]; (repeat (first | exact Below.refl _ _ | assumption | refine Below.alloc ?_ (by first | exact Nat.le_refl _ | exact Below.size (by assumption) | omega | (simp <;> omega)) _ | refine Below.setCell ?_ (by first | exact Nat.le_refl _ | exact Below.size (by assumption) | omega | (simp <;> omega)) _ | refine below_drewN ?_ _ | refine Below.drew ?_))
                have hbx6 := hbx5.below hbv hbx5.lt
                have hrd6 := hrd5.below hbv hrd5.lt
                have hRx6 := hRx5.below hbv hRx5.lt
                have hgw6 := Lib.grownBy_below hgw5 hbv
                obtain ⟨f0, f1, f2, f3, f4, f5, f6⟩ := hbx5.c
                dsimp only [BT.op, BT.ax, BT.co, BT.n0, BT.n1, BT.n2, BT.A, BT.cp, BT.ps, List.length_nil, List.length_singleton] at f0 f1 f2 f3 f4 f5 f6
                have hl5 : P < w5.heap.size := hbx5.lt
                rw [← hwv] at hRx6 hgw6 hrd6
                clear hwv hbv hbx6
                go_wp2_with ((with_reducible refine at_store7 ?_); refine wpList_store7 (.mk op ax co n0 n1 n2 none 0 [] : BT) _ _ hRx6 rfl rfl rfl rfl ?_)
                obtain ⟨y0, y1, y2, y3, y4, y5, y6⟩ := (BX.put hRx6 (.mk op ax co n0 n1 n2 none 0 [] : BT)).c
                refine bodyPost_ret (v := .tuple #[valB (.mk op ax co n0 n1 n2 none 0 [] : BT), .bool false]) (by simp [results, Tryd.results80, go_sem, y0, y1, y2, y3, y4, y5, y6]) rfl ?_
                refine ⟨grown_then hgw6 (putB_grown _ w.heap.size _) (Nat.le_refl _), ?_⟩
                rw [HN.out]
                exact ⟨_, _, rfl, RdrX.putB hrd6 (by omega)⟩

              | some y =>
                obtain ⟨t, q5⟩ := y
                rw [hrc] at hm5
                obtain ⟨p, hst, rfl, hrd5, hok⟩ := hm5
                have HPAR2 := Lib.hid (partsR_snoc _ _ _ _ _ _ _ _ _ HPAR.out HQ3.out hrc)
                rw [← take_succ_of hsep] at HPAR2
                obtain ⟨W1, hW1⟩ : ∃ W1, w5.alloc (.cells #[.int .i64 p.op, .int .i64 p.ax, .int .u8 p.co, .int .i64 p.n0, .int .i64 p.n1, .int .i64 p.n2, .slice p.A p.ps.length p.cp] 25) = W1 := ⟨_, rfl⟩
                obtain ⟨W2, hW2⟩ : ∃ W2, W1.alloc (.cells #[.int .i64 p.op, .int .i64 p.ax, .int .u8 p.co, .int .i64 p.n0, .int .i64 p.n1, .int .i64 p.n2, .slice p.A p.ps.length p.cp] 25) = W2 := ⟨_, rfl⟩
                have hb1 : Below w5.heap.size w5 W1 := by rw [← hW1]; (repeat (first | exact Below.refl _ _ | assumption | refine Below.alloc ?_ (by first | exact Nat.le_refl _ | exact Below.size (by assumption) | omega | (simp <;> omega)) _ | refine Below.setCell ?_ (by first | exact Nat.le_refl _ | exact Below.size (by assumption) | omega | (simp <;> omega)) _ | refine below_drewN ?_ _ | refine Below.drew ?_))
                have hb2 : Below W1.heap.size W1 W2 := by rw [← hW2]; (repeat (first | exact Below.refl _ _ | assumption | refine Below.alloc ?_ (by first | exact Nat.le_refl _ | exact Below.size (by assumption) | omega | (simp <;> omega)) _ | refine Below.setCell ?_ (by first | exact Nat.le_refl _ | exact Below.size (by assumption) | omega | (simp <;> omega)) _ | refine below_drewN ?_ _ | refine Below.drew ?_))
                have hb3 : Below w5.heap.size w5 W2 := hb1.trans (hb2.mono hb1.size)
                have hs3 := hb3.size
                have hown7 : OwnSB W2 (P + 1) (.slice none ([] : List BT).length 0) [] := own_belowS hown5 hb3
                have hbx7 := hbx5.below hb3 hbx5.lt
                have hrd7 := hrd5.below hb3 hrd5.lt
                have hRx7 := hRx5.below hb3 hRx5.lt
                have hgw7 := Lib.grownBy_below hgw5 hb3
                have hok7 : OkI W2 (fun i => w9.heap.size ≤ i ∧ i < w5.heap.size) p := hok.keep (fun i h => h) fun b off v hi hc => (hb3.cell hi.2).trans hc
                
                have HEND : Hid (∀ (v' : Value) (w6 : World), w6.ownsRow W2.heap.size 25 7 v' (0 + 1) (flatB [] ++ [.int .i64 p.op, .int .i64 p.ax, .int .u8 p.co, .int .i64 p.n0, .int .i64 p.n1, .int .i64 p.n2, .slice p.A p.ps.length p.cp]) → W2.grownBy w6 (Value.slice none 0 0).ownBlock → ∃ A' c', v' = .slice A' 1 c' ∧ BX w6 P (.mk op ax co n0 n1 n2 none 0 [] : BT) ∧
                    (OwnSB (w6.setCell ⟨P, 6, none⟩ (.slice A' 1 c')) (P + 1) (.slice A' ([p] : List BT).length c') [p] ∧ BX (w6.setCell ⟨P, 6, none⟩ (.slice A' 1 c')) P (.mk op ax co n0 n1 n2 A' c' [p]) ∧ RdrX (w6.setCell ⟨P, 6, none⟩ (.slice A' 1 c')) k q5 ∧ BX (w6.setCell ⟨P, 6, none⟩ (.slice A' 1 c')) w.heap.size zeroB ∧ w.grownBy (w6.setCell ⟨P, 6, none⟩ (.slice A' 1 c')) (some k) ∧
                    ∀ p' ∈ ([p] : List BT), OkI (w6.setCell ⟨P, 6, none⟩ (.slice A' 1 c')) (fun i => P + 1 ≤ i ∧ i < (w6.setCell ⟨P, 6, none⟩ (.slice A' 1 c')).heap.size ∧ (([p] : List BT).length < 2 → ∀ a, A' = some a → i ≠ a.block)) p')) := by
                  intro v' w6 hown' hgrow
                  have own6 := ownSB_snoc (R := []) (R' := [p]) (p := p) hown' rfl
                  obtain ⟨A', c', rfl, _, _, hb', _⟩ := own_rdSB own6
                  have hbx6 := hbx7.grownR hgrow (own_row hown7 (by omega))
                  have hsg := hgrow.size
                  refine ⟨A', c', rfl, hbx6, own_far (own_base own6 (by omega)) (Lib.grownBy_setCell w6 P 6 _) (by omega), hbx6.setP A' c' [p], (hrd7.grownR hgrow (own_row hown7 (by omega))).grown (Lib.grownBy_setCell w6 P 6 _) (by omega), (hRx7.grownR hgrow (own_row hown7 (by omega))).grown (Lib.grownBy_setCell w6 P 6 _) (by omega), grown_then (grown_row hgw7 hgrow (fun g hg => by have := (hown7.lt g hg).1; omega)) (Lib.grownBy_setCell w6 P 6 _) (by omega), ?_⟩
                  have hsz : (w6.setCell ⟨P, 6, none⟩ (.slice A' 1 c')).heap.size = w6.heap.size := by simp [World.setCell]
                  intro p' hp'
                  rw [List.mem_singleton.1 hp']
                  exact ((hok7.grownR hgrow fun i _ h => by cases h).grown (Lib.grownBy_setCell w6 P 6 _) (fun i h => ⟨by omega, by omega, fun _ a ha => by have := hb' a ha; omega⟩) (fun i h e => by injection e with e; omega))
                rw [← hW2, ← hW1] at HEND
                have hl5 : P < w5.heap.size := hbx5.lt
                obtain ⟨f0, f1, f2, f3, f4, f5, f6⟩ := hbx5.c
                dsimp only [BT.op, BT.ax, BT.co, BT.n0, BT.n1, BT.n2, BT.A, BT.cp, BT.ps, List.length_nil, List.length_singleton] at f0 f1 f2 f3 f4 f5 f6
                have hs6 : ((w5.alloc (.cells #[.int .i64 p.op, .int .i64 p.ax, .int .u8 p.co, .int .i64 p.n0, .int .i64 p.n1, .int .i64 p.n2, .slice p.A p.ps.length p.cp] 25)).alloc (.cells #[.int .i64 p.op, .int .i64 p.ax, .int .u8 p.co, .int .i64 p.n0, .int .i64 p.n1, .int .i64 p.n2, .slice p.A p.ps.length p.cp] 25)).heap.size = w5.heap.size + 1 + 1 := by simp
                
                have HJN := Lib.hid hjn
                clear hW1 hW2 hb1 hb2 hb3 hs3 hown7 hbx7 hrd7 hRx7 hgw7 hok7 hok hown5 hbx5 hrd5 hRx5 hgw5 hrc hjn
                
                go_wp2_with (at_builtin; go_loud (refine wpList_append_own _ rfl _ _ 23 rfl ((w5.alloc (.cells #[.int .i64 p.op, .int .i64 p.ax, .int .u8 p.co, .int .i64 p.n0, .int .i64 p.n1, .int .i64 p.n2, .slice p.A p.ps.length p.cp] 25)).alloc (.cells #[.int .i64 p.op, .int .i64 p.ax, .int .u8 p.co, .int .i64 p.n0, .int .i64 p.n1, .int .i64 p.n2, .slice p.A p.ps.length p.cp] 25)).heap.size 25 i0 (.agg #[.int .i64 0, .int .i64 0, .int .u8 0, .int .i64 0, .int .i64 0, .int .i64 0, .slice none 0 0]) 7 72 Tryd.underlying23 HJ.out hz0 hz1 hz2 rfl (by decide) _ _ _ rfl (World.ownsRow_nil _ _ _ _) ⟨w5.heap.size + 1, 0, none⟩ 1 1 [.int .i64 p.op, .int .i64 p.ax, .int .u8 p.co, .int .i64 p.n0, .int .i64 p.n1, .int .i64 p.n2, .slice p.A p.ps.length p.cp] rfl rfl (by intro j u hj; match j, hj with | 0, hj => (simp at hj; subst hj; simp [Addr.add]) | 1, hj => (simp at hj; subst hj; simp [Addr.add]) | 2, hj => (simp at hj; subst hj; simp [Addr.add]) | 3, hj => (simp at hj; subst hj; simp [Addr.add]) | 4, hj => (simp at hj; subst hj; simp [Addr.add]) | 5, hj => (simp at hj; subst hj; simp [Addr.add]) | 6, hj => (simp at hj; subst hj; simp [Addr.add]) | j + 7, hj => simp at hj) (by intro u hu; simp at hu; rcases hu with rfl | rfl | rfl | rfl | rfl | rfl | rfl <;> rfl) (by unfold maxLen; simp) (by simp) (by first | (simp; done) | (simp; omega)) ?_; intro v' w6 hown' hgrow _; obtain ⟨A', c', rfl, hbx6, hF⟩ := HEND.out v' w6 hown' hgrow; have HF := Lib.hid hF; obtain ⟨g0, g1, g2, g3, g4, g5, g6⟩ := hbx6.c; obtain ⟨z0, z1, z2, z3, z4, z5, z6⟩ := hbx6.f; dsimp only [BT.op, BT.ax, BT.co, BT.n0, BT.n1, BT.n2, BT.A, BT.cp, BT.ps, List.length_nil, List.length_singleton] at g0 g1 g2 g3 g4 g5 g6; have hl6 := hbx6.lt; clear hF hown' hgrow hbx6))
                go_wp2
                go_roundw
                case rel => exact ⟨1, [p], q5, A', c', rfl, HJN.out, rfl, (fun h => absurd h (by omega)), by rw [HPAR2.out, ← hst]; rfl, HF.out.1, HF.out.2.1, HF.out.2.2.1, HF.out.2.2.2.1, HF.out.2.2.2.2.1, HF.out.2.2.2.2.2⟩
                case measure => have := HJN.out; simp [intOf]; omega
          · -- part 1
            obtain ⟨p1, rfl⟩ : ∃ p1, ps = [p1] := List.length_eq_one_iff.1 hpl
            clear hA0
            have hsep : S[1]? = some [44, 32] := sep_at1 HSM.out.1 (by have := HSM.out.2; omega)
            obtain ⟨wb, hwb⟩ : ∃ wb, wr.alloc (.cells #[.string ⟨#[32, 40]⟩, .string ⟨#[44, 32]⟩] 9) = wb := ⟨_, rfl⟩
            have hbb : Below wr.heap.size wr wb := by rw [← hwb]; (repeat (first | exact Below.refl _ _ | assumption | refine Below.alloc ?_ (by first | exact Nat.le_refl _ | exact Below.size (by assumption) | omega | (simp <;> omega)) _ | refine Below.setCell ?_ (by first | exact Nat.le_refl _ | exact Below.size (by assumption) | omega | (simp <;> omega)) _ | refine below_drewN ?_ _ | refine Below.drew ?_))
            have hbx1 := hbx.below hbb hbx.lt
            have hrd1 := hrd.below hbb hrd.lt
            have hRx1 := hRx.below hbb hRx.lt
            have hgw1 := Lib.grownBy_below hgw hbb
            have hsb := hbb.size
            have hown1 : OwnSB wb (P + 1) (.slice A ([p1] : List BT).length cp) [p1] := own_belowS hown hbb
            have hkid1 : OkI wb (fun i => P + 1 ≤ i ∧ i < wr.heap.size ∧ ∀ a, A = some a → i ≠ a.block) p1 := (hkid p1 (by simp)).keep (fun i h => ⟨h.1, h.2.1, h.2.2 (by simp)⟩) fun b off v hi hc => (hbb.cell hi.2.1).trans hc
            have HWB := Lib.hid hwb
            obtain ⟨f0, f1, f2, f3, f4, f5, f6⟩ := hbx1.c
            dsimp only [BT.op, BT.ax, BT.co, BT.n0, BT.n1, BT.n2, BT.A, BT.cp, BT.ps, List.length_nil, List.length_singleton] at f0 f1 f2 f3 f4 f5 f6
            have hlq := (partsR_len (recS f) (rec_len f) _ _ _ _ hpar).1
            have HPAR := Lib.hid hpar
            have hwrs : P < wr.heap.size := hbx.lt
            clear hwb hbb hbx hrd hRx hgw hown hkid hpar
            go_wp2_with fail
            rw [HWB.out]
            cases hp : preB q2 [44, 32]
            · refine (take_no k q2 [44, 32] wb hrd1 hp).mono ?_
              rintro e w9 ⟨rfl, rfl⟩
              have HN : Hid (recS (f + 1) r = none) := by
                show _ = _
                have : partsR (recS f) S q = none := by
                  rw [sep_split hsep]; exact partsR_stop _ _ _ _ _ _ _ HPAR.out (.inl (by unfold takeS; rw [hp]; rfl))
                rw [HREC3.out, this]
              clear hp
              go_wp2_with ((with_reducible refine at_store7 ?_); refine wpList_store7 (.mk op ax co n0 n1 n2 A cp [p1] : BT) _ _ hRx1 rfl rfl rfl rfl ?_)
              obtain ⟨y0, y1, y2, y3, y4, y5, y6⟩ := (BX.put hRx1 (.mk op ax co n0 n1 n2 A cp [p1] : BT)).c
              refine bodyPost_ret (v := .tuple #[valB (.mk op ax co n0 n1 n2 A cp [p1] : BT), .bool false]) (by simp [results, Tryd.results80, go_sem, y0, y1, y2, y3, y4, y5, y6]) rfl ?_
              refine ⟨grown_then hgw1 (putB_grown _ w.heap.size _) (Nat.le_refl _), ?_⟩
              rw [HN.out]
              exact ⟨_, _, rfl, RdrX.putB hrd1 (by omega)⟩

            · refine (take_yes k q2 [44, 32] wb hrd1 hp).mono ?_
              rintro e w9 ⟨rfl, hw9⟩
              have hq3 : takeS [44, 32] q2 = some (q2.drop 2) := by unfold takeS; rw [hp]; rfl
              have hw9' : w9 = wb.setCell ⟨k, 0, none⟩ (.string ⟨(q2.drop 2).toArray⟩) := hw9
              have hql : (q2.drop 2).length ≤ q2.length := by rw [List.length_drop]; omega
              obtain ⟨q3, hq3d⟩ : ∃ q3, q2.drop 2 = q3 := ⟨_, rfl⟩
              rw [hq3d] at hq3 hw9' hql
              have hrd2 : RdrX w9 k q3 := by rw [hw9']; exact hrd1.set q3
              have hgt : wb.grownBy w9 (some k) := by rw [hw9']; exact Lib.grownBy_setCell wb k 0 _
              have hbx2 := hbx1.grown hgt hPk
              have hRx2 := hRx1.grown hgt (by omega)
              have hgw2 := Lib.grownBy_trans hgw1 hgt
              have hown2 := own_far hown1 hgt (by omega)
              have hs9 := hgt.size
              have HOL : Hid (∀ g, (Value.slice A 1 cp).ownBlock = some g → g < w9.heap.size) := fun g hg => (hown2.lt g hg).2
              have hkid2 := hkid1.grown hgt (fun i h => h) (fun i h e => by injection e with e; omega)
              have HQ3 := Lib.hid hq3
              obtain ⟨f0', f1', f2', f3', f4', f5', f6'⟩ := hbx2.c
              dsimp only [BT.op, BT.ax, BT.co, BT.n0, BT.n1, BT.n2, BT.A, BT.cp, BT.ps, List.length_nil, List.length_singleton] at f0' f1' f2' f3' f4' f5' f6'
              clear hp hq3 hw9 hw9' hq3d hgt hbx1 hrd1 hRx1 hgw1 hown1 f0 f1 f2 f3 f4 f5 f6
              clear hkid1
              go_wp2_with fail
              refine (IH.out k q3 w9 hrd2 (by have := HQ.out; omega) (by have := HQ.out; omega)).mono ?_
              rintro e w5 ⟨hg5, hm5⟩
              have hbx5 := hbx2.grown hg5 hPk
              have hRx5 := hRx2.grown hg5 (by omega)
              have hgw5 := Lib.grownBy_trans hgw2 hg5
              have hown5 := own_far hown2 hg5 (by omega)
              have hs5 := hg5.size
              have hkid5 := hkid2.grown hg5 (fun i h => h) (fun i h e => by injection e with e; omega)
              clear hbx2 hrd2 hRx2 hgw2 hown2 hg5 f0' f1' f2' f3' f4' f5' f6'
              clear hkid2
              cases hrc : recS f q3 with
              | none =>
                rw [hrc] at hm5
                obtain ⟨v, q5, rfl, hrd5⟩ := hm5
                have HN : Hid (recS (f + 1) r = none) := by
                  show _ = _
                  have : partsR (recS f) S q = none := by
                    rw [sep_split hsep]; exact partsR_stop _ _ _ _ _ _ _ HPAR.out (.inr ⟨q3, HQ3.out, hrc⟩)
                  rw [HREC3.out, this]
                clear hrc
                obtain ⟨wv, hwv⟩ : ∃ wv, w5.alloc (.cells #[.int .i64 v.op, .int .i64 v.ax, .int .u8 v.co, .int .i64 v.n0, .int .i64 v.n1, .int .i64 v.n2, .slice v.A v.ps.length v.cp] 25) = wv := ⟨_, rfl⟩
                have hbv : Below w5.heap.size w5 wv := by rw [← hwv]; (repeat (first | exact Below.refl _ _ | assumption | refine Below.alloc ?_ (by first | exact Nat.le_refl _ | exact Below.size (by assumption) | omega | (simp <;> omega)) _ | refine Below.setCell ?_ (by first | exact Nat.le_refl _ | exact Below.size (by assumption) | omega | (simp <;> omega)) _ | refine below_drewN ?_ _ | refine Below.drew ?_))
                have hbx6 := hbx5.below hbv hbx5.lt
                have hrd6 := hrd5.below hbv hrd5.lt
                have hRx6 := hRx5.below hbv hRx5.lt
                have hgw6 := Lib.grownBy_below hgw5 hbv
                obtain ⟨f0, f1, f2, f3, f4, f5, f6⟩ := hbx5.c
                dsimp only [BT.op, BT.ax, BT.co, BT.n0, BT.n1, BT.n2, BT.A, BT.cp, BT.ps, List.length_nil, List.length_singleton] at f0 f1 f2 f3 f4 f5 f6
                have hl5 : P < w5.heap.size := hbx5.lt
                rw [← hwv] at hRx6 hgw6 hrd6
                clear hwv hbv hbx6
                go_wp2_with ((with_reducible refine at_store7 ?_); refine wpList_store7 (.mk op ax co n0 n1 n2 A cp [p1] : BT) _ _ hRx6 rfl rfl rfl rfl ?_)
                obtain ⟨y0, y1, y2, y3, y4, y5, y6⟩ := (BX.put hRx6 (.mk op ax co n0 n1 n2 A cp [p1] : BT)).c
                refine bodyPost_ret (v := .tuple #[valB (.mk op ax co n0 n1 n2 A cp [p1] : BT), .bool false]) (by simp [results, Tryd.results80, go_sem, y0, y1, y2, y3, y4, y5, y6]) rfl ?_
                refine ⟨grown_then hgw6 (putB_grown _ w.heap.size _) (Nat.le_refl _), ?_⟩
                rw [HN.out]
                exact ⟨_, _, rfl, RdrX.putB hrd6 (by omega)⟩

              | some y =>
                obtain ⟨t, q5⟩ := y
                rw [hrc] at hm5
                obtain ⟨p, hst, rfl, hrd5, hok⟩ := hm5
                have HPAR2 := Lib.hid (partsR_snoc _ _ _ _ _ _ _ _ _ HPAR.out HQ3.out hrc)
                rw [← take_succ_of hsep] at HPAR2
                obtain ⟨W1, hW1⟩ : ∃ W1, w5.alloc (.cells #[.int .i64 p.op, .int .i64 p.ax, .int .u8 p.co, .int .i64 p.n0, .int .i64 p.n1, .int .i64 p.n2, .slice p.A p.ps.length p.cp] 25) = W1 := ⟨_, rfl⟩
                obtain ⟨W2, hW2⟩ : ∃ W2, W1.alloc (.cells #[.int .i64 p.op, .int .i64 p.ax, .int .u8 p.co, .int .i64 p.n0, .int .i64 p.n1, .int .i64 p.n2, .slice p.A p.ps.length p.cp] 25) = W2 := ⟨_, rfl⟩
                have hb1 : Below w5.heap.size w5 W1 := by rw [← hW1]; (repeat (first | exact Below.refl _ _ | assumption | refine Below.alloc ?_ (by first | exact Nat.le_refl _ | exact Below.size (by assumption) | omega | (simp <;> omega)) _ | refine Below.setCell ?_ (by first | exact Nat.le_refl _ | exact Below.size (by assumption) | omega | (simp <;> omega)) _ | refine below_drewN ?_ _ | refine Below.drew ?_))
                have hb2 : Below W1.heap.size W1 W2 := by rw [← hW2]; (repeat (first | exact Below.refl _ _ | assumption | refine Below.alloc ?_ (by first | exact Nat.le_refl _ | exact Below.size (by assumption) | omega | (simp <;> omega)) _ | refine Below.setCell ?_ (by first | exact Nat.le_refl _ | exact Below.size (by assumption) | omega | (simp <;> omega)) _ | refine below_drewN ?_ _ | refine Below.drew ?_))
                have hb3 : Below w5.heap.size w5 W2 := hb1.trans (hb2.mono hb1.size)
                have hs3 := hb3.size
                have hown7 : OwnSB W2 (P + 1) (.slice A ([p1] : List BT).length cp) [p1] := own_belowS hown5 hb3
                have hbx7 := hbx5.below hb3 hbx5.lt
                have hrd7 := hrd5.below hb3 hrd5.lt
                have hRx7 := hRx5.below hb3 hRx5.lt
                have hgw7 := Lib.grownBy_below hgw5 hb3
                have hok7 : OkI W2 (fun i => w9.heap.size ≤ i ∧ i < w5.heap.size) p := hok.keep (fun i h => h) fun b off v hi hc => (hb3.cell hi.2).trans hc
                have hkid7 : OkI W2 (fun i => P + 1 ≤ i ∧ i < wr.heap.size ∧ ∀ a, A = some a → i ≠ a.block) p1 := hkid5.keep (fun i h => h) fun b off v hi hc => (hb3.cell (show b < w5.heap.size by have := hi.2.1; omega)).trans hc
                have HEND : Hid (∀ (v' : Value) (w6 : World), w6.ownsRow (P + 1) 25 7 v' (1 + 1) (flatB [p1] ++ [.int .i64 p.op, .int .i64 p.ax, .int .u8 p.co, .int .i64 p.n0, .int .i64 p.n1, .int .i64 p.n2, .slice p.A p.ps.length p.cp]) → W2.grownBy w6 (Value.slice A 1 cp).ownBlock → ∃ A' c', v' = .slice A' 2 c' ∧ BX w6 P (.mk op ax co n0 n1 n2 A cp [p1] : BT) ∧
                    (OwnSB (w6.setCell ⟨P, 6, none⟩ (.slice A' 2 c')) (P + 1) (.slice A' ([p1, p] : List BT).length c') [p1, p] ∧ BX (w6.setCell ⟨P, 6, none⟩ (.slice A' 2 c')) P (.mk op ax co n0 n1 n2 A' c' [p1, p]) ∧ RdrX (w6.setCell ⟨P, 6, none⟩ (.slice A' 2 c')) k q5 ∧ BX (w6.setCell ⟨P, 6, none⟩ (.slice A' 2 c')) w.heap.size zeroB ∧ w.grownBy (w6.setCell ⟨P, 6, none⟩ (.slice A' 2 c')) (some k) ∧
                    ∀ p' ∈ ([p1, p] : List BT), OkI (w6.setCell ⟨P, 6, none⟩ (.slice A' 2 c')) (fun i => P + 1 ≤ i ∧ i < (w6.setCell ⟨P, 6, none⟩ (.slice A' 2 c')).heap.size ∧ (([p1, p] : List BT).length < 2 → ∀ a, A' = some a → i ≠ a.block)) p')) := by
                  intro v' w6 hown' hgrow
                  have own6 := ownSB_snoc (R := [p1]) (R' := [p1, p]) (p := p) hown' rfl
                  obtain ⟨A', c', rfl, _, _, hb', _⟩ := own_rdSB own6
                  have hbx6 := hbx7.grownR hgrow (own_row hown7 (by omega))
                  have hsg := hgrow.size
                  refine ⟨A', c', rfl, hbx6, own_far (own_base own6 (Nat.le_refl _)) (Lib.grownBy_setCell w6 P 6 _) (by omega), hbx6.setP A' c' [p1, p], (hrd7.grownR hgrow (own_row hown7 (by omega))).grown (Lib.grownBy_setCell w6 P 6 _) (by omega), (hRx7.grownR hgrow (own_row hown7 (by omega))).grown (Lib.grownBy_setCell w6 P 6 _) (by omega), grown_then (grown_row hgw7 hgrow (fun g hg => by have := (hown7.lt g hg).1; omega)) (Lib.grownBy_setCell w6 P 6 _) (by omega), ?_⟩
                  have hsz : (w6.setCell ⟨P, 6, none⟩ (.slice A' 2 c')).heap.size = w6.heap.size := by simp [World.setCell]
                  intro p' hp'
                  rcases List.mem_cons.1 hp' with rfl | hp'
                  · exact ((hkid7.grownR hgrow fun i h e => own_ne h.2.2 e).grown (Lib.grownBy_setCell w6 P 6 _) (fun i h => ⟨h.1, by have := h.2.1; omega, fun hl => absurd hl (by simp)⟩) (fun i h e => by injection e with e; have := h.1; omega))
                  · rw [List.mem_singleton.1 hp']
                    exact ((hok7.grownR hgrow fun i h e => by have := HOL.out i e.symm; omega).grown (Lib.grownBy_setCell w6 P 6 _) (fun i h => ⟨by omega, by omega, fun hl => absurd hl (by simp)⟩) (fun i h e => by injection e with e; omega))
                rw [← hW2, ← hW1] at HEND hown7
                have hl5 : P < w5.heap.size := hbx5.lt
                obtain ⟨f0, f1, f2, f3, f4, f5, f6⟩ := hbx5.c
                dsimp only [BT.op, BT.ax, BT.co, BT.n0, BT.n1, BT.n2, BT.A, BT.cp, BT.ps, List.length_nil, List.length_singleton] at f0 f1 f2 f3 f4 f5 f6
                have hs6 : ((w5.alloc (.cells #[.int .i64 p.op, .int .i64 p.ax, .int .u8 p.co, .int .i64 p.n0, .int .i64 p.n1, .int .i64 p.n2, .slice p.A p.ps.length p.cp] 25)).alloc (.cells #[.int .i64 p.op, .int .i64 p.ax, .int .u8 p.co, .int .i64 p.n0, .int .i64 p.n1, .int .i64 p.n2, .slice p.A p.ps.length p.cp] 25)).heap.size = w5.heap.size + 1 + 1 := by simp
                have HOWN := Lib.hid hown7
                have HJN := Lib.hid hjn
                clear hW1 hW2 hb1 hb2 hb3 hs3 hown7 hbx7 hrd7 hRx7 hgw7 hok7 hok hown5 hbx5 hrd5 hRx5 hgw5 hrc hjn
                clear hkid5 hkid7
                go_wp2_with (at_builtin; go_loud (refine wpList_append_own _ rfl _ _ 23 rfl (P + 1) 25 i0 (.agg #[.int .i64 0, .int .i64 0, .int .u8 0, .int .i64 0, .int .i64 0, .int .i64 0, .slice none 0 0]) 7 72 Tryd.underlying23 HJ.out hz0 hz1 hz2 rfl (by decide) _ _ _ rfl HOWN.out ⟨w5.heap.size + 1, 0, none⟩ 1 1 [.int .i64 p.op, .int .i64 p.ax, .int .u8 p.co, .int .i64 p.n0, .int .i64 p.n1, .int .i64 p.n2, .slice p.A p.ps.length p.cp] rfl rfl (by intro j u hj; match j, hj with | 0, hj => (simp at hj; subst hj; simp [Addr.add]) | 1, hj => (simp at hj; subst hj; simp [Addr.add]) | 2, hj => (simp at hj; subst hj; simp [Addr.add]) | 3, hj => (simp at hj; subst hj; simp [Addr.add]) | 4, hj => (simp at hj; subst hj; simp [Addr.add]) | 5, hj => (simp at hj; subst hj; simp [Addr.add]) | 6, hj => (simp at hj; subst hj; simp [Addr.add]) | j + 7, hj => simp at hj) (by intro u hu; simp at hu; rcases hu with rfl | rfl | rfl | rfl | rfl | rfl | rfl <;> rfl) (by unfold maxLen; simp) (by simp) (by first | (simp; done) | (simp; omega)) ?_; intro v' w6 hown' hgrow _; obtain ⟨A', c', rfl, hbx6, hF⟩ := HEND.out v' w6 hown' hgrow; have HF := Lib.hid hF; obtain ⟨g0, g1, g2, g3, g4, g5, g6⟩ := hbx6.c; obtain ⟨z0, z1, z2, z3, z4, z5, z6⟩ := hbx6.f; dsimp only [BT.op, BT.ax, BT.co, BT.n0, BT.n1, BT.n2, BT.A, BT.cp, BT.ps, List.length_nil, List.length_singleton] at g0 g1 g2 g3 g4 g5 g6; have hl6 := hbx6.lt; clear hF hown' hgrow hbx6))
                go_wp2
                go_roundw
                case rel => exact ⟨2, [p1, p], q5, A', c', rfl, HJN.out, rfl, (fun h => absurd h (by omega)), by rw [HPAR2.out, ← hst]; rfl, HF.out.1, HF.out.2.1, HF.out.2.2.1, HF.out.2.2.2.1, HF.out.2.2.2.2.1, HF.out.2.2.2.2.2⟩
                case measure => have := HJN.out; simp [intOf]; omega
          · have hST : S.take i = S := List.take_of_length_le (by have := HSM.out.2; omega)
            rw [hST] at hpar
            have hREC4 : recS (f + 1) r = match (if ps.length = 0 then some q2 else takeS [41] q2) with
              | none => none
              | some r4 => some (.mk op ax co n0 n1 n2 none 0 (ps.map strip), r4) := by rw [HREC3.out, hpar]; simp only [List.length_map]
            have hbnd := HB.out
            obtain ⟨f0, f1, f2, f3, f4, f5, f6⟩ := hbx.c
            dsimp only [BT.op, BT.ax, BT.co, BT.n0, BT.n1, BT.n2, BT.A, BT.cp, BT.ps] at f0 f1 f2 f3 f4 f5 f6
            have HR4 := Lib.hid hREC4
            have HW9 := Lib.hid (And.intro hbx (And.intro hrd (And.intro hRx hgw)))
            have HWK := Lib.hid (And.intro hown hkid)
            have HPL := Lib.hid hpl
            clear hREC4 hpar hST hbx hrd hRx hgw hown hkid hA0 hbnd hpl
            go_wp2
            have hl9 := HW9.out.1.lt
            obtain ⟨x0, x1, x2, x3, x4, x5, x6⟩ := HW9.out.2.2.1.c
            obtain ⟨z0, z1, z2, z3, z4, z5, z6⟩ := HW9.out.2.2.1.f
            have hlR := HW9.out.2.2.1.lt
            rcases Nat.eq_zero_or_pos i with hi0 | hip
            · have HI0 : Hid (ps.length = 0) := HPL.out.trans hi0
              have hi1 : ((ps.length : Int) == 0) = true := by rw [HI0.out]; rfl
              clear hi0
              have HBX := Lib.hid HW9.out.1
              have HRX := Lib.hid HW9.out.2.2.1
              have HF2 : Hid (∀ (ls : Array Bool) (w' : World), LastC wr.drew (putB wr.drew w.heap.size (.mk op ax co n0 n1 n2 A cp ps)) 9 ls w' → BxB w' P (.mk op ax co n0 n1 n2 A cp ps)) := by
                intro ls w' hC
                rcases hC.or with rfl | rfl
                · exact HBX.out.c
                · exact (BX.grown (w := wr.drew) HBX.out (putB_grown wr.drew w.heap.size _) (by omega)).c
              have HC8 : Hid (∀ wF, wF = putB wr.drew w.heap.size (.mk op ax co n0 n1 n2 A cp ps) → BxB wF w.heap.size (.mk op ax co n0 n1 n2 A cp ps) ∧ RecR k (f + 1) r w (.returned (.tuple #[valB (.mk op ax co n0 n1 n2 A cp ps), .bool true])) wF) := by
                rintro wF rfl
                have hg := putB_grown wr.drew w.heap.size (.mk op ax co n0 n1 n2 A cp ps)
                refine ⟨(BX.put (w := wr.drew) HW9.out.2.2.1 _).c, grown_then (Lib.grownBy_below HW9.out.2.2.2 (Below.drew (Below.refl wr.heap.size wr))) hg (Nat.le_refl _), ?_⟩
                rw [HR4.out, if_pos HI0.out]
                refine ⟨_, strip_mk op ax co n0 n1 n2 A cp ps, rfl, RdrX.grown (w := wr.drew) HW9.out.2.1 hg (by omega), ?_⟩
                exact okb_fin HWK.out.1 HWK.out.2 hg.size (fun b off v hb1 hb2 hcv => hg.cell (w := wr.drew) hcv (by intro e; injection e with e; dsimp only at e; omega)) (by omega) HB.out.1.1 HB.out.1.2.1 HB.out.1.2.2 HB.out.2.1 HB.out.2.2.1 HB.out.2.2.2
              clear f0 f1 f2 f3 f4 f5 f6 x0 x1 x2 x3 x4 x5 x6 z0 z1 z2 z3 z4 z5 z6
              refine region_last 9 (putB wr.drew w.heap.size (.mk op ax co n0 n1 n2 A cp ps)) hmx (by kernel_rfl) (by kernel_rfl) ?_
              (refine l_read rfl (by decide) (fun ls w' hC => by obtain ⟨f0, f1, f2, f3, f4, f5, f6⟩ := HF2.out ls w' hC; dsimp only [BT.op, BT.ax, BT.co, BT.n0, BT.n1, BT.n2, BT.A, BT.cp, BT.ps] at f0 f1 f2 f3 f4 f5 f6; clear hC; go_simp; rfl) ?_; simp only [Act.put, List.setIfInBounds_toArray, List.set_cons_succ, List.set_cons_zero])
              (refine l_read rfl (by decide) (fun ls w' hC => by skip; clear hC; go_simp; rfl) ?_; simp only [Act.put, List.setIfInBounds_toArray, List.set_cons_succ, List.set_cons_zero])
              (refine l_read rfl (by decide) (fun ls w' hC => by obtain ⟨f0, f1, f2, f3, f4, f5, f6⟩ := HF2.out ls w' hC; dsimp only [BT.op, BT.ax, BT.co, BT.n0, BT.n1, BT.n2, BT.A, BT.cp, BT.ps] at f0 f1 f2 f3 f4 f5 f6; clear hC; go_simp; rfl) ?_; simp only [Act.put, List.setIfInBounds_toArray, List.set_cons_succ, List.set_cons_zero])
              (refine l_read rfl (by decide) (fun ls w' hC => by skip; clear hC; go_simp; rfl) ?_; simp only [Act.put, List.setIfInBounds_toArray, List.set_cons_succ, List.set_cons_zero])
              (refine l_read rfl (by decide) (fun ls w' hC => by skip; clear hC; go_simp; rfl) ?_; simp only [Act.put, List.setIfInBounds_toArray, List.set_cons_succ, List.set_cons_zero])
              (refine l_read rfl (by decide) (fun ls w' hC => by skip; clear hC; go_simp; rfl) ?_; simp only [Act.put, List.setIfInBounds_toArray, List.set_cons_succ, List.set_cons_zero])
              (refine l_skip (by first | (simp [Region.wanted, yielded]; done) | (simp [Region.wanted, yielded]; intro h; cases h)) (by decide) ?_; simp only [Act.put, List.setIfInBounds_toArray, List.set_cons_succ, List.set_cons_zero])
              (refine l_skip (by first | (simp [Region.wanted, yielded]; done) | (simp [Region.wanted, yielded]; intro h; cases h)) (by decide) ?_; simp only [Act.put, List.setIfInBounds_toArray, List.set_cons_succ, List.set_cons_zero])
              (refine l_read rfl (by decide) (fun ls w' hC => by skip; clear hC; go_simp; rfl) ?_; simp only [Act.put, List.setIfInBounds_toArray, List.set_cons_succ, List.set_cons_zero])
              (refine l_put rfl (exec_store7 (w := wr.drew) (.mk op ax co n0 n1 n2 A cp ps) _ _ HRX.out rfl rfl rfl) ?_; simp only [Act.put, List.setIfInBounds_toArray, List.set_cons_succ, List.set_cons_zero])
              (refine l_read rfl (by decide) (fun ls w' hC => by skip; clear hC; go_simp; rfl) ?_; simp only [Act.put, List.setIfInBounds_toArray, List.set_cons_succ, List.set_cons_zero])
              refine l_nil ?_
              go_wp2
              change bodyPost _ _ _ _ _ (putB wr.drew w.heap.size (.mk op ax co n0 n1 n2 A cp ps))
              generalize hwF : putB wr.drew w.heap.size (.mk op ax co n0 n1 n2 A cp ps) = wF
              have hF := HC8.out wF hwF.symm
              clear hwF
              obtain ⟨y0, y1, y2, y3, y4, y5, y6⟩ := hF.1
              dsimp only [BT.op, BT.ax, BT.co, BT.n0, BT.n1, BT.n2, BT.A, BT.cp, BT.ps] at y0 y1 y2 y3 y4 y5 y6
              refine bodyPost_ret (v := .tuple #[valB (.mk op ax co n0 n1 n2 A cp ps), .bool true]) (by simp [results, Tryd.results80, go_sem, y0, y1, y2, y3, y4, y5, y6, BT.op, BT.ax, BT.co, BT.n0, BT.n1, BT.n2, BT.A, BT.cp, BT.ps]) rfl ?_
              exact hF.2
            · have hi1 : ((ps.length : Int) == 0) = false := by have := HPL.out; simp; intro h; subst h; simp at this; omega
              have hi2 : ¬ ps.length = 0 := by have := HPL.out; omega
              have hi3 : ¬ ps = [] := by rintro rfl; exact hi2 rfl
              have HTK := Lib.hid (take_any k q2 [41] wr.drew HW9.out.2.1)
              have HG5 : Hid (∀ w5, w5 = wr.drew.setCell ⟨k, 0, none⟩ (.string ⟨(tkS [41] q2).toArray⟩) → BX w5 P (.mk op ax co n0 n1 n2 A cp ps) ∧ BX w5 w.heap.size zeroB) := by
                rintro w5 rfl
                exact ⟨BX.grown (w := wr.drew) HW9.out.1 (Lib.grownBy_setCell _ k 0 _) (by omega), BX.grown (w := wr.drew) HW9.out.2.2.1 (Lib.grownBy_setCell _ k 0 _) (by omega)⟩
              have HC7 : Hid (∀ w5, w5 = wr.drew.setCell ⟨k, 0, none⟩ (.string ⟨(tkS [41] q2).toArray⟩) → ∀ wF, wF = chain7 w5 w.heap.size (.mk op ax co n0 n1 n2 A cp ps) → BxB wF w.heap.size (.mk op ax co n0 n1 n2 A cp ps) ∧ RecR k (f + 1) r w (.returned (.tuple #[valB (.mk op ax co n0 n1 n2 A cp ps), .bool (preB q2 [41])])) wF) := by
                intro w5 hw5 wF hwF
                have hg5 := HG5.out w5 hw5
                have hgt : World.grownBy wr.drew w5 (some k) := by rw [hw5]; exact Lib.grownBy_setCell _ k 0 _
                have hrd5 : RdrX w5 k (tkS [41] q2) := by rw [hw5]; exact RdrX.set (w := wr.drew) HW9.out.2.1 _
                have hg := chain_grown w5 w.heap.size (.mk op ax co n0 n1 n2 A cp ps)
                rw [← hwF] at hg
                refine ⟨by rw [hwF]; exact (BX.chain hg5.2 _).c, grown_then (Lib.grownBy_trans (Lib.grownBy_below HW9.out.2.2.2 (Below.drew (Below.refl wr.heap.size wr))) hgt) hg (Nat.le_refl _), ?_⟩
                rw [HR4.out, if_neg hi2]
                cases hp : preB q2 [41]
                · rw [show takeS [41] q2 = none by unfold takeS; rw [hp]; rfl]
                  exact ⟨_, _, rfl, hrd5.grown hg (by omega)⟩
                · rw [show takeS [41] q2 = some (tkS [41] q2) by unfold takeS tkS; rw [hp]; rfl]
                  refine ⟨_, strip_mk op ax co n0 n1 n2 A cp ps, rfl, hrd5.grown hg (by omega), ?_⟩
                  exact okb_fin HWK.out.1 HWK.out.2 (Nat.le_trans hgt.size hg.size) (fun b off v hb1 hb2 hcv => hg.cell (hgt.cell (w := wr.drew) hcv (by intro e; injection e with e; dsimp only at e; omega)) (by intro e; injection e with e; dsimp only at e; omega)) (by omega) HB.out.1.1 HB.out.1.2.1 HB.out.1.2.2 HB.out.2.1 HB.out.2.2.1 HB.out.2.2.2
              go_region_with (refine HTK.out.mono ?_; rintro e w5 ⟨rfl, hw5⟩; have hg5 := HG5.out w5 hw5; have hHW5 := Lib.hid hw5; obtain ⟨f0', f1', f2', f3', f4', f5', f6'⟩ := hg5.1.c; obtain ⟨x0', x1', x2', x3', x4', x5', x6'⟩ := hg5.2.c; obtain ⟨z0', z1', z2', z3', z4', z5', z6'⟩ := hg5.2.f; dsimp only [BT.op, BT.ax, BT.co, BT.n0, BT.n1, BT.n2, BT.A, BT.cp, BT.ps] at f0' f1' f2' f3' f4' f5' f6'; clear hg5 hw5)
              all_goals
                go_wp2
                change bodyPost _ _ _ _ _ (chain7 w5 w.heap.size (.mk op ax co n0 n1 n2 A cp ps))
                generalize hwF : chain7 w5 w.heap.size (.mk op ax co n0 n1 n2 A cp ps) = wF
                have hF := HC7.out w5 hHW5.out wF hwF.symm
                clear hwF
                obtain ⟨y0, y1, y2, y3, y4, y5, y6⟩ := hF.1
                dsimp only [BT.op, BT.ax, BT.co, BT.n0, BT.n1, BT.n2, BT.A, BT.cp, BT.ps] at y0 y1 y2 y3 y4 y5 y6
                refine bodyPost_ret (v := .tuple #[valB (.mk op ax co n0 n1 n2 A cp ps), .bool (preB q2 [41])]) (by simp [results, Tryd.results80, go_sem, y0, y1, y2, y3, y4, y5, y6, BT.op, BT.ax, BT.co, BT.n0, BT.n1, BT.n2, BT.A, BT.cp, BT.ps]) rfl ?_
                exact hF.2
end Go.Proofs.YtbcnkcndhgihaaaDoor

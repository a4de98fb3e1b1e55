/- The steps of a price, in the reference: the walk. -/
import Derived.Test.YthccpdefgjneiaaDoorOP1
namespace Go.Proofs.YthccpdefgjneiaaDoor
open Go.RowKit Go.Shelf
set_option linter.unusedSimpArgs false

set_option maxRecDepth 100000 in
set_option maxHeartbeats 4000000 in
theorem steps2_any (A : Option Addr) (c : Nat) (l : List ST) (w : World) (hl : RdT2 w w.heap.size A l) : Calls Tryd.prog 65 #[.slice A l.length c] w (Ret (.bool (stepsB l)) w) := by
  have HL := Lib.hid hl; clear hl
  have hmx : Tryd.prog.follows .mixedOrders = true := by kernel_rfl
  by_cases hlen : l.length < 1
  · have HS := Lib.hid (show stepsB l = false by unfold stepsB; rw [bet_false.2 (by omega)]; rfl)
    have hI : (l.length : Int) < 1 := by omega
    go_enter Tryd.func65, Tryd.ntmps65
    go_wp2
    go_ret
    exact Ret.mk (by rw [HS.out] <;> rfl) (Below.refl _ _)
  have hI : ¬ (l.length : Int) < 1 := by omega
  by_cases hlen2 : 8 < l.length
  · have HS := Lib.hid (show stepsB l = false by unfold stepsB; rw [bet_false.2 (by omega)]; rfl)
    have hI2 : (8 : Int) < (l.length : Int) := by omega
    go_enter Tryd.func65, Tryd.ntmps65
    go_wp2
    go_ret
    exact Ret.mk (by rw [HS.out] <;> rfl) (Below.refl _ _)
  have hI2 : ¬ (8 : Int) < (l.length : Int) := by omega
  obtain ⟨s0, hs0⟩ := getElem?_of_lt (show 0 < l.length by omega)
  obtain ⟨b, off, hA, hbb, d0, _⟩ := HL.out 0 s0 hs0
  rw [Nat.zero_mul, Nat.add_zero] at d0
  subst hA
  have h0l : 0 < l.length := by omega
  have HN0 := Lib.hid (nAt_eq hs0); clear hs0
  by_cases hn1 : s0.n = 1
  case neg =>
    have HS := Lib.hid (show stepsB l = false by unfold stepsB; rw [HN0.out, decide_eq_false hn1]; simp)
    have hnb : (s0.n == 1) = false := by simpa using hn1
    go_enter Tryd.func65, Tryd.ntmps65
    go_wp2
    go_ret
    exact Ret.mk (by rw [HS.out] <;> rfl) (Below.refl _ _)
  have HBL : Hid (bet 1 (l.length : Int) 8 = true) := bet_iff.2 (by omega)
  have HN1 := Lib.hid (HN0.out.trans hn1)
  have hnb : (s0.n == 1) = true := by simpa using hn1
  have hnc : (s0.n != 1) = false := by simp [hn1]
  clear HN0
  go_enter Tryd.func65, Tryd.ntmps65
  go_wp2
  clear hn1 hnb hnc d0
  go_loopw [3] (fun i wr => ∃ k : Nat, k ≤ l.length ∧ i = .int .i64 k ∧ (∀ j s, j < k → l[j]? = some s → stepOk l j s = true) ∧ Below w.heap.size w wr) (fun i _ => l.length - (intOf i).toNat)
  case atStart => exact ⟨0, Nat.zero_le _, rfl, fun j s hj => by omega, Below.refl _ _⟩
  case round =>
    obtain ⟨k, hk, rfl, hgood, hB⟩ := hrel
    have HG := Lib.hid hgood; clear hgood
    have hsB := hB.size
    by_cases hlt : k < l.length
    · obtain ⟨s, hs⟩ := getElem?_of_lt hlt
      obtain ⟨b', off', hA, hb, e0, e1⟩ := (HL.out.now hB) k s hs
      obtain ⟨rfl, rfl⟩ : b = b' ∧ off = off' := by simpa using hA
      have HS := Lib.hid hs; clear hs hA
      have HC : Hid (∀ w', Below wr.heap.size wr w' → w'.cell? ⟨b, off + k * 2, none⟩ = some (.int .i64 s.n) ∧ w'.cell? ⟨b, off + k * 2 + 1, none⟩ = some (.int .i64 s.c)) := fun w' hC =>
        ⟨(hC.cell (p := ⟨b, off + k * 2, none⟩) hb).trans e0, (hC.cell (p := ⟨b, off + k * 2 + 1, none⟩) hb).trans e1⟩
      clear e0 e1
      by_cases g1 : 100000 < s.n
      · have HB1 := Lib.hid (steps_bad HS.out (show stepOk l k s = false by unfold stepOk; rw [bet_false.2 (by omega)]; rfl))
        have dg1 : decide (100000 < s.n) = true := decide_eq_true g1
        go_wp2
        refine region_qw (fun w' => Below wr.heap.size wr w') hmx (by kernel_rfl) (by (repeat (first | exact Below.refl _ _ | assumption | refine Below.alloc ?_ (by first | exact Nat.le_refl _ | exact Below.size (by assumption) | omega | (simp <;> omega)) _ | refine Below.setCell ?_ (by first | exact Nat.le_refl _ | exact Below.size (by assumption) | omega | (simp <;> omega)) _ | refine below_drewN ?_ _ | refine Below.drew ?_))) ?_
        repeat (first | (refine qw_read rfl (fun w' hC => by obtain ⟨f0, f1⟩ := HC.out w' hC; clear hC; go_simp; rfl) ?_; simp only [Act.put, List.setIfInBounds_toArray, List.set_cons_succ, List.set_cons_zero]) | (refine qw_pass (by first | (simp [Region.wanted, yielded]; done) | (simp [Region.wanted, yielded]; intro h; cases h)) ?_; simp only [Act.put, List.setIfInBounds_toArray, List.set_cons_succ, List.set_cons_zero]))
        refine qw_nil ?_
        intro w9 hb9
        go_wp2
        go_ret
        exact Ret.mk (by rw [HB1.out] <;> rfl) (hB.trans (hb9.mono hB.size))
      have dg1 : decide (100000 < s.n) = false := decide_eq_false g1
      by_cases g2 : s.c < 0
      · have HB1 := Lib.hid (steps_bad HS.out (show stepOk l k s = false by unfold stepOk; rw [show bet 0 s.c 10000000 = false from bet_false.2 (by omega)]; simp))
        have dg2 : decide (s.c < 0) = true := decide_eq_true g2
        go_wp2
        refine region_qw (fun w' => Below wr.heap.size wr w') hmx (by kernel_rfl) (by (repeat (first | exact Below.refl _ _ | assumption | refine Below.alloc ?_ (by first | exact Nat.le_refl _ | exact Below.size (by assumption) | omega | (simp <;> omega)) _ | refine Below.setCell ?_ (by first | exact Nat.le_refl _ | exact Below.size (by assumption) | omega | (simp <;> omega)) _ | refine below_drewN ?_ _ | refine Below.drew ?_))) ?_
        repeat (first | (refine qw_read rfl (fun w' hC => by obtain ⟨f0, f1⟩ := HC.out w' hC; clear hC; go_simp; rfl) ?_; simp only [Act.put, List.setIfInBounds_toArray, List.set_cons_succ, List.set_cons_zero]) | (refine qw_pass (by first | (simp [Region.wanted, yielded]; done) | (simp [Region.wanted, yielded]; intro h; cases h)) ?_; simp only [Act.put, List.setIfInBounds_toArray, List.set_cons_succ, List.set_cons_zero]))
        refine qw_nil ?_
        intro w9 hb9
        go_wp2
        go_ret
        exact Ret.mk (by rw [HB1.out] <;> rfl) (hB.trans (hb9.mono hB.size))
      have dg2 : decide (s.c < 0) = false := decide_eq_false g2
      by_cases g3 : 10000000 < s.c
      · have HB1 := Lib.hid (steps_bad HS.out (show stepOk l k s = false by unfold stepOk; rw [show bet 0 s.c 10000000 = false from bet_false.2 (by omega)]; simp))
        have dg3 : decide (10000000 < s.c) = true := decide_eq_true g3
        go_wp2
        refine region_qw (fun w' => Below wr.heap.size wr w') hmx (by kernel_rfl) (by (repeat (first | exact Below.refl _ _ | assumption | refine Below.alloc ?_ (by first | exact Nat.le_refl _ | exact Below.size (by assumption) | omega | (simp <;> omega)) _ | refine Below.setCell ?_ (by first | exact Nat.le_refl _ | exact Below.size (by assumption) | omega | (simp <;> omega)) _ | refine below_drewN ?_ _ | refine Below.drew ?_))) ?_
        repeat (first | (refine qw_read rfl (fun w' hC => by obtain ⟨f0, f1⟩ := HC.out w' hC; clear hC; go_simp; rfl) ?_; simp only [Act.put, List.setIfInBounds_toArray, List.set_cons_succ, List.set_cons_zero]) | (refine qw_pass (by first | (simp [Region.wanted, yielded]; done) | (simp [Region.wanted, yielded]; intro h; cases h)) ?_; simp only [Act.put, List.setIfInBounds_toArray, List.set_cons_succ, List.set_cons_zero]))
        refine qw_nil ?_
        intro w9 hb9
        go_wp2
        go_ret
        exact Ret.mk (by rw [HB1.out] <;> rfl) (hB.trans (hb9.mono hB.size))
      have dg3 : decide (10000000 < s.c) = false := decide_eq_false g3
      cases k with
      | zero =>
        have HO : Hid (stepOk l 0 s = true) := by
          show _ = _
          have := nAt_eq HS.out
          rw [HN1.out] at this
          unfold stepOk
          rw [bet_iff.2 (by omega), bet_iff.2 (by omega)]; rfl
        simp only [Nat.zero_mul, Nat.add_zero] at HC
        go_wp2
        refine region_qw (fun w' => Below wr.heap.size wr w') hmx (by kernel_rfl) (by (repeat (first | exact Below.refl _ _ | assumption | refine Below.alloc ?_ (by first | exact Nat.le_refl _ | exact Below.size (by assumption) | omega | (simp <;> omega)) _ | refine Below.setCell ?_ (by first | exact Nat.le_refl _ | exact Below.size (by assumption) | omega | (simp <;> omega)) _ | refine below_drewN ?_ _ | refine Below.drew ?_))) ?_
        repeat (first | (refine qw_read rfl (fun w' hC => by obtain ⟨f0, f1⟩ := HC.out w' hC; clear hC; go_simp; rfl) ?_; simp only [Act.put, List.setIfInBounds_toArray, List.set_cons_succ, List.set_cons_zero]) | (refine qw_pass (by first | (simp [Region.wanted, yielded]; done) | (simp [Region.wanted, yielded]; intro h; cases h)) ?_; simp only [Act.put, List.setIfInBounds_toArray, List.set_cons_succ, List.set_cons_zero]))
        refine qw_nil ?_
        intro w9 hb9
        go_wp2
        go_roundw
        case rel => exact ⟨1, by omega, by go_num, fun j t hj ht => by obtain rfl : j = 0 := by omega
                                                                       obtain rfl : s = t := Option.some.inj (HS.out.symm.trans ht)
                                                                       exact HO.out, hB.trans (hb9.mono hB.size)⟩
        case measure => simp [intOf]; omega
      | succ j =>
        obtain ⟨q, hq⟩ := getElem?_of_lt (show j < l.length by omega)
        obtain ⟨b2, off2, hA2, _, y0, _⟩ := (HL.out.now hB) j q hq
        obtain ⟨rfl, rfl⟩ : b = b2 ∧ off = off2 := by simpa using hA2
        have hqo := HG.out j q (by omega) hq
        have hnq := nAt_eq hq
        have HQ : Hid (∀ w', Below wr.heap.size wr w' → w'.cell? ⟨b, off + j * 2, none⟩ = some (.int .i64 q.n)) := fun w' hC => (hC.cell (p := ⟨b, off + j * 2, none⟩) hb).trans y0
        have hq1 : 1 ≤ q.n := by
          unfold stepOk at hqo
          simp only [Bool.and_eq_true] at hqo
          exact (bet_iff.1 hqo.1).1
        clear hq hA2 y0
        have w1 : wrap64 ((j : Int) + 1 - 1) = (j : Int) := by rw [Int.add_sub_cancel]; exact w64_id (by omega) (by omega)
        have w2 : IntKind.i64.wrap ((j : Int) + 1 - 1) = (j : Int) := by rw [IntWalk.i64_in _ (by omega)]; omega
        have w3 : IntKind.i64.wrap (j : Int) = (j : Int) := IntWalk.i64_in _ (by omega)
        have hjl : j < l.length := by omega
        have hj0 : (0 : Int) < (j : Int) + 1 := by omega
        have dj0 : decide ((0 : Int) < (j : Int) + 1) = true := decide_eq_true hj0
        by_cases h3 : s.n ≤ q.n
        · have d3 : decide (s.n ≤ q.n) = true := decide_eq_true h3
          have HB1 := Lib.hid (steps_bad HS.out (show stepOk l (j + 1) s = false by unfold stepOk; rw [Nat.add_sub_cancel, hnq, decide_eq_false (show ¬ q.n < s.n by omega), decide_eq_false (show ¬ j + 1 = 0 by omega)]; simp))
          clear hnq hqo
          go_wp2
          refine region_qw (fun w' => Below wr.heap.size wr w') hmx (by kernel_rfl) (by (repeat (first | exact Below.refl _ _ | assumption | refine Below.alloc ?_ (by first | exact Nat.le_refl _ | exact Below.size (by assumption) | omega | (simp <;> omega)) _ | refine Below.setCell ?_ (by first | exact Nat.le_refl _ | exact Below.size (by assumption) | omega | (simp <;> omega)) _ | refine below_drewN ?_ _ | refine Below.drew ?_))) ?_
          repeat (first | (refine qw_read rfl (fun w' hC => by obtain ⟨f0, f1⟩ := HC.out w' hC; have f2 := HQ.out w' hC; clear hC; go_simp; rfl) ?_; simp only [Act.put, List.setIfInBounds_toArray, List.set_cons_succ, List.set_cons_zero]) | (refine qw_pass (by first | (simp [Region.wanted, yielded]; done) | (simp [Region.wanted, yielded]; intro h; cases h)) ?_; simp only [Act.put, List.setIfInBounds_toArray, List.set_cons_succ, List.set_cons_zero]))
          refine qw_nil ?_
          intro w9 hb9
          go_wp2
          go_ret
          exact Ret.mk (by rw [HB1.out] <;> rfl) (hB.trans (hb9.mono hB.size))
        · have d3 : decide (s.n ≤ q.n) = false := decide_eq_false h3
          have HO : Hid (stepOk l (j + 1) s = true) := by
            show _ = _
            unfold stepOk
            rw [bet_iff.2 (by omega), bet_iff.2 (by omega), Nat.add_sub_cancel, hnq, decide_eq_true (show q.n < s.n by omega)]; simp
          clear hnq hqo
          go_wp2
          refine region_qw (fun w' => Below wr.heap.size wr w') hmx (by kernel_rfl) (by (repeat (first | exact Below.refl _ _ | assumption | refine Below.alloc ?_ (by first | exact Nat.le_refl _ | exact Below.size (by assumption) | omega | (simp <;> omega)) _ | refine Below.setCell ?_ (by first | exact Nat.le_refl _ | exact Below.size (by assumption) | omega | (simp <;> omega)) _ | refine below_drewN ?_ _ | refine Below.drew ?_))) ?_
          repeat (first | (refine qw_read rfl (fun w' hC => by obtain ⟨f0, f1⟩ := HC.out w' hC; have f2 := HQ.out w' hC; clear hC; go_simp; rfl) ?_; simp only [Act.put, List.setIfInBounds_toArray, List.set_cons_succ, List.set_cons_zero]) | (refine qw_pass (by first | (simp [Region.wanted, yielded]; done) | (simp [Region.wanted, yielded]; intro h; cases h)) ?_; simp only [Act.put, List.setIfInBounds_toArray, List.set_cons_succ, List.set_cons_zero]))
          refine qw_nil ?_
          intro w9 hb9
          go_wp2
          go_roundw
          case rel =>
            refine ⟨j + 2, by omega, by go_num, fun i t hi ht => ?_, hB.trans (hb9.mono hB.size)⟩
            by_cases h : i < j + 1
            · exact HG.out i t h ht
            · obtain rfl : i = j + 1 := by omega
              obtain rfl : s = t := Option.some.inj (HS.out.symm.trans ht)
              exact HO.out
          case measure => simp [intOf]; omega
    · obtain rfl : k = l.length := by omega
      have HS := Lib.hid (show stepsB l = true by rw [steps_all HG.out, HBL.out, HN1.out]; rfl)
      go_wp2
      go_ret
      exact Ret.mk (by rw [HS.out] <;> rfl) hB
end Go.Proofs.YthccpdefgjneiaaDoor

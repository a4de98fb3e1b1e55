/- The steps of a price: the walks of both. -/
import Derived.Test.YthccpdefgjneiaaDoorOIdx
import Derived.Test.YthccpdefgjneiaaDoorRound2
namespace Go.Proofs.YthccpdefgjneiaaDoor
open Go.RowKit Go.Shelf
set_option linter.unusedSimpArgs false

def nAt (l : List ST) (k : Nat) : Int := ((l[k]?).map ST.n).getD 0
def stepOk (l : List ST) (k : Nat) (s : ST) : Bool := bet 1 s.n 100000 && (bet 0 s.c 10000000 && (decide (k = 0) || decide (nAt l (k - 1) < s.n)))
def stepAt (l : List ST) (k : Nat) : Bool := match l[k]? with | none => true | some s => stepOk l k s
def stepsB (l : List ST) : Bool := bet 1 (l.length : Int) 8 && (decide (nAt l 0 = 1) && (List.range l.length).all (stepAt l))
theorem nAt_eq {l : List ST} {k : Nat} {s : ST} (h : l[k]? = some s) : nAt l k = s.n := by unfold nAt; rw [h]; rfl
theorem steps_bad {l : List ST} {k : Nat} {s : ST} (h : l[k]? = some s) (hb : stepOk l k s = false) : stepsB l = false := by
  unfold stepsB
  have : (List.range l.length).all (stepAt l) = false := List.all_eq_false.2 ⟨k, List.mem_range.2 (List.getElem?_eq_some_iff.1 h).1, by unfold stepAt; rw [h]; simp [hb]⟩
  rw [this]; simp
theorem steps_all {l : List ST} (h : ∀ j s, j < l.length → l[j]? = some s → stepOk l j s = true) : stepsB l = (bet 1 (l.length : Int) 8 && decide (nAt l 0 = 1)) := by
  unfold stepsB
  have : (List.range l.length).all (stepAt l) = true := List.all_eq_true.2 fun j hj => by
    have hlt := List.mem_range.1 hj
    obtain ⟨s, hs⟩ := getElem?_of_lt hlt
    unfold stepAt; rw [hs]; exact h j s hlt hs
  rw [this]; simp
theorem steps_get {l : List ST} (h : stepsB l = true) : 1 ≤ l.length ∧ l.length ≤ 8 ∧ nAt l 0 = 1 ∧ ∀ k s, l[k]? = some s → stepOk l k s = true := by
  unfold stepsB at h
  simp only [Bool.and_eq_true, decide_eq_true_eq, List.all_eq_true] at h
  have h1 := bet_iff.1 h.1
  refine ⟨by omega, by omega, h.2.1, fun k s hs => ?_⟩
  have := h.2.2 k (List.mem_range.2 (List.getElem?_eq_some_iff.1 hs).1)
  unfold stepAt at this
  rwa [hs] at this
theorem betR_any (a n b : Int) (w : World) : Calls Tryd.prog 53 #[.int .i64 a, .int .i64 n, .int .i64 b] w (Ret (.bool (bet a n b)) w) :=
  (bet_any a n b w).mono fun e w' ⟨h1, h2⟩ => by subst h2; exact ⟨h1, Below.refl _ _⟩
set_option maxRecDepth 100000 in
set_option maxHeartbeats 4000000 in
theorem steps_any (A : Option Addr) (c : Nat) (l : List ST) (w : World) (hl : RdT2 w w.heap.size A l) (hm : l.length ≤ maxLen) : Calls Tryd.prog 63 #[.slice A l.length c] w (Ret (.bool (stepsB l)) w) := by
  have HL := Lib.hid hl; clear hl
  have HM := Lib.hid hm; clear hm
  have hmx : Tryd.prog.follows .mixedOrders = true := by kernel_rfl
  go_enter Tryd.func63, Tryd.ntmps63
  go_wp2
  go_loopw [3, 4, 7] (fun _ _ i wr => ∃ k : Nat, k ≤ l.length ∧ i = .int .i64 k ∧ (∀ j s, j < k → l[j]? = some s → stepOk l j s = true) ∧ Below w.heap.size w wr) (fun _ _ i _ => l.length - (intOf i).toNat)
  case atStart => exact ⟨0, Nat.zero_le _, rfl, fun j s hj => by omega, Below.refl _ _⟩
  case round =>
    obtain ⟨k, hk, rfl, hgood, hB⟩ := hrel
    have HG := Lib.hid hgood; clear hgood
    have hsB := hB.size
    by_cases hlt : k < l.length
    · obtain ⟨s, hs⟩ := getElem?_of_lt hlt
      obtain ⟨b, off, hA, hb, d0, d1⟩ := (HL.out.now hB) k s hs
      have HS := Lib.hid hs; clear hs
      have HA := Lib.hid hA
      have hkm : (k : Int) + 1 ≤ 9223372036854775807 := by have := HM.out; unfold maxLen at this; omega
      subst hA
      go_wp2
      obtain ⟨wy, hwy⟩ : ∃ wy, wr.alloc (.cells #[.int .i64 s.n, .int .i64 s.c] 95) = wy := ⟨_, rfl⟩
      rw [hwy]
      have hby : Below wr.heap.size wr wy := by rw [← hwy]; (repeat (first | exact Below.refl _ _ | assumption | refine Below.alloc ?_ (by first | exact Nat.le_refl _ | exact Below.size (by assumption) | omega | (simp <;> omega)) _ | refine Below.setCell ?_ (by first | exact Nat.le_refl _ | exact Below.size (by assumption) | omega | (simp <;> omega)) _ | refine below_drewN ?_ _ | refine Below.drew ?_))
      have hzy : wr.heap.size < wy.heap.size := by rw [← hwy]; simp
      have hBy := hB.trans (hby.mono hB.size)
      have k0 : wy.cell? ⟨wr.heap.size, 0, none⟩ = some (.int .i64 s.n) := by rw [← hwy]; simp
      have k1 : wy.cell? ⟨wr.heap.size, 1, none⟩ = some (.int .i64 s.c) := by rw [← hwy]; simp
      have HC : Hid (∀ w', Below wy.heap.size wy w' → w'.cell? ⟨wr.heap.size, 0, none⟩ = some (.int .i64 s.n) ∧ w'.cell? ⟨wr.heap.size, 1, none⟩ = some (.int .i64 s.c)) := fun w' hC =>
        ⟨(hC.cell (p := ⟨wr.heap.size, 0, none⟩) hzy).trans k0, (hC.cell (p := ⟨wr.heap.size, 1, none⟩) hzy).trans k1⟩
      clear hwy k0 k1 d0 d1
      cases h1 : bet 1 s.n 100000
      · have HB1 := Lib.hid (steps_bad HS.out (show stepOk l k s = false by unfold stepOk; rw [h1]; rfl))
        refine region_qw (fun w' => Below wy.heap.size wy w') hmx (by kernel_rfl) (by (repeat (first | exact Below.refl _ _ | assumption | refine Below.alloc ?_ (by first | exact Nat.le_refl _ | exact Below.size (by assumption) | omega | (simp <;> omega)) _ | refine Below.setCell ?_ (by first | exact Nat.le_refl _ | exact Below.size (by assumption) | omega | (simp <;> omega)) _ | refine below_drewN ?_ _ | refine Below.drew ?_))) ?_
        repeat (first | (refine qw_read rfl (fun w' hC => by obtain ⟨f0, f1⟩ := HC.out w' hC; clear hC; go_simp; rfl) ?_; simp only [Act.put, List.setIfInBounds_toArray, List.set_cons_succ, List.set_cons_zero]) | (refine qw_pass (by first | (simp [Region.wanted, yielded]; done) | (simp [Region.wanted, yielded]; intro h; cases h)) ?_; simp only [Act.put, List.setIfInBounds_toArray, List.set_cons_succ, List.set_cons_zero]))
        (refine qw_call rfl (fun w' hC => by (go_simp; try rfl)) (fun w' hC => (betR_any 1 s.n 100000 w').mono (fun e w2 hr => ⟨hr.1, hC.trans (hr.2.mono hC.size)⟩)) ?_; simp only [Act.put, List.setIfInBounds_toArray, List.set_cons_succ, List.set_cons_zero])
        repeat (first | (refine qw_read rfl (fun w' hC => by obtain ⟨f0, f1⟩ := HC.out w' hC; clear hC; go_simp; rfl) ?_; simp only [Act.put, List.setIfInBounds_toArray, List.set_cons_succ, List.set_cons_zero]) | (refine qw_pass (by first | (simp [Region.wanted, yielded]; done) | (simp [Region.wanted, yielded]; intro h; cases h)) ?_; simp only [Act.put, List.setIfInBounds_toArray, List.set_cons_succ, List.set_cons_zero]))
        refine qw_nil ?_
        intro w9 hb9
        go_wp2
        go_ret
        exact Ret.mk (by rw [HB1.out] <;> rfl) (hBy.trans (hb9.mono hBy.size))
      cases h2 : bet 0 s.c 10000000
      · have HB1 := Lib.hid (steps_bad HS.out (show stepOk l k s = false by unfold stepOk; rw [h1, h2]; rfl))
        refine region_qw (fun w' => Below wy.heap.size wy w') hmx (by kernel_rfl) (by (repeat (first | exact Below.refl _ _ | assumption | refine Below.alloc ?_ (by first | exact Nat.le_refl _ | exact Below.size (by assumption) | omega | (simp <;> omega)) _ | refine Below.setCell ?_ (by first | exact Nat.le_refl _ | exact Below.size (by assumption) | omega | (simp <;> omega)) _ | refine below_drewN ?_ _ | refine Below.drew ?_))) ?_
        repeat (first | (refine qw_read rfl (fun w' hC => by obtain ⟨f0, f1⟩ := HC.out w' hC; clear hC; go_simp; rfl) ?_; simp only [Act.put, List.setIfInBounds_toArray, List.set_cons_succ, List.set_cons_zero]) | (refine qw_pass (by first | (simp [Region.wanted, yielded]; done) | (simp [Region.wanted, yielded]; intro h; cases h)) ?_; simp only [Act.put, List.setIfInBounds_toArray, List.set_cons_succ, List.set_cons_zero]))
        (refine qw_call rfl (fun w' hC => by (go_simp; try rfl)) (fun w' hC => (betR_any 1 s.n 100000 w').mono (fun e w2 hr => ⟨hr.1, hC.trans (hr.2.mono hC.size)⟩)) ?_; simp only [Act.put, List.setIfInBounds_toArray, List.set_cons_succ, List.set_cons_zero])
        repeat (first | (refine qw_read rfl (fun w' hC => by obtain ⟨f0, f1⟩ := HC.out w' hC; clear hC; go_simp; rfl) ?_; simp only [Act.put, List.setIfInBounds_toArray, List.set_cons_succ, List.set_cons_zero]) | (refine qw_pass (by first | (simp [Region.wanted, yielded]; done) | (simp [Region.wanted, yielded]; intro h; cases h)) ?_; simp only [Act.put, List.setIfInBounds_toArray, List.set_cons_succ, List.set_cons_zero]))
        (refine qw_call rfl (fun w' hC => by (go_simp; try rfl)) (fun w' hC => (betR_any 0 s.c 10000000 w').mono (fun e w2 hr => ⟨hr.1, hC.trans (hr.2.mono hC.size)⟩)) ?_; simp only [Act.put, List.setIfInBounds_toArray, List.set_cons_succ, List.set_cons_zero])
        repeat (first | (refine qw_read rfl (fun w' hC => by obtain ⟨f0, f1⟩ := HC.out w' hC; clear hC; go_simp; rfl) ?_; simp only [Act.put, List.setIfInBounds_toArray, List.set_cons_succ, List.set_cons_zero]) | (refine qw_pass (by first | (simp [Region.wanted, yielded]; done) | (simp [Region.wanted, yielded]; intro h; cases h)) ?_; simp only [Act.put, List.setIfInBounds_toArray, List.set_cons_succ, List.set_cons_zero]))
        refine qw_nil ?_
        intro w9 hb9
        go_wp2
        go_ret
        exact Ret.mk (by rw [HB1.out] <;> rfl) (hBy.trans (hb9.mono hBy.size))
      cases k with
      | zero =>
        have HO := Lib.hid (show stepOk l 0 s = true by unfold stepOk; rw [h1, h2]; rfl)
        refine region_qw (fun w' => Below wy.heap.size wy w') hmx (by kernel_rfl) (by (repeat (first | exact Below.refl _ _ | assumption | refine Below.alloc ?_ (by first | exact Nat.le_refl _ | exact Below.size (by assumption) | omega | (simp <;> omega)) _ | refine Below.setCell ?_ (by first | exact Nat.le_refl _ | exact Below.size (by assumption) | omega | (simp <;> omega)) _ | refine below_drewN ?_ _ | refine Below.drew ?_))) ?_
        repeat (first | (refine qw_read rfl (fun w' hC => by obtain ⟨f0, f1⟩ := HC.out w' hC; clear hC; go_simp; rfl) ?_; simp only [Act.put, List.setIfInBounds_toArray, List.set_cons_succ, List.set_cons_zero]) | (refine qw_pass (by first | (simp [Region.wanted, yielded]; done) | (simp [Region.wanted, yielded]; intro h; cases h)) ?_; simp only [Act.put, List.setIfInBounds_toArray, List.set_cons_succ, List.set_cons_zero]))
        (refine qw_call rfl (fun w' hC => by (go_simp; try rfl)) (fun w' hC => (betR_any 1 s.n 100000 w').mono (fun e w2 hr => ⟨hr.1, hC.trans (hr.2.mono hC.size)⟩)) ?_; simp only [Act.put, List.setIfInBounds_toArray, List.set_cons_succ, List.set_cons_zero])
        repeat (first | (refine qw_read rfl (fun w' hC => by obtain ⟨f0, f1⟩ := HC.out w' hC; clear hC; go_simp; rfl) ?_; simp only [Act.put, List.setIfInBounds_toArray, List.set_cons_succ, List.set_cons_zero]) | (refine qw_pass (by first | (simp [Region.wanted, yielded]; done) | (simp [Region.wanted, yielded]; intro h; cases h)) ?_; simp only [Act.put, List.setIfInBounds_toArray, List.set_cons_succ, List.set_cons_zero]))
        (refine qw_call rfl (fun w' hC => by (go_simp; try rfl)) (fun w' hC => (betR_any 0 s.c 10000000 w').mono (fun e w2 hr => ⟨hr.1, hC.trans (hr.2.mono hC.size)⟩)) ?_; simp only [Act.put, List.setIfInBounds_toArray, List.set_cons_succ, List.set_cons_zero])
        repeat (first | (refine qw_read rfl (fun w' hC => by obtain ⟨f0, f1⟩ := HC.out w' hC; clear hC; go_simp; rfl) ?_; simp only [Act.put, List.setIfInBounds_toArray, List.set_cons_succ, List.set_cons_zero]) | (refine qw_pass (by first | (simp [Region.wanted, yielded]; done) | (simp [Region.wanted, yielded]; intro h; cases h)) ?_; simp only [Act.put, List.setIfInBounds_toArray, List.set_cons_succ, List.set_cons_zero]))
        refine qw_nil ?_
        intro w9 hb9
        go_wp2
        go_roundw
        case rel => exact ⟨1, by omega, by go_num, fun j t hj ht => by obtain rfl : j = 0 := by omega
                                                                       obtain rfl : s = t := Option.some.inj (HS.out.symm.trans ht)
                                                                       exact HO.out, hBy.trans (hb9.mono hBy.size)⟩
        case measure => simp [intOf]; omega
      | succ j =>
        obtain ⟨q, hq⟩ := getElem?_of_lt (show j < l.length by omega)
        have HQ : Hid (∀ w', Below wy.heap.size wy w' → w'.cell? ⟨b, off + j * 2, none⟩ = some (.int .i64 q.n)) := fun w' hC => by
          obtain ⟨b', off', hA', _, e0, _⟩ := (HL.out.now (hBy.trans (hC.mono hBy.size))) j q hq
          obtain ⟨rfl, rfl⟩ : b = b' ∧ off = off' := by simpa using hA'
          exact e0
        have hnq := nAt_eq hq
        have HD : Hid (stepOk l (j + 1) s = decide (q.n < s.n)) := by
          show _ = _
          unfold stepOk; rw [h1, h2, Nat.add_sub_cancel, hnq]; simp
        clear hnq hq
        have w1 : wrap64 ((j : Int) + 1 - 1) = (j : Int) := by rw [Int.add_sub_cancel]; exact w64_id (by omega) (by push_cast at hkm; omega)
        have w2 : IntKind.i64.wrap ((j : Int) + 1 - 1) = (j : Int) := by rw [IntWalk.i64_in _ (by omega)]; omega
        have w3 : IntKind.i64.wrap (j : Int) = (j : Int) := IntWalk.i64_in _ (by omega)
        have hjl : j < l.length := by omega
        have hgt : decide ((0 : Int) < (j : Int) + 1) = true := decide_eq_true (by omega)
        cases h3 : decide (s.n ≤ q.n)
        · have h3' := of_decide_eq_false h3
          rw [decide_eq_true (by omega)] at HD
          clear h3'
          refine region_qw (fun w' => Below wy.heap.size wy w') hmx (by kernel_rfl) (by (repeat (first | exact Below.refl _ _ | assumption | refine Below.alloc ?_ (by first | exact Nat.le_refl _ | exact Below.size (by assumption) | omega | (simp <;> omega)) _ | refine Below.setCell ?_ (by first | exact Nat.le_refl _ | exact Below.size (by assumption) | omega | (simp <;> omega)) _ | refine below_drewN ?_ _ | refine Below.drew ?_))) ?_
          repeat (first | (refine qw_read rfl (fun w' hC => by obtain ⟨f0, f1⟩ := HC.out w' hC; clear hC; go_simp; rfl) ?_; simp only [Act.put, List.setIfInBounds_toArray, List.set_cons_succ, List.set_cons_zero]) | (refine qw_pass (by first | (simp [Region.wanted, yielded]; done) | (simp [Region.wanted, yielded]; intro h; cases h)) ?_; simp only [Act.put, List.setIfInBounds_toArray, List.set_cons_succ, List.set_cons_zero]))
          (refine qw_call rfl (fun w' hC => by (go_simp; try rfl)) (fun w' hC => (betR_any 1 s.n 100000 w').mono (fun e w2 hr => ⟨hr.1, hC.trans (hr.2.mono hC.size)⟩)) ?_; simp only [Act.put, List.setIfInBounds_toArray, List.set_cons_succ, List.set_cons_zero])
          repeat (first | (refine qw_read rfl (fun w' hC => by obtain ⟨f0, f1⟩ := HC.out w' hC; clear hC; go_simp; rfl) ?_; simp only [Act.put, List.setIfInBounds_toArray, List.set_cons_succ, List.set_cons_zero]) | (refine qw_pass (by first | (simp [Region.wanted, yielded]; done) | (simp [Region.wanted, yielded]; intro h; cases h)) ?_; simp only [Act.put, List.setIfInBounds_toArray, List.set_cons_succ, List.set_cons_zero]))
          (refine qw_call rfl (fun w' hC => by (go_simp; try rfl)) (fun w' hC => (betR_any 0 s.c 10000000 w').mono (fun e w2 hr => ⟨hr.1, hC.trans (hr.2.mono hC.size)⟩)) ?_; simp only [Act.put, List.setIfInBounds_toArray, List.set_cons_succ, List.set_cons_zero])
          repeat (first | (refine qw_read rfl (fun w' hC => by obtain ⟨f0, f1⟩ := HC.out w' hC; have f2 := HQ.out w' hC; clear hC; go_simp; rfl) ?_; simp only [Act.put, List.setIfInBounds_toArray, List.set_cons_succ, List.set_cons_zero]) | (refine qw_pass (by first | (simp [Region.wanted, yielded]; done) | (simp [Region.wanted, yielded]; intro h; cases h)) ?_; simp only [Act.put, List.setIfInBounds_toArray, List.set_cons_succ, List.set_cons_zero]))
          refine qw_nil ?_
          intro w9 hb9
          go_wp2
          go_roundw
          case rel =>
            refine ⟨j + 2, by omega, by go_num, fun i t hi ht => ?_, hBy.trans (hb9.mono hBy.size)⟩
            by_cases h : i < j + 1
            · exact HG.out i t h ht
            · obtain rfl : i = j + 1 := by omega
              obtain rfl : s = t := Option.some.inj (HS.out.symm.trans ht)
              exact HD.out
          case measure => simp [intOf]; omega
        · have h3' := of_decide_eq_true h3
          rw [decide_eq_false (by omega)] at HD
          have HB1 := Lib.hid (steps_bad HS.out HD.out)
          clear h3' HD
          refine region_qw (fun w' => Below wy.heap.size wy w') hmx (by kernel_rfl) (by (repeat (first | exact Below.refl _ _ | assumption | refine Below.alloc ?_ (by first | exact Nat.le_refl _ | exact Below.size (by assumption) | omega | (simp <;> omega)) _ | refine Below.setCell ?_ (by first | exact Nat.le_refl _ | exact Below.size (by assumption) | omega | (simp <;> omega)) _ | refine below_drewN ?_ _ | refine Below.drew ?_))) ?_
          repeat (first | (refine qw_read rfl (fun w' hC => by obtain ⟨f0, f1⟩ := HC.out w' hC; clear hC; go_simp; rfl) ?_; simp only [Act.put, List.setIfInBounds_toArray, List.set_cons_succ, List.set_cons_zero]) | (refine qw_pass (by first | (simp [Region.wanted, yielded]; done) | (simp [Region.wanted, yielded]; intro h; cases h)) ?_; simp only [Act.put, List.setIfInBounds_toArray, List.set_cons_succ, List.set_cons_zero]))
          (refine qw_call rfl (fun w' hC => by (go_simp; try rfl)) (fun w' hC => (betR_any 1 s.n 100000 w').mono (fun e w2 hr => ⟨hr.1, hC.trans (hr.2.mono hC.size)⟩)) ?_; simp only [Act.put, List.setIfInBounds_toArray, List.set_cons_succ, List.set_cons_zero])
          repeat (first | (refine qw_read rfl (fun w' hC => by obtain ⟨f0, f1⟩ := HC.out w' hC; clear hC; go_simp; rfl) ?_; simp only [Act.put, List.setIfInBounds_toArray, List.set_cons_succ, List.set_cons_zero]) | (refine qw_pass (by first | (simp [Region.wanted, yielded]; done) | (simp [Region.wanted, yielded]; intro h; cases h)) ?_; simp only [Act.put, List.setIfInBounds_toArray, List.set_cons_succ, List.set_cons_zero]))
          (refine qw_call rfl (fun w' hC => by (go_simp; try rfl)) (fun w' hC => (betR_any 0 s.c 10000000 w').mono (fun e w2 hr => ⟨hr.1, hC.trans (hr.2.mono hC.size)⟩)) ?_; simp only [Act.put, List.setIfInBounds_toArray, List.set_cons_succ, List.set_cons_zero])
          repeat (first | (refine qw_read rfl (fun w' hC => by obtain ⟨f0, f1⟩ := HC.out w' hC; have f2 := HQ.out w' hC; clear hC; go_simp; rfl) ?_; simp only [Act.put, List.setIfInBounds_toArray, List.set_cons_succ, List.set_cons_zero]) | (refine qw_pass (by first | (simp [Region.wanted, yielded]; done) | (simp [Region.wanted, yielded]; intro h; cases h)) ?_; simp only [Act.put, List.setIfInBounds_toArray, List.set_cons_succ, List.set_cons_zero]))
          refine qw_nil ?_
          intro w9 hb9
          go_wp2
          go_ret
          exact Ret.mk (by rw [HB1.out] <;> rfl) (hBy.trans (hb9.mono hBy.size))
    · obtain rfl : k = l.length := by omega
      have HSA := Lib.hid (steps_all HG.out)
      cases hb : bet 1 (l.length : Int) 8
      · have HB := Lib.hid hb; clear hb
        go_wp2_with fail
        refine (bet_any 1 (l.length : Int) 8 _).mono ?_
        rintro e w2 ⟨rfl, rfl⟩
        rw [HB.out]
        go_wp2
        go_ret
        exact Ret.mk (by rw [HSA.out, HB.out]; rfl) hB
      · have hbi := bet_iff.1 hb
        obtain ⟨s, hs⟩ := getElem?_of_lt (show 0 < l.length by omega)
        obtain ⟨b, off, hA, hbb, d0, d1⟩ := (HL.out.now hB) 0 s hs
        subst hA
        have hn := nAt_eq hs
        rw [Nat.zero_mul, Nat.add_zero] at d0
        have h0l : 0 < l.length := by omega
        have HB := Lib.hid hb; clear hb
        have HN := Lib.hid hn; clear hn hs hbi
        go_wp2_with fail
        refine (bet_any 1 (l.length : Int) 8 _).mono ?_
        rintro e w2 ⟨rfl, rfl⟩
        rw [HB.out]
        go_wp2
        go_ret
        exact Ret.mk (by rw [HSA.out, HB.out, HN.out]; simp; rw [Bool.eq_iff_iff]; simp) hB
end Go.Proofs.YthccpdefgjneiaaDoor

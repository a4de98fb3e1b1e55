/- The law OrderValid: the walk. -/
import Derived.Test.YthccpdefgjneiaaDoorOP4
import Derived.Test.YthccpdefgjneiaaDoorOP6
namespace Go.Proofs.YthccpdefgjneiaaDoor
open Go.RowKit Go.Shelf Go.Maps
set_option linter.unusedSimpArgs false

set_option maxRecDepth 100000 in
set_option maxHeartbeats 4000000 in
theorem lawValid_any (Ap Ar : Option Addr) (cp cr : Nat) (lp : List QT) (lr : List RT) (f : FT) (w : World) (hT : OkT lr) (hQ : OkQ w lp) (hp : RdQ w w.heap.size Ap lp) (hr : RdT w w.heap.size Ar lr) (hf : OkF w f) :
    Calls Tryd.prog 7 #[.agg #[.slice Ap lp.length cp, .slice Ar lr.length cr], valF f] w (Ret (.bool true) w) := by
  have HP := Lib.hid hp; clear hp
  have HR := Lib.hid hr; clear hr
  have HF := Lib.hid hf; clear hf
  have HT := Lib.hid hT; clear hT
  have HQ := Lib.hid hQ; clear hQ
  have hmx : Tryd.prog.follows .mixedOrders = true := by kernel_rfl
  obtain ⟨w0, hw0⟩ : ∃ w0, (w.alloc (.cells #[.slice Ap lp.length cp, .slice Ar lr.length cr] 25)).alloc (.cells #[.string f.cu, .int .i64 f.d, .string f.cr, .slice f.A f.ls.length f.cp] 30) = w0 := ⟨_, rfl⟩
  have hB0 : Below w.heap.size w w0 := by rw [← hw0]; (repeat (first | exact Below.refl _ _ | assumption | refine Below.alloc ?_ (by first | exact Nat.le_refl _ | exact Below.size (by assumption) | omega | (simp <;> omega)) _ | refine Below.setCell ?_ (by first | exact Nat.le_refl _ | exact Below.size (by assumption) | omega | (simp <;> omega)) _ | refine below_drewN ?_ _ | refine Below.drew ?_))
  have hz0 : w0.heap.size = w.heap.size + 2 := by rw [← hw0]; simp
  have m0 : w0.cell? ⟨w.heap.size, 0, none⟩ = some (.slice Ap lp.length cp) := by rw [← hw0]; simp
  have m1 : w0.cell? ⟨w.heap.size, 1, none⟩ = some (.slice Ar lr.length cr) := by rw [← hw0]; simp
  have f0 : w0.cell? ⟨w.heap.size + 1, 0, none⟩ = some (.string f.cu) := by rw [← hw0]; simp
  have f1 : w0.cell? ⟨w.heap.size + 1, 1, none⟩ = some (.int .i64 f.d) := by rw [← hw0]; simp
  have f2 : w0.cell? ⟨w.heap.size + 1, 2, none⟩ = some (.string f.cr) := by rw [← hw0]; simp
  have f3 : w0.cell? ⟨w.heap.size + 1, 3, none⟩ = some (.slice f.A f.ls.length f.cp) := by rw [← hw0]; simp
  have HM := Lib.hid (And.intro m0 (And.intro m1 (And.intro f0 (And.intro f1 (And.intro f2 f3)))))
  have HC : Hid (∀ w', Below w0.heap.size w0 w' → w'.cell? ⟨w.heap.size, 0, none⟩ = some (.slice Ap lp.length cp) ∧ w'.cell? ⟨w.heap.size, 1, none⟩ = some (.slice Ar lr.length cr) ∧ w'.cell? ⟨w.heap.size + 1, 0, none⟩ = some (.string f.cu) ∧ w'.cell? ⟨w.heap.size + 1, 1, none⟩ = some (.int .i64 f.d) ∧ w'.cell? ⟨w.heap.size + 1, 2, none⟩ = some (.string f.cr) ∧ w'.cell? ⟨w.heap.size + 1, 3, none⟩ = some (.slice f.A f.ls.length f.cp)) := fun w' h =>
    ⟨(h.cell (p := ⟨w.heap.size, 0, none⟩) (by show w.heap.size < _; omega)).trans HM.out.1, (h.cell (p := ⟨w.heap.size, 1, none⟩) (by show w.heap.size < _; omega)).trans HM.out.2.1,
     (h.cell (p := ⟨w.heap.size + 1, 0, none⟩) (by show w.heap.size + 1 < _; omega)).trans HM.out.2.2.1, (h.cell (p := ⟨w.heap.size + 1, 1, none⟩) (by show w.heap.size + 1 < _; omega)).trans HM.out.2.2.2.1,
     (h.cell (p := ⟨w.heap.size + 1, 2, none⟩) (by show w.heap.size + 1 < _; omega)).trans HM.out.2.2.2.2.1, (h.cell (p := ⟨w.heap.size + 1, 3, none⟩) (by show w.heap.size + 1 < _; omega)).trans HM.out.2.2.2.2.2⟩
  go_enter Tryd.func7, Tryd.ntmps7
  go_wp2_with fail
  clear hw0
  refine (Wide_any Ap Ar cp cr lp lr f _ (HP.out.now hB0) (HR.out.now hB0) (HF.out.rd.now hB0)).mono ?_
  rintro e' w1 ⟨b, rfl, hb1⟩
  have hB1 := hB0.trans (hb1.mono hB0.size)
  clear m0 m1 f0 f1 f2 f3
  cases b
  case true =>
    go_wp2_with fail
    refine (sane_any _).mono ?_
    rintro e' w2 ⟨rfl, hb2⟩
    go_wp2
    go_ret
    exact Ret.mk rfl (hB1.trans (hb2.mono hB1.size))
  obtain ⟨p, hp⟩ : ∃ p, validPS lp = p := ⟨_, rfl⟩
  obtain ⟨r, hr⟩ : ∃ r, validRS lr = r := ⟨_, rfl⟩
  obtain ⟨q, hq⟩ : ∃ q, validFS f = q := ⟨_, rfl⟩
  have hpp : (p == p) = true := by simp
  have hrr : (r == r) = true := by simp
  have hqq : (q == q) = true := by simp
  have c1 : Hid (∀ w', Below w1.heap.size w1 w' → Calls Tryd.prog 25 #[.slice Ap lp.length cp] w' (Ret (.bool p) w')) := fun w' h => hp ▸ validP_any Ap cp lp w' (HQ.out.now (hB1.trans (h.mono hB1.size))) (HP.out.now (hB1.trans (h.mono hB1.size)))
  have c2 : Hid (∀ w', Below w1.heap.size w1 w' → Calls Tryd.prog 26 #[.slice Ap lp.length cp] w' (Ret (.bool p) w')) := fun w' h => hp ▸ validP2_any Ap cp lp w' (HQ.out.now (hB1.trans (h.mono hB1.size))) (HP.out.now (hB1.trans (h.mono hB1.size)))
  have c3 : Hid (∀ w', Below w1.heap.size w1 w' → Calls Tryd.prog 27 #[.slice Ar lr.length cr] w' (Ret (.bool r) w')) := fun w' h => hr ▸ validR_any Ar cr lr w' HT.out (HR.out.now (hB1.trans (h.mono hB1.size)))
  have c4 : Hid (∀ w', Below w1.heap.size w1 w' → Calls Tryd.prog 28 #[.slice Ar lr.length cr] w' (Ret (.bool r) w')) := fun w' h => hr ▸ validR2_any Ar cr lr w' HT.out (HR.out.now (hB1.trans (h.mono hB1.size)))
  have c5 : Hid (∀ w', Below w1.heap.size w1 w' → Calls Tryd.prog 29 #[valF f] w' (Ret (.bool q) w')) := fun w' h => hq ▸ validF_any f w' (HF.out.now (hB1.trans (h.mono hB1.size)))
  have c6 : Hid (∀ w', Below w1.heap.size w1 w' → Calls Tryd.prog 30 #[valF f] w' (Ret (.bool q) w')) := fun w' h => hq ▸ validF2_any f w' (HF.out.now (hB1.trans (h.mono hB1.size)))
  clear hp hr hq
  go_wp2
  refine region_qw (fun w' => Below w1.heap.size w1 w') hmx (by kernel_rfl) (by (repeat (first | exact Below.refl _ _ | assumption | refine Below.alloc ?_ (by first | exact Nat.le_refl _ | exact Below.size (by assumption) | omega | (simp <;> omega)) _ | refine Below.setCell ?_ (by first | exact Nat.le_refl _ | exact Below.size (by assumption) | omega | (simp <;> omega)) _ | refine below_drewN ?_ _ | refine Below.drew ?_))) ?_
  repeat (first | (refine qw_read rfl (fun w' hC => by obtain ⟨f0, f1, f2, f3, f4, f5⟩ := HC.out w' (hb1.trans (hC.mono hb1.size)); clear hC; go_simp; rfl) ?_; simp only [Act.put, List.setIfInBounds_toArray, List.set_cons_succ, List.set_cons_zero]) | (refine qw_pass (by first | (simp [Region.wanted, yielded]; done) | (simp [Region.wanted, yielded]; intro h; cases h)) ?_; simp only [Act.put, List.setIfInBounds_toArray, List.set_cons_succ, List.set_cons_zero]))
  (refine qw_call rfl (fun w' hC => by (go_simp; try rfl)) (fun w' hC => (c1.out w' hC).mono (fun e w2 hr => ⟨hr.1, hC.trans (hr.2.mono hC.size)⟩)) ?_; simp only [Act.put, List.setIfInBounds_toArray, List.set_cons_succ, List.set_cons_zero])
  repeat (first | (refine qw_read rfl (fun w' hC => by obtain ⟨f0, f1, f2, f3, f4, f5⟩ := HC.out w' (hb1.trans (hC.mono hb1.size)); clear hC; go_simp; rfl) ?_; simp only [Act.put, List.setIfInBounds_toArray, List.set_cons_succ, List.set_cons_zero]) | (refine qw_pass (by first | (simp [Region.wanted, yielded]; done) | (simp [Region.wanted, yielded]; intro h; cases h)) ?_; simp only [Act.put, List.setIfInBounds_toArray, List.set_cons_succ, List.set_cons_zero]))
  (refine qw_call rfl (fun w' hC => by (go_simp; try rfl)) (fun w' hC => (c2.out w' hC).mono (fun e w2 hr => ⟨hr.1, hC.trans (hr.2.mono hC.size)⟩)) ?_; simp only [Act.put, List.setIfInBounds_toArray, List.set_cons_succ, List.set_cons_zero])
  repeat (first | (refine qw_read rfl (fun w' hC => by obtain ⟨f0, f1, f2, f3, f4, f5⟩ := HC.out w' (hb1.trans (hC.mono hb1.size)); clear hC; go_simp; rfl) ?_; simp only [Act.put, List.setIfInBounds_toArray, List.set_cons_succ, List.set_cons_zero]) | (refine qw_pass (by first | (simp [Region.wanted, yielded]; done) | (simp [Region.wanted, yielded]; intro h; cases h)) ?_; simp only [Act.put, List.setIfInBounds_toArray, List.set_cons_succ, List.set_cons_zero]))
  (refine qw_call rfl (fun w' hC => by (go_simp; try rfl)) (fun w' hC => (c3.out w' hC).mono (fun e w2 hr => ⟨hr.1, hC.trans (hr.2.mono hC.size)⟩)) ?_; simp only [Act.put, List.setIfInBounds_toArray, List.set_cons_succ, List.set_cons_zero])
  repeat (first | (refine qw_read rfl (fun w' hC => by obtain ⟨f0, f1, f2, f3, f4, f5⟩ := HC.out w' (hb1.trans (hC.mono hb1.size)); clear hC; go_simp; rfl) ?_; simp only [Act.put, List.setIfInBounds_toArray, List.set_cons_succ, List.set_cons_zero]) | (refine qw_pass (by first | (simp [Region.wanted, yielded]; done) | (simp [Region.wanted, yielded]; intro h; cases h)) ?_; simp only [Act.put, List.setIfInBounds_toArray, List.set_cons_succ, List.set_cons_zero]))
  (refine qw_call rfl (fun w' hC => by (go_simp; try rfl)) (fun w' hC => (c4.out w' hC).mono (fun e w2 hr => ⟨hr.1, hC.trans (hr.2.mono hC.size)⟩)) ?_; simp only [Act.put, List.setIfInBounds_toArray, List.set_cons_succ, List.set_cons_zero])
  repeat (first | (refine qw_read rfl (fun w' hC => by obtain ⟨f0, f1, f2, f3, f4, f5⟩ := HC.out w' (hb1.trans (hC.mono hb1.size)); clear hC; go_simp; rfl) ?_; simp only [Act.put, List.setIfInBounds_toArray, List.set_cons_succ, List.set_cons_zero]) | (refine qw_pass (by first | (simp [Region.wanted, yielded]; done) | (simp [Region.wanted, yielded]; intro h; cases h)) ?_; simp only [Act.put, List.setIfInBounds_toArray, List.set_cons_succ, List.set_cons_zero]))
  (refine qw_call rfl (fun w' hC => by (go_simp; try rfl)) (fun w' hC => (c5.out w' hC).mono (fun e w2 hr => ⟨hr.1, hC.trans (hr.2.mono hC.size)⟩)) ?_; simp only [Act.put, List.setIfInBounds_toArray, List.set_cons_succ, List.set_cons_zero])
  repeat (first | (refine qw_read rfl (fun w' hC => by obtain ⟨f0, f1, f2, f3, f4, f5⟩ := HC.out w' (hb1.trans (hC.mono hb1.size)); clear hC; go_simp; rfl) ?_; simp only [Act.put, List.setIfInBounds_toArray, List.set_cons_succ, List.set_cons_zero]) | (refine qw_pass (by first | (simp [Region.wanted, yielded]; done) | (simp [Region.wanted, yielded]; intro h; cases h)) ?_; simp only [Act.put, List.setIfInBounds_toArray, List.set_cons_succ, List.set_cons_zero]))
  (refine qw_call rfl (fun w' hC => by (go_simp; try rfl)) (fun w' hC => (c6.out w' hC).mono (fun e w2 hr => ⟨hr.1, hC.trans (hr.2.mono hC.size)⟩)) ?_; simp only [Act.put, List.setIfInBounds_toArray, List.set_cons_succ, List.set_cons_zero])
  repeat (first | (refine qw_read rfl (fun w' hC => by obtain ⟨f0, f1, f2, f3, f4, f5⟩ := HC.out w' (hb1.trans (hC.mono hb1.size)); clear hC; go_simp; rfl) ?_; simp only [Act.put, List.setIfInBounds_toArray, List.set_cons_succ, List.set_cons_zero]) | (refine qw_pass (by first | (simp [Region.wanted, yielded]; done) | (simp [Region.wanted, yielded]; intro h; cases h)) ?_; simp only [Act.put, List.setIfInBounds_toArray, List.set_cons_succ, List.set_cons_zero]))
  (refine qw_call rfl (fun w' hC => by (go_simp; try rfl)) (fun w' hC => (sane_any w').mono (fun e w2 hr => ⟨hr.1, hC.trans (hr.2.mono hC.size)⟩)) ?_; simp only [Act.put, List.setIfInBounds_toArray, List.set_cons_succ, List.set_cons_zero])
  repeat (first | (refine qw_read rfl (fun w' hC => by obtain ⟨f0, f1, f2, f3, f4, f5⟩ := HC.out w' (hb1.trans (hC.mono hb1.size)); clear hC; go_simp; rfl) ?_; simp only [Act.put, List.setIfInBounds_toArray, List.set_cons_succ, List.set_cons_zero]) | (refine qw_pass (by first | (simp [Region.wanted, yielded]; done) | (simp [Region.wanted, yielded]; intro h; cases h)) ?_; simp only [Act.put, List.setIfInBounds_toArray, List.set_cons_succ, List.set_cons_zero]))
  refine qw_nil ?_
  intro w9 hb9
  go_wp2
  go_ret
  exact Ret.mk rfl (hB1.trans (hb9.mono hB1.size))
end Go.Proofs.YthccpdefgjneiaaDoor

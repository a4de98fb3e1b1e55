/- The law OrderInvoices: the walk. -/
import Derived.Test.YthccpdefgjneiaaDoorOP18
import Derived.Test.YthccpdefgjneiaaDoorOM9
namespace Go.Proofs.YthccpdefgjneiaaDoor
open Go.RowKit Go.Shelf Go.Maps
set_option linter.unusedSimpArgs false

theorem inv_len (lp : List QT) (lr : List RT) (f : FT) : (invV lp lr f).1.length ≤ 40 := by
  unfold invV
  split
  · next h =>
    have := check_len h
    split
    · show (invA lp lr f f.ls.length).length ≤ 40
      rw [invA_len]; exact this.2
    · simp
  · simp
set_option maxRecDepth 100000 in
set_option maxHeartbeats 2000000 in
theorem lawInvoices_any (Ap Ar : Option Addr) (cp cr : Nat) (lp : List QT) (lr : List RT) (f : FT) (i : Int) (w : World) (h : OkA w Ap Ar lp lr f) :
    Calls Tryd.prog 10 #[.agg #[.slice Ap lp.length cp, .slice Ar lr.length cr], valF f, .int .i64 i] w (Ret (.bool true) w) := by
  have HA := Lib.hid h; clear h
  obtain ⟨w0, hw0⟩ : ∃ w0, (w.alloc (.cells #[.slice Ap lp.length cp, .slice Ar lr.length cr] 25)).alloc (.cells #[.string f.cu, .int .i64 f.d, .string f.cr, .slice f.A f.ls.length f.cp] 30) = w0 := ⟨_, rfl⟩
  have hB0 : Below w.heap.size w w0 := by rw [← hw0]; (repeat (first | exact Below.refl _ _ | assumption | refine Below.alloc ?_ (by first | exact Nat.le_refl _ | exact Below.size (by assumption) | omega | (simp <;> omega)) _ | refine Below.setCell ?_ (by first | exact Nat.le_refl _ | exact Below.size (by assumption) | omega | (simp <;> omega)) _ | refine below_drewN ?_ _ | refine Below.drew ?_))
  have hz0 : w0.heap.size = w.heap.size + 2 := by rw [← hw0]; simp
  have m0 : w0.cell? ⟨w.heap.size, 0, none⟩ = some (.slice Ap lp.length cp) := by rw [← hw0]; simp
  have m1 : w0.cell? ⟨w.heap.size, 1, none⟩ = some (.slice Ar lr.length cr) := by rw [← hw0]; simp
  have f0 : w0.cell? ⟨w.heap.size + 1, 0, none⟩ = some (.string f.cu) := by rw [← hw0]; simp
  have f1 : w0.cell? ⟨w.heap.size + 1, 1, none⟩ = some (.int .i64 f.d) := by rw [← hw0]; simp
  have f2 : w0.cell? ⟨w.heap.size + 1, 2, none⟩ = some (.string f.cr) := by rw [← hw0]; simp
  have f3 : w0.cell? ⟨w.heap.size + 1, 3, none⟩ = some (.slice f.A f.ls.length f.cp) := by rw [← hw0]; simp
  have HM := Lib.hid (And.intro m0 (And.intro m1 (And.intro f0 (And.intro f1 (And.intro f2 f3)))))
  have HC : Hid (∀ w', Below w0.heap.size w0 w' → w'.cell? ⟨w.heap.size, 0, none⟩ = some (.slice Ap lp.length cp) ∧ w'.cell? ⟨w.heap.size, 1, none⟩ = some (.slice Ar lr.length cr) ∧ w'.cell? ⟨w.heap.size + 1, 0, none⟩ = some (.string f.cu) ∧ w'.cell? ⟨w.heap.size + 1, 1, none⟩ = some (.int .i64 f.d) ∧ w'.cell? ⟨w.heap.size + 1, 2, none⟩ = some (.string f.cr) ∧ w'.cell? ⟨w.heap.size + 1, 3, none⟩ = some (.slice f.A f.ls.length f.cp)) := fun w' h =>
    ⟨(h.cell (p := ⟨w.heap.size, 0, none⟩) (by show w.heap.size < _; omega)).trans HM.out.1, (h.cell (p := ⟨w.heap.size, 1, none⟩) (by show w.heap.size < _; omega)).trans HM.out.2.1,
     (h.cell (p := ⟨w.heap.size + 1, 0, none⟩) (by show w.heap.size + 1 < _; omega)).trans HM.out.2.2.1, (h.cell (p := ⟨w.heap.size + 1, 1, none⟩) (by show w.heap.size + 1 < _; omega)).trans HM.out.2.2.2.1,
     (h.cell (p := ⟨w.heap.size + 1, 2, none⟩) (by show w.heap.size + 1 < _; omega)).trans HM.out.2.2.2.2.1, (h.cell (p := ⟨w.heap.size + 1, 3, none⟩) (by show w.heap.size + 1 < _; omega)).trans HM.out.2.2.2.2.2⟩
  obtain ⟨⟨x, e⟩, hx⟩ : ∃ r, lineV lp lr f i = r := ⟨_, rfl⟩
  have hil := inv_len lp lr f
  obtain ⟨⟨R, s, g⟩, hy⟩ : ∃ r, invV lp lr f = r := ⟨_, rfl⟩
  rw [hy] at hil
  have HX := Lib.hid hx
  have HY := Lib.hid hy
  have HIL := Lib.hid hil
  clear hx hy hil
  go_enter Tryd.func10, Tryd.ntmps10
  go_wp2_with fail
  clear hw0
  refine (Wide_any Ap Ar cp cr lp lr f _ (HA.out.p.now hB0) (HA.out.r.now hB0) (HA.out.f.rd.now hB0)).mono ?_
  rintro e' w1 ⟨b, rfl, hb1⟩
  have hB1 := hB0.trans (hb1.mono hB0.size)
  clear m0 m1 f0 f1 f2 f3
  cases b
  case true =>
    go_wp2_with fail
    refine (sane_any _).mono ?_
    rintro e' w2 ⟨rfl, hb2⟩
    go_wp2
    go_ret
    exact Ret.mk rfl (hB1.trans (hb2.mono hB1.size))
  obtain ⟨m0, m1, f0, f1, f2, f3⟩ := HC.out w1 hb1
  go_wp2_with fail
  refine (Line_any Ap Ar cp cr lp lr f i _ (HA.out.now hB1)).mono ?_
  rintro e' w2 ⟨rfl, hb2⟩
  rw [HX.out]
  have hb02 := hb1.trans (hb2.mono hb1.size)
  have hB2 := hB0.trans (hb02.mono hB0.size)
  clear m0 m1 f0 f1 f2 f3
  obtain ⟨m0, m1, f0, f1, f2, f3⟩ := HC.out w2 hb02
  go_wp2_with fail
  refine (Line2_any Ap Ar cp cr lp lr f i _ (HA.out.now hB2)).mono ?_
  rintro e' w3 ⟨rfl, hb3⟩
  rw [HX.out]
  have hb03 := hb02.trans (hb3.mono hb02.size)
  have hB3 := hB0.trans (hb03.mono hB0.size)
  clear m0 m1 f0 f1 f2 f3
  obtain ⟨m0, m1, f0, f1, f2, f3⟩ := HC.out w3 hb03
  go_wp2_with fail
  refine (Invoice_any Ap Ar cp cr lp lr f _ (HA.out.now hB3)).mono ?_
  rintro e' w4 ⟨A4, c4, rfl, hr4, _, hb4⟩
  rw [HY.out] at hr4 ⊢
  have HR4 := Lib.hid hr4; clear hr4
  have hb04 := hb03.trans (hb4.mono hb03.size)
  have hB4 := hB0.trans (hb04.mono hB0.size)
  clear m0 m1 f0 f1 f2 f3
  obtain ⟨m0, m1, f0, f1, f2, f3⟩ := HC.out w4 hb04
  go_wp2_with fail
  refine (Invoice2_any Ap Ar cp cr lp lr f _ (HA.out.now hB4)).mono ?_
  rintro e' w5 ⟨A5, c5, rfl, hr5, _, hb5⟩
  rw [HY.out] at hr5 ⊢
  have HR5 := Lib.hid hr5; clear hr5
  have hb05 := hb04.trans (hb5.mono hb04.size)
  have hB5 := hB0.trans (hb05.mono hB0.size)
  clear m0 m1 f0 f1 f2 f3
  have sx : (x == x) = true := by simp
  have se : (e == e) = true := by simp
  have ss : (s == s) = true := by simp
  have sg : (g == g) = true := by simp
  go_wp2_with fail
  refine (same_any A4 A5 c4 c5 R _ (by have := HIL.out; omega) (HR4.out.now hb5) HR5.out).mono ?_
  rintro e' w6 ⟨rfl, hb6⟩
  have hB6 := hB5.trans (hb6.mono hB5.size)
  go_wp2_with fail
  refine (sane_any _).mono ?_
  rintro e' w7 ⟨rfl, hb7⟩
  go_wp2
  go_ret
  exact Ret.mk rfl (hB6.trans (hb7.mono hB6.size))
end Go.Proofs.YthccpdefgjneiaaDoor

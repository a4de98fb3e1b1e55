/- Blocks: the law of the volumes: the walk. Printed by genlaw9.py. -/
import Derived.Test.YtbcnkcndhgihaaaDoorSVB
import Derived.Test.YtbcnkcndhgihaaaDoorCPA
import Derived.Test.YtbcnkcndhgihaaaDoorSane
namespace Go.Proofs.YtbcnkcndhgihaaaDoor
open Go.RowKit
set_option linter.unusedSimpArgs false

set_option maxRecDepth 100000 in
set_option maxHeartbeats 4000000 in
theorem volumes_any (b : BT) (w : World) (hb : OkB w w.heap.size b) : Calls Tryd.prog 8 #[valB b] w (Ret (.bool true) w) := by
  obtain ⟨wa, hwa⟩ : ∃ wa, w.alloc (.cells #[.int .i64 b.op, .int .i64 b.ax, .int .u8 b.co, .int .i64 b.n0, .int .i64 b.n1, .int .i64 b.n2, .slice b.A b.ps.length b.cp] 25) = wa := ⟨_, rfl⟩
  have hBa : Below w.heap.size w wa := by rw [← hwa]; (repeat (first | exact Below.refl _ _ | assumption | refine Below.alloc ?_ (by first | exact Nat.le_refl _ | exact Below.size (by assumption) | omega | (simp <;> omega)) _ | refine Below.setCell ?_ (by first | exact Nat.le_refl _ | exact Below.size (by assumption) | omega | (simp <;> omega)) _ | refine below_drewN ?_ _ | refine Below.drew ?_))
  have hza : wa.heap.size = w.heap.size + 1 := by rw [← hwa]; simp
  have HXA : Hid (∀ W, Below wa.heap.size wa W → BxB W w.heap.size b) := by
    intro W hW
    have h1 := BxB.new w b 25
    rw [hwa] at h1
    exact h1.under hW (by omega)
  have HU := Lib.hid (fun W (hB : Below w.heap.size w W) => Bushy_any 40 (by omega) b W (hb.now hB))
  have HG := Lib.hid (fun W (hB : Below w.heap.size w W) => Large_any b 400 W (hb.now hB))
  have H1 := Lib.hid (fun W (hB : Below w.heap.size w W) => Volumes_any b W (hb.now hB))
  have H2 := Lib.hid (fun W (hB : Below w.heap.size w W) => refVolumes_any b W (hb.now hB))
  have H3 := Lib.hid (fun W (hB : Below w.heap.size w W) => Sheets_any b W (hb.now hB))
  have H4 := Lib.hid (fun W (hB : Below w.heap.size w W) => refSheets_any b W (hb.now hB))
  have HSANE := Lib.hid (fun w => sane_any w)
  clear hb
  have HWA := Lib.hid hwa
  clear hwa
  obtain ⟨f0, f1, f2, f3, f4, f5, f6⟩ := HXA.out wa (Below.refl _ _)
  rw [← HWA.out] at f0 f1 f2 f3 f4 f5 f6
  have hlt0 : w.heap.size < wa.heap.size := by omega
  generalize bushyS b 40 = bu at HU
  generalize largeB b 400 = la at HG
  generalize volB b = p at H1 H2
  generalize sheetsB b = q at H3 H4
  obtain ⟨f, p2⟩ := p
  obtain ⟨g, q2⟩ := q
  dsimp only at H1 H2 H3 H4
  cases bu
  · go_enter Tryd.func8, Tryd.ntmps8
    go_wp2_with fail
    rw [HWA.out]
    refine (HU.out _ hBa).mono ?_
    rintro e w2 ⟨rfl, hb2⟩
    clear f0 f1 f2 f3 f4 f5 f6
    obtain ⟨f0, f1, f2, f3, f4, f5, f6⟩ := HXA.out w2 hb2
    have hB2 := hBa.trans (hb2.mono hBa.size)
    go_wp2_with fail
    refine (HG.out _ hB2).mono ?_
    rintro e w3 ⟨rfl, hb3⟩
    have hba3 := hb2.trans (hb3.mono hb2.size)
    have hB3 := hBa.trans (hba3.mono hBa.size)
    clear f0 f1 f2 f3 f4 f5 f6
    cases la
    · obtain ⟨f0, f1, f2, f3, f4, f5, f6⟩ := HXA.out w3 hba3
      go_wp2_with fail
      refine (H1.out _ hB3).mono ?_
      rintro e w4 ⟨rfl, hb4⟩
      have hbw4 := hba3.trans (hb4.mono hba3.size)
      clear f0 f1 f2 f3 f4 f5 f6
      have hba4 : Below wa.heap.size wa (w4.alloc (.cells #[.int .i64 (f 0), .int .i64 (f 1), .int .i64 (f 2), .int .i64 (f 3), .int .i64 (f 4), .int .i64 (f 5), .int .i64 (f 6), .int .i64 (f 7), .int .i64 (f 8)] 47)) := by (repeat (first | exact Below.refl _ _ | assumption | refine Below.alloc ?_ (by first | exact Nat.le_refl _ | exact Below.size (by assumption) | omega | (simp <;> omega)) _ | refine Below.setCell ?_ (by first | exact Nat.le_refl _ | exact Below.size (by assumption) | omega | (simp <;> omega)) _ | refine below_drewN ?_ _ | refine Below.drew ?_))
      obtain ⟨f0, f1, f2, f3, f4, f5, f6⟩ := HXA.out _ hba4
      have HV4 := Lib.hid (V9.new w4 f)
      have HZ4 : Hid ((w4.alloc (.cells #[.int .i64 (f 0), .int .i64 (f 1), .int .i64 (f 2), .int .i64 (f 3), .int .i64 (f 4), .int .i64 (f 5), .int .i64 (f 6), .int .i64 (f 7), .int .i64 (f 8)] 47)).heap.size = w4.heap.size + 1) := by show _ = _; simp
      have hB4 := hBa.trans (hba4.mono hBa.size)
      go_wp2_with fail
      refine (H2.out _ hB4).mono ?_
      rintro e w5 ⟨rfl, hb5⟩
      have hbw5 := hba4.trans (hb5.mono hba4.size)
      clear f0 f1 f2 f3 f4 f5 f6
      have hba5 : Below wa.heap.size wa (w5.alloc (.cells #[.int .i64 (f 0), .int .i64 (f 1), .int .i64 (f 2), .int .i64 (f 3), .int .i64 (f 4), .int .i64 (f 5), .int .i64 (f 6), .int .i64 (f 7), .int .i64 (f 8)] 47)) := by (repeat (first | exact Below.refl _ _ | assumption | refine Below.alloc ?_ (by first | exact Nat.le_refl _ | exact Below.size (by assumption) | omega | (simp <;> omega)) _ | refine Below.setCell ?_ (by first | exact Nat.le_refl _ | exact Below.size (by assumption) | omega | (simp <;> omega)) _ | refine below_drewN ?_ _ | refine Below.drew ?_))
      obtain ⟨f0, f1, f2, f3, f4, f5, f6⟩ := HXA.out _ hba5
      have HV5 := Lib.hid (V9.new w5 f)
      have HZ5 : Hid ((w5.alloc (.cells #[.int .i64 (f 0), .int .i64 (f 1), .int .i64 (f 2), .int .i64 (f 3), .int .i64 (f 4), .int .i64 (f 5), .int .i64 (f 6), .int .i64 (f 7), .int .i64 (f 8)] 47)).heap.size = w5.heap.size + 1) := by show _ = _; simp
      have hB5 := hBa.trans (hba5.mono hBa.size)
      have HV4 := Lib.hid (HV4.out.below (show Below _ _ (w5.alloc (.cells #[.int .i64 (f 0), .int .i64 (f 1), .int .i64 (f 2), .int .i64 (f 3), .int .i64 (f 4), .int .i64 (f 5), .int .i64 (f 6), .int .i64 (f 7), .int .i64 (f 8)] 47)) from (by (repeat (first | exact Below.refl _ _ | assumption | refine Below.alloc ?_ (by first | exact Nat.le_refl _ | exact Below.size (by assumption) | omega | (simp <;> omega)) _ | refine Below.setCell ?_ (by first | exact Nat.le_refl _ | exact Below.size (by assumption) | omega | (simp <;> omega)) _ | refine below_drewN ?_ _ | refine Below.drew ?_)))) HV4.out.lt)
      go_wp2_with fail
      refine (H3.out _ hB5).mono ?_
      rintro e w6 ⟨rfl, hb6⟩
      have hbw6 := hba5.trans (hb6.mono hba5.size)
      clear f0 f1 f2 f3 f4 f5 f6
      have hba6 : Below wa.heap.size wa (w6.alloc (.cells #[.int .i64 (g 0), .int .i64 (g 1), .int .i64 (g 2), .int .i64 (g 3), .int .i64 (g 4), .int .i64 (g 5), .int .i64 (g 6), .int .i64 (g 7), .int .i64 (g 8)] 47)) := by (repeat (first | exact Below.refl _ _ | assumption | refine Below.alloc ?_ (by first | exact Nat.le_refl _ | exact Below.size (by assumption) | omega | (simp <;> omega)) _ | refine Below.setCell ?_ (by first | exact Nat.le_refl _ | exact Below.size (by assumption) | omega | (simp <;> omega)) _ | refine below_drewN ?_ _ | refine Below.drew ?_))
      obtain ⟨f0, f1, f2, f3, f4, f5, f6⟩ := HXA.out _ hba6
      have HV6 := Lib.hid (V9.new w6 g)
      have HZ6 : Hid ((w6.alloc (.cells #[.int .i64 (g 0), .int .i64 (g 1), .int .i64 (g 2), .int .i64 (g 3), .int .i64 (g 4), .int .i64 (g 5), .int .i64 (g 6), .int .i64 (g 7), .int .i64 (g 8)] 47)).heap.size = w6.heap.size + 1) := by show _ = _; simp
      have hB6 := hBa.trans (hba6.mono hBa.size)
      have HV4 := Lib.hid (HV4.out.below (show Below _ _ (w6.alloc (.cells #[.int .i64 (g 0), .int .i64 (g 1), .int .i64 (g 2), .int .i64 (g 3), .int .i64 (g 4), .int .i64 (g 5), .int .i64 (g 6), .int .i64 (g 7), .int .i64 (g 8)] 47)) from (by (repeat (first | exact Below.refl _ _ | assumption | refine Below.alloc ?_ (by first | exact Nat.le_refl _ | exact Below.size (by assumption) | omega | (simp <;> omega)) _ | refine Below.setCell ?_ (by first | exact Nat.le_refl _ | exact Below.size (by assumption) | omega | (simp <;> omega)) _ | refine below_drewN ?_ _ | refine Below.drew ?_)))) HV4.out.lt)
      have HV5 := Lib.hid (HV5.out.below (show Below _ _ (w6.alloc (.cells #[.int .i64 (g 0), .int .i64 (g 1), .int .i64 (g 2), .int .i64 (g 3), .int .i64 (g 4), .int .i64 (g 5), .int .i64 (g 6), .int .i64 (g 7), .int .i64 (g 8)] 47)) from (by (repeat (first | exact Below.refl _ _ | assumption | refine Below.alloc ?_ (by first | exact Nat.le_refl _ | exact Below.size (by assumption) | omega | (simp <;> omega)) _ | refine Below.setCell ?_ (by first | exact Nat.le_refl _ | exact Below.size (by assumption) | omega | (simp <;> omega)) _ | refine below_drewN ?_ _ | refine Below.drew ?_)))) HV5.out.lt)
      go_wp2_with fail
      refine (H4.out _ hB6).mono ?_
      rintro e w7 ⟨rfl, hb7⟩
      have hbw7 := hba6.trans (hb7.mono hba6.size)
      clear f0 f1 f2 f3 f4 f5 f6
      have hba7 : Below wa.heap.size wa (w7.alloc (.cells #[.int .i64 (g 0), .int .i64 (g 1), .int .i64 (g 2), .int .i64 (g 3), .int .i64 (g 4), .int .i64 (g 5), .int .i64 (g 6), .int .i64 (g 7), .int .i64 (g 8)] 47)) := by (repeat (first | exact Below.refl _ _ | assumption | refine Below.alloc ?_ (by first | exact Nat.le_refl _ | exact Below.size (by assumption) | omega | (simp <;> omega)) _ | refine Below.setCell ?_ (by first | exact Nat.le_refl _ | exact Below.size (by assumption) | omega | (simp <;> omega)) _ | refine below_drewN ?_ _ | refine Below.drew ?_))
      obtain ⟨f0, f1, f2, f3, f4, f5, f6⟩ := HXA.out _ hba7
      have HV7 := Lib.hid (V9.new w7 g)
      have HZ7 : Hid ((w7.alloc (.cells #[.int .i64 (g 0), .int .i64 (g 1), .int .i64 (g 2), .int .i64 (g 3), .int .i64 (g 4), .int .i64 (g 5), .int .i64 (g 6), .int .i64 (g 7), .int .i64 (g 8)] 47)).heap.size = w7.heap.size + 1) := by show _ = _; simp
      have hB7 := hBa.trans (hba7.mono hBa.size)
      have HV4 := Lib.hid (HV4.out.below (show Below _ _ (w7.alloc (.cells #[.int .i64 (g 0), .int .i64 (g 1), .int .i64 (g 2), .int .i64 (g 3), .int .i64 (g 4), .int .i64 (g 5), .int .i64 (g 6), .int .i64 (g 7), .int .i64 (g 8)] 47)) from (by (repeat (first | exact Below.refl _ _ | assumption | refine Below.alloc ?_ (by first | exact Nat.le_refl _ | exact Below.size (by assumption) | omega | (simp <;> omega)) _ | refine Below.setCell ?_ (by first | exact Nat.le_refl _ | exact Below.size (by assumption) | omega | (simp <;> omega)) _ | refine below_drewN ?_ _ | refine Below.drew ?_)))) HV4.out.lt)
      have HV5 := Lib.hid (HV5.out.below (show Below _ _ (w7.alloc (.cells #[.int .i64 (g 0), .int .i64 (g 1), .int .i64 (g 2), .int .i64 (g 3), .int .i64 (g 4), .int .i64 (g 5), .int .i64 (g 6), .int .i64 (g 7), .int .i64 (g 8)] 47)) from (by (repeat (first | exact Below.refl _ _ | assumption | refine Below.alloc ?_ (by first | exact Nat.le_refl _ | exact Below.size (by assumption) | omega | (simp <;> omega)) _ | refine Below.setCell ?_ (by first | exact Nat.le_refl _ | exact Below.size (by assumption) | omega | (simp <;> omega)) _ | refine below_drewN ?_ _ | refine Below.drew ?_)))) HV5.out.lt)
      have HV6 := Lib.hid (HV6.out.below (show Below _ _ (w7.alloc (.cells #[.int .i64 (g 0), .int .i64 (g 1), .int .i64 (g 2), .int .i64 (g 3), .int .i64 (g 4), .int .i64 (g 5), .int .i64 (g 6), .int .i64 (g 7), .int .i64 (g 8)] 47)) from (by (repeat (first | exact Below.refl _ _ | assumption | refine Below.alloc ?_ (by first | exact Nat.le_refl _ | exact Below.size (by assumption) | omega | (simp <;> omega)) _ | refine Below.setCell ?_ (by first | exact Nat.le_refl _ | exact Below.size (by assumption) | omega | (simp <;> omega)) _ | refine below_drewN ?_ _ | refine Below.drew ?_)))) HV6.out.lt)
      obtain ⟨x0, x1, x2, x3, x4, x5, x6, x7, x8⟩ := HV4.out.c
      obtain ⟨y0, y1, y2, y3, y4, y5, y6, y7, y8⟩ := HV5.out.c
      obtain ⟨z0, z1, z2, z3, z4, z5, z6, z7, z8⟩ := HV6.out.c
      obtain ⟨u0, u1, u2, u3, u4, u5, u6, u7, u8⟩ := HV7.out.c
      have heq1 := eq9 f
      have heq2 := eq9 g
      go_wp2_with fail
      refine (HSANE.out _).mono ?_
      rintro e w9 ⟨rfl, hb9⟩
      have hB9 : Below w.heap.size w w9 := hB7.trans (hb9.mono hB7.size)
      go_wp2
      go_ret
      exact Ret.mk rfl hB9
    · go_wp2_with fail
      refine (HSANE.out _).mono ?_
      rintro e w4 ⟨rfl, hb4⟩
      have hB4 := hB3.trans (hb4.mono hB3.size)
      go_wp2
      go_ret
      exact Ret.mk rfl hB4
  · go_enter Tryd.func8, Tryd.ntmps8
    go_wp2_with fail
    rw [HWA.out]
    refine (HU.out _ hBa).mono ?_
    rintro e w2 ⟨rfl, hb2⟩
    have hB2 := hBa.trans (hb2.mono hBa.size)
    clear f0 f1 f2 f3 f4 f5 f6
    go_wp2_with fail
    refine (HSANE.out _).mono ?_
    rintro e w4 ⟨rfl, hb4⟩
    have hB4 := hB2.trans (hb4.mono hB2.size)
    go_wp2
    go_ret
    exact Ret.mk rfl hB4
end Go.Proofs.YtbcnkcndhgihaaaDoor

/- Blocks: the law of the equals: the walk. Printed by gense5.py. -/
import Derived.Test.YtbcnkcndhgihaaaDoorSEA
import Derived.Test.YtbcnkcndhgihaaaDoorSEB
import Derived.Test.YtbcnkcndhgihaaaDoorSLG
import Derived.Test.YtbcnkcndhgihaaaDoorSane
namespace Go.Proofs.YtbcnkcndhgihaaaDoor
open Go.RowKit
set_option linter.unusedSimpArgs false

set_option maxRecDepth 100000 in
set_option maxHeartbeats 4000000 in
theorem equals_any (b c : BT) (ax : Int) (w : World) (hb : OkB w w.heap.size b) (hc : OkB w w.heap.size c) : Calls Tryd.prog 5 #[valB b, valB c, .int .i64 ax] w (Ret (.bool true) w) := by
  obtain ⟨wa, hwa⟩ : ∃ wa, (w.alloc (.cells #[.int .i64 b.op, .int .i64 b.ax, .int .u8 b.co, .int .i64 b.n0, .int .i64 b.n1, .int .i64 b.n2, .slice b.A b.ps.length b.cp] 25)).alloc (.cells #[.int .i64 c.op, .int .i64 c.ax, .int .u8 c.co, .int .i64 c.n0, .int .i64 c.n1, .int .i64 c.n2, .slice c.A c.ps.length c.cp] 25) = wa := ⟨_, rfl⟩
  have hBa : Below w.heap.size w wa := by rw [← hwa]; (repeat (first | exact Below.refl _ _ | assumption | refine Below.alloc ?_ (by first | exact Nat.le_refl _ | exact Below.size (by assumption) | omega | (simp <;> omega)) _ | refine Below.setCell ?_ (by first | exact Nat.le_refl _ | exact Below.size (by assumption) | omega | (simp <;> omega)) _ | refine below_drewN ?_ _ | refine Below.drew ?_))
  have hza : wa.heap.size = w.heap.size + 2 := by rw [← hwa]; simp
  have hp := bx_pair b c w
  rw [hwa] at hp
  have HXA : Hid (∀ W, Below wa.heap.size wa W → BxB W w.heap.size b ∧ BxB W (w.heap.size + 1) c) := fun W h => ⟨(hp.1.below h (by omega)).c, (hp.2.below h (by omega)).c⟩
  have HU1 := Lib.hid (fun W (hB : Below w.heap.size w W) => Bushy_any 40 (by omega) b W (hb.now hB))
  have HU2 := Lib.hid (fun W (hB : Below w.heap.size w W) => Bushy_any 40 (by omega) c W (hc.now hB))
  have HG1 := Lib.hid (fun W (hB : Below w.heap.size w W) => Large_any b 400 W (hb.now hB))
  have HG2 := Lib.hid (fun W (hB : Below w.heap.size w W) => Large_any c 400 W (hc.now hB))
  have H1 := Lib.hid (fun W (hB : Below w.heap.size w W) => Equal_any b c W (hb.now hB) (hc.now hB))
  have H2 := Lib.hid (fun W (hB : Below w.heap.size w W) => refEqual_any b c W (hb.now hB) (hc.now hB))
  have H3 := Lib.hid (fun W (hB : Below w.heap.size w W) => Mirrored_any b ax W (hb.now hB))
  have H4 := Lib.hid (fun W (hB : Below w.heap.size w W) => refMirrored_any b ax W (hb.now hB))
  have HSANE := Lib.hid (fun w => sane_any w)
  have HWA := Lib.hid hwa
  clear hb hc hwa hp
  obtain ⟨⟨f0, f1, f2, f3, f4, f5, f6⟩, g0, g1, g2, g3, g4, g5, g6⟩ := HXA.out wa (Below.refl _ _)
  generalize bushyS b 40 = u1 at HU1
  generalize bushyS c 40 = u2 at HU2
  generalize largeB b 400 = l1 at HG1
  generalize largeB c 400 = l2 at HG2
  generalize equalB b c = p at H1 H2
  generalize mirrB b ax = q at H3 H4
  obtain ⟨p1, p2⟩ := p
  obtain ⟨q1, q2⟩ := q
  dsimp only at H1 H2 H3 H4
  go_enter Tryd.func5, Tryd.ntmps5
  go_wp2_with fail
  rw [HWA.out]
  refine (HU1.out _ hBa).mono ?_
  rintro e w1 ⟨rfl, hb1⟩
  have hba1 := hb1
  have hB1 := hBa.trans (hba1.mono hBa.size)
  clear f0 f1 f2 f3 f4 f5 f6 g0 g1 g2 g3 g4 g5 g6
  cases u1
  rotate_left
  · go_wp2_with fail
    refine (HSANE.out _).mono ?_
    rintro e ws ⟨rfl, hbs⟩
    have hBs := hB1.trans (hbs.mono hB1.size)
    go_wp2
    go_ret
    exact Ret.mk rfl hBs
  obtain ⟨⟨f0, f1, f2, f3, f4, f5, f6⟩, g0, g1, g2, g3, g4, g5, g6⟩ := HXA.out w1 hba1
  go_wp2_with fail
  refine (HU2.out _ hB1).mono ?_
  rintro e w2 ⟨rfl, hb2⟩
  have hba2 := hba1.trans (hb2.mono hba1.size)
  have hB2 := hBa.trans (hba2.mono hBa.size)
  clear f0 f1 f2 f3 f4 f5 f6 g0 g1 g2 g3 g4 g5 g6
  cases u2
  rotate_left
  · go_wp2_with fail
    refine (HSANE.out _).mono ?_
    rintro e ws ⟨rfl, hbs⟩
    have hBs := hB2.trans (hbs.mono hB2.size)
    go_wp2
    go_ret
    exact Ret.mk rfl hBs
  obtain ⟨⟨f0, f1, f2, f3, f4, f5, f6⟩, g0, g1, g2, g3, g4, g5, g6⟩ := HXA.out w2 hba2
  go_wp2_with fail
  refine (HG1.out _ hB2).mono ?_
  rintro e w3 ⟨rfl, hb3⟩
  have hba3 := hba2.trans (hb3.mono hba2.size)
  have hB3 := hBa.trans (hba3.mono hBa.size)
  clear f0 f1 f2 f3 f4 f5 f6 g0 g1 g2 g3 g4 g5 g6
  cases l1
  rotate_left
  · go_wp2_with fail
    refine (HSANE.out _).mono ?_
    rintro e ws ⟨rfl, hbs⟩
    have hBs := hB3.trans (hbs.mono hB3.size)
    go_wp2
    go_ret
    exact Ret.mk rfl hBs
  obtain ⟨⟨f0, f1, f2, f3, f4, f5, f6⟩, g0, g1, g2, g3, g4, g5, g6⟩ := HXA.out w3 hba3
  go_wp2_with fail
  refine (HG2.out _ hB3).mono ?_
  rintro e w4 ⟨rfl, hb4⟩
  have hba4 := hba3.trans (hb4.mono hba3.size)
  have hB4 := hBa.trans (hba4.mono hBa.size)
  clear f0 f1 f2 f3 f4 f5 f6 g0 g1 g2 g3 g4 g5 g6
  cases l2
  rotate_left
  · go_wp2_with fail
    refine (HSANE.out _).mono ?_
    rintro e ws ⟨rfl, hbs⟩
    have hBs := hB4.trans (hbs.mono hB4.size)
    go_wp2
    go_ret
    exact Ret.mk rfl hBs
  obtain ⟨⟨f0, f1, f2, f3, f4, f5, f6⟩, g0, g1, g2, g3, g4, g5, g6⟩ := HXA.out w4 hba4
  go_wp2_with fail
  refine (H1.out _ hB4).mono ?_
  rintro e w5 ⟨rfl, hb5⟩
  have hba5 := hba4.trans (hb5.mono hba4.size)
  have hB5 := hBa.trans (hba5.mono hBa.size)
  clear f0 f1 f2 f3 f4 f5 f6 g0 g1 g2 g3 g4 g5 g6
  obtain ⟨⟨f0, f1, f2, f3, f4, f5, f6⟩, g0, g1, g2, g3, g4, g5, g6⟩ := HXA.out w5 hba5
  go_wp2_with fail
  refine (H2.out _ hB5).mono ?_
  rintro e w6 ⟨rfl, hb6⟩
  have hba6 := hba5.trans (hb6.mono hba5.size)
  have hB6 := hBa.trans (hba6.mono hBa.size)
  clear f0 f1 f2 f3 f4 f5 f6 g0 g1 g2 g3 g4 g5 g6
  obtain ⟨⟨f0, f1, f2, f3, f4, f5, f6⟩, g0, g1, g2, g3, g4, g5, g6⟩ := HXA.out w6 hba6
  go_wp2_with fail
  refine (H3.out _ hB6).mono ?_
  rintro e w7 ⟨rfl, hb7⟩
  have hba7 := hba6.trans (hb7.mono hba6.size)
  have hB7 := hBa.trans (hba7.mono hBa.size)
  clear f0 f1 f2 f3 f4 f5 f6 g0 g1 g2 g3 g4 g5 g6
  obtain ⟨⟨f0, f1, f2, f3, f4, f5, f6⟩, g0, g1, g2, g3, g4, g5, g6⟩ := HXA.out w7 hba7
  go_wp2_with fail
  refine (H4.out _ hB7).mono ?_
  rintro e w8 ⟨rfl, hb8⟩
  have hba8 := hba7.trans (hb8.mono hba7.size)
  have hB8 := hBa.trans (hba8.mono hBa.size)
  clear f0 f1 f2 f3 f4 f5 f6 g0 g1 g2 g3 g4 g5 g6
  have d1 : (p1 == p1) = true := by cases p1 <;> rfl
  have d2 : (q1 == q1) = true := by cases q1 <;> rfl
  go_wp2_with fail
  refine (HSANE.out _).mono ?_
  rintro e ws ⟨rfl, hbs⟩
  have hBs := hB8.trans (hbs.mono hB8.size)
  go_wp2
  go_ret
  exact Ret.mk rfl hBs
end Go.Proofs.YtbcnkcndhgihaaaDoor

/- The law OutlineMeasures: the walk. -/
import Derived.Test.YtimehkeaeffcaaaW15
import Derived.Test.YtimehkeaeffcaaaW22
import Derived.Test.YtimehkeaeffcaaaW26
import Derived.Test.YtimehkeaeffcaaaMathM
namespace Go.Proofs.Ytimehkeaeffcaaa
open Go.RowKit Go.Shelf

set_option maxHeartbeats 1000000 in
theorem lawMeasures_any (A : Option Addr) (c : Nat) (l : List XY) (x y : Int) (w : World) (hl : Rd w w.heap.size A l) :
    Calls Try.prog 4 #[.slice A l.length c, .int .i64 x, .int .i64 y] w (Ret (.bool true) w) := by
  have HL := Lib.hid hl; clear hl
  go_enter Try.func4, Try.ntmps4
  go_wp2_with fail
  refine (Around_any A c l _ HL.out).mono ?_
  rintro e w1 ⟨rfl, hb1⟩
  obtain ⟨⟨a1, a2, a3⟩, ha⟩ : ∃ r, aroundS validRB l = r := ⟨_, rfl⟩
  rw [aroundS_eq, ha]
  go_wp2_with fail
  refine (Around2_any A c l _ (HL.out.now hb1)).mono ?_
  rintro e w2 ⟨rfl, hb2⟩
  have hB2 := hb1.trans (hb2.mono hb1.size)
  rw [ha]
  clear ha hb1 hb2
  go_wp2_with fail
  refine (Diameter_any A c l _ (HL.out.now hB2)).mono ?_
  rintro e w3 ⟨rfl, hb3⟩
  have hB3 := hB2.trans (hb3.mono hB2.size)
  obtain ⟨⟨b1, b2⟩, hb⟩ : ∃ r, diameter2S l = r := ⟨_, rfl⟩
  rw [diameterS_eq, hb]
  go_wp2_with fail
  refine (Diameter2_any A c l _ (HL.out.now hB3)).mono ?_
  rintro e w4 ⟨rfl, hb4⟩
  have hB4 := hB3.trans (hb4.mono hB3.size)
  rw [hb]
  clear hb hb3 hb4
  go_wp2_with fail
  refine (Blank_any x y A c l _ (HL.out.now hB4)).mono ?_
  rintro e w5 ⟨rfl, hb5⟩
  have hB5 := hB4.trans (hb5.mono hB4.size)
  obtain ⟨⟨d1, d2⟩, hd⟩ : ∃ r, blankS validRB dia2W boxR l x y = r := ⟨_, rfl⟩
  rw [blankS_eq, hd]
  go_wp2_with fail
  refine (Blank2_any x y A c l _ (HL.out.now hB5)).mono ?_
  rintro e w6 ⟨rfl, hb6⟩
  have hB6 := hB5.trans (hb6.mono hB5.size)
  rw [hd]
  clear hd hb5 hb6
  go_wp2_with fail
  refine (awake_any _).mono ?_
  rintro e w7 ⟨rfl, hb7⟩
  go_wp2
  go_ret
  exact Ret.mk rfl (hB6.trans (hb7.mono hB6.size))
end Go.Proofs.Ytimehkeaeffcaaa

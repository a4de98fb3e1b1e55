/- The law OutlineHolds: the walk. -/
import Derived.Test.YtimehkeaeffcaaaW15
import Derived.Test.YtimehkeaeffcaaaW19
import Derived.Test.YtimehkeaeffcaaaMathH
namespace Go.Proofs.Ytimehkeaeffcaaa
open Go.RowKit Go.Shelf

set_option maxHeartbeats 1000000 in
theorem lawHolds_any (A A2 : Option Addr) (c c2 : Nat) (o l : List XY) (p : XY) (u v : Int) (w : World) (hl : Rd w w.heap.size A o) (hl2 : Rd w w.heap.size A2 l) :
    Calls Try.prog 6 #[.slice A o.length c, .slice A2 l.length c2, xyv p, .int .i64 u, .int .i64 v] w (Ret (.bool true) w) := by
  have HL := Lib.hid hl; clear hl
  have HL2 := Lib.hid hl2; clear hl2
  go_enter Try.func6, Try.ntmps6
  go_wp2_with fail
  obtain ⟨wa, hwa⟩ : ∃ wa, w.alloc (.cells #[.int .i64 p.X, .int .i64 p.Y] 37) = wa := ⟨_, rfl⟩
  have hBa : Below w.heap.size w wa := by rw [← hwa]; (repeat (first | exact Below.refl _ _ | assumption | refine Below.alloc ?_ (by first | exact Nat.le_refl _ | exact Below.size (by assumption) | omega | (simp <;> omega)) _ | refine Below.setCell ?_ (by first | exact Nat.le_refl _ | exact Below.size (by assumption) | omega | (simp <;> omega)) _ | refine below_drewN ?_ _ | refine Below.drew ?_))
  have hPa : Pt wa w.heap.size p := by rw [← hwa]; exact ⟨by simp, by simp⟩
  have hSz : wa.heap.size = w.heap.size + 1 := by rw [← hwa]; simp
  rw [hwa]
  clear hwa
  refine (Reach_any u v A c o _ (HL.out.now hBa)).mono ?_
  rintro e w1 ⟨rfl, hb1⟩
  have hB1 := hBa.trans (hb1.mono hBa.size)
  obtain ⟨⟨a1, a2⟩, ha⟩ : ∃ r, reachS validRB o u v = r := ⟨_, rfl⟩
  rw [reachS_eq, ha]
  go_wp2_with fail
  refine (Reach2_any u v A c o _ (HL.out.now hB1)).mono ?_
  rintro e w2 ⟨rfl, hb2⟩
  rw [ha]
  have hB2 := hB1.trans (hb2.mono hB1.size)
  have pP := (hPa.below hb1 (by omega)).below hb2 (by have := hb1.size; omega)
  have hs2 := hb1.size
  have hs3 := hb2.size
  clear ha hb1 hb2 hPa
  obtain ⟨px, py⟩ := pP
  go_wp2_with fail
  refine (Holds_any p A c o _ (HL.out.now hB2)).mono ?_
  rintro e w3 ⟨rfl, hb3⟩
  have hB3 := hB2.trans (hb3.mono hB2.size)
  obtain ⟨⟨b1, b2⟩, hb⟩ : ∃ r, holdsS validRB inside2B o p = r := ⟨_, rfl⟩
  rw [holdsS_eq, hb]
  obtain ⟨px3, py3⟩ := (show Pt w2 w.heap.size p from ⟨px, py⟩).below hb3 (by omega)
  clear px py
  go_wp2_with fail
  refine (Holds2_any p A c o _ (HL.out.now hB3)).mono ?_
  rintro e w4 ⟨rfl, hb4⟩
  have hB4 := hB3.trans (hb4.mono hB3.size)
  rw [hb]
  clear hb hb3 hb4 px3 py3
  go_wp2_with fail
  refine (Within_any A A2 c c2 o l _ (HL.out.now hB4) (HL2.out.now hB4)).mono ?_
  rintro e w5 ⟨rfl, hb5⟩
  have hB5 := hB4.trans (hb5.mono hB4.size)
  obtain ⟨⟨d1, d2⟩, hd⟩ : ∃ r, withinS validRB within2B o l = r := ⟨_, rfl⟩
  rw [withinS_eq, hd]
  go_wp2_with fail
  refine (Within2_any A A2 c c2 o l _ (HL.out.now hB5) (HL2.out.now hB5)).mono ?_
  rintro e w6 ⟨rfl, hb6⟩
  have hB6 := hB5.trans (hb6.mono hB5.size)
  rw [hd]
  clear hd hb5 hb6
  go_wp2_with fail
  refine (awake_any _).mono ?_
  rintro e w7 ⟨rfl, hb7⟩
  go_wp2
  go_ret
  exact Ret.mk rfl (hB6.trans (hb7.mono hB6.size))
end Go.Proofs.Ytimehkeaeffcaaa

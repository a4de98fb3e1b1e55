/- The law OutlineNests: the walk. -/
import Derived.Test.YtimehkeaeffcaaaW15
import Derived.Test.YtimehkeaeffcaaaW18
import Derived.Test.YtimehkeaeffcaaaMathN
namespace Go.Proofs.Ytimehkeaeffcaaa
open Go.RowKit Go.Shelf

set_option maxHeartbeats 2000000 in
theorem lawNests_any (A A2 A3 : Option Addr) (c c2 c3 : Nat) (o p q : List XY) (n : Int) (w : World) (h0 : 0 ≤ n) (h1 : n ≤ 255) (hl : Rd w w.heap.size A o) (hl2 : Rd w w.heap.size A2 p) (hl3 : Rd w w.heap.size A3 q) :
    Calls Try.prog 5 #[.slice A o.length c, .slice A2 p.length c2, .slice A3 q.length c3, .int .u8 n] w (Ret (.bool true) w) := by
  have HL := Lib.hid hl; clear hl
  have HL2 := Lib.hid hl2; clear hl2
  have HL3 := Lib.hid hl3; clear hl3
  cases ho : validB o
  · have HA : Hid (withinS validB withinB o p = (false, 10)) := by simp [Hid, withinS, ho]
    have HS : Hid (seatS o o 0 = (false, 10)) := by simp [Hid, seatS, ho]
    clear ho
    go_enter Try.func5, Try.ntmps5
    go_wp2_with fail
    refine (Within_any A A2 c c2 o p _ HL.out HL2.out).mono ?_
    rintro e w1 ⟨rfl, hb1⟩
    rw [HA.out]
    go_wp2_with fail
    refine (Within_any A2 A3 c2 c3 p q _ (HL2.out.now hb1) (HL3.out.now hb1)).mono ?_
    rintro e w2 ⟨rfl, hb2⟩
    have hB2 := hb1.trans (hb2.mono hb1.size)
    clear hb1 hb2
    go_wp2_with fail
    refine (Within_any A A3 c c3 o q _ (HL.out.now hB2) (HL3.out.now hB2)).mono ?_
    rintro e w3 ⟨rfl, hb3⟩
    have hB3 := hB2.trans (hb3.mono hB2.size)
    clear hb3
    go_wp2_with fail
    refine (seat_any A A c c o o 0 _ (HL.out.now hB3) (HL.out.now hB3)).mono ?_
    rintro e w4 ⟨rfl, hb4⟩
    rw [HS.out]
    have hB4 := hB3.trans (hb4.mono hB3.size)
    clear hb4
    go_wp2_with fail
    refine (awake_any _).mono ?_
    rintro e w7 ⟨rfl, hb7⟩
    go_wp2
    go_ret
    exact Ret.mk rfl (hB4.trans (hb7.mono hB4.size))
  · obtain ⟨a1, a2, b1, b2, d1, d2, s1, f, m1, ha, hb, hd, hs, hs1, hs2, hk⟩ := nests_cases o p q h0 h1 ho
    have HA := Lib.hid ha; clear ha
    have HB := Lib.hid hb; clear hb
    have HD := Lib.hid hd; clear hd
    have HS := Lib.hid hs; clear hs
    have HS1 := Lib.hid hs1; clear hs1
    have HS2 := Lib.hid hs2; clear hs2
    clear ho
    rcases hk with ⟨rfl, rfl, rfl, rfl⟩ | ⟨rfl, rfl, rfl, rfl⟩ | ⟨rfl, rfl, rfl, rfl, rfl, rfl⟩ | ⟨rfl, rfl, rfl, rfl, rfl, rfl⟩ | ⟨rfl, rfl, rfl, rfl, rfl, rfl, rfl⟩ | ⟨rfl, rfl, rfl, rfl, rfl, rfl, rfl, rfl⟩ | ⟨rfl, rfl, rfl, rfl, rfl, rfl, rfl, rfl⟩ | ⟨rfl, rfl, rfl, rfl, rfl, rfl, rfl, rfl, rfl⟩
    all_goals
      go_enter Try.func5, Try.ntmps5
      go_wp2_with fail
      refine (Within_any A A2 c c2 o p _ HL.out HL2.out).mono ?_
      rintro e w1 ⟨rfl, hb1⟩
      rw [HA.out]
      go_wp2_with fail
      refine (Within_any A2 A3 c2 c3 p q _ (HL2.out.now hb1) (HL3.out.now hb1)).mono ?_
      rintro e w2 ⟨rfl, hb2⟩
      have hB2 := hb1.trans (hb2.mono hb1.size)
      rw [HB.out]
      clear hb1 hb2
      go_wp2_with fail
      refine (Within_any A A3 c c3 o q _ (HL.out.now hB2) (HL3.out.now hB2)).mono ?_
      rintro e w3 ⟨rfl, hb3⟩
      have hB3 := hB2.trans (hb3.mono hB2.size)
      rw [HD.out]
      clear hb3
      go_wp2_with fail
      refine (seat_any A A c c o o 0 _ (HL.out.now hB3) (HL.out.now hB3)).mono ?_
      rintro e w4 ⟨rfl, hb4⟩
      rw [HS.out]
      have hB4 := hB3.trans (hb4.mono hB3.size)
      clear hb4
      go_wp2_with fail
      refine (seat_any A A2 c c2 o p n _ (HL.out.now hB4) (HL2.out.now hB4)).mono ?_
      rintro e w5 ⟨rfl, hb5⟩
      rw [HS1.out]
      have hB5 := hB4.trans (hb5.mono hB4.size)
      clear hb5
      go_wp2_with fail
      refine (seat_any A A2 c c2 o p (n + 100) _ (HL.out.now hB5) (HL2.out.now hB5)).mono ?_
      rintro e w6 ⟨rfl, hb6⟩
      rw [HS2.out]
      have hB6 := hB5.trans (hb6.mono hB5.size)
      clear hb6
      go_wp2_with fail
      refine (awake_any _).mono ?_
      rintro e w7 ⟨rfl, hb7⟩
      go_wp2
      go_ret
      exact Ret.mk rfl (hB6.trans (hb7.mono hB6.size))
end Go.Proofs.Ytimehkeaeffcaaa

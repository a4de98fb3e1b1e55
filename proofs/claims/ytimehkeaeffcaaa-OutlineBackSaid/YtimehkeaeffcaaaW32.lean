/- Canonical and Same, in the reference: the walks. -/
import Derived.Test.YtimehkeaeffcaaaW31
import Derived.Test.YtimehkeaeffcaaaW6b
import Derived.Test.YtimehkeaeffcaaaW16
namespace Go.Proofs.Ytimehkeaeffcaaa
open Go.RowKit

theorem turn_any {A : Option Addr} {c : Nat} {l : List XY} {w : World} (hv : validRB l = true) (hl : Rd w w.heap.size A l) : Calls Try.prog 63 #[.slice A l.length c] w (RetO (turnL l) w) := by
  have hlen := validRB_len hv
  exact Turn_any A c l w (by omega) (by omega) hl

set_option maxHeartbeats 400000 in
theorem Canonical2_any (A : Option Addr) (c : Nat) (l : List XY) (w : World) (hl : Rd w w.heap.size A l) :
    Calls Try.prog 30 #[.slice A l.length c] w (RetO2 (canonS validRB turnL l).1 (canonS validRB turnL l).2 w) := by
  have HL := Lib.hid hl; clear hl
  cases hv : validRB l
  · have HS : Hid (canonS validRB turnL l = ([], 10)) := by simp [Hid, canonS, hv]
    have HV := Lib.hid hv; clear hv
    go_enter Try.func30, Try.ntmps30
    go_wp2_with fail
    refine (validR_any A c l _ HL.out).mono ?_
    rintro e w1 ⟨rfl, hb1⟩
    rw [HV.out]
    go_wp2
    go_ret2
    rw [HS.out]
    exact ⟨_, rfl, World.ownsRow_nil _ _ _ _, hb1⟩
  · have HS : Hid (canonS validRB turnL l = (turnL l, 0)) := by simp [Hid, canonS, hv]
    have HV := Lib.hid hv; clear hv
    go_enter Try.func30, Try.ntmps30
    go_wp2_with fail
    refine (validR_any A c l _ HL.out).mono ?_
    rintro e w1 ⟨rfl, hb1⟩
    rw [HV.out]
    go_wp2_with fail
    refine (turn_any HV.out (HL.out.now hb1)).mono ?_
    rintro e w2 ⟨v, rfl, hown, hb2⟩
    go_wp2
    go_ret2
    rw [HS.out]
    exact ⟨v, rfl, own_base hown hb1.size, hb1.trans (hb2.mono hb1.size)⟩

set_option maxHeartbeats 400000 in
theorem Same2_any (A A2 : Option Addr) (c c2 : Nat) (l l2 : List XY) (w : World) (hl : Rd w w.heap.size A l) (hl2 : Rd w w.heap.size A2 l2) :
    Calls Try.prog 32 #[.slice A l.length c, .slice A2 l2.length c2] w (Ret (.tuple #[.bool (sameS validRB turnL l l2).1, .int .i64 (sameS validRB turnL l l2).2]) w) := by
  have HL := Lib.hid hl; clear hl
  have HL2 := Lib.hid hl2; clear hl2
  cases hv : validRB l
  · have HS : Hid (sameS validRB turnL l l2 = (false, 10)) := by simp [Hid, sameS, hv]
    have HV := Lib.hid hv; clear hv
    go_enter Try.func32, Try.ntmps32
    go_wp2_with fail
    refine (validR_any A c l _ HL.out).mono ?_
    rintro e w1 ⟨rfl, hb1⟩
    rw [HV.out]
    go_wp2
    go_ret2
    exact Ret.mk (by rw [HS.out]; rfl) hb1
  cases hv2 : validRB l2
  · have HS : Hid (sameS validRB turnL l l2 = (false, 10)) := by simp [Hid, sameS, hv2]
    have HV := Lib.hid hv; clear hv
    have HV2 := Lib.hid hv2; clear hv2
    go_enter Try.func32, Try.ntmps32
    go_wp2_with fail
    refine (validR_any A c l _ HL.out).mono ?_
    rintro e w1 ⟨rfl, hb1⟩
    rw [HV.out]
    go_wp2_with fail
    refine (validR_any A2 c2 l2 _ (HL2.out.now hb1)).mono ?_
    rintro e w2 ⟨rfl, hb2⟩
    rw [HV2.out]
    go_wp2
    go_ret2
    exact Ret.mk (by rw [HS.out]; rfl) (hb1.trans (hb2.mono hb1.size))
  · have HS : Hid (sameS validRB turnL l l2 = (decide (turnL l = turnL l2), 0)) := by simp [Hid, sameS, hv, hv2]
    have hlen : (turnL l).length ≤ 1000000 := by
      have h := validRB_len hv
      unfold turnL; simp; omega
    have HV := Lib.hid hv; clear hv
    have HV2 := Lib.hid hv2; clear hv2
    go_enter Try.func32, Try.ntmps32
    go_wp2_with fail
    refine (validR_any A c l _ HL.out).mono ?_
    rintro e w1 ⟨rfl, hb1⟩
    rw [HV.out]
    go_wp2_with fail
    refine (validR_any A2 c2 l2 _ (HL2.out.now hb1)).mono ?_
    rintro e w2 ⟨rfl, hb2⟩
    have hB2 := hb1.trans (hb2.mono hb1.size)
    rw [HV2.out]
    go_wp2_with fail
    refine (turn_any HV.out (HL.out.now hB2)).mono ?_
    rintro e w3 ⟨v3, rfl, hown3, hb3⟩
    have hB3 := hB2.trans (hb3.mono hB2.size)
    obtain ⟨A3, c3, rfl, hr3⟩ := own_rd hown3
    go_wp2_with fail
    refine (turn_any HV2.out (HL2.out.now hB3)).mono ?_
    rintro e w4 ⟨v4, rfl, hown4, hb4⟩
    have hB4 := hB3.trans (hb4.mono hB3.size)
    obtain ⟨A4, c4, rfl, hr4⟩ := own_rd hown4
    go_wp2_with fail
    refine (equal2_any A3 A4 c3 c4 (turnL l) (turnL l2) _ hlen (hr3.now hb4) hr4).mono ?_
    rintro e w5 ⟨rfl, hb5⟩
    go_wp2
    go_ret2
    exact Ret.mk (by rw [HS.out]; rfl) (hB4.trans (hb5.mono hB4.size))
end Go.Proofs.Ytimehkeaeffcaaa

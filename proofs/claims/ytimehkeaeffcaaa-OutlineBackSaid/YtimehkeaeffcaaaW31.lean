/- Canonical and Same, in the program: the walks. -/
import Derived.Test.YtimehkeaeffcaaaMathC
import Derived.Test.YtimehkeaeffcaaaW5
import Derived.Test.YtimehkeaeffcaaaW6
import Derived.Test.YtimehkeaeffcaaaW14
namespace Go.Proofs.Ytimehkeaeffcaaa
open Go.RowKit

def canonS (va : List XY → Bool) (can : List XY → List XY) (l : List XY) : List XY × Int := if va l then (can l, 0) else ([], 10)
def sameS (va : List XY → Bool) (can : List XY → List XY) (l l2 : List XY) : Bool × Int := if !va l || !va l2 then (false, 10) else (decide (can l = can l2), 0)

theorem canon_any {A : Option Addr} {c : Nat} {l : List XY} {w : World} (hv : validB l = true) (hc : l.length ≤ c) (hl : Rd w w.heap.size A l) : Calls Try.prog 62 #[.slice A l.length c] w (RetO (canonL l) w) := by
  have hlen := validB_len' hv
  obtain ⟨k, hk, h1, h2, _⟩ := canon_facts (show 0 < l.length by omega) (bd_cy' (by omega) (validB_ranged hv))
  exact canonical_any A c l w (by omega) (by omega) hc hl k hk h1 h2

set_option maxHeartbeats 400000 in
theorem Canonical_any (A : Option Addr) (c : Nat) (l : List XY) (w : World) (hc : l.length ≤ c) (hl : Rd w w.heap.size A l) :
    Calls Try.prog 29 #[.slice A l.length c] w (RetO2 (canonS validB canonL l).1 (canonS validB canonL l).2 w) := by
  have HL := Lib.hid hl; clear hl
  cases hv : validB l
  · have HS : Hid (canonS validB canonL l = ([], 10)) := by simp [Hid, canonS, hv]
    have HV := Lib.hid hv; clear hv
    go_enter Try.func29, Try.ntmps29
    go_wp2_with fail
    refine (valid_any A c l _ HL.out).mono ?_
    rintro e w1 ⟨rfl, hb1⟩
    rw [HV.out]
    go_wp2
    go_ret2
    rw [HS.out]
    exact ⟨_, rfl, World.ownsRow_nil _ _ _ _, hb1⟩
  · have HS : Hid (canonS validB canonL l = (canonL l, 0)) := by simp [Hid, canonS, hv]
    have HV := Lib.hid hv; clear hv
    go_enter Try.func29, Try.ntmps29
    go_wp2_with fail
    refine (valid_any A c l _ HL.out).mono ?_
    rintro e w1 ⟨rfl, hb1⟩
    rw [HV.out]
    go_wp2_with fail
    refine (canon_any HV.out hc (HL.out.now hb1)).mono ?_
    rintro e w2 ⟨v, rfl, hown, hb2⟩
    go_wp2
    go_ret2
    rw [HS.out]
    exact ⟨v, rfl, own_base hown hb1.size, hb1.trans (hb2.mono hb1.size)⟩

set_option maxHeartbeats 400000 in
theorem Same_any (A A2 : Option Addr) (c c2 : Nat) (l l2 : List XY) (w : World) (hc : l.length ≤ c) (hc2 : l2.length ≤ c2) (hl : Rd w w.heap.size A l) (hl2 : Rd w w.heap.size A2 l2) :
    Calls Try.prog 31 #[.slice A l.length c, .slice A2 l2.length c2] w (Ret (.tuple #[.bool (sameS validB canonL l l2).1, .int .i64 (sameS validB canonL l l2).2]) w) := by
  have HL := Lib.hid hl; clear hl
  have HL2 := Lib.hid hl2; clear hl2
  cases hv : validB l
  · have HS : Hid (sameS validB canonL l l2 = (false, 10)) := by simp [Hid, sameS, hv]
    have HV := Lib.hid hv; clear hv
    go_enter Try.func31, Try.ntmps31
    go_wp2_with fail
    refine (valid_any A c l _ HL.out).mono ?_
    rintro e w1 ⟨rfl, hb1⟩
    rw [HV.out]
    go_wp2
    go_ret2
    exact Ret.mk (by rw [HS.out]; rfl) hb1
  cases hv2 : validB l2
  · have HS : Hid (sameS validB canonL l l2 = (false, 10)) := by simp [Hid, sameS, hv2]
    have HV := Lib.hid hv; clear hv
    have HV2 := Lib.hid hv2; clear hv2
    go_enter Try.func31, Try.ntmps31
    go_wp2_with fail
    refine (valid_any A c l _ HL.out).mono ?_
    rintro e w1 ⟨rfl, hb1⟩
    rw [HV.out]
    go_wp2_with fail
    refine (valid_any A2 c2 l2 _ (HL2.out.now hb1)).mono ?_
    rintro e w2 ⟨rfl, hb2⟩
    rw [HV2.out]
    go_wp2
    go_ret2
    exact Ret.mk (by rw [HS.out]; rfl) (hb1.trans (hb2.mono hb1.size))
  · have HS : Hid (sameS validB canonL l l2 = (decide (canonL l = canonL l2), 0)) := by simp [Hid, sameS, hv, hv2]
    have hlen : (canonL l).length ≤ 1000000 := by
      have h := validB_len' hv
      obtain ⟨k, hk, _, e, _⟩ := canon_facts (show 0 < l.length by omega) (bd_cy' (by omega) (validB_ranged hv))
      rw [e]; simp; omega
    have HV := Lib.hid hv; clear hv
    have HV2 := Lib.hid hv2; clear hv2
    go_enter Try.func31, Try.ntmps31
    go_wp2_with fail
    refine (valid_any A c l _ HL.out).mono ?_
    rintro e w1 ⟨rfl, hb1⟩
    rw [HV.out]
    go_wp2_with fail
    refine (valid_any A2 c2 l2 _ (HL2.out.now hb1)).mono ?_
    rintro e w2 ⟨rfl, hb2⟩
    have hB2 := hb1.trans (hb2.mono hb1.size)
    rw [HV2.out]
    go_wp2_with fail
    refine (canon_any HV.out hc (HL.out.now hB2)).mono ?_
    rintro e w3 ⟨v3, rfl, hown3, hb3⟩
    have hB3 := hB2.trans (hb3.mono hB2.size)
    obtain ⟨A3, c3, rfl, hr3⟩ := own_rd hown3
    go_wp2_with fail
    refine (canon_any HV2.out hc2 (HL2.out.now hB3)).mono ?_
    rintro e w4 ⟨v4, rfl, hown4, hb4⟩
    have hB4 := hB3.trans (hb4.mono hB3.size)
    obtain ⟨A4, c4, rfl, hr4⟩ := own_rd hown4
    go_wp2_with fail
    refine (equal_any A3 A4 c3 c4 (canonL l) (canonL l2) _ hlen (hr3.now hb4) hr4).mono ?_
    rintro e w5 ⟨rfl, hb5⟩
    go_wp2
    go_ret2
    exact Ret.mk (by rw [HS.out]; rfl) (hB4.trans (hb5.mono hB4.size))
end Go.Proofs.Ytimehkeaeffcaaa

/- Reach, Holds, Within, in the reference: the walks. -/
import Derived.Test.YtimehkeaeffcaaaW18
namespace Go.Proofs.Ytimehkeaeffcaaa
open Go.RowKit Go.Shelf

set_option maxHeartbeats 1000000 in
theorem Reach2_any (u v : Int) (A : Option Addr) (c : Nat) (l : List XY) (w : World) (hl : Rd w w.heap.size A l) :
    Calls Try.prog 25 #[.slice A l.length c, .int .i64 u, .int .i64 v] w (Ret (.tuple #[.int .i64 (reachS validRB l u v).1, .int .i64 (reachS validRB l u v).2]) w) := by
  have HL := Lib.hid hl; clear hl
  cases hv : validRB l
  · have HS : Hid (reachS validRB l u v = (0, 10)) := by simp [Hid, reachS, hv]
    have HV := Lib.hid hv; clear hv
    go_enter Try.func25, Try.ntmps25
    go_wp2_with fail
    refine (validR_any A c l _ HL.out).mono ?_
    rintro e w1 ⟨rfl, hb1⟩
    rw [HV.out]
    go_wp2
    go_ret2
    exact Ret.mk (by rw [HS.out]; rfl) hb1
  have hlen := validRB_len hv
  by_cases ho : offUV u v
  · have HS : Hid (reachS validRB l u v = (0, 2)) := by simp [Hid, reachS, hv, ho]
    have HV := Lib.hid hv; clear hv
    rcases ho with ho | ho | ho | ho | ⟨rfl, rfl⟩
    all_goals
      go_enter Try.func25, Try.ntmps25
      go_wp2_with fail
      refine (validR_any A c l _ HL.out).mono ?_
      rintro e w1 ⟨rfl, hb1⟩
      rw [HV.out]
      go_wp2
      all_goals
        go_ret2
        exact Ret.mk (by rw [HS.out]; rfl) hb1
  · have HS : Hid (reachS validRB l u v = (farW u v l, 0)) := by simp [Hid, reachS, hv, ho]
    have HV := Lib.hid hv; clear hv
    unfold offUV at ho
    simp only [not_or] at ho
    obtain ⟨o1, o2, o3, o4, o5⟩ := ho
    have b1 : decide (u < -10000) = false := decide_eq_false o1
    have b2 : decide (10000 < u) = false := decide_eq_false o2
    have b3 : decide (v < -10000) = false := decide_eq_false o3
    have b4 : decide (10000 < v) = false := decide_eq_false o4
    by_cases hu : u = 0
    · have hv0 : ¬ v = 0 := fun h => o5 ⟨hu, h⟩
      have b5 : (v == 0) = false := by simpa using hv0
      subst hu
      clear o5 b1 b2 o1 o2
      go_enter Try.func25, Try.ntmps25
      go_wp2_with fail
      refine (validR_any A c l _ HL.out).mono ?_
      rintro e w1 ⟨rfl, hb1⟩
      rw [HV.out]
      go_wp2_with fail
      refine (far_any 0 v A c l _ (by omega) (by omega) (HL.out.now hb1)).mono ?_
      rintro e w2 ⟨rfl, hb2⟩
      go_wp2
      go_ret2
      exact Ret.mk (by rw [HS.out]; rfl) (hb1.trans (hb2.mono hb1.size))
    · have b5 : (u == 0) = false := by simpa using hu
      clear o5
      go_enter Try.func25, Try.ntmps25
      go_wp2_with fail
      refine (validR_any A c l _ HL.out).mono ?_
      rintro e w1 ⟨rfl, hb1⟩
      rw [HV.out]
      go_wp2_with fail
      refine (far_any u v A c l _ (by omega) (by omega) (HL.out.now hb1)).mono ?_
      rintro e w2 ⟨rfl, hb2⟩
      go_wp2
      go_ret2
      exact Ret.mk (by rw [HS.out]; rfl) (hb1.trans (hb2.mono hb1.size))

set_option maxHeartbeats 1000000 in
theorem Holds2_any (p : XY) (A : Option Addr) (c : Nat) (l : List XY) (w : World) (hl : Rd w w.heap.size A l) :
    Calls Try.prog 27 #[.slice A l.length c, xyv p] w (Ret (.tuple #[.bool (holdsS validRB inside2B l p).1, .int .i64 (holdsS validRB inside2B l p).2]) w) := by
  have HL := Lib.hid hl; clear hl
  cases hv : validRB l
  · have HS : Hid (holdsS validRB inside2B l p = (false, 10)) := by simp [Hid, holdsS, hv]
    have HV := Lib.hid hv; clear hv
    go_enter Try.func27, Try.ntmps27
    go_wp2_with fail
    refine (validR_any A c l _ (HL.out.now (by (repeat (first | exact Below.refl _ _ | assumption | refine Below.alloc ?_ (by first | exact Nat.le_refl _ | exact Below.size (by assumption) | omega | (simp <;> omega)) _ | refine Below.setCell ?_ (by first | exact Nat.le_refl _ | exact Below.size (by assumption) | omega | (simp <;> omega)) _ | refine below_drewN ?_ _ | refine Below.drew ?_))))).mono ?_
    rintro e w1 ⟨rfl, hb1⟩
    rw [HV.out]
    go_wp2
    go_ret2
    exact Ret.mk (by rw [HS.out]; rfl) (Below.trans (b := w.alloc (.cells #[.int .i64 p.X, .int .i64 p.Y] 37)) (by (repeat (first | exact Below.refl _ _ | assumption | refine Below.alloc ?_ (by first | exact Nat.le_refl _ | exact Below.size (by assumption) | omega | (simp <;> omega)) _ | refine Below.setCell ?_ (by first | exact Nat.le_refl _ | exact Below.size (by assumption) | omega | (simp <;> omega)) _ | refine below_drewN ?_ _ | refine Below.drew ?_))) (hb1.mono (by simp)))
  have hlen := validRB_len hv
  obtain ⟨wa, hwa⟩ : ∃ wa, w.alloc (.cells #[.int .i64 p.X, .int .i64 p.Y] 37) = wa := ⟨_, rfl⟩
  have hBa : Below w.heap.size w wa := by rw [← hwa]; (repeat (first | exact Below.refl _ _ | assumption | refine Below.alloc ?_ (by first | exact Nat.le_refl _ | exact Below.size (by assumption) | omega | (simp <;> omega)) _ | refine Below.setCell ?_ (by first | exact Nat.le_refl _ | exact Below.size (by assumption) | omega | (simp <;> omega)) _ | refine below_drewN ?_ _ | refine Below.drew ?_))
  have hPa : Pt wa w.heap.size p := by rw [← hwa]; exact ⟨by simp, by simp⟩
  have hSz : wa.heap.size = w.heap.size + 1 := by rw [← hwa]; simp
  by_cases ho : offAt p
  · have HS : Hid (holdsS validRB inside2B l p = (false, 2)) := by simp [Hid, holdsS, hv, ho]
    have HV := Lib.hid hv; clear hv
    rcases ho with ho | ho | ho | ho
    all_goals
      go_enter Try.func27, Try.ntmps27
      go_wp2_with fail
      refine (validR_any A c l _ (HL.out.now hBa)).mono ?_
      rintro e w1 ⟨rfl, hb1⟩
      obtain ⟨px, py⟩ := hPa.below hb1 (by omega)
      rw [HV.out]
      go_wp2
      all_goals
        go_ret2
        exact Ret.mk (by rw [HS.out]; rfl) (hBa.trans (hb1.mono hBa.size))
  · have HS : Hid (holdsS validRB inside2B l p = (inside2B l p, 0)) := by simp [Hid, holdsS, hv, ho]
    have HV := Lib.hid hv; clear hv
    unfold offAt at ho
    simp only [not_or] at ho
    obtain ⟨o1, o2, o3, o4⟩ := ho
    go_enter Try.func27, Try.ntmps27
    go_wp2_with fail
    refine (validR_any A c l _ (HL.out.now hBa)).mono ?_
    rintro e w1 ⟨rfl, hb1⟩
    obtain ⟨px, py⟩ := hPa.below hb1 (by omega)
    have hB1 := hBa.trans (hb1.mono hBa.size)
    rw [HV.out]
    go_wp2_with fail
    refine (inside2_any A c l p _ (by omega) (HL.out.now hB1)).mono ?_
    rintro e w2 ⟨rfl, hb2⟩
    go_wp2
    go_ret2
    exact Ret.mk (by rw [HS.out]; rfl) (hB1.trans (hb2.mono hB1.size))

set_option maxHeartbeats 1000000 in
theorem Within2_any (A A2 : Option Addr) (c c2 : Nat) (l l2 : List XY) (w : World) (hl : Rd w w.heap.size A l) (hl2 : Rd w w.heap.size A2 l2) :
    Calls Try.prog 28 #[.slice A l.length c, .slice A2 l2.length c2] w (Ret (.tuple #[.bool (withinS validRB within2B l l2).1, .int .i64 (withinS validRB within2B l l2).2]) w) := by
  have HL := Lib.hid hl; clear hl
  have HL2 := Lib.hid hl2; clear hl2
  cases hv : validRB l
  · have HS : Hid (withinS validRB within2B l l2 = (false, 10)) := by simp [Hid, withinS, hv]
    have HV := Lib.hid hv; clear hv
    go_enter Try.func28, Try.ntmps28
    go_wp2_with fail
    refine (validR_any A c l _ HL.out).mono ?_
    rintro e w1 ⟨rfl, hb1⟩
    rw [HV.out]
    go_wp2
    go_ret2
    exact Ret.mk (by rw [HS.out]; rfl) hb1
  cases hv2 : validRB l2
  · have HS : Hid (withinS validRB within2B l l2 = (false, 10)) := by simp [Hid, withinS, hv2]
    have HV := Lib.hid hv; clear hv
    have HV2 := Lib.hid hv2; clear hv2
    go_enter Try.func28, Try.ntmps28
    go_wp2_with fail
    refine (validR_any A c l _ HL.out).mono ?_
    rintro e w1 ⟨rfl, hb1⟩
    rw [HV.out]
    go_wp2_with fail
    refine (validR_any A2 c2 l2 _ (HL2.out.now hb1)).mono ?_
    rintro e w2 ⟨rfl, hb2⟩
    rw [HV2.out]
    go_wp2
    go_ret2
    exact Ret.mk (by rw [HS.out]; rfl) (hb1.trans (hb2.mono hb1.size))
  · have HS : Hid (withinS validRB within2B l l2 = (within2B l l2, 0)) := by simp [Hid, withinS, hv, hv2]
    have hlen := validRB_len hv
    have hlen2 := validRB_len hv2
    have HV := Lib.hid hv; clear hv
    have HV2 := Lib.hid hv2; clear hv2
    go_enter Try.func28, Try.ntmps28
    go_wp2_with fail
    refine (validR_any A c l _ HL.out).mono ?_
    rintro e w1 ⟨rfl, hb1⟩
    rw [HV.out]
    go_wp2_with fail
    refine (validR_any A2 c2 l2 _ (HL2.out.now hb1)).mono ?_
    rintro e w2 ⟨rfl, hb2⟩
    have hB2 := hb1.trans (hb2.mono hb1.size)
    rw [HV2.out]
    go_wp2_with fail
    refine (within2_any A A2 c c2 l l2 _ (by omega) (by omega) (HL.out.now hB2) (HL2.out.now hB2)).mono ?_
    rintro e w3 ⟨rfl, hb3⟩
    go_wp2
    go_ret2
    exact Ret.mk (by rw [HS.out]; rfl) (hB2.trans (hb3.mono hB2.size))
end Go.Proofs.Ytimehkeaeffcaaa

/- Reach, Holds, Within, in the program and in the reference: the walks. -/
import Derived.Test.YtimehkeaeffcaaaWA
import Derived.Test.YtimehkeaeffcaaaWB
import Derived.Test.YtimehkeaeffcaaaWG
import Derived.Test.YtimehkeaeffcaaaWF
namespace Go.Proofs.Ytimehkeaeffcaaa
open Go.RowKit Go.Shelf

def offUV (u v : Int) : Prop := u < -10000 ∨ 10000 < u ∨ v < -10000 ∨ 10000 < v ∨ (u = 0 ∧ v = 0)
instance (u v : Int) : Decidable (offUV u v) := by unfold offUV; exact inferInstance
def offAt (p : XY) : Prop := p.X < -20000 ∨ 20000 < p.X ∨ p.Y < -20000 ∨ 20000 < p.Y
instance (p : XY) : Decidable (offAt p) := by unfold offAt; exact inferInstance
def reachS (va : List XY → Bool) (l : List XY) (u v : Int) : Int × Int := if !va l then (0, 10) else if offUV u v then (0, 2) else (farW u v l, 0)
def holdsS (va : List XY → Bool) (ins : List XY → XY → Bool) (l : List XY) (p : XY) : Bool × Int := if !va l then (false, 10) else if offAt p then (false, 2) else (ins l p, 0)
def withinS (va : List XY → Bool) (wi : List XY → List XY → Bool) (o l : List XY) : Bool × Int := if !va o || !va l then (false, 10) else (wi o l, 0)

set_option maxHeartbeats 1000000 in
theorem Reach_any (u v : Int) (A : Option Addr) (c : Nat) (l : List XY) (w : World) (hl : Rd w w.heap.size A l) :
    Calls Try.prog 24 #[.slice A l.length c, .int .i64 u, .int .i64 v] w (Ret (.tuple #[.int .i64 (reachS validB l u v).1, .int .i64 (reachS validB l u v).2]) w) := by
  have HL := Lib.hid hl; clear hl
  cases hv : validB l
  · have HS : Hid (reachS validB l u v = (0, 10)) := by simp [Hid, reachS, hv]
    have HV := Lib.hid hv; clear hv
    go_enter Try.func24, Try.ntmps24
    go_wp2_with fail
    refine (valid_any A c l _ HL.out).mono ?_
    rintro e w1 ⟨rfl, hb1⟩
    rw [HV.out]
    go_wp2
    go_ret2
    exact Ret.mk (by rw [HS.out]; rfl) hb1
  have hlen := validB_len hv
  by_cases ho : offUV u v
  · have HS : Hid (reachS validB l u v = (0, 2)) := by simp [Hid, reachS, hv, ho]
    have HV := Lib.hid hv; clear hv
    rcases ho with ho | ho | ho | ho | ⟨rfl, rfl⟩
    all_goals
      go_enter Try.func24, Try.ntmps24
      go_wp2_with fail
      refine (valid_any A c l _ HL.out).mono ?_
      rintro e w1 ⟨rfl, hb1⟩
      rw [HV.out]
      go_wp2
      all_goals
        go_ret2
        exact Ret.mk (by rw [HS.out]; rfl) hb1
  · have HS : Hid (reachS validB l u v = (farW u v l, 0)) := by simp [Hid, reachS, hv, ho]
    have HV := Lib.hid hv; clear hv
    unfold offUV at ho
    simp only [not_or] at ho
    obtain ⟨o1, o2, o3, o4, o5⟩ := ho
    have b1 : decide (u < -10000) = false := decide_eq_false o1
    have b2 : decide (10000 < u) = false := decide_eq_false o2
    have b3 : decide (v < -10000) = false := decide_eq_false o3
    have b4 : decide (10000 < v) = false := decide_eq_false o4
    by_cases hu : u = 0
    · have hv0 : ¬ v = 0 := fun h => o5 ⟨hu, h⟩
      have b5 : (v == 0) = false := by simpa using hv0
      subst hu
      clear o5 b1 b2 o1 o2
      go_enter Try.func24, Try.ntmps24
      go_wp2_with fail
      refine (valid_any A c l _ HL.out).mono ?_
      rintro e w1 ⟨rfl, hb1⟩
      rw [HV.out]
      go_wp2_with fail
      refine (reach_any 0 v A c l _ (by omega) (by omega) (HL.out.now hb1)).mono ?_
      rintro e w2 ⟨rfl, hb2⟩
      go_wp2
      go_ret2
      exact Ret.mk (by rw [HS.out]; rfl) (hb1.trans (hb2.mono hb1.size))
    · have b5 : (u == 0) = false := by simpa using hu
      clear o5
      go_enter Try.func24, Try.ntmps24
      go_wp2_with fail
      refine (valid_any A c l _ HL.out).mono ?_
      rintro e w1 ⟨rfl, hb1⟩
      rw [HV.out]
      go_wp2_with fail
      refine (reach_any u v A c l _ (by omega) (by omega) (HL.out.now hb1)).mono ?_
      rintro e w2 ⟨rfl, hb2⟩
      go_wp2
      go_ret2
      exact Ret.mk (by rw [HS.out]; rfl) (hb1.trans (hb2.mono hb1.size))

set_option maxHeartbeats 1000000 in
theorem Holds_any (p : XY) (A : Option Addr) (c : Nat) (l : List XY) (w : World) (hl : Rd w w.heap.size A l) :
    Calls Try.prog 26 #[.slice A l.length c, xyv p] w (Ret (.tuple #[.bool (holdsS validB insideB l p).1, .int .i64 (holdsS validB insideB l p).2]) w) := by
  have HL := Lib.hid hl; clear hl
  cases hv : validB l
  · have HS : Hid (holdsS validB insideB l p = (false, 10)) := by simp [Hid, holdsS, hv]
    have HV := Lib.hid hv; clear hv
    go_enter Try.func26, Try.ntmps26
    go_wp2_with fail
    refine (valid_any A c l _ (HL.out.now (by (repeat (first | exact Below.refl _ _ | assumption | refine Below.alloc ?_ (by first | exact Nat.le_refl _ | exact Below.size (by assumption) | omega | (simp <;> omega)) _ | refine Below.setCell ?_ (by first | exact Nat.le_refl _ | exact Below.size (by assumption) | omega | (simp <;> omega)) _ | refine below_drewN ?_ _ | refine Below.drew ?_))))).mono ?_
    rintro e w1 ⟨rfl, hb1⟩
    rw [HV.out]
    go_wp2
    go_ret2
    exact Ret.mk (by rw [HS.out]; rfl) (Below.trans (b := w.alloc (.cells #[.int .i64 p.X, .int .i64 p.Y] 37)) (by (repeat (first | exact Below.refl _ _ | assumption | refine Below.alloc ?_ (by first | exact Nat.le_refl _ | exact Below.size (by assumption) | omega | (simp <;> omega)) _ | refine Below.setCell ?_ (by first | exact Nat.le_refl _ | exact Below.size (by assumption) | omega | (simp <;> omega)) _ | refine below_drewN ?_ _ | refine Below.drew ?_))) (hb1.mono (by simp)))
  have hlen := validB_len hv
  obtain ⟨wa, hwa⟩ : ∃ wa, w.alloc (.cells #[.int .i64 p.X, .int .i64 p.Y] 37) = wa := ⟨_, rfl⟩
  have hBa : Below w.heap.size w wa := by rw [← hwa]; (repeat (first | exact Below.refl _ _ | assumption | refine Below.alloc ?_ (by first | exact Nat.le_refl _ | exact Below.size (by assumption) | omega | (simp <;> omega)) _ | refine Below.setCell ?_ (by first | exact Nat.le_refl _ | exact Below.size (by assumption) | omega | (simp <;> omega)) _ | refine below_drewN ?_ _ | refine Below.drew ?_))
  have hPa : Pt wa w.heap.size p := by rw [← hwa]; exact ⟨by simp, by simp⟩
  have hSz : wa.heap.size = w.heap.size + 1 := by rw [← hwa]; simp
  by_cases ho : offAt p
  · have HS : Hid (holdsS validB insideB l p = (false, 2)) := by simp [Hid, holdsS, hv, ho]
    have HV := Lib.hid hv; clear hv
    rcases ho with ho | ho | ho | ho
    all_goals
      go_enter Try.func26, Try.ntmps26
      go_wp2_with fail
      refine (valid_any A c l _ (HL.out.now hBa)).mono ?_
      rintro e w1 ⟨rfl, hb1⟩
      obtain ⟨px, py⟩ := hPa.below hb1 (by omega)
      rw [HV.out]
      go_wp2
      all_goals
        go_ret2
        exact Ret.mk (by rw [HS.out]; rfl) (hBa.trans (hb1.mono hBa.size))
  · have HS : Hid (holdsS validB insideB l p = (insideB l p, 0)) := by simp [Hid, holdsS, hv, ho]
    have HV := Lib.hid hv; clear hv
    unfold offAt at ho
    simp only [not_or] at ho
    obtain ⟨o1, o2, o3, o4⟩ := ho
    go_enter Try.func26, Try.ntmps26
    go_wp2_with fail
    refine (valid_any A c l _ (HL.out.now hBa)).mono ?_
    rintro e w1 ⟨rfl, hb1⟩
    obtain ⟨px, py⟩ := hPa.below hb1 (by omega)
    have hB1 := hBa.trans (hb1.mono hBa.size)
    rw [HV.out]
    go_wp2_with fail
    refine (holds_any A c l p _ (by omega) (HL.out.now hB1)).mono ?_
    rintro e w2 ⟨rfl, hb2⟩
    go_wp2
    go_ret2
    exact Ret.mk (by rw [HS.out]; rfl) (hB1.trans (hb2.mono hB1.size))

set_option maxHeartbeats 1000000 in
theorem Within_any (A A2 : Option Addr) (c c2 : Nat) (l l2 : List XY) (w : World) (hl : Rd w w.heap.size A l) (hl2 : Rd w w.heap.size A2 l2) :
    Calls Try.prog 23 #[.slice A l.length c, .slice A2 l2.length c2] w (Ret (.tuple #[.bool (withinS validB withinB l l2).1, .int .i64 (withinS validB withinB l l2).2]) w) := by
  have HL := Lib.hid hl; clear hl
  have HL2 := Lib.hid hl2; clear hl2
  cases hv : validB l
  · have HS : Hid (withinS validB withinB l l2 = (false, 10)) := by simp [Hid, withinS, hv]
    have HV := Lib.hid hv; clear hv
    go_enter Try.func23, Try.ntmps23
    go_wp2_with fail
    refine (valid_any A c l _ HL.out).mono ?_
    rintro e w1 ⟨rfl, hb1⟩
    rw [HV.out]
    go_wp2
    go_ret2
    exact Ret.mk (by rw [HS.out]; rfl) hb1
  cases hv2 : validB l2
  · have HS : Hid (withinS validB withinB l l2 = (false, 10)) := by simp [Hid, withinS, hv2]
    have HV := Lib.hid hv; clear hv
    have HV2 := Lib.hid hv2; clear hv2
    go_enter Try.func23, Try.ntmps23
    go_wp2_with fail
    refine (valid_any A c l _ HL.out).mono ?_
    rintro e w1 ⟨rfl, hb1⟩
    rw [HV.out]
    go_wp2_with fail
    refine (valid_any A2 c2 l2 _ (HL2.out.now hb1)).mono ?_
    rintro e w2 ⟨rfl, hb2⟩
    rw [HV2.out]
    go_wp2
    go_ret2
    exact Ret.mk (by rw [HS.out]; rfl) (hb1.trans (hb2.mono hb1.size))
  · have HS : Hid (withinS validB withinB l l2 = (withinB l l2, 0)) := by simp [Hid, withinS, hv, hv2]
    have hlen := validB_len hv
    have hlen2 := validB_len hv2
    have HV := Lib.hid hv; clear hv
    have HV2 := Lib.hid hv2; clear hv2
    go_enter Try.func23, Try.ntmps23
    go_wp2_with fail
    refine (valid_any A c l _ HL.out).mono ?_
    rintro e w1 ⟨rfl, hb1⟩
    rw [HV.out]
    go_wp2_with fail
    refine (valid_any A2 c2 l2 _ (HL2.out.now hb1)).mono ?_
    rintro e w2 ⟨rfl, hb2⟩
    have hB2 := hb1.trans (hb2.mono hb1.size)
    rw [HV2.out]
    go_wp2_with fail
    refine (within_any A A2 c c2 l l2 _ (by omega) (by omega) (HL.out.now hB2) (HL2.out.now hB2)).mono ?_
    rintro e w3 ⟨rfl, hb3⟩
    go_wp2
    go_ret2
    exact Ret.mk (by rw [HS.out]; rfl) (hB2.trans (hb3.mono hB2.size))
end Go.Proofs.Ytimehkeaeffcaaa

/- Reach, Holds, Within, in the program and in the reference: the walks. -/
import Derived.Test.YtcbphodkaiknmaaWA
import Derived.Test.YtcbphodkaiknmaaWB
import Derived.Test.YtcbphodkaiknmaaWG
import Derived.Test.YtcbphodkaiknmaaWF
namespace Go.Proofs.Ytcbphodkaiknmaa
open Go.RowKit Go.Shelf

def offUV (u v : Int) : Prop := u < -10000 ∨ 10000 < u ∨ v < -10000 ∨ 10000 < v ∨ (u = 0 ∧ v = 0)
instance (u v : Int) : Decidable (offUV u v) := by unfold offUV; exact inferInstance
def offAt (p : XY) : Prop := p.X < -20000 ∨ 20000 < p.X ∨ p.Y < -20000 ∨ 20000 < p.Y
instance (p : XY) : Decidable (offAt p) := by unfold offAt; exact inferInstance
def reachS (va : List XY → Bool) (l : List XY) (u v : Int) : Int × Int := if !va l then (0, 10) else if offUV u v then (0, 2) else (farW u v l, 0)
def holdsS (va : List XY → Bool) (ins : List XY → XY → Bool) (l : List XY) (p : XY) : Bool × Int := if !va l then (false, 10) else if offAt p then (false, 2) else (ins l p, 0)
def withinS (va : List XY → Bool) (wi : List XY → List XY → Bool) (o l : List XY) : Bool × Int := if !va o || !va l then (false, 10) else (wi o l, 0)

set_option maxRecDepth 100000 in
set_option maxHeartbeats 1000000 in
theorem Holds_any (p : XY) (A : Option Addr) (c : Nat) (l : List XY) (w : World) (hl : Rd w w.heap.size A l) :
    Calls Try.prog 8 #[.slice A l.length c, xyv p] w (Ret (.tuple #[.bool (holdsS validB insideB l p).1, .int .i64 (holdsS validB insideB l p).2]) w) := by
  have HL := Lib.hid hl; clear hl
  cases hv : validB l
  · have HS : Hid (holdsS validB insideB l p = (false, 10)) := by simp [Hid, holdsS, hv]
    have HV := Lib.hid hv; clear hv
    go_enter Try.func8, Try.ntmps8
    go_wp2_with fail
    refine (valid_any A c l _ (HL.out.now (by (repeat (first | exact Below.refl _ _ | assumption | refine Below.alloc ?_ (by first | exact Nat.le_refl _ | exact Below.size (by assumption) | omega | (simp <;> omega)) _ | refine Below.setCell ?_ (by first | exact Nat.le_refl _ | exact Below.size (by assumption) | omega | (simp <;> omega)) _ | refine below_drewN ?_ _ | refine Below.drew ?_))))).mono ?_
    rintro e w1 ⟨rfl, hb1⟩
    rw [HV.out]
    go_wp2
    go_ret2
    exact Ret.mk (by rw [HS.out]; rfl) (Below.trans (b := w.alloc (.cells #[.int .i64 p.X, .int .i64 p.Y] 29)) (by (repeat (first | exact Below.refl _ _ | assumption | refine Below.alloc ?_ (by first | exact Nat.le_refl _ | exact Below.size (by assumption) | omega | (simp <;> omega)) _ | refine Below.setCell ?_ (by first | exact Nat.le_refl _ | exact Below.size (by assumption) | omega | (simp <;> omega)) _ | refine below_drewN ?_ _ | refine Below.drew ?_))) (hb1.mono (by simp)))
  have hlen := validB_len hv
  obtain ⟨wa, hwa⟩ : ∃ wa, w.alloc (.cells #[.int .i64 p.X, .int .i64 p.Y] 29) = wa := ⟨_, rfl⟩
  have hBa : Below w.heap.size w wa := by rw [← hwa]; (repeat (first | exact Below.refl _ _ | assumption | refine Below.alloc ?_ (by first | exact Nat.le_refl _ | exact Below.size (by assumption) | omega | (simp <;> omega)) _ | refine Below.setCell ?_ (by first | exact Nat.le_refl _ | exact Below.size (by assumption) | omega | (simp <;> omega)) _ | refine below_drewN ?_ _ | refine Below.drew ?_))
  have hPa : Pt wa w.heap.size p := by rw [← hwa]; exact ⟨by simp, by simp⟩
  have hSz : wa.heap.size = w.heap.size + 1 := by rw [← hwa]; simp
  by_cases ho : offAt p
  · have HS : Hid (holdsS validB insideB l p = (false, 2)) := by simp [Hid, holdsS, hv, ho]
    have HV := Lib.hid hv; clear hv
    rcases ho with ho | ho | ho | ho
    all_goals
      go_enter Try.func8, Try.ntmps8
      go_wp2_with fail
      refine (valid_any A c l _ (HL.out.now hBa)).mono ?_
      rintro e w1 ⟨rfl, hb1⟩
      obtain ⟨px, py⟩ := hPa.below hb1 (by omega)
      rw [HV.out]
      go_wp2
      all_goals
        go_ret2
        exact Ret.mk (by rw [HS.out]; rfl) (hBa.trans (hb1.mono hBa.size))
  · have HS : Hid (holdsS validB insideB l p = (insideB l p, 0)) := by simp [Hid, holdsS, hv, ho]
    have HV := Lib.hid hv; clear hv
    unfold offAt at ho
    simp only [not_or] at ho
    obtain ⟨o1, o2, o3, o4⟩ := ho
    go_enter Try.func8, Try.ntmps8
    go_wp2_with fail
    refine (valid_any A c l _ (HL.out.now hBa)).mono ?_
    rintro e w1 ⟨rfl, hb1⟩
    obtain ⟨px, py⟩ := hPa.below hb1 (by omega)
    have hB1 := hBa.trans (hb1.mono hBa.size)
    rw [HV.out]
    go_wp2_with fail
    refine (holds_any A c l p _ (by omega) (HL.out.now hB1)).mono ?_
    rintro e w2 ⟨rfl, hb2⟩
    go_wp2
    go_ret2
    exact Ret.mk (by rw [HS.out]; rfl) (hB1.trans (hb2.mono hB1.size))

end Go.Proofs.Ytcbphodkaiknmaa

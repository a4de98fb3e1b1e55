/- The blank, in the program: the walk. -/
import Derived.Test.YtimehkeaeffcaaaW24
namespace Go.Proofs.Ytimehkeaeffcaaa
open Go.RowKit Go.Shelf

def offBP (b p : Int) : Prop := b < 0 ∨ 20000 < b ∨ p < 0 ∨ 20000 < p
instance (b p : Int) : Decidable (offBP b p) := by unfold offBP; exact inferInstance
def mx (a b : Int) : Int := if a < b then b else a
def blankS (va : List XY → Bool) (dia box : List XY → Int) (l : List XY) (b p : Int) : Int × Int :=
  if !va l then (0, 10) else if offBP b p then (0, 2) else
  (wrap64 (wrap64 (dia l + mx (wrap64 (wrap64 (box l + b) - p)) (wrap64 (-(wrap64 (wrap64 (box l + b) - p))))) + 200), 0)
def dia2W (l : List XY) : Int := dia2To l l.length
def diaP (l : List XY) : Int := diaW l
def boxP (l : List XY) : Int := (boxS l).1
def boxR (l : List XY) : Int := (box2S l).1

set_option maxHeartbeats 1000000 in
theorem Blank_any (x y : Int) (A : Option Addr) (c : Nat) (l : List XY) (w : World) (hl : Rd w w.heap.size A l) :
    Calls Try.prog 21 #[.slice A l.length c, .int .i64 x, .int .i64 y] w (Ret (.tuple #[.int .i64 (blankS validB diaP boxP l x y).1, .int .i64 (blankS validB diaP boxP l x y).2]) w) := by
  have HL := Lib.hid hl; clear hl
  cases hv : validB l
  · have HS : Hid (blankS validB diaP boxP l x y = (0, 10)) := by simp [Hid, blankS, hv]
    have HD : Hid (diameterS l = (0, 10)) := by simp [Hid, diameterS, hv]
    clear hv
    go_enter Try.func21, Try.ntmps21
    go_wp2_with fail
    refine (Diameter_any A c l _ HL.out).mono ?_
    rintro e w1 ⟨rfl, hb1⟩
    rw [HD.out]
    go_wp2
    go_ret2
    exact Ret.mk (by rw [HS.out]; rfl) hb1
  have hdd : diameterS l = (diaP l, 0) := by simp [diameterS, hv, diaP]
  by_cases ho : offBP x y
  · have HS : Hid (blankS validB diaP boxP l x y = (0, 2)) := by simp [Hid, blankS, hv, ho]
    have HD := Lib.hid hdd; clear hdd hv
    rcases ho with ho | ho | ho | ho
    all_goals
      go_enter Try.func21, Try.ntmps21
      go_wp2_with fail
      refine (Diameter_any A c l _ HL.out).mono ?_
      rintro e w1 ⟨rfl, hb1⟩
      rw [HD.out]
      go_wp2
      all_goals
        go_ret2
        exact Ret.mk (by rw [HS.out]; rfl) hb1
  · obtain ⟨⟨bx, by', be⟩, hbx⟩ : ∃ r, boxS l = r := ⟨_, rfl⟩
    obtain ⟨d, hd⟩ : ∃ d, diaP l = d := ⟨_, rfl⟩
    have hs : blankS validB diaP boxP l x y = (wrap64 (wrap64 (d + mx (wrap64 (wrap64 (bx + x) - y)) (wrap64 (-(wrap64 (wrap64 (bx + x) - y))))) + 200), 0) := by
      simp [blankS, hv, ho, boxP, hbx, hd]
    unfold offBP at ho
    simp only [not_or] at ho
    obtain ⟨o1, o2, o3, o4⟩ := ho
    have b1 : decide (x < 0) = false := decide_eq_false o1
    have b2 : decide (20000 < x) = false := decide_eq_false o2
    have b3 : decide (y < 0) = false := decide_eq_false o3
    have b4 : decide (20000 < y) = false := decide_eq_false o4
    rw [hd] at hdd
    have HD := Lib.hid hdd; clear hdd hv
    have HS := Lib.hid hs; clear hs
    have HB := Lib.hid hbx; clear hbx
    clear hd
    go_enter Try.func21, Try.ntmps21
    go_wp2_with fail
    refine (Diameter_any A c l _ HL.out).mono ?_
    rintro e w1 ⟨rfl, hb1⟩
    rw [HD.out]
    go_wp2_with fail
    refine (Box_any A c l _ (HL.out.now hb1)).mono ?_
    rintro e w2 ⟨rfl, hb2⟩
    rw [HB.out]
    go_wp2
    all_goals
      go_ret2
      exact Ret.mk (by rw [HS.out]; unfold mx; first | (rw [if_pos (by assumption)]; rfl) | (rw [if_neg (by omega)]; rfl)) (hb1.trans (hb2.mono hb1.size))
end Go.Proofs.Ytimehkeaeffcaaa

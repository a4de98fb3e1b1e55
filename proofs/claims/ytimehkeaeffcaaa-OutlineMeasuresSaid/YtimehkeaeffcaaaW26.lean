/- The blank, in the reference: the walk. -/
import Derived.Test.YtimehkeaeffcaaaW25
namespace Go.Proofs.Ytimehkeaeffcaaa
open Go.RowKit Go.Shelf

set_option maxHeartbeats 1000000 in
theorem Blank2_any (x y : Int) (A : Option Addr) (c : Nat) (l : List XY) (w : World) (hl : Rd w w.heap.size A l) :
    Calls Try.prog 22 #[.slice A l.length c, .int .i64 x, .int .i64 y] w (Ret (.tuple #[.int .i64 (blankS validRB dia2W boxR l x y).1, .int .i64 (blankS validRB dia2W boxR l x y).2]) w) := by
  have HL := Lib.hid hl; clear hl
  cases hv : validRB l
  · have HS : Hid (blankS validRB dia2W boxR l x y = (0, 10)) := by simp [Hid, blankS, hv]
    have HD : Hid (diameter2S l = (0, 10)) := by simp [Hid, diameter2S, hv]
    clear hv
    go_enter Try.func22, Try.ntmps22
    go_wp2_with fail
    refine (Diameter2_any A c l _ HL.out).mono ?_
    rintro e w1 ⟨rfl, hb1⟩
    rw [HD.out]
    go_wp2
    go_ret2
    exact Ret.mk (by rw [HS.out]; rfl) hb1
  have hdd : diameter2S l = (dia2W l, 0) := by simp [diameter2S, hv, dia2W]
  by_cases ho : offBP x y
  · have HS : Hid (blankS validRB dia2W boxR l x y = (0, 2)) := by simp [Hid, blankS, hv, ho]
    have HD := Lib.hid hdd; clear hdd hv
    rcases ho with ho | ho | ho | ho
    all_goals
      go_enter Try.func22, Try.ntmps22
      go_wp2_with fail
      refine (Diameter2_any A c l _ HL.out).mono ?_
      rintro e w1 ⟨rfl, hb1⟩
      rw [HD.out]
      go_wp2
      all_goals
        go_ret2
        exact Ret.mk (by rw [HS.out]; rfl) hb1
  · obtain ⟨⟨bx, by', be⟩, hbx⟩ : ∃ r, box2S l = r := ⟨_, rfl⟩
    obtain ⟨d, hd⟩ : ∃ d, dia2W l = d := ⟨_, rfl⟩
    have hs : blankS validRB dia2W boxR l x y = (wrap64 (wrap64 (d + mx (wrap64 (wrap64 (bx + x) - y)) (wrap64 (-(wrap64 (wrap64 (bx + x) - y))))) + 200), 0) := by
      simp [blankS, hv, ho, boxR, hbx, hd]
    unfold offBP at ho
    simp only [not_or] at ho
    obtain ⟨o1, o2, o3, o4⟩ := ho
    have b1 : decide (x < 0) = false := decide_eq_false o1
    have b2 : decide (20000 < x) = false := decide_eq_false o2
    have b3 : decide (y < 0) = false := decide_eq_false o3
    have b4 : decide (20000 < y) = false := decide_eq_false o4
    rw [hd] at hdd
    have HD := Lib.hid hdd; clear hdd hv
    have HS := Lib.hid hs; clear hs
    have HB := Lib.hid hbx; clear hbx
    clear hd
    go_enter Try.func22, Try.ntmps22
    go_wp2_with fail
    refine (Diameter2_any A c l _ HL.out).mono ?_
    rintro e w1 ⟨rfl, hb1⟩
    rw [HD.out]
    go_wp2_with fail
    refine (Box2_any A c l _ (HL.out.now hb1)).mono ?_
    rintro e w2 ⟨rfl, hb2⟩
    rw [HB.out]
    go_wp2
    all_goals
      go_ret2
      exact Ret.mk (by rw [HS.out]; unfold mx; first | (rw [if_pos (by assumption)]; rfl) | (rw [if_neg (by omega)]; rfl)) (hb1.trans (hb2.mono hb1.size))
end Go.Proofs.Ytimehkeaeffcaaa

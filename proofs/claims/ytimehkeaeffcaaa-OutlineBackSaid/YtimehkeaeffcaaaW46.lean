/- The measures of the law OutlineBack: the walk; arrays of five numbers, compared. -/
import Derived.Test.YtimehkeaeffcaaaW15
import Derived.Test.YtimehkeaeffcaaaW22
import Derived.Test.YtimehkeaeffcaaaW23
import Derived.Test.YtimehkeaeffcaaaBase
import Derived.ChangeKeysEq
namespace Go.Proofs.Ytimehkeaeffcaaa
open Go.RowKit

/-- Twice the area, the box, the bounds of the length. -/
def fiveV (l : List XY) : Value := .agg #[.int .i64 (areaW l), .int .i64 (boxS l).1, .int .i64 (boxS l).2.1, .int .i64 (aroundS validB l).1, .int .i64 (aroundS validB l).2.1]

set_option maxHeartbeats 1000000 in
theorem measures_any (A : Option Addr) (c : Nat) (l : List XY) (w : World) (hv : validB l = true) (hl : Rd w w.heap.size A l) :
    Calls Try.prog 50 #[.slice A l.length c] w (Ret (.tuple #[fiveV l, .bool true]) w) := by
  have HL := Lib.hid hl; clear hl
  have hb2 : (boxS l).2.2 = 0 := by simp [boxS, hv]
  have ha2 : (aroundS validB l).2.2 = 0 := by simp [aroundS, hv]
  have hd : area2S l = (areaW l, 0) := by simp [area2S, hv]
  have HF : Hid (fiveV l = .agg #[.int .i64 (areaW l), .int .i64 (boxS l).1, .int .i64 (boxS l).2.1, .int .i64 (aroundS validB l).1, .int .i64 (aroundS validB l).2.1]) := rfl
  have HD := Lib.hid hd; clear hd hv
  obtain ⟨⟨p, q, z1⟩, hbx⟩ : ∃ r, boxS l = r := ⟨_, rfl⟩
  obtain ⟨⟨lo, hi, z2⟩, har⟩ : ∃ r, aroundS validB l = r := ⟨_, rfl⟩
  rw [hbx] at hb2 HF
  rw [har] at ha2 HF
  simp only at hb2 ha2
  subst hb2
  subst ha2
  have HB := Lib.hid hbx; clear hbx
  have HA := Lib.hid har; clear har
  go_enter Try.func50, Try.ntmps50
  go_wp2_with fail
  have hB0 : Below w.heap.size w (w.alloc (.cells #[.int .i64 0, .int .i64 0, .int .i64 0, .int .i64 0, .int .i64 0] 47)) := by (repeat (first | exact Below.refl _ _ | assumption | refine Below.alloc ?_ (by first | exact Nat.le_refl _ | exact Below.size (by assumption) | omega | (simp <;> omega)) _ | refine Below.setCell ?_ (by first | exact Nat.le_refl _ | exact Below.size (by assumption) | omega | (simp <;> omega)) _ | refine below_drewN ?_ _ | refine Below.drew ?_))
  obtain ⟨wa, hwa⟩ : ∃ wa, w.alloc (.cells #[.int .i64 0, .int .i64 0, .int .i64 0, .int .i64 0, .int .i64 0] 47) = wa := ⟨_, rfl⟩
  rw [hwa] at hB0 ⊢
  refine (Area2_any A c l _ (HL.out.now hB0)).mono ?_
  rintro e w1 ⟨rfl, hb1⟩
  rw [HD.out]
  have hB1 := hB0.trans (hb1.mono hB0.size)
  go_wp2_with fail
  refine (Box_any A c l _ (HL.out.now hB1)).mono ?_
  rintro e w2 ⟨rfl, hb2⟩
  rw [HB.out]
  have hB2 := hB1.trans (hb2.mono hB1.size)
  go_wp2_with fail
  refine (Around_any A c l _ (HL.out.now hB2)).mono ?_
  rintro e w3 ⟨rfl, hb3⟩
  rw [HA.out]
  have hB3 := hB2.trans (hb3.mono hB2.size)
  have hb13 : Below wa.heap.size wa w3 := hb1.trans ((hb2.trans (hb3.mono hb2.size)).mono hb1.size)
  have hlt : w.heap.size < wa.heap.size := by rw [← hwa]; simp
  have c0 : w3.cell? ⟨w.heap.size, 0, none⟩ = some (.int .i64 0) := (hb13.cell (p := ⟨w.heap.size, 0, none⟩) hlt).trans (by rw [← hwa]; simp)
  have c1 : w3.cell? ⟨w.heap.size, 1, none⟩ = some (.int .i64 0) := (hb13.cell (p := ⟨w.heap.size, 1, none⟩) hlt).trans (by rw [← hwa]; simp)
  have c2 : w3.cell? ⟨w.heap.size, 2, none⟩ = some (.int .i64 0) := (hb13.cell (p := ⟨w.heap.size, 2, none⟩) hlt).trans (by rw [← hwa]; simp)
  have c3 : w3.cell? ⟨w.heap.size, 3, none⟩ = some (.int .i64 0) := (hb13.cell (p := ⟨w.heap.size, 3, none⟩) hlt).trans (by rw [← hwa]; simp)
  have c4 : w3.cell? ⟨w.heap.size, 4, none⟩ = some (.int .i64 0) := (hb13.cell (p := ⟨w.heap.size, 4, none⟩) hlt).trans (by rw [← hwa]; simp)
  have f0 : w3.frozen? ⟨w.heap.size, 0, none⟩ = false := (hb13.frozen (p := ⟨w.heap.size, 0, none⟩) hlt).trans (by rw [← hwa]; simp)
  have f1 : w3.frozen? ⟨w.heap.size, 1, none⟩ = false := (hb13.frozen (p := ⟨w.heap.size, 1, none⟩) hlt).trans (by rw [← hwa]; simp)
  have f2 : w3.frozen? ⟨w.heap.size, 2, none⟩ = false := (hb13.frozen (p := ⟨w.heap.size, 2, none⟩) hlt).trans (by rw [← hwa]; simp)
  have f3 : w3.frozen? ⟨w.heap.size, 3, none⟩ = false := (hb13.frozen (p := ⟨w.heap.size, 3, none⟩) hlt).trans (by rw [← hwa]; simp)
  have f4 : w3.frozen? ⟨w.heap.size, 4, none⟩ = false := (hb13.frozen (p := ⟨w.heap.size, 4, none⟩) hlt).trans (by rw [← hwa]; simp)
  clear hwa hb1 hb2 hb3 hb13
  have hsB := hB3.size
  go_wp2
  exact bodyPost_ret (v := .tuple #[.agg #[.int .i64 (areaW l), .int .i64 p, .int .i64 q, .int .i64 lo, .int .i64 hi], .bool true]) (by simp [results, Try.f50, go_sem, c0, c1, c2, c3, c4]) rfl (Ret.mk (by rw [HF.out]) (by (repeat (first | exact Below.refl _ _ | assumption | refine Below.alloc ?_ (by first | exact Nat.le_refl _ | exact Below.size (by assumption) | omega | (simp <;> omega)) _ | refine Below.setCell ?_ (by first | exact Nat.le_refl _ | exact Below.size (by assumption) | omega | (simp <;> omega)) _ | refine below_drewN ?_ _ | refine Below.drew ?_))))
end Go.Proofs.Ytimehkeaeffcaaa

namespace Go.Proofs.Ytimehkeaeffcaaa
open Go.RowKit

theorem Try.infoInt : (Try.prog.info? 3).map (fun i => (i.zero, i.size, i.bytes)) = some (some (.int .i64 0), 1, 8) := by kernel_rfl
theorem run_eqFive (a b c d e : Int) (w : World) : (binOp .eql 47 (.agg #[.int .i64 a, .int .i64 b, .int .i64 c, .int .i64 d, .int .i64 e]) (.agg #[.int .i64 a, .int .i64 b, .int .i64 c, .int .i64 d, .int .i64 e])).run Try.prog w = .ok (.bool true) w := by
  have u3 := Try.underlying3
  have a3 := Try.isAgg3
  have z3 := Try.sizeOf3
  have c3 : Try.prog.cellsOf 3 = 1 := by kernel_rfl
  have hu := Try.underlying47
  have hi := Option.map_eq_some_iff.1 Try.infoInt
  obtain ⟨i0, hi, _⟩ := hi
  rw [run_eql_struct, show (10000 : Nat) = 9999 + 1 from rfl, run_equalIn_array w 9999 _ _ hu hi]
  simp [Op.eqItems, c3, List.range, List.range.loop]
  go_simp
end Go.Proofs.Ytimehkeaeffcaaa

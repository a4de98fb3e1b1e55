/- Seat, whole, in the program: the walk. -/
import Derived.Test.YtimehkeaeffcaaaW13
namespace Go.Proofs.Ytimehkeaeffcaaa
open Go.RowKit Go.Shelf

theorem validB_len {l : List XY} (h : validB l = true) : 3 ≤ l.length ∧ l.length ≤ 64 := by
  simp only [validB, Bool.and_eq_true, decide_eq_true_eq] at h; exact ⟨h.1.1.1.1, h.1.1.1.2⟩

set_option maxRecDepth 100000 in
set_option maxHeartbeats 1000000 in
theorem seat_any (A A2 : Option Addr) (c c2 : Nat) (lens groove : List XY) (play : Int) (w : World) (hl : Rd w w.heap.size A lens) (hl2 : Rd w w.heap.size A2 groove) :
    Calls Try.prog 14 #[.slice A lens.length c, .slice A2 groove.length c2, .int .i64 play] w (Ret (.tuple #[.bool (seatS lens groove play).1, .int .i64 (seatS lens groove play).2]) w) := by
  cases hv1 : validB lens
  · have HS : Hid (seatS lens groove play = (false, 10)) := by simp [Hid, seatS, hv1]
    have HL := Lib.hid hl; clear hl hl2
    have HV1 := Lib.hid hv1; clear hv1
    have hB0 : Below w.heap.size w (((((w.alloc (.cells #[.slice A lens.length c] 22)).alloc (.cells #[.slice A2 groove.length c2] 22)).alloc (.cells #[.int .i64 play] 3)).alloc (.cells #[.bool false] 4)).alloc (.cells #[.int .i64 0] 23)) := by (repeat (first | exact Below.refl _ _ | assumption | refine Below.alloc ?_ (by first | exact Nat.le_refl _ | exact Below.size (by assumption) | omega | (simp <;> omega)) _ | refine Below.setCell ?_ (by first | exact Nat.le_refl _ | exact Below.size (by assumption) | omega | (simp <;> omega)) _ | refine below_drewN ?_ _ | refine Below.drew ?_))
    have hzz : (((((w.alloc (.cells #[.slice A lens.length c] 22)).alloc (.cells #[.slice A2 groove.length c2] 22)).alloc (.cells #[.int .i64 play] 3)).alloc (.cells #[.bool false] 4)).alloc (.cells #[.int .i64 0] 23)).heap.size = w.heap.size + 5 := by simp
    have HB0 := Lib.hid hB0; clear hB0
    have HZ := Lib.hid hzz; clear hzz
    go_enter Try.func14, Try.ntmps14
    go_wp2_with fail
    refine (valid_any A c lens _ (HL.out.now HB0.out)).mono ?_
    rintro e w1 ⟨rfl, hb1⟩
    have sb1 := (SB.new w A A2 lens.length c groove.length c2 play).below hb1 (by rw [HZ.out]; omega)
    have hB1 := HB0.out.trans (hb1.mono HB0.out.size)
    clear hb1
    have k3 := sb1.b3.cell
    have l3 := sb1.b3.frozen
    have k4 := sb1.b4.cell
    have l4 := sb1.b4.frozen
    rw [HV1.out]
    go_wp2
    have d3 := ((sb1.b3.set (.bool false)).other (B' := w.heap.size + 1 + 1 + 1 + 1) (by omega) (.int .i64 10)).cell
    have d4 := ((sb1.b4.other (B' := w.heap.size + 1 + 1 + 1) (by omega) (.bool false)).set (.int .i64 10)).cell
    exact bodyPost_ret (v := .tuple #[.bool false, .int .i64 10]) (by simp [results, Try.f14, go_sem, d3, d4]) rfl (Ret.mk (by rw [HS.out]) ((hB1.setCell (p := ⟨w.heap.size + 1 + 1 + 1, 0, none⟩) (by simp; omega) _).setCell (p := ⟨w.heap.size + 1 + 1 + 1 + 1, 0, none⟩) (by simp; omega) _))
  cases hv2 : validB groove
  · have HS : Hid (seatS lens groove play = (false, 10)) := by simp [Hid, seatS, hv2]
    have HL := Lib.hid hl; clear hl
    have HL2 := Lib.hid hl2; clear hl2
    have HV1 := Lib.hid hv1; clear hv1
    have HV2 := Lib.hid hv2; clear hv2
    have hB0 : Below w.heap.size w (((((w.alloc (.cells #[.slice A lens.length c] 22)).alloc (.cells #[.slice A2 groove.length c2] 22)).alloc (.cells #[.int .i64 play] 3)).alloc (.cells #[.bool false] 4)).alloc (.cells #[.int .i64 0] 23)) := by (repeat (first | exact Below.refl _ _ | assumption | refine Below.alloc ?_ (by first | exact Nat.le_refl _ | exact Below.size (by assumption) | omega | (simp <;> omega)) _ | refine Below.setCell ?_ (by first | exact Nat.le_refl _ | exact Below.size (by assumption) | omega | (simp <;> omega)) _ | refine below_drewN ?_ _ | refine Below.drew ?_))
    have hzz : (((((w.alloc (.cells #[.slice A lens.length c] 22)).alloc (.cells #[.slice A2 groove.length c2] 22)).alloc (.cells #[.int .i64 play] 3)).alloc (.cells #[.bool false] 4)).alloc (.cells #[.int .i64 0] 23)).heap.size = w.heap.size + 5 := by simp
    have HB0 := Lib.hid hB0; clear hB0
    have HZ := Lib.hid hzz; clear hzz
    go_enter Try.func14, Try.ntmps14
    go_wp2_with fail
    refine (valid_any A c lens _ (HL.out.now HB0.out)).mono ?_
    rintro e w1 ⟨rfl, hb1⟩
    have sb1 := (SB.new w A A2 lens.length c groove.length c2 play).below hb1 (by rw [HZ.out]; omega)
    have hB1 := HB0.out.trans (hb1.mono HB0.out.size)
    clear hb1
    have k1 := sb1.b1.cell
    rw [HV1.out]
    go_wp2_with fail
    refine (valid_any A2 c2 groove _ (HL2.out.now hB1)).mono ?_
    rintro e w2 ⟨rfl, hb2⟩
    have sb2 := sb1.below hb2 sb1.lt
    have hB2 := hB1.trans (hb2.mono hB1.size)
    have k2 := sb2.b2.cell
    clear hb2 k1
    have k3 := sb2.b3.cell
    have l3 := sb2.b3.frozen
    have k4 := sb2.b4.cell
    have l4 := sb2.b4.frozen
    rw [HV2.out]
    go_wp2
    have d3 := ((sb2.b3.set (.bool false)).other (B' := w.heap.size + 1 + 1 + 1 + 1) (by omega) (.int .i64 10)).cell
    have d4 := ((sb2.b4.other (B' := w.heap.size + 1 + 1 + 1) (by omega) (.bool false)).set (.int .i64 10)).cell
    exact bodyPost_ret (v := .tuple #[.bool false, .int .i64 10]) (by simp [results, Try.f14, go_sem, d3, d4]) rfl (Ret.mk (by rw [HS.out]) ((hB2.setCell (p := ⟨w.heap.size + 1 + 1 + 1, 0, none⟩) (by simp; omega) _).setCell (p := ⟨w.heap.size + 1 + 1 + 1 + 1, 0, none⟩) (by simp; omega) _))
  have hlen1 := validB_len hv1
  have hlen2 := validB_len hv2
  by_cases hp0 : play < 0
  · have HS : Hid (seatS lens groove play = (false, 2)) := by simp [Hid, seatS, hv1, hv2, hp0]
    have HL := Lib.hid hl; clear hl
    have HL2 := Lib.hid hl2; clear hl2
    have HV1 := Lib.hid hv1; clear hv1
    have HV2 := Lib.hid hv2; clear hv2
    have hB0 : Below w.heap.size w (((((w.alloc (.cells #[.slice A lens.length c] 22)).alloc (.cells #[.slice A2 groove.length c2] 22)).alloc (.cells #[.int .i64 play] 3)).alloc (.cells #[.bool false] 4)).alloc (.cells #[.int .i64 0] 23)) := by (repeat (first | exact Below.refl _ _ | assumption | refine Below.alloc ?_ (by first | exact Nat.le_refl _ | exact Below.size (by assumption) | omega | (simp <;> omega)) _ | refine Below.setCell ?_ (by first | exact Nat.le_refl _ | exact Below.size (by assumption) | omega | (simp <;> omega)) _ | refine below_drewN ?_ _ | refine Below.drew ?_))
    have hzz : (((((w.alloc (.cells #[.slice A lens.length c] 22)).alloc (.cells #[.slice A2 groove.length c2] 22)).alloc (.cells #[.int .i64 play] 3)).alloc (.cells #[.bool false] 4)).alloc (.cells #[.int .i64 0] 23)).heap.size = w.heap.size + 5 := by simp
    have HB0 := Lib.hid hB0; clear hB0
    have HZ := Lib.hid hzz; clear hzz
    go_enter Try.func14, Try.ntmps14
    go_wp2_with fail
    refine (valid_any A c lens _ (HL.out.now HB0.out)).mono ?_
    rintro e w1 ⟨rfl, hb1⟩
    have sb1 := (SB.new w A A2 lens.length c groove.length c2 play).below hb1 (by rw [HZ.out]; omega)
    have hB1 := HB0.out.trans (hb1.mono HB0.out.size)
    clear hb1
    have k1 := sb1.b1.cell
    rw [HV1.out]
    go_wp2_with fail
    refine (valid_any A2 c2 groove _ (HL2.out.now hB1)).mono ?_
    rintro e w2 ⟨rfl, hb2⟩
    have sb2 := sb1.below hb2 sb1.lt
    have hB2 := hB1.trans (hb2.mono hB1.size)
    have k2 := sb2.b2.cell
    clear hb2 k1
    have k3 := sb2.b3.cell
    have l3 := sb2.b3.frozen
    have k4 := sb2.b4.cell
    have l4 := sb2.b4.frozen
    rw [HV2.out]
    go_wp2
    have d3 := ((sb2.b3.set (.bool false)).other (B' := w.heap.size + 1 + 1 + 1 + 1) (by omega) (.int .i64 2)).cell
    have d4 := ((sb2.b4.other (B' := w.heap.size + 1 + 1 + 1) (by omega) (.bool false)).set (.int .i64 2)).cell
    exact bodyPost_ret (v := .tuple #[.bool false, .int .i64 2]) (by simp [results, Try.f14, go_sem, d3, d4]) rfl (Ret.mk (by rw [HS.out]) ((hB2.setCell (p := ⟨w.heap.size + 1 + 1 + 1, 0, none⟩) (by simp; omega) _).setCell (p := ⟨w.heap.size + 1 + 1 + 1 + 1, 0, none⟩) (by simp; omega) _))
  by_cases hp1 : 1000 < play
  · have HS : Hid (seatS lens groove play = (false, 2)) := by simp [Hid, seatS, hv1, hv2, hp1]
    have HL := Lib.hid hl; clear hl
    have HL2 := Lib.hid hl2; clear hl2
    have HV1 := Lib.hid hv1; clear hv1
    have HV2 := Lib.hid hv2; clear hv2
    have hB0 : Below w.heap.size w (((((w.alloc (.cells #[.slice A lens.length c] 22)).alloc (.cells #[.slice A2 groove.length c2] 22)).alloc (.cells #[.int .i64 play] 3)).alloc (.cells #[.bool false] 4)).alloc (.cells #[.int .i64 0] 23)) := by (repeat (first | exact Below.refl _ _ | assumption | refine Below.alloc ?_ (by first | exact Nat.le_refl _ | exact Below.size (by assumption) | omega | (simp <;> omega)) _ | refine Below.setCell ?_ (by first | exact Nat.le_refl _ | exact Below.size (by assumption) | omega | (simp <;> omega)) _ | refine below_drewN ?_ _ | refine Below.drew ?_))
    have hzz : (((((w.alloc (.cells #[.slice A lens.length c] 22)).alloc (.cells #[.slice A2 groove.length c2] 22)).alloc (.cells #[.int .i64 play] 3)).alloc (.cells #[.bool false] 4)).alloc (.cells #[.int .i64 0] 23)).heap.size = w.heap.size + 5 := by simp
    have HB0 := Lib.hid hB0; clear hB0
    have HZ := Lib.hid hzz; clear hzz
    go_enter Try.func14, Try.ntmps14
    go_wp2_with fail
    refine (valid_any A c lens _ (HL.out.now HB0.out)).mono ?_
    rintro e w1 ⟨rfl, hb1⟩
    have sb1 := (SB.new w A A2 lens.length c groove.length c2 play).below hb1 (by rw [HZ.out]; omega)
    have hB1 := HB0.out.trans (hb1.mono HB0.out.size)
    clear hb1
    have k1 := sb1.b1.cell
    rw [HV1.out]
    go_wp2_with fail
    refine (valid_any A2 c2 groove _ (HL2.out.now hB1)).mono ?_
    rintro e w2 ⟨rfl, hb2⟩
    have sb2 := sb1.below hb2 sb1.lt
    have hB2 := hB1.trans (hb2.mono hB1.size)
    have k2 := sb2.b2.cell
    clear hb2 k1
    have k3 := sb2.b3.cell
    have l3 := sb2.b3.frozen
    have k4 := sb2.b4.cell
    have l4 := sb2.b4.frozen
    rw [HV2.out]
    go_wp2
    have d3 := ((sb2.b3.set (.bool false)).other (B' := w.heap.size + 1 + 1 + 1 + 1) (by omega) (.int .i64 2)).cell
    have d4 := ((sb2.b4.other (B' := w.heap.size + 1 + 1 + 1) (by omega) (.bool false)).set (.int .i64 2)).cell
    exact bodyPost_ret (v := .tuple #[.bool false, .int .i64 2]) (by simp [results, Try.f14, go_sem, d3, d4]) rfl (Ret.mk (by rw [HS.out]) ((hB2.setCell (p := ⟨w.heap.size + 1 + 1 + 1, 0, none⟩) (by simp; omega) _).setCell (p := ⟨w.heap.size + 1 + 1 + 1 + 1, 0, none⟩) (by simp; omega) _))
  cases hwi : withinB lens groove
  · have HS : Hid (seatS lens groove play = (false, 0)) := by simp [Hid, seatS, hv1, hv2, hp0, hp1, hwi]
    have HL := Lib.hid hl; clear hl
    have HL2 := Lib.hid hl2; clear hl2
    have HV1 := Lib.hid hv1; clear hv1
    have HV2 := Lib.hid hv2; clear hv2
    have HWI := Lib.hid hwi; clear hwi
    have hB0 : Below w.heap.size w (((((w.alloc (.cells #[.slice A lens.length c] 22)).alloc (.cells #[.slice A2 groove.length c2] 22)).alloc (.cells #[.int .i64 play] 3)).alloc (.cells #[.bool false] 4)).alloc (.cells #[.int .i64 0] 23)) := by (repeat (first | exact Below.refl _ _ | assumption | refine Below.alloc ?_ (by first | exact Nat.le_refl _ | exact Below.size (by assumption) | omega | (simp <;> omega)) _ | refine Below.setCell ?_ (by first | exact Nat.le_refl _ | exact Below.size (by assumption) | omega | (simp <;> omega)) _ | refine below_drewN ?_ _ | refine Below.drew ?_))
    have hzz : (((((w.alloc (.cells #[.slice A lens.length c] 22)).alloc (.cells #[.slice A2 groove.length c2] 22)).alloc (.cells #[.int .i64 play] 3)).alloc (.cells #[.bool false] 4)).alloc (.cells #[.int .i64 0] 23)).heap.size = w.heap.size + 5 := by simp
    have HB0 := Lib.hid hB0; clear hB0
    have HZ := Lib.hid hzz; clear hzz
    go_enter Try.func14, Try.ntmps14
    go_wp2_with fail
    refine (valid_any A c lens _ (HL.out.now HB0.out)).mono ?_
    rintro e w1 ⟨rfl, hb1⟩
    have sb1 := (SB.new w A A2 lens.length c groove.length c2 play).below hb1 (by rw [HZ.out]; omega)
    have hB1 := HB0.out.trans (hb1.mono HB0.out.size)
    clear hb1
    have k1 := sb1.b1.cell
    rw [HV1.out]
    go_wp2_with fail
    refine (valid_any A2 c2 groove _ (HL2.out.now hB1)).mono ?_
    rintro e w2 ⟨rfl, hb2⟩
    have sb2 := sb1.below hb2 sb1.lt
    have hB2 := hB1.trans (hb2.mono hB1.size)
    have k2 := sb2.b2.cell
    clear hb2 k1
    have k0 := sb2.b0.cell
    have k1 := sb2.b1.cell
    rw [HV2.out]
    go_wp2_with fail
    refine (within_any A A2 c c2 lens groove _ (by omega) (by omega) (HL.out.now hB2) (HL2.out.now hB2)).mono ?_
    rintro e w3 ⟨rfl, hb3⟩
    have sb3 := sb2.below hb3 sb2.lt
    have hB3 := hB2.trans (hb3.mono hB2.size)
    clear hb3
    have k3 := sb3.b3.cell
    have l3 := sb3.b3.frozen
    have k4 := sb3.b4.cell
    have l4 := sb3.b4.frozen
    rw [HWI.out]
    go_wp2
    have d3 := ((sb3.b3.set (.bool false)).other (B' := w.heap.size + 1 + 1 + 1 + 1) (by omega) (.int .i64 0)).cell
    have d4 := ((sb3.b4.other (B' := w.heap.size + 1 + 1 + 1) (by omega) (.bool false)).set (.int .i64 0)).cell
    exact bodyPost_ret (v := .tuple #[.bool false, .int .i64 0]) (by simp [results, Try.f14, go_sem, d3, d4]) rfl (Ret.mk (by rw [HS.out]) ((hB3.setCell (p := ⟨w.heap.size + 1 + 1 + 1, 0, none⟩) (by simp; omega) _).setCell (p := ⟨w.heap.size + 1 + 1 + 1 + 1, 0, none⟩) (by simp; omega) _))
  have hfin := seat_loop A A2 c c2 lens groove play w (by omega) (by omega) (by omega) (by omega) hl hl2 hv1 hv2 (by omega) (by omega) hwi
  have he : seatS lens groove play = ((sidesTo groove groove.length).all (seatP lens groove play), 0) := by
    have h1 : (List.range groove.length).all (seatAt lens groove play) = (sidesTo groove groove.length).all (seatP lens groove play) := by
      unfold sidesTo; rw [List.all_map]; rfl
    simp [seatS, hv1, hv2, hp0, hp1, hwi, h1]
  rw [he]
  exact hfin
end Go.Proofs.Ytimehkeaeffcaaa

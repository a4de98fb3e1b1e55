/- Turned, Centred, Moved, in the program: the walks. -/
import Derived.Test.YtimehkeaeffcaaaW35
import Derived.Test.YtimehkeaeffcaaaW31
import Derived.Test.YtimehkeaeffcaaaW2
namespace Go.Proofs.Ytimehkeaeffcaaa
open Go.RowKit

def fTurn (p : XY) : XY := ⟨wrap64 (-p.X), wrap64 (-p.Y)⟩
def fMir (p : XY) : XY := ⟨wrap64 (-p.X), p.Y⟩
def fMove (dx dy : Int) (p : XY) : XY := ⟨wrap64 (p.X + dx), wrap64 (p.Y + dy)⟩
def fCen (dx dy : Int) (p : XY) : XY := ⟨wrap64 (p.X - dx / 2), wrap64 (p.Y - dy / 2)⟩

theorem cy_map {l : List XY} (h0 : 0 < l.length) (f : XY → XY) (j : Nat) : cy (l.map f) j = f (cy l j) := by
  have hj := Nat.mod_lt j h0
  unfold cy
  rw [List.length_map, List.getElem?_map, List.getElem?_eq_getElem hj]
  rfl
theorem map_bd {l : List XY} (h0 : 0 < l.length) (hr : l.all rangedB = true) {f : XY → XY} (hf : ∀ p, Bd 5000 p → Bd 100000 (f p)) (j : Nat) : Bd 100000 (cy (l.map f) j) := by
  rw [cy_map h0]; exact hf _ (bd_cy h0 hr j)
theorem fTurn_bd {p : XY} (h : Bd 5000 p) : Bd 100000 (fTurn p) := by
  obtain ⟨a1, a2, a3, a4⟩ := h
  unfold fTurn
  rw [w64_id (by omega) (by omega), w64_id (by omega) (by omega)]
  exact ⟨by simp only; omega, by simp only; omega, by simp only; omega, by simp only; omega⟩
theorem fMir_bd {p : XY} (h : Bd 5000 p) : Bd 100000 (fMir p) := by
  obtain ⟨a1, a2, a3, a4⟩ := h
  unfold fMir
  rw [w64_id (by omega) (by omega)]
  exact ⟨by simp only; omega, by simp only; omega, by simp only; omega, by simp only; omega⟩
theorem fMove_bd {dx dy : Int} (h1 : -10000 ≤ dx) (h2 : dx ≤ 10000) (h3 : -10000 ≤ dy) (h4 : dy ≤ 10000) {p : XY} (h : Bd 5000 p) : Bd 100000 (fMove dx dy p) := by
  obtain ⟨a1, a2, a3, a4⟩ := h
  unfold fMove
  rw [w64_id (by omega) (by omega), w64_id (by omega) (by omega)]
  exact ⟨by simp only; omega, by simp only; omega, by simp only; omega, by simp only; omega⟩
theorem fCen_bd {dx dy : Int} (h1 : -20000 ≤ dx) (h2 : dx ≤ 20000) (h3 : -20000 ≤ dy) (h4 : dy ≤ 20000) {p : XY} (h : Bd 5000 p) : Bd 100000 (fCen dx dy p) := by
  obtain ⟨a1, a2, a3, a4⟩ := h
  unfold fCen
  rw [w64_id (by omega) (by omega), w64_id (by omega) (by omega)]
  exact ⟨by simp only; omega, by simp only; omega, by simp only; omega, by simp only; omega⟩

def turnedS (va : List XY → Bool) (can : List XY → List XY) (l : List XY) : List XY × Int := if va l then (can (l.map fTurn), 0) else ([], 10)
def cdx (l : List XY) : Int := wrap64 (farW 1 0 l - farW (-1) 0 l)
def cdy (l : List XY) : Int := wrap64 (farW 0 1 l - farW 0 (-1) l)
def centredS (l : List XY) : List XY × Int := if validB l then (canonL (l.map (fCen (cdx l) (cdy l))), 0) else ([], 10)
def offM (dx dy : Int) : Prop := dx < -10000 ∨ 10000 < dx ∨ dy < -10000 ∨ 10000 < dy
instance (dx dy : Int) : Decidable (offM dx dy) := by unfold offM; exact inferInstance
def movedS (l : List XY) (dx dy : Int) : List XY × Int :=
  if !validB l then ([], 10) else if offM dx dy then ([], 2) else if !validB (canonL (l.map (fMove dx dy))) then ([], 2) else (canonL (l.map (fMove dx dy)), 0)

set_option maxHeartbeats 400000 in
theorem Turned_any (A : Option Addr) (c : Nat) (l : List XY) (w : World) (hl : Rd w w.heap.size A l) :
    Calls Try.prog 46 #[.slice A l.length c] w (RetO2 (turnedS validB canonL l).1 (turnedS validB canonL l).2 w) := by
  have HL := Lib.hid hl; clear hl
  cases hv : validB l
  · have HS : Hid (turnedS validB canonL l = ([], 10)) := by simp [Hid, turnedS, hv]
    have HV := Lib.hid hv; clear hv
    go_enter Try.func46, Try.ntmps46
    go_wp2_with fail
    refine (valid_any A c l _ HL.out).mono ?_
    rintro e w1 ⟨rfl, hb1⟩
    rw [HV.out]
    go_wp2
    go_ret2
    rw [HS.out]
    exact ⟨_, rfl, World.ownsRow_nil _ _ _ _, hb1⟩
  · have HS : Hid (turnedS validB canonL l = (canonL (l.map fTurn), 0)) := by simp [Hid, turnedS, hv]
    have hlen := validB_len' hv
    have hbd := Lib.hid (map_bd (l := l) (by omega) (validB_ranged hv) (f := fTurn) (fun p => fTurn_bd))
    have HV := Lib.hid hv; clear hv
    go_enter Try.func46, Try.ntmps46
    go_wp2_with fail
    refine (valid_any A c l _ HL.out).mono ?_
    rintro e w1 ⟨rfl, hb1⟩
    rw [HV.out]
    go_wp2_with fail
    have hT : Maps 82 #[] fTurn w1 := ⟨enters_of Try.func82 (by kernel_rfl) rfl, fun W p _ => turned1_any p W⟩
    refine (mapped_any 82 #[] fTurn A c l _ hT (by omega) (by omega) (HL.out.now hb1) hbd.out).mono ?_
    rintro e w2 ⟨v, rfl, hown, hb2⟩
    go_wp2
    go_ret2
    rw [HS.out]
    exact ⟨v, rfl, own_base hown hb1.size, hb1.trans (hb2.mono hb1.size)⟩

theorem far_bd {l : List XY} (h0 : 0 < l.length) (hr : l.all rangedB = true) (u v : Int) (hu1 : -1 ≤ u) (hu2 : u ≤ 1) (hv1 : -1 ≤ v) (hv2 : v ≤ 1) : -10000 ≤ farW u v l ∧ farW u v l ≤ 10000 := by
  have hd1 : ∀ q, Bd 5000 q → -10000 ≤ dotW u v q ∧ dotW u v q ≤ 10000 := fun q hq => by
    obtain ⟨a1, a2, a3, a4⟩ := hq
    obtain ⟨m1, m2⟩ := mul_bd (a := u) (b := q.X) (A := 1) (B := 5000) (by omega) (by omega) (by omega) (by omega)
    obtain ⟨n1, n2⟩ := mul_bd (a := v) (b := q.Y) (A := 1) (B := 5000) (by omega) (by omega) (by omega) (by omega)
    unfold dotW
    rw [w64_id (show _ ≤ u * q.X by omega) (by omega), w64_id (show _ ≤ v * q.Y by omega) (by omega), w64_id (by omega) (by omega)]
    omega
  have hh : Bd 5000 (hd l) := by
    obtain ⟨p, hp⟩ := getElem?_of_lt h0
    rw [hd_of hp]
    exact bd_of_ranged (List.all_eq_true.1 hr p (List.mem_of_getElem? hp))
  have : ∀ k, k ≤ l.length → -10000 ≤ farTo u v l k ∧ farTo u v l k ≤ 10000 := by
    intro k
    induction k with
    | zero => intro _; unfold farTo; simp only [List.take_zero, List.foldl_nil]; exact hd1 _ hh
    | succ k ih =>
      intro hk
      obtain ⟨q, hq⟩ := getElem?_of_lt (show k < l.length by omega)
      have i1 := ih (by omega)
      have i2 := hd1 q (bd_of_ranged (List.all_eq_true.1 hr q (List.mem_of_getElem? hq)))
      rw [farTo_succ hq]
      split <;> omega
  exact this _ (Nat.le_refl _)

set_option maxHeartbeats 1000000 in
theorem Centred_any (A : Option Addr) (c : Nat) (l : List XY) (w : World) (hl : Rd w w.heap.size A l) :
    Calls Try.prog 40 #[.slice A l.length c] w (RetO2 (centredS l).1 (centredS l).2 w) := by
  have HL := Lib.hid hl; clear hl
  cases hv : validB l
  · have HS : Hid (centredS l = ([], 10)) := by simp [Hid, centredS, hv]
    have HV := Lib.hid hv; clear hv
    go_enter Try.func40, Try.ntmps40
    go_wp2_with fail
    refine (valid_any A c l _ HL.out).mono ?_
    rintro e w1 ⟨rfl, hb1⟩
    rw [HV.out]
    go_wp2
    go_ret2
    rw [HS.out]
    exact ⟨_, rfl, World.ownsRow_nil _ _ _ _, hb1⟩
  · have HS : Hid (centredS l = (canonL (l.map (fCen (cdx l) (cdy l))), 0)) := by simp [Hid, centredS, hv]
    have hlen := validB_len' hv
    have b1 := far_bd (l := l) (by omega) (validB_ranged hv) 1 0 (by omega) (by omega) (by omega) (by omega)
    have b2 := far_bd (l := l) (by omega) (validB_ranged hv) (-1) 0 (by omega) (by omega) (by omega) (by omega)
    have b3 := far_bd (l := l) (by omega) (validB_ranged hv) 0 1 (by omega) (by omega) (by omega) (by omega)
    have b4 := far_bd (l := l) (by omega) (validB_ranged hv) 0 (-1) (by omega) (by omega) (by omega) (by omega)
    have hx : -20000 ≤ cdx l ∧ cdx l ≤ 20000 := by unfold cdx; rw [w64_id (by omega) (by omega)]; omega
    have hy : -20000 ≤ cdy l ∧ cdy l ≤ 20000 := by unfold cdy; rw [w64_id (by omega) (by omega)]; omega
    have hbd := Lib.hid (map_bd (l := l) (by omega) (validB_ranged hv) (f := fCen (cdx l) (cdy l)) (fun p => fCen_bd hx.1 hx.2 hy.1 hy.2))
    have hdx : wrap64 (farW 1 0 l - farW (-1) 0 l) = cdx l := rfl
    have hdy : wrap64 (farW 0 1 l - farW 0 (-1) l) = cdy l := rfl
    clear b1 b2 b3 b4 hx hy
    generalize cdx l = dx at hbd hdx HS
    generalize cdy l = dy at hbd hdy HS
    have HDX := Lib.hid hdx; clear hdx
    have HDY := Lib.hid hdy; clear hdy
    have HV := Lib.hid hv; clear hv
    go_enter Try.func40, Try.ntmps40
    go_wp2_with fail
    refine (valid_any A c l _ HL.out).mono ?_
    rintro e w1 ⟨rfl, hb1⟩
    rw [HV.out]
    go_wp2_with fail
    refine (reach_any 1 0 A c l _ (by omega) (by omega) (HL.out.now hb1)).mono ?_
    rintro e w2 ⟨rfl, hb2⟩
    have hB2 := hb1.trans (hb2.mono hb1.size)
    go_wp2_with fail
    refine (reach_any (-1) 0 A c l _ (by omega) (by omega) (HL.out.now hB2)).mono ?_
    rintro e w3 ⟨rfl, hb3⟩
    have hB3 := hB2.trans (hb3.mono hB2.size)
    go_wp2_with fail
    refine (reach_any 0 1 A c l _ (by omega) (by omega) (HL.out.now hB3)).mono ?_
    rintro e w4 ⟨rfl, hb4⟩
    have hB4 := hB3.trans (hb4.mono hB3.size)
    go_wp2_with fail
    refine (reach_any 0 (-1) A c l _ (by omega) (by omega) (HL.out.now hB4)).mono ?_
    rintro e w5 ⟨rfl, hb5⟩
    have hB5 := hB4.trans (hb5.mono hB4.size)
    clear hb1 hb2 hb3 hb4 hb5 hB2 hB3 hB4
    rw [HDX.out]
    go_wp2_with fail
    rw [HDY.out]
    obtain ⟨wa, hwa⟩ : ∃ wa, (w5.alloc (.cells #[.int .i64 dx] 3)).alloc (.cells #[.int .i64 dy] 3) = wa := ⟨_, rfl⟩
    have hBa : Below w.heap.size w wa := by rw [← hwa]; have hsB := hB5.size; (repeat (first | exact Below.refl _ _ | assumption | refine Below.alloc ?_ (by first | exact Nat.le_refl _ | exact Below.size (by assumption) | omega | (simp <;> omega)) _ | refine Below.setCell ?_ (by first | exact Nat.le_refl _ | exact Below.size (by assumption) | omega | (simp <;> omega)) _ | refine below_drewN ?_ _ | refine Below.drew ?_))
    have hc1 : wa.cell? ⟨w5.heap.size, 0, none⟩ = some (.int .i64 dx) := by rw [← hwa]; simp
    have hc2 : wa.cell? ⟨w5.heap.size + 1, 0, none⟩ = some (.int .i64 dy) := by rw [← hwa]; simp
    have hsz : w5.heap.size + 1 < wa.heap.size := by rw [← hwa]; simp
    rw [hwa]
    have hT : Maps 77 #[.pointer (some ⟨w5.heap.size, 0, none⟩), .pointer (some ⟨w5.heap.size + 1, 0, none⟩)] (fCen dx dy) wa :=
      ⟨enters_of Try.func77 (by kernel_rfl) rfl, fun W p hb => centred1_any p _ _ dx dy W ((hb.cell (p := ⟨w5.heap.size, 0, none⟩) (by show w5.heap.size < _; omega)).trans hc1) ((hb.cell (p := ⟨w5.heap.size + 1, 0, none⟩) hsz).trans hc2)⟩
    refine (mapped_any 77 _ (fCen dx dy) A c l _ hT (by omega) (by omega) (HL.out.now hBa) hbd.out).mono ?_
    rintro e w6 ⟨v, rfl, hown, hb6⟩
    go_wp2
    go_ret2
    rw [HS.out]
    exact ⟨v, rfl, own_base hown hBa.size, hBa.trans (hb6.mono hBa.size)⟩

set_option maxHeartbeats 1000000 in
theorem Moved_any (dx dy : Int) (A : Option Addr) (c : Nat) (l : List XY) (w : World) (hl : Rd w w.heap.size A l) :
    Calls Try.prog 48 #[.slice A l.length c, .int .i64 dx, .int .i64 dy] w (RetO2 (movedS l dx dy).1 (movedS l dx dy).2 w) := by
  have HL := Lib.hid hl; clear hl
  obtain ⟨wa, hwa⟩ : ∃ wa, (w.alloc (.cells #[.int .i64 dx] 3)).alloc (.cells #[.int .i64 dy] 3) = wa := ⟨_, rfl⟩
  have hBa : Below w.heap.size w wa := by rw [← hwa]; (repeat (first | exact Below.refl _ _ | assumption | refine Below.alloc ?_ (by first | exact Nat.le_refl _ | exact Below.size (by assumption) | omega | (simp <;> omega)) _ | refine Below.setCell ?_ (by first | exact Nat.le_refl _ | exact Below.size (by assumption) | omega | (simp <;> omega)) _ | refine below_drewN ?_ _ | refine Below.drew ?_))
  have hc1 : wa.cell? ⟨w.heap.size, 0, none⟩ = some (.int .i64 dx) := by rw [← hwa]; simp
  have hc2 : wa.cell? ⟨w.heap.size + 1, 0, none⟩ = some (.int .i64 dy) := by rw [← hwa]; simp
  have hsz : w.heap.size + 1 < wa.heap.size := by rw [← hwa]; simp
  cases hv : validB l
  · have HS : Hid (movedS l dx dy = ([], 10)) := by simp [Hid, movedS, hv]
    have HV := Lib.hid hv; clear hv
    go_enter Try.func48, Try.ntmps48
    go_wp2_with fail
    refine (valid_any A c l _ (HL.out.now hBa)).mono ?_
    rintro e w1 ⟨rfl, hb1⟩
    rw [HV.out]
    go_wp2
    go_ret2
    rw [HS.out]
    exact ⟨_, rfl, World.ownsRow_nil _ _ _ _, hBa.trans (hb1.mono hBa.size)⟩
  by_cases ho : offM dx dy
  · have HS : Hid (movedS l dx dy = ([], 2)) := by simp [Hid, movedS, hv, ho]
    have HV := Lib.hid hv; clear hv
    rcases ho with ho | ho | ho | ho
    all_goals
      go_enter Try.func48, Try.ntmps48
      go_wp2_with fail
      refine (valid_any A c l _ (HL.out.now hBa)).mono ?_
      rintro e w1 ⟨rfl, hb1⟩
      have px := (hb1.cell (p := ⟨w.heap.size, 0, none⟩) (by show w.heap.size < _; omega)).trans hc1
      have py := (hb1.cell (p := ⟨w.heap.size + 1, 0, none⟩) hsz).trans hc2
      rw [HV.out]
      go_wp2
      all_goals
        go_ret2
        rw [HS.out]
        exact ⟨_, rfl, World.ownsRow_nil _ _ _ _, hBa.trans (hb1.mono hBa.size)⟩
  · have hs : movedS l dx dy = if !validB (canonL (l.map (fMove dx dy))) then ([], 2) else (canonL (l.map (fMove dx dy)), 0) := by simp [movedS, hv, ho]
    unfold offM at ho
    simp only [not_or, Int.not_lt] at ho
    obtain ⟨o1, o2, o3, o4⟩ := ho
    have hlen := validB_len' hv
    have hbd := Lib.hid (map_bd (l := l) (by omega) (validB_ranged hv) (f := fMove dx dy) (fun p => fMove_bd o1 o2 o3 o4))
    have HV := Lib.hid hv; clear hv
    have b1 : decide (dx < -10000) = false := decide_eq_false (by omega)
    have b2 : decide (10000 < dx) = false := decide_eq_false (by omega)
    have b3 : decide (dy < -10000) = false := decide_eq_false (by omega)
    have b4 : decide (10000 < dy) = false := decide_eq_false (by omega)
    cases hv2 : validB (canonL (l.map (fMove dx dy)))
    all_goals
      rw [hv2] at hs
      simp only [Bool.not_false, Bool.not_true, if_true, Bool.false_eq_true, if_false] at hs
      have HS := Lib.hid hs
      have HV2 := Lib.hid hv2; clear hv2 hs
      go_enter Try.func48, Try.ntmps48
      go_wp2_with fail
      refine (valid_any A c l _ (HL.out.now hBa)).mono ?_
      rintro e w1 ⟨rfl, hb1⟩
      have px := (hb1.cell (p := ⟨w.heap.size, 0, none⟩) (by show w.heap.size < _; omega)).trans hc1
      have py := (hb1.cell (p := ⟨w.heap.size + 1, 0, none⟩) hsz).trans hc2
      have hB1 := hBa.trans (hb1.mono hBa.size)
      have hsz1 : w.heap.size + 1 < w1.heap.size := by have := hb1.size; omega
      rw [HV.out]
      go_wp2_with fail
      have hT : Maps 83 #[.pointer (some ⟨w.heap.size, 0, none⟩), .pointer (some ⟨w.heap.size + 1, 0, none⟩)] (fMove dx dy) w1 :=
        ⟨enters_of Try.func83 (by kernel_rfl) rfl, fun W p hb => moved1_any p _ _ dx dy W ((hb.cell (p := ⟨w.heap.size, 0, none⟩) (by show w.heap.size < _; omega)).trans px) ((hb.cell (p := ⟨w.heap.size + 1, 0, none⟩) hsz1).trans py)⟩
      refine (mapped_any 83 _ (fMove dx dy) A c l _ hT (by omega) (by omega) (HL.out.now hB1) hbd.out).mono ?_
      rintro e w2 ⟨v, rfl, hown, hb2⟩
      have hB2 := hB1.trans (hb2.mono hB1.size)
      obtain ⟨A2, c2, rfl, hr2⟩ := own_rd hown
      go_wp2_with fail
      refine (valid_any A2 c2 _ _ hr2).mono ?_
      rintro e w3 ⟨rfl, hb3⟩
      rw [HV2.out]
      go_wp2
      go_ret2
      rw [HS.out]
      first
        | exact ⟨_, rfl, World.ownsRow_nil _ _ _ _, hB2.trans (hb3.mono hB2.size)⟩
        | exact ⟨_, rfl, own_below (own_base hown hB1.size) hb3, hB2.trans (hb3.mono hB2.size)⟩
end Go.Proofs.Ytimehkeaeffcaaa

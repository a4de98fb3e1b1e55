/- Rows and Bound of both: the walks; what they answer is the same. -/
import Derived.Test.YtohlinbcbfgdfaaNW15
namespace Go.Proofs.Ytohlinbcbfgdfaa
open Go.RowKit

/-- The part that a number names. -/
def okPart (b : BD) (ps : List PT) (part : Int) : Bool := (boardB b && partsB ps) && (decide (0 ≤ part) && decide (part < ps.length))
theorem okPart_get {b : BD} {ps : List PT} {part : Int} (h : okPart b ps part = true) : ∃ (k : Nat) (pt : PT), part = (k : Int) ∧ ps[k]? = some pt ∧ boardB b = true ∧ partsB ps = true ∧ validB pt.o = true := by
  simp only [okPart, Bool.and_eq_true, decide_eq_true_eq] at h
  obtain ⟨⟨h1, h2⟩, h3, h4⟩ := h
  obtain ⟨k, rfl⟩ : ∃ k : Nat, part = k := ⟨part.toNat, by omega⟩
  obtain ⟨pt, hpt⟩ := getElem?_of_lt (show k < ps.length by omega)
  exact ⟨k, pt, rfl, hpt, h1, h2, partsB_each h2 (List.mem_of_getElem? hpt)⟩
def badErr (b : BD) (ps : List PT) : Int := if boardB b && partsB ps then 2 else 70
theorem rowsS_no {b : BD} {ps : List PT} {part : Int} (h : okPart b ps part = false) : rowsS b ps part = ([], badErr b ps) := by
  unfold rowsS badErr
  cases hv : boardB b && partsB ps
  · rfl
  · simp only [okPart, hv, Bool.true_and, Bool.and_eq_false_iff, decide_eq_false_iff_not] at h
    cases hk : ps[part.toNat]? with
    | none => rfl
    | some pt =>
      have := (List.getElem?_eq_some_iff.1 hk).1
      have : part < 0 := by omega
      simp [this]
theorem rowsS_yes {b : BD} {ps : List PT} {k : Nat} {pt : PT} (hk : ps[k]? = some pt) (hb : boardB b = true) (hp : partsB ps = true) :
    rowsS b ps k = rowsOf b pt k (nearW 1 0 (base0 pt)) (farW 1 0 (base0 pt)) (nearW 0 1 (base0 pt)) (farW 0 1 (base0 pt)) := by
  unfold rowsS
  rw [hb, hp]
  simp [hk]
  omega

set_option maxRecDepth 100000 in
set_option maxHeartbeats 1000000 in
theorem Rows_any (b : BD) (A A2 : Option Addr) (c c2 : Nat) (ps : List PT) (part : Int) (w : World) (hF : RdR w w.heap.size A b.F) (hp : RdPP w w.heap.size A2 ps) :
    Calls Try.prog 25 #[bdv b A c, .slice A2 ps.length c2, .int .i64 part] w (RetP2 (rowsS b ps part).1 (rowsS b ps part).2 w) := by
  cases hok : okPart b ps part
  · have HF := Lib.hid hF; clear hF
    have HP := Lib.hid hp; clear hp
    have hB0 : Below w.heap.size w (w.alloc (.cells #[.int .i64 b.W, .int .i64 b.H, .int .i64 b.G, .slice A b.F.length c] 24)) := by (repeat (first | exact Below.refl _ _ | assumption | refine Below.alloc ?_ (by first | exact Nat.le_refl _ | exact Below.size (by assumption) | omega | (simp <;> omega)) _ | refine Below.setCell ?_ (by first | exact Nat.le_refl _ | exact Below.size (by assumption) | omega | (simp <;> omega)) _ | refine below_drewN ?_ _ | refine Below.drew ?_))
    have HS := Lib.hid (rowsS_no hok)
    cases hv : boardB b && partsB ps
    · have HZ : Hid (badErr b ps = 70) := by unfold Hid badErr; rw [hv]; rfl
      have HV := Lib.hid hv; clear hv hok
      go_enter Try.func25, Try.ntmps25
      go_wp2_with fail
      refine (nvalid_any b A A2 c c2 ps _ (HF.out.now hB0) (HP.out.now hB0)).mono ?_
      rintro e w2 ⟨rfl, hb2⟩
      rw [HV.out]
      go_wp2
      go_ret2
      rw [HS.out, HZ.out]
      exact ⟨_, rfl, World.ownsRow_nil _ _ _ _, hB0.trans (hb2.mono hB0.size)⟩
    · have HZ : Hid (badErr b ps = 2) := by unfold Hid badErr; rw [hv]; rfl
      have hr : part < 0 ∨ (ps.length : Int) ≤ part := by
        simp only [okPart, hv, Bool.true_and, Bool.and_eq_false_iff, decide_eq_false_iff_not] at hok; omega
      have hps : ps.length ≤ 60 := by simp only [Bool.and_eq_true] at hv; exact partsB_len hv.2
      have HV := Lib.hid hv; clear hv hok
      have e1 : IntKind.i64.wrap ((ps.length : Int) - 1) = (ps.length : Int) - 1 := IntWalk.i64_in _ (by omega)
      have hbt : betw 0 part ((ps.length : Int) - 1) = false := by unfold betw; simp; omega
      have HBT := Lib.hid hbt; clear hbt
      clear hr
      go_enter Try.func25, Try.ntmps25
      go_wp2_with fail
      refine (nvalid_any b A A2 c c2 ps _ (HF.out.now hB0) (HP.out.now hB0)).mono ?_
      rintro e w2 ⟨rfl, hb2⟩
      rw [HV.out]
      go_wp2_with fail
      refine (between_any 0 part ((ps.length : Int) - 1) _).mono ?_
      rintro e w3 ⟨rfl, rfl⟩
      rw [HBT.out]
      go_wp2
      go_ret2
      rw [HS.out, HZ.out]
      exact ⟨_, rfl, World.ownsRow_nil _ _ _ _, hB0.trans (hb2.mono hB0.size)⟩
  · obtain ⟨k, pt, rfl, hk, h1, h2, h3⟩ := okPart_get hok
    rw [rowsS_yes hk h1 h2]
    exact Rows_yes b A A2 c c2 ps k pt w hF hp h1 h2 hk h3

def boundS (b : BD) (ps : List PT) (part : Int) : Int × Int :=
  if okPart b ps part then ((2 * b.W * b.H).tdiv (areaW (((ps[part.toNat]?).map (·.o)).getD [])), 0) else (0, badErr b ps)

theorem bound_nums {b : BD} {o : List XY} (hb : boardB b = true) (hv : validB o = true) : ∃ P Q a : Int, areaW o = a ∧ 2 * b.W * b.H = P ∧ P.tdiv a = Q ∧ ¬ a = 0 ∧ 0 < a ∧ a ≤ 12800000000 ∧ 0 ≤ P ∧ P ≤ 7200000000 ∧ 0 ≤ Q ∧ Q ≤ 7200000000 ∧ 0 ≤ 2 * b.W ∧ 2 * b.W ≤ 120000 := by
  obtain ⟨b1, b2, b3, b4, _, _, _⟩ := boardB_facts hb
  have ha := area_eq hv
  obtain ⟨t1, t2⟩ := twice_pos hv
  rw [← ha] at t1 t2
  have hm := mul_bd (a := 2 * b.W) (b := b.H) (A := 120000) (B := 60000) (by omega) (by omega) (by omega) (by omega)
  have h0 : 0 ≤ 2 * b.W * b.H := Int.mul_nonneg (by omega) (by omega)
  have hq0 : 0 ≤ (2 * b.W * b.H).tdiv (areaW o) := Int.tdiv_nonneg h0 (by omega)
  have hq1 : (2 * b.W * b.H).tdiv (areaW o) ≤ 2 * b.W * b.H := by
    rw [Int.tdiv_eq_ediv_of_nonneg h0]; exact Int.ediv_le_self _ h0
  exact ⟨_, _, _, rfl, rfl, rfl, by omega, t1, t2, h0, by omega, hq0, by omega, by omega, by omega⟩

set_option maxRecDepth 100000 in
set_option maxHeartbeats 1000000 in
theorem Bound_any (b : BD) (A A2 : Option Addr) (c c2 : Nat) (ps : List PT) (part : Int) (w : World) (hF : RdR w w.heap.size A b.F) (hp : RdPP w w.heap.size A2 ps) :
    Calls Try.prog 18 #[bdv b A c, .slice A2 ps.length c2, .int .i64 part] w (Ret (.tuple #[.int .i64 (boundS b ps part).1, .int .i64 (boundS b ps part).2]) w) := by
  have HF := Lib.hid hF; clear hF
  have HP := Lib.hid hp; clear hp
  obtain ⟨w0, hw0⟩ : ∃ w0, w.alloc (.cells #[.int .i64 b.W, .int .i64 b.H, .int .i64 b.G, .slice A b.F.length c] 24) = w0 := ⟨_, rfl⟩
  have hB0 : Below w.heap.size w w0 := by rw [← hw0]; (repeat (first | exact Below.refl _ _ | assumption | refine Below.alloc ?_ (by first | exact Nat.le_refl _ | exact Below.size (by assumption) | omega | (simp <;> omega)) _ | refine Below.setCell ?_ (by first | exact Nat.le_refl _ | exact Below.size (by assumption) | omega | (simp <;> omega)) _ | refine below_drewN ?_ _ | refine Below.drew ?_))
  have hz0 : w0.heap.size = w.heap.size + 1 := by rw [← hw0]; simp
  have HBD := Lib.hid (show BdAt w0 w.heap.size b A c by rw [← hw0]; exact BdAt.new w b A c)
  obtain ⟨k0, k1, k2, k3⟩ := HBD.out
  cases hok : okPart b ps part
  · have hs : boundS b ps part = (0, badErr b ps) := by unfold boundS; rw [hok]; rfl
    have HS := Lib.hid hs; clear hs
    cases hv : boardB b && partsB ps
    · have HZ : Hid (badErr b ps = 70) := by unfold Hid badErr; rw [hv]; rfl
      have HV := Lib.hid hv; clear hv hok
      go_enter Try.func18, Try.ntmps18
      go_wp2_with fail
      refine (nvalid_any b A A2 c c2 ps _ (HF.out.now hB0) (HP.out.now hB0)).mono ?_
      rintro e w2 ⟨rfl, hb2⟩
      rw [HV.out]
      go_wp2
      go_ret2
      exact Ret.mk (by rw [HS.out, HZ.out]; rfl) (hB0.trans (hb2.mono hB0.size))
    · have HZ : Hid (badErr b ps = 2) := by unfold Hid badErr; rw [hv]; rfl
      have hr : part < 0 ∨ (ps.length : Int) ≤ part := by
        simp only [okPart, hv, Bool.true_and, Bool.and_eq_false_iff, decide_eq_false_iff_not] at hok; omega
      have hps : ps.length ≤ 60 := by simp only [Bool.and_eq_true] at hv; exact partsB_len hv.2
      have HV := Lib.hid hv; clear hv hok
      have e1 : IntKind.i64.wrap ((ps.length : Int) - 1) = (ps.length : Int) - 1 := IntWalk.i64_in _ (by omega)
      have hbt : betw 0 part ((ps.length : Int) - 1) = false := by unfold betw; simp; omega
      have HBT := Lib.hid hbt; clear hbt
      clear hr
      go_enter Try.func18, Try.ntmps18
      go_wp2_with fail
      refine (nvalid_any b A A2 c c2 ps _ (HF.out.now hB0) (HP.out.now hB0)).mono ?_
      rintro e w2 ⟨rfl, hb2⟩
      rw [HV.out]
      go_wp2_with fail
      refine (between_any 0 part ((ps.length : Int) - 1) _).mono ?_
      rintro e w3 ⟨rfl, rfl⟩
      rw [HBT.out]
      go_wp2
      go_ret2
      exact Ret.mk (by rw [HS.out, HZ.out]; rfl) (hB0.trans (hb2.mono hB0.size))
  · obtain ⟨k, pt, rfl, hk, h1, h2, h3⟩ := okPart_get hok
    obtain ⟨P, Q, a, ha, hP, hQ, ha0, ha1, ha2, hP0, hP1, hQ0, hQ1, hW0, hW1⟩ := bound_nums h1 h3
    have hs : boundS b ps (k : Int) = (Q, 0) := by
      unfold boundS
      rw [hok, if_pos rfl]
      have e : (((ps[(k : Int).toNat]?).map (·.o)).getD []) = pt.o := by rw [show (k : Int).toNat = k from rfl, hk]; rfl
      rw [e, ha, hP, hQ]
    have has : area2S pt.o = (a, 0) := by unfold area2S; rw [if_pos h3, ha]
    have hps := partsB_len h2
    have hkl : k < ps.length := (List.getElem?_eq_some_iff.1 hk).1
    have hpe := HP.out.each pt (List.mem_of_getElem? hk)
    obtain ⟨b5, off5, hA5, hb5, p0, p1⟩ := HP.out.flat k pt hk
    subst hA5
    have HPE := Lib.hid hpe.1; clear hpe
    have HAS := Lib.hid has; clear has
    have HS := Lib.hid hs; clear hs
    have hva : (boardB b && partsB ps) = true := by rw [h1, h2]; rfl
    have HVA := Lib.hid hva; clear hva hk hok h1 h2 h3 ha
    have e1 : IntKind.i64.wrap ((ps.length : Int) - 1) = (ps.length : Int) - 1 := IntWalk.i64_in _ (by omega)
    have hbt : betw 0 (k : Int) ((ps.length : Int) - 1) = true := by unfold betw; simp; omega
    have HBT := Lib.hid hbt; clear hbt
    go_enter Try.func18, Try.ntmps18
    go_wp2_with fail
    clear hw0 k0 k1 k2 k3
    refine (nvalid_any b A _ c c2 ps _ (HF.out.now hB0) (HP.out.now hB0)).mono ?_
    rintro e w2 ⟨rfl, hb2⟩
    rw [HVA.out]
    go_wp2_with fail
    refine (between_any 0 (k : Int) ((ps.length : Int) - 1) _).mono ?_
    rintro e w3 ⟨rfl, rfl⟩
    rw [HBT.out]
    have hB2 := hB0.trans (hb2.mono hB0.size)
    have hx0 := (hB2.cell (p := ⟨b5, off5 + k * 2, none⟩) hb5).trans p0
    have hbw3 : b5 < w3.heap.size := by have := hB2.size; omega
    clear p0 p1
    have hkI : (k : Int) < (ps.length : Int) := by omega
    go_wp2_with fail
    refine (Area2_any pt.A pt.c pt.o _ (HPE.out.now hB2)).mono ?_
    rintro e w4 ⟨rfl, hb4⟩
    rw [HAS.out]
    have hb24 := hb2.trans (hb4.mono hb2.size)
    obtain ⟨k0, k1, k2, k3⟩ := HBD.out.below hb24 (by omega)
    have hB4 := hB0.trans (hb24.mono hB0.size)
    have hz4 : w.heap.size < w4.heap.size := by have := hb24.size; omega
    have m1 : wrap64 (2 * b.W) = 2 * b.W := w64_id (by omega) (by omega)
    have m2 : wrap64 (2 * b.W * b.H) = P := by rw [hP]; exact w64_id (by omega) (by omega)
    have m3 : wrap64 (P.tdiv a) = Q := by rw [hQ]; exact w64_id (by omega) (by omega)
    clear hx0
    go_wp2
    go_ret2
    exact Ret.mk (by rw [HS.out]; rfl) hB4

end Go.Proofs.Ytohlinbcbfgdfaa

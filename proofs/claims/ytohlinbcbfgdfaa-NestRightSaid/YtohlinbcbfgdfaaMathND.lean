/- Boards and layouts: both sides' tests are equal; the ends of a list; the bounds that the walks need. -/
import Derived.Test.YtohlinbcbfgdfaaNW8
import Derived.Test.YtohlinbcbfgdfaaW24
import Derived.Test.YtohlinbcbfgdfaaW15
namespace Go.Proofs.Ytohlinbcbfgdfaa
open Go.RowKit (wrap64)

theorem rc_side {W x w : Int} (h1 : 1 ≤ W) (h2 : W ≤ 60000) : ((0 ≤ x ∧ x ≤ W) ∧ (1 ≤ w ∧ w ≤ wrap64 (W - x))) ↔ ¬(x < 0 ∨ w < 1 ∨ W < w ∨ wrap64 (W - w) < x) := by
  constructor
  · rintro ⟨⟨a, b⟩, c, d⟩
    rw [w64_id (by omega) (by omega)] at d
    have e : wrap64 (W - w) = W - w := w64_id (by omega) (by omega)
    omega
  · intro h
    have e : wrap64 (W - w) = W - w := w64_id (by omega) (by omega)
    rw [e] at h
    have e2 : wrap64 (W - x) = W - x := w64_id (by omega) (by omega)
    omega
theorem rcBad_iff {W H : Int} (r : RC) : rcBad W H r = false ↔ (((0 ≤ r.X ∧ r.X ≤ W) ∧ (1 ≤ r.W ∧ r.W ≤ wrap64 (W - r.X))) ∧ ((0 ≤ r.Y ∧ r.Y ≤ H) ∧ (1 ≤ r.H ∧ r.H ≤ wrap64 (H - r.Y)))) := by
  simp only [rcBad, betw, Bool.or_eq_false_iff, Bool.not_eq_false', Bool.and_eq_true, decide_eq_true_eq]
  constructor
  · rintro ⟨⟨⟨a, b⟩, c⟩, d⟩; exact ⟨⟨a, c⟩, b, d⟩
  · rintro ⟨⟨a, c⟩, b, d⟩; exact ⟨⟨⟨a, b⟩, c⟩, d⟩
theorem rcBad_eq {W H : Int} (h1 : 1 ≤ W) (h2 : W ≤ 60000) (h3 : 1 ≤ H) (h4 : H ≤ 60000) (r : RC) : rcBad2 W H r = rcBad W H r := by
  have s1 := rc_side (x := r.X) (w := r.W) h1 h2
  have s2 := rc_side (x := r.Y) (w := r.H) h3 h4
  have s3 := rcBad_iff (W := W) (H := H) r
  rw [s1, s2] at s3
  cases h : rcBad W H r
  · have s4 := s3.1 h
    unfold rcBad2
    rw [decide_eq_false_iff_not]
    omega
  · have s4 : ¬ (_ ∧ _) := fun hc => by have := s3.2 hc; rw [h] at this; simp at this
    unfold rcBad2
    rw [decide_eq_true_eq]
    omega
theorem board_eq (b : BD) : board2B b = boardB b := by
  unfold board2B boardB
  cases h1 : betw 1 b.W 60000
  · simp
  cases h2 : betw 1 b.H 60000
  · simp
  simp only [betw, Bool.and_eq_true, decide_eq_true_eq] at h1 h2
  rw [any_congr' (f := rcBad2 b.W b.H) (g := rcBad b.W b.H) fun r _ => rcBad_eq h1.1 h1.2 h2.1 h2.2 r]
theorem parts_eq (ps : List PT) : parts2B ps = partsB ps := by
  unfold parts2B partsB
  rw [Bool.and_comm, List.not_any_eq_all_not]
  congr 2
  funext p
  rw [← valid_eq, Bool.not_not]
theorem boardB_no {b : BD} (h : boardB b = true) {r : RC} (hr : r ∈ b.F) : rcBad b.W b.H r = false := by
  simp only [boardB, Bool.and_eq_true, Bool.not_eq_true', List.any_eq_false] at h
  have := h.2 r hr
  simpa using this
theorem partsB_each {ps : List PT} (h : partsB ps = true) {p : PT} (hp : p ∈ ps) : validB p.o = true := by
  simp only [partsB, Bool.and_eq_true, Bool.not_eq_true', List.any_eq_false] at h
  have := h.2 p hp
  simpa using this
theorem partsB_len {ps : List PT} (h : partsB ps = true) : ps.length ≤ 60 := by
  simp only [partsB, Bool.and_eq_true, decide_eq_true_eq] at h; exact h.1

/-- A rectangle on the board. -/
theorem rc_cy {b : BD} (hb : boardB b = true) {r : RC} (hr : r ∈ b.F) (j : Nat) : 0 ≤ (cy (rcL r) j).X ∧ (cy (rcL r) j).X ≤ 60000 ∧ 0 ≤ (cy (rcL r) j).Y ∧ (cy (rcL r) j).Y ≤ 60000 := by
  obtain ⟨b1, b2, b3, b4, _, _, _⟩ := boardB_facts hb
  obtain ⟨⟨⟨x1, x2⟩, x3, x4⟩, ⟨y1, y2⟩, y3, y4⟩ := (rcBad_iff r).1 (boardB_no hb hr)
  rw [w64_id (by omega) (by omega)] at x4 y4
  have e1 : wrap64 (r.X + r.W) = r.X + r.W := w64_id (by omega) (by omega)
  have e2 : wrap64 (r.Y + r.H) = r.Y + r.H := w64_id (by omega) (by omega)
  have hl : (rcL r).length = 4 := rfl
  unfold cy
  rw [hl]
  have hj := Nat.mod_lt j (show 0 < 4 by omega)
  generalize j % 4 = i at *
  unfold rcL
  rw [e1, e2]
  match i, hj with
  | 0, _ => show 0 ≤ r.X ∧ r.X ≤ 60000 ∧ 0 ≤ r.Y ∧ r.Y ≤ 60000; omega
  | 1, _ => show 0 ≤ r.X + r.W ∧ r.X + r.W ≤ 60000 ∧ 0 ≤ r.Y ∧ r.Y ≤ 60000; omega
  | 2, _ => show 0 ≤ r.X + r.W ∧ r.X + r.W ≤ 60000 ∧ 0 ≤ r.Y + r.H ∧ r.Y + r.H ≤ 60000; omega
  | 3, _ => show 0 ≤ r.X ∧ r.X ≤ 60000 ∧ 0 ≤ r.Y + r.H ∧ r.Y + r.H ≤ 60000; omega
def Lay (l : List XY) : Prop := Wd l ∧ Sd l
theorem lay_rc {b : BD} (hb : boardB b = true) {r : RC} (hr : r ∈ b.F) : Lay (rcL r) := by
  have hc := rc_cy hb hr
  have hw : ∀ j, Bd 300000 (cy (rcL r) j) := fun j => by have := hc j; unfold Bd; omega
  refine ⟨⟨by show 0 < 4; omega, hw⟩, fun i => ?_⟩
  rw [(dU_eq hw i).1, (dU_eq hw i).2]
  have h1 := hc i
  have h2 := hc (i + 1)
  unfold Dr
  omega
/-- A part at a place. -/
def Far (x y : Int) : Prop := -130000 ≤ x ∧ x ≤ 130000 ∧ -130000 ≤ y ∧ y ≤ 130000
theorem ly_cy {o : List XY} (h : validB o = true) {x y : Int} (hf : Far x y) (t : Bool) (j : Nat) : cy (lyL o x y t) j = ⟨(cy (lyB o t) j).X + x, (cy (lyB o t) j).Y + y⟩ ∧ Bd 5000 (cy (lyB o t) j) := by
  obtain ⟨hv, hl⟩ := lyB_valid h t
  have hlb := validB_len' hv
  have hb := bd_cy (show 0 < (lyB o t).length by omega) (validB_ranged hv) j
  refine ⟨?_, hb⟩
  obtain ⟨f1, f2, f3, f4⟩ := hf
  obtain ⟨b1, b2, b3, b4⟩ := hb
  rw [lyL_eq, cy_map (by omega)]
  unfold fMove
  rw [w64_id (by omega) (by omega), w64_id (by omega) (by omega)]
theorem ly_len {o : List XY} (h : validB o = true) (x y : Int) (t : Bool) : (lyL o x y t).length = o.length := by
  rw [lyL_eq, List.length_map]; exact (lyB_valid h t).2
theorem lay_ly {o : List XY} (h : validB o = true) {x y : Int} (hf : Far x y) (t : Bool) : Lay (lyL o x y t) := by
  have hc := ly_cy h hf t
  have hw : ∀ j, Bd 300000 (cy (lyL o x y t) j) := fun j => by
    obtain ⟨e, b1, b2, b3, b4⟩ := hc j
    obtain ⟨f1, f2, f3, f4⟩ := hf
    rw [e]; unfold Bd; dsimp only; omega
  have hl := validB_len' h
  refine ⟨⟨by rw [ly_len h]; omega, hw⟩, fun i => ?_⟩
  rw [(dU_eq hw i).1, (dU_eq hw i).2, (hc i).1, (hc (i + 1)).1]
  obtain ⟨_, b1, b2, b3, b4⟩ := hc i
  obtain ⟨_, c1, c2, c3, c4⟩ := hc (i + 1)
  unfold Dr
  dsimp only
  omega
theorem apart_lay {o p : List XY} (ho : Lay o) (hp : Lay p) {g : Int} (h0 : 0 ≤ g) (h1 : g ≤ 2000) : apart2B o p g = apartB o p g := (apart_eq ho.1 hp.1 ho.2 hp.2 h0 h1).symm

/-- The reference's list of corners at a place. -/
theorem lyL_two {o : List XY} (h : validB o = true) (x y : Int) (t : Bool) : (if t then turnL ((turnL o).map fTurn) else turnL o).map (fShift x y) = lyL o x y t := by
  have e1 : canonL o = turnL o := by
    have hl := validB_len' h
    obtain ⟨k, _, _, _, e⟩ := canon_facts (l := o) (by omega) (bd_cy' (by omega) (validB_ranged h))
    exact e
  have e2 : canonL ((canonL o).map fTurn) = turnL ((turnL o).map fTurn) := by
    rw [← e1]
    have hv := valid_turn (canon_len h).1
    have hl := validB_len' hv
    obtain ⟨k, _, _, _, e⟩ := canon_facts (l := (canonL o).map fTurn) (by omega) (bd_cy' (by omega) (validB_ranged hv))
    exact e
  unfold lyL
  rw [e2, e1]
  rfl

/-- The ends. -/
theorem dot_xy {q : XY} (h : Bd 300000 q) : dotW 1 0 q = q.X ∧ dotW 0 1 q = q.Y := by
  rw [dotW_lin' dr10 h, dotW_lin' dr01 h]; unfold lin; omega
theorem ends_near {l : List XY} (hw : Wd l) : ∀ k, k ≤ l.length → (lowTo l k).X = nearTo 1 0 l k ∧ (lowTo l k).Y = nearTo 0 1 l k ∧ (highTo l k).X = farTo 1 0 l k ∧ (highTo l k).Y = farTo 0 1 l k := by
  intro k
  induction k with
  | zero =>
    intro _
    obtain ⟨p, hp⟩ := getElem?_of_lt hw.1
    have hb : Bd 300000 p := by have := hw.2 0; rwa [cy_lt hp] at this
    have e : hd l = p := hd_of hp
    unfold lowTo highTo nearTo farTo
    simp only [List.take_zero, List.foldl_nil]
    rw [e, (dot_xy hb).1, (dot_xy hb).2]
    exact ⟨rfl, rfl, rfl, rfl⟩
  | succ k ih =>
    intro hk
    obtain ⟨q, hq⟩ := getElem?_of_lt (show k < l.length by omega)
    obtain ⟨i1, i2, i3, i4⟩ := ih (by omega)
    have hb : Bd 300000 q := by have := hw.2 k; rwa [cy_lt hq] at this
    rw [lowTo_succ hq, highTo_succ hq, nearTo_succ hq, nearTo_succ hq, farTo_succ hq, farTo_succ hq, ← i1, ← i2, ← i3, ← i4, (dot_xy hb).1, (dot_xy hb).2]
    exact ⟨rfl, rfl, rfl, rfl⟩
theorem ends_all {l : List XY} (hw : Wd l) : (lowTo l l.length).X = nearW 1 0 l ∧ (lowTo l l.length).Y = nearW 0 1 l ∧ (highTo l l.length).X = farW 1 0 l ∧ (highTo l l.length).Y = farW 0 1 l := ends_near hw _ (Nat.le_refl _)
/-- A list and its canonical form have the same ends. -/
theorem near_rot {l : List XY} {k : Nat} (hk : k < l.length) (hw : Wd l) {u v : Int} (hd : Dr u v) : nearW u v (rotL l k) = nearW u v l := by
  rw [near_far (wd_rot hk hw) hd, near_far hw hd, far_rot hk]
theorem canon_ends {o : List XY} (h : validB o = true) : nearW 1 0 (canonL o) = nearW 1 0 o ∧ nearW 0 1 (canonL o) = nearW 0 1 o ∧ farW 1 0 (canonL o) = farW 1 0 o ∧ farW 0 1 (canonL o) = farW 0 1 o := by
  have hl := validB_len' h
  have h0 : 0 < o.length := by omega
  have e := canon_rot h0 (bd_cy' h0 (validB_ranged h))
  have hk := atTo_lt h0 o.length (Nat.le_refl _)
  rw [e]
  exact ⟨near_rot hk (wd_valid h) dr10, near_rot hk (wd_valid h) dr01, far_rot hk 1 0, far_rot hk 0 1⟩

/-- The area of an outline is not 0. -/
theorem twice_pos {l : List XY} (h : validB l = true) : 0 < twiceW l ∧ twiceW l ≤ 12800000000 := by
  have hl := validB_len' h
  have hb := bd_cy (show 0 < l.length by omega) (validB_ranged h)
  have hc := validB_conv h
  have H : ∀ k, k + 1 ≤ l.length - 2 → 0 < fan l (k + 1) := by
    intro k
    induction k with
    | zero =>
      intro h2
      show 0 < fan l 0 + cross (cy l 0) (cy l 1) (cy l 2)
      have h1 := hc 0 2 (by omega) (by omega)
      have e : cross (cy l 0) (cy l 1) (cy l 2) = vx (dd (cy l) 0) (sb (cy l 0) (cy l (0 + 2))) := cross_vx2 _ _ _
      rw [e]
      show 0 < 0 + _
      omega
    | succ k ih =>
      intro h2
      have i1 := ih (by omega)
      show 0 < fan l (k + 1) + cross (cy l 0) (cy l (k + 1 + 1)) (cy l (k + 1 + 2))
      have h1 := hc (k + 2) (l.length - (k + 2)) (by omega) (by omega)
      have e0 : cy l (k + 2 + (l.length - (k + 2))) = cy l 0 := by
        rw [show k + 2 + (l.length - (k + 2)) = 0 + l.length by omega, cy_per]
      rw [e0] at h1
      have e : cross (cy l 0) (cy l (k + 1 + 1)) (cy l (k + 1 + 2)) = vx (dd (cy l) (k + 2)) (sb (cy l (k + 2)) (cy l 0)) := by
        have : dd (cy l) (k + 2) = sb (cy l (k + 2)) (cy l (k + 3)) := rfl
        rw [this]
        show cross (cy l 0) (cy l (k + 2)) (cy l (k + 3)) = _
        unfold cross vx sb
        grind
      rw [e]
      omega
  obtain ⟨m, hm⟩ : ∃ m, l.length - 2 = m + 1 := ⟨l.length - 3, by omega⟩
  obtain ⟨e, _, b2⟩ := fanTo_fan hb (l.length - 2) (by omega)
  unfold twiceW
  rw [e]
  refine ⟨by rw [hm]; exact H m (by omega), by omega⟩
end Go.Proofs.Ytohlinbcbfgdfaa

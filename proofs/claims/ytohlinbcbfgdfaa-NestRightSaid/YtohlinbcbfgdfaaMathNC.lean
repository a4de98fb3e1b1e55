/- Rows of boxes: how many stand on a length; the places of the rows. -/
import Derived.Test.YtohlinbcbfgdfaaNW6
import Derived.Test.YtohlinbcbfgdfaaMathNB
namespace Go.Proofs.Ytohlinbcbfgdfaa
open Go.RowKit (wrap64)

/-- How many boxes stand side by side. -/
def boxN (len box gap : Int) : Nat := if box ≤ len then ((len - box) / (box + gap) + 1).toNat else 0
theorem boxN_lt {len box gap : Int} (hb : 1 ≤ box) (hg : 0 ≤ gap) (j : Nat) : j < boxN len box gap ↔ (j : Int) * (box + gap) + box ≤ len := by
  unfold boxN
  by_cases h : box ≤ len
  · rw [if_pos h]
    have hd : 0 ≤ (len - box) / (box + gap) := Int.ediv_nonneg (by omega) (by omega)
    have key : (j : Int) ≤ (len - box) / (box + gap) ↔ (j : Int) * (box + gap) ≤ len - box := Int.le_ediv_iff_mul_le (by omega)
    omega
  · rw [if_neg h]
    have : 0 ≤ (j : Int) * (box + gap) := Int.mul_nonneg (by omega) (by omega)
    omega
theorem boxN_div {len box gap : Int} (hl : 0 ≤ len) (hb : 1 ≤ box) (hg : 0 ≤ gap) : (len + gap) / (box + gap) = (boxN len box gap : Int) := by
  unfold boxN
  by_cases h : box ≤ len
  · rw [if_pos h]
    have hd : 0 ≤ (len - box) / (box + gap) := Int.ediv_nonneg (by omega) (by omega)
    have e : len + gap = (len - box) + 1 * (box + gap) := by omega
    rw [e, Int.add_mul_ediv_right _ _ (by omega)]
    omega
  · rw [if_neg h]
    exact Int.ediv_eq_zero_of_lt (by omega) (by omega)

theorem boxN_le {len box gap : Int} (hl : 0 ≤ len) (hb : 1 ≤ box) (hg : 0 ≤ gap) : (boxN len box gap : Int) ≤ len + 1 := by
  refine Int.not_lt.1 fun h => ?_
  have h1 := (boxN_lt (len := len) hb hg (boxN len box gap - 1)).1 (by omega)
  have h2 : ((boxN len box gap - 1 : Nat) : Int) * 1 ≤ ((boxN len box gap - 1 : Nat) : Int) * (box + gap) := Int.mul_le_mul_of_nonneg_left (by omega) (by omega)
  omega

section
variable {f : Nat → Nat → PL} {ok : PL → Bool} {nx : Nat}
/-- What lies ahead of box i of row j. -/
def rowL (f : Nat → Nat → PL) (ok : PL → Bool) (nx j i : Nat) : List PL := ((List.range j).flatMap (fun a => (List.range nx).map (f a)) ++ (List.range i).map (f j)).filter ok
theorem rowL_start : rowL f ok nx 0 0 = [] := rfl
theorem rowL_next (j i : Nat) : rowL f ok nx j (i + 1) = rowL f ok nx j i ++ if ok (f j i) then [f j i] else [] := by
  unfold rowL
  rw [List.range_succ, List.map_append, ← List.append_assoc, List.filter_append]
  simp only [List.map_cons, List.map_nil]
  cases h : ok (f j i) <;> simp [h]
theorem rowL_row (j : Nat) : rowL f ok nx j nx = rowL f ok nx (j + 1) 0 := by
  unfold rowL
  rw [List.range_succ, List.flatMap_append]
  simp
/-- The list only grows. -/
theorem rowL_in (j i ny : Nat) (hj : j < ny) (hi : i ≤ nx) : ∃ r, rowL f ok nx ny 0 = rowL f ok nx j i ++ r := by
  unfold rowL
  obtain ⟨d, rfl⟩ : ∃ d, ny = j + 1 + d := ⟨ny - (j + 1), by omega⟩
  obtain ⟨e, he⟩ : ∃ e, nx = i + e := ⟨nx - i, by omega⟩
  have e1 : List.range (j + 1 + d) = List.range j ++ [j] ++ (List.range d).map (fun a => j + 1 + a) := by rw [List.range_add, List.range_succ]
  have e2 : List.range nx = List.range i ++ (List.range e).map (fun a => i + a) := by rw [he, List.range_add]
  rw [e1, List.flatMap_append, List.flatMap_append]
  have e3 : List.flatMap (fun a => List.map (f a) (List.range nx)) [j] = (List.range i).map (f j) ++ ((List.range e).map (fun a => i + a)).map (f j) := by
    rw [List.flatMap_cons, List.flatMap_nil, List.append_nil, e2, List.map_append]
  rw [e3]
  refine ⟨List.filter ok (((List.range e).map (fun a => i + a)).map (f j) ++ List.flatMap (fun a => List.map (f a) (List.range nx)) ((List.range d).map (fun a => j + 1 + a))), ?_⟩
  simp only [List.map_nil, List.range_zero, List.append_nil, List.filter_append, List.append_assoc]
theorem rowL_take {j i ny : Nat} (hj : j < ny) (hi : i ≤ nx) (h : (rowL f ok nx j i).length = 200) : (rowL f ok nx ny 0).take 200 = rowL f ok nx j i := by
  obtain ⟨r, hr⟩ := rowL_in (f := f) (ok := ok) j i ny hj hi
  rw [hr, ← h, List.take_left']
  rfl
end

/-- What Rows answers, in the program. -/
def stand (G left low wide tall : Int) (k : Nat) (j i : Nat) : PL := ⟨k, (i : Int) * (wide + G) - left, (j : Int) * (tall + G) - low, false⟩
def free0 (F : List RC) (pt : PT) (p : PL) : Bool := !faultyB F (lyL pt.o p.X p.Y false)
def rowsOf (b : BD) (pt : PT) (k : Nat) (left right low high : Int) : List PL × Int :=
  let nx := boxN b.W (right - left) b.G
  let ny := boxN b.H (high - low) b.G
  if 10000 < nx * ny then ([], 4) else ((rowL (stand b.G left low (right - left) (high - low) k) (free0 b.F pt) nx ny 0).take 200, 0)
def base0 (pt : PT) : List XY := lyL pt.o 0 0 false
def rowsS (b : BD) (ps : List PT) (part : Int) : List PL × Int :=
  if !(boardB b && partsB ps) then ([], 70) else match ps[part.toNat]? with
    | none => ([], 2)
    | some pt => if part < 0 then ([], 2) else rowsOf b pt part.toNat (nearW 1 0 (base0 pt)) (farW 1 0 (base0 pt)) (nearW 0 1 (base0 pt)) (farW 0 1 (base0 pt))

theorem lyL_zero {pt : PT} (h : validB pt.o = true) : base0 pt = canonL pt.o := by
  obtain ⟨hv, _⟩ := canon_len h
  show (canonL pt.o).map (fMove 0 0) = _
  refine map_id_of fun p hp => ?_
  obtain ⟨b1, b2, b3, b4⟩ := bd_mem (validB_ranged hv) hp
  unfold fMove
  rw [w64_id (by omega) (by omega), w64_id (by omega) (by omega)]
  simp

/-- The ends of an outline. -/
theorem ends_facts {o : List XY} (h : validB o = true) : -5000 ≤ nearW 1 0 o ∧ nearW 1 0 o < farW 1 0 o ∧ farW 1 0 o ≤ 5000 ∧ -5000 ≤ nearW 0 1 o ∧ nearW 0 1 o < farW 0 1 o ∧ farW 0 1 o ≤ 5000 := by
  have hl := validB_len' h
  have h0 : 0 < o.length := by omega
  have hb := fun j => bd_cy h0 (validB_ranged h) j
  have hw := wd_valid h
  have d1 : ∀ j, dotW 1 0 (cy o j) = (cy o j).X := fun j => by rw [dotW_lin' dr10 (hw.2 j)]; unfold lin; omega
  have d2 : ∀ j, dotW 0 1 (cy o j) = (cy o j).Y := fun j => by rw [dotW_lin' dr01 (hw.2 j)]; unfold lin; omega
  obtain ⟨n1, j1, e1⟩ := near_bot h0 1 0
  obtain ⟨f1, i1, g1⟩ := far_top h0 1 0
  obtain ⟨n2, j2, e2⟩ := near_bot h0 0 1
  obtain ⟨f2, i2, g2⟩ := far_top h0 0 1
  have hD := (once_of_convex hl.1 (cy_per o) (validB_conv h)).1 0
  unfold vx dd sb at hD
  simp only [Nat.zero_add] at hD
  have a0 := n1 0; have a1 := n1 1; have a2 := n1 2
  have b0 := f1 0; have b1 := f1 1; have b2 := f1 2
  have c0 := n2 0; have c1 := n2 1; have c2 := n2 2
  have q0 := f2 0; have q1 := f2 1; have q2 := f2 2
  rw [d1] at e1 g1 a0 a1 a2 b0 b1 b2
  rw [d2] at e2 g2 c0 c1 c2 q0 q1 q2
  obtain ⟨x1, x2, _, _⟩ := hb j1
  obtain ⟨y1, y2, _, _⟩ := hb i1
  obtain ⟨_, _, z1, z2⟩ := hb j2
  obtain ⟨_, _, w1, w2⟩ := hb i2
  refine ⟨by omega, Int.not_le.1 fun hc => ?_, by omega, by omega, Int.not_le.1 fun hc => ?_, by omega⟩
  · have p1 : (cy o 1).X = (cy o 0).X := by omega
    have p2 : (cy o 2).X = (cy o 1).X := by omega
    rw [p1, p2, p1] at hD
    simp at hD
  · have p1 : (cy o 1).Y = (cy o 0).Y := by omega
    have p2 : (cy o 2).Y = (cy o 1).Y := by omega
    rw [p1, p2, p1] at hD
    simp at hD
end Go.Proofs.Ytohlinbcbfgdfaa

/- The rows of a part: their area is at most the board's, they are a gap apart, and on the board. The rows of a part are right; one more place; at most as many as the bound says. A layout in a mirror: outlines that are each other's reflections are apart alike; parts that lie in a mirror. Parts, rectangles and places in a mirror. A layout in a mirror is right, leaves as much, and is what it was in a second mirror. -/
import Derived.Test.YtohlinbcbfgdfaaWJ
import Derived.Test.YtohlinbcbfgdfaaNW29
namespace Go.Proofs.Ytohlinbcbfgdfaa
open Go.RowKit (wrap64)

theorem up_dy {u : XY} (h : up u) : 0 ≤ u.Y := by rcases h with h | h <;> omega
theorem notup_dy {u : XY} (h : ¬ up u) : u.Y ≤ 0 := Int.not_lt.1 fun hc => h (.inl hc)
/-- Twice the area of an outline is at most twice that of its box. -/
theorem area_box {o : List XY} (h : validB o = true) : areaW o ≤ 2 * (farW 1 0 o - nearW 1 0 o) * (farW 0 1 o - nearW 0 1 o) := by
  have hl := validB_len' h
  have h0 : 0 < o.length := by omega
  have hw := wd_valid h
  obtain ⟨_, ⟨j0, hj0⟩, huniq⟩ := once_of_convex hl.1 (cy_per o) (validB_conv h)
  obtain ⟨nx, _⟩ := near_bot h0 1 0
  obtain ⟨ny, _⟩ := near_bot h0 0 1
  obtain ⟨fx, _⟩ := far_top h0 1 0
  obtain ⟨fy, _⟩ := far_top h0 0 1
  have d1 : ∀ j, dotW 1 0 (cy o j) = (cy o j).X := fun j => (dot_xy (hw.2 j)).1
  have d2 : ∀ j, dotW 0 1 (cy o j) = (cy o j).Y := fun j => (dot_xy (hw.2 j)).2
  have bx : ∀ j, nearW 1 0 o ≤ (cy o j).X ∧ (cy o j).X ≤ farW 1 0 o := fun j => by have := nx j; have := fx j; rw [d1] at *; omega
  have by' : ∀ j, nearW 0 1 o ≤ (cy o j).Y ∧ (cy o j).Y ≤ farW 0 1 o := fun j => by have := ny j; have := fy j; rw [d2] at *; omega
  have hA : areaW o = sumTo (fun i => vx (cy o (j0 + 1 + i)) (cy o (j0 + 1 + i + 1))) o.length := by
    rw [area_sides h]
    exact (sumTo_shift (g := fun i => vx (cy o i) (cy o (i + 1))) (fun i => by show vx (cy o (i + o.length)) (cy o (i + o.length + 1)) = _; rw [cy_per, show i + o.length + 1 = i + 1 + o.length by omega, cy_per]) (j0 + 1)).symm
  generalize nearW 1 0 o = Lf at *
  generalize farW 1 0 o = R at *
  generalize nearW 0 1 o = lo at *
  generalize farW 0 1 o = hi at *
  obtain ⟨X, hX⟩ : ∃ X : Nat → Int, ∀ i, (cy o (j0 + 1 + i)).X = X i := ⟨fun i => _, fun i => rfl⟩
  obtain ⟨Y, hY⟩ : ∃ Y : Nat → Int, ∀ i, (cy o (j0 + 1 + i)).Y = Y i := ⟨fun i => _, fun i => rfl⟩
  have hup : ∀ i, dd (cy o) (j0 + 1 + i) = ⟨X (i + 1) - X i, Y (i + 1) - Y i⟩ := fun i => by rw [← hX, ← hX, ← hY, ← hY]; rfl
  have key : ∀ k, k ≤ o.length → ∃ m, m ≤ k ∧ (m < k → ¬ up (dd (cy o) (j0 + k))) ∧
      sumTo (fun i => vx (cy o (j0 + 1 + i)) (cy o (j0 + 1 + i + 1))) k ≤ 2 * R * (Y m - Y 0) + 2 * Lf * (Y k - Y m) - (X k * Y k - X 0 * Y 0) := by
    intro k
    induction k with
    | zero => intro _; exact ⟨0, Nat.le_refl _, fun h => absurd h (Nat.lt_irrefl _), by show (0 : Int) ≤ _; rw [Int.sub_self, Int.mul_zero, Int.mul_zero]; omega⟩
    | succ k ih =>
      intro hk
      obtain ⟨m, hm, hdn, hS⟩ := ih (by omega)
      have es : sumTo (fun i => vx (cy o (j0 + 1 + i)) (cy o (j0 + 1 + i + 1))) (k + 1) = sumTo (fun i => vx (cy o (j0 + 1 + i)) (cy o (j0 + 1 + i + 1))) k + (X k * Y (k + 1) - Y k * X (k + 1)) := by
        show _ + vx (cy o (j0 + 1 + k)) (cy o (j0 + 1 + (k + 1))) = _
        unfold vx
        rw [hX, hX, hY, hY]
      rw [es]
      have eid : X k * Y (k + 1) - Y k * X (k + 1) = (X k + X (k + 1)) * (Y (k + 1) - Y k) - (X (k + 1) * Y (k + 1) - X k * Y k) := by grind
      have b1 := bx (j0 + 1 + k)
      have b2 := bx (j0 + 1 + (k + 1))
      rw [hX] at b1 b2
      have hcur : up (dd (cy o) (j0 + 1 + k)) ∨ ¬ up (dd (cy o) (j0 + 1 + k)) := Classical.em _
      by_cases hmk : m = k
      · subst hmk
        rw [Int.sub_self, Int.mul_zero] at hS
        rcases hcur with hu | hu
        · have hdy := up_dy hu
          rw [hup] at hdy
          have hmul : (X m + X (m + 1)) * (Y (m + 1) - Y m) ≤ 2 * R * (Y (m + 1) - Y m) := Int.mul_le_mul_of_nonneg_right (by omega) hdy
          refine ⟨m + 1, Nat.le_refl _, fun h => absurd h (Nat.lt_irrefl _), ?_⟩
          have e1 : 2 * R * (Y (m + 1) - Y 0) = 2 * R * (Y m - Y 0) + 2 * R * (Y (m + 1) - Y m) := by grind
          rw [Int.sub_self, Int.mul_zero, e1]
          omega
        · have hdy := notup_dy hu
          rw [hup] at hdy
          have hmul : (X m + X (m + 1)) * (Y (m + 1) - Y m) ≤ 2 * Lf * (Y (m + 1) - Y m) := Int.mul_le_mul_of_nonpos_right (by omega) hdy
          refine ⟨m, by omega, fun _ => by rw [show j0 + (m + 1) = j0 + 1 + m by omega]; exact hu, ?_⟩
          omega
      · have hd := hdn (by omega)
        have hu : ¬ up (dd (cy o) (j0 + 1 + k)) := fun hc => by
          have := huniq (j0 + k) j0 ⟨hd, by rw [show j0 + k + 1 = j0 + 1 + k by omega]; exact hc⟩ hj0
          have h2 := Nat.sub_mod_eq_zero_of_mod_eq this
          rw [show j0 + k - j0 = k by omega] at h2
          rw [Nat.mod_eq_of_lt (by omega)] at h2
          omega
        have hdy := notup_dy hu
        rw [hup] at hdy
        have hmul : (X k + X (k + 1)) * (Y (k + 1) - Y k) ≤ 2 * Lf * (Y (k + 1) - Y k) := Int.mul_le_mul_of_nonpos_right (by omega) hdy
        refine ⟨m, by omega, fun _ => by rw [show j0 + (k + 1) = j0 + 1 + k by omega]; exact hu, ?_⟩
        have e1 : 2 * Lf * (Y (k + 1) - Y m) = 2 * Lf * (Y k - Y m) + 2 * Lf * (Y (k + 1) - Y k) := by grind
        rw [e1]
        omega
  obtain ⟨m, hm, _, hS⟩ := key o.length (Nat.le_refl _)
  rw [hA]
  have pX : X o.length = X 0 := by rw [← hX, ← hX, cy_per]
  have pY : Y o.length = Y 0 := by rw [← hY, ← hY, cy_per]
  rw [pX, pY] at hS
  have c1 := by' (j0 + 1 + m)
  have c2 := by' (j0 + 1 + 0)
  rw [hY] at c1 c2
  have c3 := bx j0
  have e2 : 2 * R * (Y m - Y 0) + 2 * Lf * (Y 0 - Y m) = 2 * (R - Lf) * (Y m - Y 0) := by grind
  have hmul : 2 * (R - Lf) * (Y m - Y 0) ≤ 2 * (R - Lf) * (hi - lo) := Int.mul_le_mul_of_nonneg_left (by omega) (by omega)
  omega
end Go.Proofs.Ytohlinbcbfgdfaa

namespace Go.Proofs.Ytohlinbcbfgdfaa
open Go.RowKit (wrap64)

theorem rowL_len {f : Nat → Nat → PL} {ok : PL → Bool} {nx : Nat} (j : Nat) : (rowL f ok nx j 0).length ≤ j * nx := by
  unfold rowL
  refine Nat.le_trans (List.length_filter_le _ _) ?_
  simp only [List.range_zero, List.map_nil, List.append_nil]
  induction j with
  | zero => simp
  | succ j ih =>
    rw [List.range_succ, List.flatMap_append, List.length_append, Nat.add_mul]
    simp only [List.flatMap_cons, List.flatMap_nil, List.append_nil, List.length_map, List.length_range]
    omega
theorem boxN_mul {len box gap : Int} (hb : 1 ≤ box) (hg : 0 ≤ gap) (hl : 0 ≤ len) : (boxN len box gap : Int) * box ≤ len := by
  rcases Nat.eq_zero_or_pos (boxN len box gap) with h | h
  · rw [h]; simp; exact hl
  · have h1 := (boxN_lt (len := len) hb hg (boxN len box gap - 1)).1 (by omega)
    generalize boxN len box gap = n at *
    obtain ⟨m, rfl⟩ : ∃ m, n = m + 1 := ⟨n - 1, by omega⟩
    have e : ((m + 1 : Nat) : Int) * box = (m : Int) * box + box := by rw [Int.natCast_add, Int.add_mul]; simp
    have h2 : (m : Int) * box ≤ (m : Int) * (box + gap) := Int.mul_le_mul_of_nonneg_left (by omega) (by omega)
    rw [show m + 1 - 1 = m by omega] at h1
    omega
theorem rows_bound {b : BD} {pt : PT} {k : Nat} (hb : boardB b = true) (hv : validB pt.o = true)
    (he : (rowsOf b pt k (nearW 1 0 (base0 pt)) (farW 1 0 (base0 pt)) (nearW 0 1 (base0 pt)) (farW 0 1 (base0 pt))).2 = 0) :
    ((rowsOf b pt k (nearW 1 0 (base0 pt)) (farW 1 0 (base0 pt)) (nearW 0 1 (base0 pt)) (farW 0 1 (base0 pt))).1.length : Int) ≤ (2 * b.W * b.H).tdiv (areaW pt.o) := by
  obtain ⟨b1, b2, b3, b4, b5, b6, _⟩ := boardB_facts hb
  obtain ⟨q1, q2, q3, q4⟩ := canon_ends hv
  have hends := ends_facts hv
  have harea := area_box hv
  have hpos := (twice_pos hv).1
  rw [← area_eq hv] at hpos
  rw [lyL_zero hv, q1, q2, q3, q4] at he ⊢
  generalize nearW 1 0 pt.o = left at *
  generalize farW 1 0 pt.o = right at *
  generalize nearW 0 1 pt.o = low at *
  generalize farW 0 1 pt.o = high at *
  obtain ⟨l1, l2, l3, l4, l5, l6⟩ := hends
  unfold rowsOf at he ⊢
  dsimp only at he ⊢
  have m1 := boxN_mul (len := b.W) (box := right - left) (gap := b.G) (by omega) b5 (by omega)
  have m2 := boxN_mul (len := b.H) (box := high - low) (gap := b.G) (by omega) b5 (by omega)
  split at he
  · simp at he
  rename_i hbig
  rw [if_neg hbig]
  generalize boxN b.W (right - left) b.G = nx at *
  generalize boxN b.H (high - low) b.G = ny at *
  have hlen := rowL_len (f := stand b.G left low (right - left) (high - low) k) (ok := free0 b.F pt) (nx := nx) ny
  have ht : ((rowL (stand b.G left low (right - left) (high - low) k) (free0 b.F pt) nx ny 0).take 200).length ≤ ny * nx := by
    rw [List.length_take]; omega
  generalize ((rowL (stand b.G left low (right - left) (high - low) k) (free0 b.F pt) nx ny 0).take 200).length = n at *
  have hP : 0 ≤ 2 * b.W * b.H := Int.mul_nonneg (by omega) (by omega)
  rw [Int.tdiv_eq_ediv_of_nonneg hP]
  rw [Int.le_ediv_iff_mul_le hpos]
  generalize areaW pt.o = a at *
  have w1 : 0 ≤ right - left := by omega
  have w2 : 0 ≤ high - low := by omega
  generalize right - left = wd at *
  generalize high - low = tl at *
  have hn : (n : Int) ≤ (ny : Int) * (nx : Int) := by have : (n : Int) ≤ ((ny * nx : Nat) : Int) := by omega
                                                      simpa using this
  have s1 : (n : Int) * a ≤ (ny : Int) * (nx : Int) * a := Int.mul_le_mul_of_nonneg_right hn (by omega)
  have h0 : 0 ≤ (ny : Int) * (nx : Int) := Int.mul_nonneg (by omega) (by omega)
  have s2 : (ny : Int) * (nx : Int) * a ≤ (ny : Int) * (nx : Int) * (2 * wd * tl) := Int.mul_le_mul_of_nonneg_left harea h0
  have s3 : (ny : Int) * (nx : Int) * (2 * wd * tl) = 2 * ((nx : Int) * wd) * ((ny : Int) * tl) := by grind
  have h1 : 0 ≤ (nx : Int) * wd := Int.mul_nonneg (by omega) w1
  have h2 : 0 ≤ (ny : Int) * tl := Int.mul_nonneg (by omega) w2
  have s4 : 2 * ((nx : Int) * wd) * ((ny : Int) * tl) ≤ 2 * b.W * b.H := Int.mul_le_mul (by omega) m2 h2 (by omega)
  omega

theorem sep_dir {o p : List XY} (ho : Wd o) (hp : Wd p) {G u v : Int} (hd : Dr u v) (hn : u * u + v * v = 1) (h0 : 0 ≤ G) (h : ∀ i j, lin u v (cy p j) + G ≤ lin u v (cy o i)) : Sep o p u v G := by
  obtain ⟨_, i, ei⟩ := near_bot ho.1 u v
  obtain ⟨_, j, ej⟩ := far_top hp.1 u v
  have hij := h i j
  rw [← dotW_lin' hd (hp.2 j), ← dotW_lin' hd (ho.2 i), ei, ej] at hij
  refine .inl ⟨?_, ?_⟩
  · rw [← near_far ho hd]; omega
  · rw [← near_far ho hd, hn, Int.mul_one]
    exact sq_mono h0 (by omega)
theorem sep_x {o p : List XY} (ho : Wd o) (hp : Wd p) {G : Int} (h0 : 0 ≤ G) (h1 : G ≤ 2000) (h : ∀ i j, (cy p j).X + G ≤ (cy o i).X) : apartB o p G = true ∧ apartB p o G = true := by
  have S := sep_dir (u := 1) (v := 0) ho hp dr10 (by omega) h0 (fun i j => by have := h i j; unfold lin; omega)
  constructor
  · unfold apartB; rw [(splitB_iff ho hp dr10 h0 h1).2 S]; simp
  · unfold apartB; rw [(splitB_iff hp ho dr10 h0 h1).2 S.comm]; simp
theorem sep_y {o p : List XY} (ho : Wd o) (hp : Wd p) {G : Int} (h0 : 0 ≤ G) (h1 : G ≤ 2000) (h : ∀ i j, (cy p j).Y + G ≤ (cy o i).Y) : apartB o p G = true ∧ apartB p o G = true := by
  have S := sep_dir (u := 0) (v := 1) ho hp dr01 (by omega) h0 (fun i j => by have := h i j; unfold lin; omega)
  constructor
  · unfold apartB; rw [(splitB_iff ho hp dr01 h0 h1).2 S]; simp
  · unfold apartB; rw [(splitB_iff hp ho dr01 h0 h1).2 S.comm]; simp

theorem check3S_zero {b : BD} {os : List (List XY)} : (check3S b os).2 = 0 ↔ os.any (beyondB b.W b.H) = false ∧ os.any (faultyB b.F) = false ∧ (List.range os.length).any (clash b.G os) = false := by
  unfold check3S
  by_cases h1 : os.any (beyondB b.W b.H) = true
  · rw [if_pos h1, h1]; simp
  rw [if_neg h1]
  by_cases h2 : os.any (faultyB b.F) = true
  · rw [if_pos h2, h2]; simp
  rw [if_neg h2]
  by_cases h3 : (List.range os.length).any (clash b.G os) = true
  · rw [if_pos h3, h3]; simp
  rw [if_neg h3]
  rw [Bool.not_eq_true] at h1 h2 h3
  rw [h1, h2, h3]; simp
theorem checkS_zero {b : BD} {ps : List PT} {L : List PL} (hb : boardB b = true) (hp : partsB ps = true) : (checkS b ps L).2 = 0 ↔ L.length ≤ 200 ∧ L.any (fun p => !rightB ps p) = false ∧ (check3S b (L.map (lyP ps))).2 = 0 := by
  unfold checkS
  rw [hb, hp]
  simp only [Bool.and_self, Bool.not_true, Bool.false_eq_true, if_false]
  by_cases h1 : 200 < L.length
  · rw [if_pos h1]; simp; omega
  rw [if_neg h1]
  by_cases h2 : L.any (fun p => !rightB ps p) = true
  · rw [if_pos h2, h2]; simp
  rw [if_neg h2]
  rw [Bool.not_eq_true] at h2
  rw [h2]
  constructor
  · intro h; exact ⟨by omega, rfl, h⟩
  · rintro ⟨_, _, h⟩; exact h
theorem clash_left {g : Int} {os : List (List XY)} {o : List XY} {i : Nat} (h : i < os.length) : clash g (os ++ [o]) i = clash g os i := by
  unfold clash
  rw [List.getElem?_append_left h, List.take_append_of_le_length (by omega)]
theorem clash_last {g : Int} {os : List (List XY)} {o : List XY} : clash g (os ++ [o]) os.length = os.any (fun c => !apartB o c g) := by
  unfold clash
  rw [List.getElem?_append_right (Nat.le_refl _), Nat.sub_self, List.take_left' rfl]
  rfl
theorem check_append {b : BD} {ps : List PT} {L : List PL} {p : PL} (h : (checkS b ps L).2 = 0) : (checkS b ps (L ++ [p])).2 = 0 ↔ freeB b ps (L.map (lyP ps)) p = true := by
  have hrl := checkS_ok h
  obtain ⟨c1, c2, c3⟩ := (checkS_zero hrl.hb hrl.hp).1 h
  obtain ⟨d1, d2, d3⟩ := check3S_zero.1 c3
  rw [checkS_zero hrl.hb hrl.hp, check3S_zero]
  rw [List.map_append, List.any_append, List.any_append, List.any_append, c2, d1, d2, List.length_append, List.length_append]
  simp only [List.map_cons, List.map_nil, List.length_cons, List.length_nil, Nat.zero_add, List.any_cons, List.any_nil, Bool.or_false, Bool.false_or]
  have hr : (List.range ((L.map (lyP ps)).length + 1)).any (clash b.G (L.map (lyP ps) ++ [lyP ps p])) = (L.map (lyP ps)).any (fun c => !apartB (lyP ps p) c b.G) := by
    rw [List.range_succ, List.any_append]
    have e : (List.range (L.map (lyP ps)).length).any (clash b.G (L.map (lyP ps) ++ [lyP ps p])) = false := by
      rw [← d3]
      exact any_congr' fun i hi => clash_left (List.mem_range.1 hi)
    rw [e]
    simp only [List.any_cons, List.any_nil, Bool.or_false, Bool.false_or]
    exact clash_last
  rw [hr]
  unfold freeB
  simp only [Bool.and_eq_true, decide_eq_true_eq, Bool.not_eq_true', Bool.not_eq_false', List.length_map]
  constructor
  · rintro ⟨h1, h2, h3, h4, h5⟩; exact ⟨by omega, h2, h3, h4, h5⟩
  · rintro ⟨h1, h2, h3, h4, h5⟩; exact ⟨by omega, h2, h3, h4, h5⟩

/-- What Rows lays is right. -/
theorem rows_right {b : BD} {ps : List PT} {pt : PT} {k : Nat} (hb : boardB b = true) (hp : partsB ps = true) (hk : ps[k]? = some pt) :
    (checkS b ps (rowsOf b pt k (nearW 1 0 (base0 pt)) (farW 1 0 (base0 pt)) (nearW 0 1 (base0 pt)) (farW 0 1 (base0 pt))).1).2 = 0 := by
  have hv := partsB_each hp (List.mem_of_getElem? hk)
  have hkl : k < ps.length := (List.getElem?_eq_some_iff.1 hk).1
  have hps := partsB_len hp
  obtain ⟨b1, b2, b3, b4, b5, b6, _⟩ := boardB_facts hb
  have hvb : validB (base0 pt) = true := by rw [lyL_zero hv]; exact (canon_len hv).1
  have hends := ends_facts hvb
  have hw := wd_valid hvb
  obtain ⟨nx, _⟩ := near_bot hw.1 1 0
  obtain ⟨ny, _⟩ := near_bot hw.1 0 1
  obtain ⟨fx, _⟩ := far_top hw.1 1 0
  obtain ⟨fy, _⟩ := far_top hw.1 0 1
  have bx : ∀ j, nearW 1 0 (base0 pt) ≤ (cy (base0 pt) j).X ∧ (cy (base0 pt) j).X ≤ farW 1 0 (base0 pt) ∧ nearW 0 1 (base0 pt) ≤ (cy (base0 pt) j).Y ∧ (cy (base0 pt) j).Y ≤ farW 0 1 (base0 pt) := fun j => by
    have h1 := nx j; have h2 := fx j; have h3 := ny j; have h4 := fy j
    rw [(dot_xy (hw.2 j)).1] at h1 h2
    rw [(dot_xy (hw.2 j)).2] at h3 h4
    exact ⟨h1, h2, h3, h4⟩
  have hlb : lyB pt.o false = base0 pt := (lyL_zero hv).symm
  clear nx ny fx fy
  generalize nearW 1 0 (base0 pt) = left at *
  generalize farW 1 0 (base0 pt) = right at *
  generalize nearW 0 1 (base0 pt) = low at *
  generalize farW 0 1 (base0 pt) = high at *
  obtain ⟨l1, l2, l3, l4, l5, l6⟩ := hends
  rw [checkS_zero hb hp, check3S_zero]
  unfold rowsOf
  dsimp only
  split
  · simp
  rename_i hbig
  have hltx := fun i => boxN_lt (len := b.W) (box := right - left) (gap := b.G) (by omega) b5 i
  have hlty := fun i => boxN_lt (len := b.H) (box := high - low) (gap := b.G) (by omega) b5 i
  generalize boxN b.W (right - left) b.G = nx at *
  generalize boxN b.H (high - low) b.G = ny at *
  obtain ⟨S, hS⟩ : ∃ S, right - left + b.G = S := ⟨_, rfl⟩
  obtain ⟨T, hT⟩ : ∃ T, high - low + b.G = T := ⟨_, rfl⟩
  obtain ⟨f, hf⟩ : ∃ f, stand b.G left low (right - left) (high - low) k = f := ⟨_, rfl⟩
  have hfe : ∀ j i, f j i = ⟨k, (i : Int) * S - left, (j : Int) * T - low, false⟩ := fun j i => by rw [← hf, ← hS, ← hT]; rfl
  rw [hS] at hltx
  rw [hT] at hlty
  rw [hf]
  clear hf
  have hfar : ∀ j i, j < ny → i < nx → 0 ≤ (i : Int) * S ∧ (i : Int) * S + (right - left) ≤ b.W ∧ 0 ≤ (j : Int) * T ∧ (j : Int) * T + (high - low) ≤ b.H := fun j i hj hi =>
    ⟨Int.mul_nonneg (by omega) (by omega), (hltx i).1 hi, Int.mul_nonneg (by omega) (by omega), (hlty j).1 hj⟩
  have hat : partAt ps (k : Int) = pt := partAt_eq hk
  have hly : ∀ j i, lyP ps (f j i) = lyL pt.o ((i : Int) * S - left) ((j : Int) * T - low) false := fun j i => by
    unfold lyP; rw [hfe]; dsimp only; rw [hat]
  have hcy : ∀ j i, j < ny → i < nx → ∀ n, (i : Int) * S ≤ (cy (lyP ps (f j i)) n).X ∧ (cy (lyP ps (f j i)) n).X ≤ (i : Int) * S + (right - left) ∧ (j : Int) * T ≤ (cy (lyP ps (f j i)) n).Y ∧ (cy (lyP ps (f j i)) n).Y ≤ (j : Int) * T + (high - low) := fun j i hj hi n => by
    obtain ⟨g1, g2, g3, g4⟩ := hfar j i hj hi
    rw [hly, (ly_cy hv (by unfold Far; omega) false n).1, hlb]
    have := bx n
    dsimp only
    omega
  have hwd : ∀ j i, j < ny → i < nx → Wd (lyP ps (f j i)) := fun j i hj hi => by
    obtain ⟨g1, g2, g3, g4⟩ := hfar j i hj hi
    rw [hly]
    exact (lay_ly hv (by unfold Far; omega) false).1
  -- the members
  have hmem : ∀ p ∈ (rowL f (free0 b.F pt) nx ny 0).take 200, ∃ j i, j < ny ∧ i < nx ∧ p = f j i ∧ free0 b.F pt p = true := fun p hp => by
    have h1 := List.mem_of_mem_take hp
    unfold rowL at h1
    obtain ⟨h2, h3⟩ := List.mem_filter.1 h1
    simp only [List.range_zero, List.map_nil, List.append_nil] at h2
    obtain ⟨j, hj, h4⟩ := List.mem_flatMap.1 h2
    obtain ⟨i, hi, e⟩ := List.mem_map.1 h4
    exact ⟨j, i, List.mem_range.1 hj, List.mem_range.1 hi, e.symm, h3⟩
  have hpw : ((rowL f (free0 b.F pt) nx ny 0).take 200).Pairwise (fun p q => apartB (lyP ps q) (lyP ps p) b.G = true) := by
    refine List.Pairwise.sublist (List.take_sublist _ _) ?_
    unfold rowL
    refine List.Pairwise.sublist (List.filter_sublist) ?_
    simp only [List.range_zero, List.map_nil, List.append_nil]
    rw [List.pairwise_flatMap]
    constructor
    · intro j hj
      rw [List.pairwise_map]
      have hj' := List.mem_range.1 hj
      refine List.Pairwise.imp_of_mem ?_ (List.pairwise_lt_range (n := nx))
      intro i i' hi hi' hlt
      have hi1 := List.mem_range.1 hi
      have hi2 := List.mem_range.1 hi'
      refine (sep_x (hwd j i' hj' hi2) (hwd j i hj' hi1) b5 b6 fun n m => ?_).1
      have c1 := hcy j i hj' hi1 m
      have c2 := hcy j i' hj' hi2 n
      have hm : (i : Int) * S + S ≤ (i' : Int) * S := by
        have : ((i : Int) + 1) * S ≤ (i' : Int) * S := Int.mul_le_mul_of_nonneg_right (by omega) (by omega)
        rw [Int.add_mul, Int.one_mul] at this
        exact this
      omega
    · refine List.Pairwise.imp_of_mem ?_ (List.pairwise_lt_range (n := ny))
      intro j j' hj hj' hlt x hx y hy
      obtain ⟨i, hi, rfl⟩ := List.mem_map.1 hx
      obtain ⟨i', hi', rfl⟩ := List.mem_map.1 hy
      have hj1 := List.mem_range.1 hj
      have hj2 := List.mem_range.1 hj'
      have hi1 := List.mem_range.1 hi
      have hi2 := List.mem_range.1 hi'
      refine (sep_y (hwd j' i' hj2 hi2) (hwd j i hj1 hi1) b5 b6 fun n m => ?_).1
      have c1 := hcy j i hj1 hi1 m
      have c2 := hcy j' i' hj2 hi2 n
      have hm : (j : Int) * T + T ≤ (j' : Int) * T := by
        have : ((j : Int) + 1) * T ≤ (j' : Int) * T := Int.mul_le_mul_of_nonneg_right (by omega) (by omega)
        rw [Int.add_mul, Int.one_mul] at this
        exact this
      omega
  have hlen : ((rowL f (free0 b.F pt) nx ny 0).take 200).length ≤ 200 := by rw [List.length_take]; omega
  generalize (rowL f (free0 b.F pt) nx ny 0).take 200 = l at *
  refine ⟨hlen, ?_, ?_, ?_, ?_⟩
  · rw [List.any_eq_false]
    intro p hp
    obtain ⟨j, i, hj, hi, rfl, _⟩ := hmem p hp
    obtain ⟨g1, g2, g3, g4⟩ := hfar j i hj hi
    rw [hfe]
    simp only [rightB, placedB, betw, Bool.not_false, Bool.true_or, Bool.and_true, Bool.not_eq_true', Bool.and_eq_false_iff, decide_eq_false_iff_not]
    omega
  · rw [any_map', List.any_eq_false]
    intro p hp
    obtain ⟨j, i, hj, hi, rfl, _⟩ := hmem p hp
    obtain ⟨g1, g2, g3, g4⟩ := hfar j i hj hi
    unfold beyondB
    rw [List.any_eq_true]
    rintro ⟨q, hq, hbad⟩
    obtain ⟨n, hn⟩ := List.getElem?_of_mem hq
    have c := hcy j i hj hi n
    rw [cy_lt hn] at c
    simp only [betw, Bool.or_eq_true, Bool.not_eq_true', Bool.and_eq_false_iff, decide_eq_false_iff_not] at hbad
    omega
  · rw [any_map', List.any_eq_false]
    intro p hp
    obtain ⟨j, i, hj, hi, rfl, hok⟩ := hmem p hp
    unfold free0 at hok
    rw [hly]
    rw [hfe] at hok
    dsimp only at hok
    rw [Bool.not_eq_true'] at hok
    rw [hok]; simp
  · rw [List.any_eq_false]
    intro n hn
    have hnl := List.mem_range.1 hn
    rw [List.length_map] at hnl
    replace hnl : n < l.length := hnl
    unfold clash
    rw [List.any_eq_true]
    rintro ⟨c, hc, hbad⟩
    obtain ⟨m, hm⟩ := List.getElem?_of_mem hc
    have hml : m < n := by have := (List.getElem?_eq_some_iff.1 hm).1; simp at this; omega
    rw [List.getElem?_take, if_pos hml, List.getElem?_map] at hm
    rw [List.getElem?_map] at hbad
    obtain ⟨p, hp⟩ := getElem?_of_lt (show m < l.length by omega)
    obtain ⟨q, hq⟩ := getElem?_of_lt hnl
    rw [hp] at hm
    rw [hq] at hbad
    have e : lyP ps p = c := by simpa using hm
    have hR := (List.pairwise_iff_getElem.1 hpw) m n (by omega) hnl hml
    have e1 : l[m] = p := (List.getElem?_eq_some_iff.1 hp).2
    have e2 : l[n] = q := (List.getElem?_eq_some_iff.1 hq).2
    rw [e1, e2] at hR
    rw [← e] at hbad
    simp [hR] at hbad
end Go.Proofs.Ytohlinbcbfgdfaa

namespace Go.Proofs.Ytohlinbcbfgdfaa
open Go.RowKit (wrap64)

def rf (W : Int) (q : XY) : XY := ⟨W - q.X, q.Y⟩
theorem rf_rf (W : Int) (q : XY) : rf W (rf W q) = q := by unfold rf; cases q; simp only [XY.mk.injEq, and_true]; omega
/-- The sides of one are those of the other, seen in a mirror: from their ends to their beginnings. -/
structure Refl (W : Int) (l l' : List XY) : Prop where
  fw : ∀ i, ∃ j, cy l' j = rf W (cy l (i + 1)) ∧ cy l' (j + 1) = rf W (cy l i)
  bw : ∀ j, ∃ i, cy l' j = rf W (cy l (i + 1)) ∧ cy l' (j + 1) = rf W (cy l i)
theorem Refl.symm {W : Int} {l l' : List XY} (h : Refl W l l') : Refl W l' l :=
  ⟨fun j => by obtain ⟨i, h1, h2⟩ := h.bw j; exact ⟨i, by rw [h2, rf_rf], by rw [h1, rf_rf]⟩,
   fun i => by obtain ⟨j, h1, h2⟩ := h.fw i; exact ⟨j, by rw [h2, rf_rf], by rw [h1, rf_rf]⟩⟩
theorem Refl.rot {W : Int} {l l' : List XY} {a b : Nat} (h : Refl W l l') (ha : a < l.length) (hb : b < l'.length) : Refl W (rotL l a) (rotL l' b) := by
  have back : ∀ {m : List XY} {k : Nat}, k < m.length → ∀ j, ∃ i, cy (rotL m k) i = cy m j ∧ cy (rotL m k) (i + 1) = cy m (j + 1) := fun {m k} hk j => by
    refine ⟨j + (m.length - k), ?_, ?_⟩
    · rw [cy_rot hk, show k + (j + (m.length - k)) = j + m.length by omega, cy_per]
    · rw [cy_rot hk, show k + (j + (m.length - k) + 1) = j + 1 + m.length by omega, cy_per]
  constructor
  · intro i
    obtain ⟨j, h1, h2⟩ := h.fw (a + i)
    obtain ⟨n, e1, e2⟩ := back hb j
    exact ⟨n, by rw [e1, h1, cy_rot ha]; rfl, by rw [e2, h2, cy_rot ha]⟩
  · intro j
    obtain ⟨i, h1, h2⟩ := h.bw (b + j)
    obtain ⟨n, e1, e2⟩ := back ha i
    exact ⟨n, by rw [cy_rot hb, h1, e2], by rw [cy_rot hb, e1]; exact h2⟩
theorem lin_rf (W u v : Int) (q : XY) : lin u v (rf W q) = lin (-u) v q + u * W := by unfold lin rf; simp only; grind
theorem far_rf {W : Int} {l l' : List XY} (h : Refl W l l') (hl : Wd l) (hl' : Wd l') {u v : Int} (hd : Dr u v) : farW u v l' = farW (-u) v l + u * W := by
  have hd' : Dr (-u) v := by unfold Dr at *; omega
  obtain ⟨t1, j, e1⟩ := far_lin hl' hd
  obtain ⟨t2, i, e2⟩ := far_lin hl hd'
  obtain ⟨j2, h1, h2⟩ := h.fw i
  obtain ⟨i2, h3, h4⟩ := h.bw j
  have a1 := t1 (j2 + 1)
  rw [h2, lin_rf] at a1
  have a2 := t2 (i2 + 1)
  rw [h3, lin_rf] at e1
  omega
theorem dir_rf {W : Int} {l l' : List XY} (h : Refl W l l') (hl : Wd l) (hl' : Wd l') (i : Nat) : ∃ j, dU l' j = -dU l i ∧ dV l' j = dV l i := by
  obtain ⟨j, h1, h2⟩ := h.fw i
  refine ⟨j, ?_, ?_⟩
  · rw [(dU_eq hl'.2 j).1, (dU_eq hl.2 i).1, h1, h2]; unfold rf; simp only; omega
  · rw [(dU_eq hl'.2 j).2, (dU_eq hl.2 i).2, h1, h2]; unfold rf; simp only; omega
theorem sep_rf {W : Int} {o p o' p' : List XY} (ho : Refl W o o') (hp : Refl W p p') (wo : Wd o) (wp : Wd p) (wo' : Wd o') (wp' : Wd p') {u v g : Int} (hd : Dr u v) (h : Sep o p u v g) : Sep o' p' (-u) v g := by
  have d1 : Dr u (-v) := by unfold Dr at *; omega
  have d2 : Dr (-u) v := by unfold Dr at *; omega
  have e1 := far_rf ho wo wo' d1
  have e2 := far_rf ho wo wo' d2
  have e3 := far_rf hp wp wp' d1
  have e4 := far_rf hp wp wp' d2
  rw [Int.neg_neg] at e2 e4
  have hn : -u * -u + v * v = u * u + v * v := by grind
  unfold Sep at h ⊢
  rw [Int.neg_neg, hn, e1, e2, e3, e4]
  have x1 : -(farW (-u) (-v) o + u * W) - (farW u v p + -u * W) = -farW (-u) (-v) o - farW u v p := by grind
  have x2 : -(farW (-u) (-v) p + u * W) - (farW u v o + -u * W) = -farW (-u) (-v) p - farW u v o := by grind
  rw [x1, x2]
  exact h
theorem rf_go {W : Int} {o p o' p' : List XY} (ho : Refl W o o') (hp : Refl W p p') (lo : Lay o) (lp : Lay p) (lo' : Lay o') (lp' : Lay p') {g : Int} (h0 : 0 ≤ g) (h1 : g ≤ 2000) (h : apartB o p g = true) : apartB o' p' g = true := by
  obtain ⟨u, v, hdir, hs⟩ := (apart_iff lo.1 lp.1 lo.2 lp.2 h0 h1).1 h
  have hd := dir_dr lo.2 lp.2 hdir
  have hs' := sep_rf ho hp lo.1 lp.1 lo'.1 lp'.1 hd hs
  refine (apart_iff lo'.1 lp'.1 lo'.2 lp'.2 h0 h1).2 ?_
  rcases hdir with ⟨rfl, rfl⟩ | ⟨rfl, rfl⟩ | ⟨i, rfl, rfl⟩ | ⟨i, rfl, rfl⟩
  · refine ⟨1, 0, .inl ⟨rfl, rfl⟩, ?_⟩
    have := hs'.neg
    simpa using this
  · exact ⟨0, 1, .inr (.inl ⟨rfl, rfl⟩), by simpa using hs'⟩
  · obtain ⟨j, e1, e2⟩ := dir_rf ho lo.1 lo'.1 i
    exact ⟨_, _, .inr (.inr (.inl ⟨j, rfl, rfl⟩)), by rw [e1, e2]; exact hs'⟩
  · obtain ⟨j, e1, e2⟩ := dir_rf hp lp.1 lp'.1 i
    exact ⟨_, _, .inr (.inr (.inr ⟨j, rfl, rfl⟩)), by rw [e1, e2]; exact hs'⟩
theorem apart_rf {W : Int} {o p o' p' : List XY} (ho : Refl W o o') (hp : Refl W p p') (lo : Lay o) (lp : Lay p) (lo' : Lay o') (lp' : Lay p') {g : Int} (h0 : 0 ≤ g) (h1 : g ≤ 2000) : apartB o' p' g = apartB o p g := by
  rw [Bool.eq_iff_iff]
  exact ⟨rf_go ho.symm hp.symm lo' lp' lo lp h0 h1, rf_go ho hp lo lp lo' lp' h0 h1⟩
theorem mem_rf {W : Int} {l l' : List XY} (h : Refl W l l') (h0' : 0 < l'.length) {q : XY} (hq : q ∈ l) : rf W q ∈ l' := by
  obtain ⟨k, hk⟩ := List.getElem?_of_mem hq
  obtain ⟨j, _, h2⟩ := h.fw k
  rw [cy_lt hk] at h2
  rw [← h2]
  exact cy_mem h0' _
theorem beyond_rf {W H : Int} {l l' : List XY} (h : Refl W l l') (h0 : 0 < l.length) (h0' : 0 < l'.length) : beyondB W H l' = beyondB W H l := by
  have go : ∀ {a b : List XY}, Refl W a b → 0 < b.length → beyondB W H a = true → beyondB W H b = true := fun {a b} hab hb hh => by
    unfold beyondB at hh ⊢
    obtain ⟨q, hq, hbad⟩ := List.any_eq_true.1 hh
    refine List.any_eq_true.2 ⟨rf W q, mem_rf hab hb hq, ?_⟩
    simp only [betw, Bool.or_eq_true, Bool.not_eq_true', Bool.and_eq_false_iff, decide_eq_false_iff_not] at hbad ⊢
    unfold rf
    simp only
    omega
  rw [Bool.eq_iff_iff]
  exact ⟨go h.symm h0, go h h0'⟩
end Go.Proofs.Ytohlinbcbfgdfaa

namespace Go.Proofs.Ytohlinbcbfgdfaa
open Go.RowKit (wrap64)

/-- A list and its image, taken backwards. -/
theorem refl_rev {W : Int} {l m : List XY} (h0 : 0 < l.length) (hm : m.length = l.length) (h : ∀ j, cy m j = rf W (cy l j)) : Refl W l m.reverse := by
  have hr : ∀ j, cy m.reverse j = rf W (cy l (l.length - 1 - j % l.length)) := fun j => by rw [cy_rev (by omega), h, hm]
  have nxt : ∀ j, cy l (l.length - 1 - (j + 1) % l.length + 1) = cy l (l.length - 1 - j % l.length) := fun j => by
    have hj := Nat.mod_lt j h0
    by_cases hc : j % l.length + 1 < l.length
    · have e : (j + 1) % l.length = j % l.length + 1 := by rw [Nat.add_mod, Nat.mod_eq_of_lt (show 1 < l.length by omega), Nat.mod_eq_of_lt hc]
      rw [e, show l.length - 1 - (j % l.length + 1) + 1 = l.length - 1 - j % l.length by omega]
    · have e1 : j % l.length = l.length - 1 := by omega
      have e : (j + 1) % l.length = 0 := by
        have hd := Nat.div_add_mod j l.length
        have : j + 1 = l.length * (j / l.length) + l.length := by omega
        rw [this, Nat.mul_add_mod, Nat.mod_self]
      rw [e, e1, show l.length - 1 - 0 + 1 = 0 + l.length by omega, cy_per, show l.length - 1 - (l.length - 1) = 0 by omega]
  have key : ∀ j, cy m.reverse j = rf W (cy l (l.length - 1 - (j + 1) % l.length + 1)) ∧ cy m.reverse (j + 1) = rf W (cy l (l.length - 1 - (j + 1) % l.length)) := fun j => ⟨by rw [hr, nxt], hr _⟩
  refine ⟨fun i => ?_, fun j => ⟨_, key j⟩⟩
  have hi := Nat.mod_lt i h0
  refine ⟨l.length - 1 - i % l.length + (l.length - 1), ?_⟩
  obtain ⟨k1, k2⟩ := key (l.length - 1 - i % l.length + (l.length - 1))
  have e : (l.length - 1 - i % l.length + (l.length - 1) + 1) % l.length = l.length - 1 - i % l.length := by
    rw [show l.length - 1 - i % l.length + (l.length - 1) + 1 = l.length - 1 - i % l.length + l.length by omega, Nat.add_mod_right, Nat.mod_eq_of_lt (by omega)]
  rw [e, show l.length - 1 - (l.length - 1 - i % l.length) = i % l.length by omega] at k1 k2
  rw [cy_mod] at k2
  have k3 : cy l (i % l.length + 1) = cy l (i + 1) := by
    rw [← cy_mod l (i % l.length + 1), ← cy_mod l (i + 1), Nat.add_mod (i % l.length), Nat.mod_mod, ← Nat.add_mod]
  rw [k3] at k1
  exact ⟨k1, k2⟩
theorem refl_mir {o : List XY} (h : validB o = true) : Refl 0 o (o.map fMir).reverse := by
  have hl := validB_len' h
  refine refl_rev (by omega) (List.length_map _) fun j => ?_
  rw [cy_map (by omega), fMir_eq (bd_cy (by omega) (validB_ranged h) j)]
  unfold rf
  simp only [Int.zero_sub]
/-- A change of all corners that goes along with the mirror. -/
theorem refl_map {W V : Int} {l l' : List XY} {f g : XY → XY} (h : Refl W l l') (h0 : 0 < l.length) (h0' : 0 < l'.length) (hfg : ∀ i j, cy l' j = rf W (cy l i) → g (cy l' j) = rf V (f (cy l i))) : Refl V (l.map f) (l'.map g) := by
  constructor
  · intro i
    obtain ⟨j, h1, h2⟩ := h.fw i
    exact ⟨j, by rw [cy_map h0', cy_map h0]; exact hfg _ _ h1, by rw [cy_map h0', cy_map h0]; exact hfg _ _ h2⟩
  · intro j
    obtain ⟨i, h1, h2⟩ := h.bw j
    exact ⟨i, by rw [cy_map h0', cy_map h0]; exact hfg _ _ h1, by rw [cy_map h0', cy_map h0]; exact hfg _ _ h2⟩
theorem refl_canon {W : Int} {l l' : List XY} (h : Refl W l l') (hv : validB l = true) (hv' : validB l' = true) : Refl W (canonL l) (canonL l') := by
  have hl := validB_len' hv
  have hl' := validB_len' hv'
  rw [canon_rot (by omega) (bd_cy' (by omega) (validB_ranged hv)), canon_rot (by omega) (bd_cy' (by omega) (validB_ranged hv'))]
  exact h.rot (atTo_lt (by omega) _ (Nat.le_refl _)) (atTo_lt (by omega) _ (Nat.le_refl _))
/-- A part in a mirror. -/
def mirO (o : List XY) : List XY := canonL (o.map fMir).reverse
theorem mirO_valid {o : List XY} (h : validB o = true) : validB (mirO o) = true := (canon_len (valid_mir h)).1
theorem refl_mirO {o : List XY} (h : validB o = true) : Refl 0 (canonL o) (mirO o) := refl_canon (refl_mir h) h (valid_mir h)
theorem refl_lyB {o : List XY} (h : validB o = true) (t : Bool) : Refl 0 (lyB o t) (lyB (mirO o) t) := by
  have hv := mirO_valid h
  have h1 : Refl 0 (canonL o) (canonL (mirO o)) := by
    have := refl_canon (refl_mirO h) (canon_len h).1 hv
    have hl := validB_len' h
    rwa [canon_canon (by omega) (bd_cy' (by omega) (validB_ranged h))] at this
  cases t
  · exact h1
  · have hc := (canon_len h).1
    have hc' := (canon_len hv).1
    have hl := validB_len' hc
    have hl' := validB_len' hc'
    refine refl_canon ?_ (valid_turn hc) (valid_turn hc')
    refine refl_map h1 (by omega) (by omega) fun i j e => ?_
    have hb := bd_cy (show 0 < (canonL o).length by omega) (validB_ranged hc) i
    rw [e]
    obtain ⟨b1, b2, b3, b4⟩ := hb
    unfold fTurn rf
    simp only
    rw [w64_id (by omega) (by omega), w64_id (by omega) (by omega), w64_id (by omega) (by omega)]
    simp only [XY.mk.injEq, and_true]
    omega
theorem refl_ly {o : List XY} (h : validB o = true) {W X Y : Int} (hW0 : 0 ≤ W) (hW : W ≤ 60000) (hX : -70000 ≤ X) (hX2 : X ≤ 70000) (hY : -130000 ≤ Y) (hY2 : Y ≤ 130000) (t : Bool) : Refl W (lyL o X Y t) (lyL (mirO o) (W - X) Y t) := by
  have hv := mirO_valid h
  obtain ⟨v1, v2⟩ := lyB_valid h t
  obtain ⟨v1', v2'⟩ := lyB_valid hv t
  have hl := validB_len' v1
  have hl' := validB_len' v1'
  rw [lyL_eq, lyL_eq]
  refine refl_map (refl_lyB h t) (by omega) (by omega) fun i j e => ?_
  obtain ⟨b1, b2, b3, b4⟩ := bd_cy (show 0 < (lyB o t).length by omega) (validB_ranged v1) i
  rw [e]
  unfold fMove rf
  simp only
  rw [w64_id (by omega) (by omega), w64_id (by omega) (by omega), w64_id (by omega) (by omega)]
  simp only [XY.mk.injEq, and_true]
  omega
/-- A fault in a mirror. -/
def mirR (W : Int) (r : RC) : RC := ⟨wrap64 (wrap64 (W - r.X) - r.W), r.Y, r.W, r.H⟩
theorem refl_rc {b : BD} (hb : boardB b = true) {r : RC} (hr : r ∈ b.F) : Refl b.W (rcL r) (rcL (mirR b.W r)) := by
  obtain ⟨b1, b2, b3, b4, _, _, _⟩ := boardB_facts hb
  obtain ⟨⟨⟨x1, x2⟩, x3, x4⟩, ⟨y1, y2⟩, y3, y4⟩ := (rcBad_iff r).1 (boardB_no hb hr)
  rw [w64_id (by omega) (by omega)] at x4 y4
  have e1 : wrap64 (r.X + r.W) = r.X + r.W := w64_id (by omega) (by omega)
  have e2 : wrap64 (r.Y + r.H) = r.Y + r.H := w64_id (by omega) (by omega)
  have e3 : wrap64 (wrap64 (b.W - r.X) - r.W) = b.W - r.X - r.W := by rw [w64_id (n := b.W - r.X) (by omega) (by omega)]; exact w64_id (by omega) (by omega)
  have e4 : wrap64 (b.W - r.X - r.W + r.W) = b.W - r.X := by rw [w64_id (by omega) (by omega)]; omega
  have hl : rcL r = [⟨r.X, r.Y⟩, ⟨r.X + r.W, r.Y⟩, ⟨r.X + r.W, r.Y + r.H⟩, ⟨r.X, r.Y + r.H⟩] := by unfold rcL; rw [e1, e2]
  have hm : rcL (mirR b.W r) = [⟨b.W - r.X - r.W, r.Y⟩, ⟨b.W - r.X, r.Y⟩, ⟨b.W - r.X, r.Y + r.H⟩, ⟨b.W - r.X - r.W, r.Y + r.H⟩] := by unfold rcL mirR; simp only; rw [e3, e4, e2]
  rw [hl, hm]
  have e5 : b.W - (r.X + r.W) = b.W - r.X - r.W := by omega
  have four : ∀ (p q s t : XY) (i : Nat), (i % 4 = 0 ∧ cy [p, q, s, t] i = p ∧ cy [p, q, s, t] (i + 1) = q) ∨ (i % 4 = 1 ∧ cy [p, q, s, t] i = q ∧ cy [p, q, s, t] (i + 1) = s) ∨ (i % 4 = 2 ∧ cy [p, q, s, t] i = s ∧ cy [p, q, s, t] (i + 1) = t) ∨ (i % 4 = 3 ∧ cy [p, q, s, t] i = t ∧ cy [p, q, s, t] (i + 1) = p) := fun p q s t i => by
    unfold cy
    have h4 : [p, q, s, t].length = 4 := rfl
    rw [h4]
    have hlt := Nat.mod_lt i (show 0 < 4 by omega)
    rcases (show i % 4 = 0 ∨ i % 4 = 1 ∨ i % 4 = 2 ∨ i % 4 = 3 by omega) with h | h | h | h
    · rw [show (i + 1) % 4 = 1 by omega, h]; exact .inl ⟨rfl, rfl, rfl⟩
    · rw [show (i + 1) % 4 = 2 by omega, h]; exact .inr (.inl ⟨rfl, rfl, rfl⟩)
    · rw [show (i + 1) % 4 = 3 by omega, h]; exact .inr (.inr (.inl ⟨rfl, rfl, rfl⟩))
    · rw [show (i + 1) % 4 = 0 by omega, h]; exact .inr (.inr (.inr ⟨rfl, rfl, rfl⟩))
  have w4 : ∀ p q s t : XY, cy [p, q, s, t] (3 + 1) = p := fun p q s t => by unfold cy; simp
  constructor
  · intro i
    rcases four ⟨r.X, r.Y⟩ ⟨r.X + r.W, r.Y⟩ ⟨r.X + r.W, r.Y + r.H⟩ ⟨r.X, r.Y + r.H⟩ i with ⟨_, h1, h2⟩ | ⟨_, h1, h2⟩ | ⟨_, h1, h2⟩ | ⟨_, h1, h2⟩
    · exact ⟨0, by rw [h2]; unfold rf; simp only [e5]; rfl, by rw [h1]; rfl⟩
    · exact ⟨3, by rw [h2]; unfold rf; simp only [e5]; rfl, by rw [h1, w4]; unfold rf; simp only [e5]⟩
    · exact ⟨2, by rw [h2]; rfl, by rw [h1]; unfold rf; simp only [e5]; rfl⟩
    · exact ⟨1, by rw [h2]; rfl, by rw [h1]; rfl⟩
  · intro j
    rcases four ⟨b.W - r.X - r.W, r.Y⟩ ⟨b.W - r.X, r.Y⟩ ⟨b.W - r.X, r.Y + r.H⟩ ⟨b.W - r.X - r.W, r.Y + r.H⟩ j with ⟨_, h1, h2⟩ | ⟨_, h1, h2⟩ | ⟨_, h1, h2⟩ | ⟨_, h1, h2⟩
    · exact ⟨0, by rw [h1]; show _ = rf b.W ⟨r.X + r.W, r.Y⟩; unfold rf; simp only [e5], by rw [h2]; rfl⟩
    · exact ⟨3, by rw [h1, w4]; rfl, by rw [h2]; rfl⟩
    · exact ⟨2, by rw [h1]; rfl, by rw [h2]; show _ = rf b.W ⟨r.X + r.W, r.Y + r.H⟩; unfold rf; simp only [e5]⟩
    · exact ⟨1, by rw [h1]; show _ = rf b.W ⟨r.X + r.W, r.Y + r.H⟩; unfold rf; simp only [e5], by rw [h2]; show _ = rf b.W ⟨r.X + r.W, r.Y⟩; unfold rf; simp only [e5]⟩
end Go.Proofs.Ytohlinbcbfgdfaa

namespace Go.Proofs.Ytohlinbcbfgdfaa
open Go.RowKit (wrap64)

def mirB (b : BD) : BD := ⟨b.W, b.H, b.G, b.F.map (mirR b.W)⟩
def mirL (W : Int) (p : PL) : PL := ⟨p.part, wrap64 (W - p.X), p.Y, p.t⟩
/-- The parts' mirror images, wherever they lie. -/
structure MirPs (ps qs : List PT) : Prop where
  len : qs.length = ps.length
  each : ∀ (i : Nat) (p q : PT), ps[i]? = some p → qs[i]? = some q → q.o = mirO p.o ∧ q.t = p.t

theorem mirR_facts {b : BD} (hb : boardB b = true) {r : RC} (hr : r ∈ b.F) : mirR b.W r = ⟨b.W - r.X - r.W, r.Y, r.W, r.H⟩ ∧ 0 ≤ r.X ∧ 1 ≤ r.W ∧ r.X + r.W ≤ b.W ∧ 0 ≤ r.Y ∧ 1 ≤ r.H ∧ r.Y + r.H ≤ b.H := by
  obtain ⟨b1, b2, b3, b4, _, _, _⟩ := boardB_facts hb
  obtain ⟨⟨⟨x1, x2⟩, x3, x4⟩, ⟨y1, y2⟩, y3, y4⟩ := (rcBad_iff r).1 (boardB_no hb hr)
  rw [w64_id (by omega) (by omega)] at x4 y4
  refine ⟨?_, by omega, by omega, by omega, by omega, by omega, by omega⟩
  unfold mirR
  rw [w64_id (n := b.W - r.X) (by omega) (by omega), w64_id (by omega) (by omega)]
theorem mirB_board {b : BD} (hb : boardB b = true) : boardB (mirB b) = true := by
  have h := hb
  obtain ⟨b1, b2, b3, b4, _, _, _⟩ := boardB_facts hb
  unfold boardB at h ⊢
  simp only [Bool.and_eq_true, Bool.not_eq_true', decide_eq_true_eq] at h ⊢
  obtain ⟨⟨⟨⟨h1, h2⟩, h3⟩, h4⟩, h5⟩ := h
  refine ⟨⟨⟨⟨h1, h2⟩, h3⟩, by unfold mirB; simpa using h4⟩, ?_⟩
  rw [List.any_eq_false]
  intro r' hr'
  obtain ⟨r, hr, rfl⟩ := List.mem_map.1 (show r' ∈ b.F.map (mirR b.W) from hr')
  obtain ⟨e, f1, f2, f3, f4, f5, f6⟩ := mirR_facts hb hr
  rw [Bool.not_eq_true, rcBad_iff]
  show ((0 ≤ (mirR b.W r).X ∧ (mirR b.W r).X ≤ b.W) ∧ 1 ≤ (mirR b.W r).W ∧ (mirR b.W r).W ≤ wrap64 (b.W - (mirR b.W r).X)) ∧ (0 ≤ (mirR b.W r).Y ∧ (mirR b.W r).Y ≤ b.H) ∧ 1 ≤ (mirR b.W r).H ∧ (mirR b.W r).H ≤ wrap64 (b.H - (mirR b.W r).Y)
  rw [e]
  dsimp only
  rw [w64_id (by omega) (by omega), w64_id (by omega) (by omega)]
  omega
theorem mirR_mirR {b : BD} (hb : boardB b = true) {r : RC} (hr : r ∈ b.F) : mirR b.W (mirR b.W r) = r := by
  obtain ⟨e, f1, f2, f3, f4, f5, f6⟩ := mirR_facts hb hr
  obtain ⟨b1, b2, b3, b4, _, _, _⟩ := boardB_facts hb
  rw [e]
  unfold mirR
  dsimp only
  rw [w64_id (n := b.W - (b.W - r.X - r.W)) (by omega) (by omega), w64_id (by omega) (by omega)]
  cases r
  simp only [RC.mk.injEq, and_true]
  omega
theorem mirB_mirB {b : BD} (hb : boardB b = true) : mirB (mirB b) = b := by
  have e : (b.F.map (mirR b.W)).map (mirR b.W) = b.F := by
    rw [List.map_map]
    conv => rhs; rw [← List.map_id b.F]
    exact List.map_congr_left fun r hr => mirR_mirR hb hr
  unfold mirB
  dsimp only
  rw [e]
theorem mirPs_valid {ps qs : List PT} (h : MirPs ps qs) (hp : partsB ps = true) : partsB qs = true := by
  unfold partsB
  simp only [Bool.and_eq_true, Bool.not_eq_true', decide_eq_true_eq, List.any_eq_false]
  refine ⟨by rw [h.len]; exact partsB_len hp, fun q hq => ?_⟩
  obtain ⟨i, hi⟩ := List.getElem?_of_mem hq
  have hlt := (List.getElem?_eq_some_iff.1 hi).1
  obtain ⟨p, hpi⟩ := getElem?_of_lt (show i < ps.length by rw [← h.len]; exact hlt)
  rw [(h.each i p q hpi hi).1, mirO_valid (partsB_each hp (List.mem_of_getElem? hpi))]
  simp

/-- A right layout's place: near the board. -/
theorem place_near {b : BD} {ps : List PT} {p : PL} (hp : partsB ps = true) (hr : rightB ps p = true) (hbe : beyondB b.W b.H (lyP ps p) = false) : -5000 ≤ p.X ∧ p.X ≤ b.W + 5000 ∧ -120000 ≤ p.Y ∧ p.Y ≤ 120000 := by
  have hpl := rightB_placed hr
  obtain ⟨k, pt, hpk, hk, hat, hf⟩ := placed_get hpl
  have hv := partsB_each hp (List.mem_of_getElem? hk)
  have hy : -120000 ≤ p.Y ∧ p.Y ≤ 120000 := by
    simp only [placedB, betw, Bool.and_eq_true, decide_eq_true_eq] at hpl; omega
  have hl := lyP_len hp hpl
  unfold lyP at hbe hl
  rw [hat] at hbe hl
  obtain ⟨e, b1, b2, b3, b4⟩ := ly_cy hv hf p.t 0
  unfold beyondB at hbe
  rw [List.any_eq_false] at hbe
  have hm := hbe _ (cy_mem (show 0 < (lyL pt.o p.X p.Y p.t).length by omega) 0)
  rw [e] at hm
  simp only [betw, Bool.or_eq_true, Bool.not_eq_true', Bool.and_eq_false_iff, decide_eq_false_iff_not] at hm
  omega
theorem mir_part {ps qs : List PT} (h : MirPs ps qs) {k : Nat} {pt : PT} (hk : ps[k]? = some pt) : ∃ qt, qs[k]? = some qt ∧ qt.o = mirO pt.o ∧ qt.t = pt.t := by
  have hlt := (List.getElem?_eq_some_iff.1 hk).1
  obtain ⟨q, hq⟩ := getElem?_of_lt (show k < qs.length by rw [h.len]; exact hlt)
  exact ⟨q, hq, h.each k pt q hk hq⟩
theorem mir_place {b : BD} {ps qs : List PT} {p : PL} (h : MirPs ps qs) (hb : boardB b = true) (hp : partsB ps = true) (hr : rightB ps p = true) (hbe : beyondB b.W b.H (lyP ps p) = false) :
    rightB qs (mirL b.W p) = true ∧ Refl b.W (lyP ps p) (lyP qs (mirL b.W p)) ∧ mirL b.W (mirL b.W p) = p ∧ (partAt qs p.part).o = mirO (partAt ps p.part).o ∧ validB (partAt ps p.part).o = true := by
  obtain ⟨n1, n2, n3, n4⟩ := place_near hp hr hbe
  obtain ⟨b1, b2, b3, b4, _, _, _⟩ := boardB_facts hb
  have hpl := rightB_placed hr
  obtain ⟨k, pt, hpk, hk, hat, hf⟩ := placed_get hpl
  have hv := partsB_each hp (List.mem_of_getElem? hk)
  obtain ⟨qt, hq, ho, ht⟩ := mir_part h hk
  have hat2 : partAt qs p.part = qt := by rw [hpk]; exact partAt_eq hq
  have e : wrap64 (b.W - p.X) = b.W - p.X := w64_id (by omega) (by omega)
  have hm : mirL b.W p = ⟨p.part, b.W - p.X, p.Y, p.t⟩ := by unfold mirL; rw [e]
  refine ⟨?_, ?_, ?_, by rw [hat2, hat, ho], by rw [hat]; exact hv⟩
  · rw [hm]
    unfold rightB placedB betw at hr ⊢
    simp only [Bool.and_eq_true, decide_eq_true_eq] at hr ⊢
    rw [hat2, ht, h.len]
    rw [hat] at hr
    obtain ⟨⟨⟨r1, r2⟩, r3, r4⟩, r5⟩ := hr
    exact ⟨⟨⟨r1, r2⟩, ⟨by omega, by omega⟩, r4⟩, r5⟩
  · rw [hm]
    unfold lyP
    dsimp only
    rw [hat2, hat, ho]
    exact refl_ly hv (by omega) (by omega) (by omega) (by omega) (by omega) (by omega) p.t
  · rw [hm]
    unfold mirL
    dsimp only
    rw [show b.W - (b.W - p.X) = p.X by omega, w64_id (by omega) (by omega)]

/-- A right layout is right in a mirror. -/
theorem mir_right {b : BD} {ps qs : List PT} {L : List PL} (h : MirPs ps qs) (hc : (checkS b ps L).2 = 0) : (checkS (mirB b) qs (L.map (mirL b.W))).2 = 0 := by
  have hrl := checkS_ok hc
  obtain ⟨c1, c2, c3⟩ := (checkS_zero hrl.hb hrl.hp).1 hc
  obtain ⟨d1, d2, d3⟩ := check3S_zero.1 c3
  rw [any_map', List.any_eq_false] at d1 d2
  obtain ⟨b1, b2, b3, b4, b5, b6, _⟩ := boardB_facts hrl.hb
  have hq := mirPs_valid h hrl.hp
  have hmb := mirB_board hrl.hb
  have hpl : ∀ p ∈ L, rightB qs (mirL b.W p) = true ∧ Refl b.W (lyP ps p) (lyP qs (mirL b.W p)) ∧ Lay (lyP ps p) ∧ Lay (lyP qs (mirL b.W p)) := fun p hp => by
    obtain ⟨m1, m2, _⟩ := mir_place h hrl.hb hrl.hp (hrl.hr p hp) (by simpa using d1 p hp)
    exact ⟨m1, m2, lyP_lay hrl.hp (rightB_placed (hrl.hr p hp)), lyP_lay hq (rightB_placed m1)⟩
  rw [checkS_zero hmb hq, check3S_zero]
  refine ⟨by rw [List.length_map]; exact c1, ?_, ?_, ?_, ?_⟩
  · rw [any_map', List.any_eq_false]
    intro p hp
    rw [(hpl p hp).1]; simp
  · rw [any_map', any_map', List.any_eq_false]
    intro p hp
    obtain ⟨_, m2, m3, m4⟩ := hpl p hp
    show ¬ beyondB b.W b.H (lyP qs (mirL b.W p)) = true
    rw [beyond_rf m2 m3.1.1 m4.1.1]
    exact d1 p hp
  · rw [any_map', any_map', List.any_eq_false]
    intro p hp
    obtain ⟨_, m2, m3, m4⟩ := hpl p hp
    have hf := d2 p hp
    unfold faultyB at hf ⊢
    show ¬ (b.F.map (mirR b.W)).any (fun r => !apartB (lyP qs (mirL b.W p)) (rcL r) 0) = true
    rw [any_map']
    have e : b.F.any (fun r => !apartB (lyP qs (mirL b.W p)) (rcL (mirR b.W r)) 0) = b.F.any (fun r => !apartB (lyP ps p) (rcL r) 0) := any_congr' fun r hr => by
      rw [apart_rf m2 (refl_rc hrl.hb hr) m3 (lay_rc hrl.hb hr) m4 (lay_rc (b := mirB b) hmb (List.mem_map.2 ⟨r, hr, rfl⟩)) (by omega) (by omega)]
    rw [e]
    exact hf
  · rw [List.any_eq_false] at d3 ⊢
    intro n hn
    have hnl := List.mem_range.1 hn
    rw [List.length_map, List.length_map] at hnl
    have hd := d3 n (List.mem_range.2 (by rw [List.length_map]; exact hnl))
    obtain ⟨p, hp⟩ := getElem?_of_lt hnl
    obtain ⟨_, m2, m3, m4⟩ := hpl p (List.mem_of_getElem? hp)
    have e : clash (mirB b).G ((L.map (mirL b.W)).map (lyP qs)) n = clash b.G (L.map (lyP ps)) n := by
      unfold clash
      rw [List.getElem?_map, List.getElem?_map, List.getElem?_map, hp, ← List.map_take, ← List.map_take, ← List.map_take, any_map', any_map', any_map']
      refine any_congr' fun q hq => ?_
      obtain ⟨_, k2, k3, k4⟩ := hpl q (List.mem_of_mem_take hq)
      show (!apartB (lyP qs (mirL b.W p)) (lyP qs (mirL b.W q)) b.G) = !apartB (lyP ps p) (lyP ps q) b.G
      rw [apart_rf m2 k2 m3 k3 m4 k4 b5 b6]
    rw [e]
    exact hd
end Go.Proofs.Ytohlinbcbfgdfaa

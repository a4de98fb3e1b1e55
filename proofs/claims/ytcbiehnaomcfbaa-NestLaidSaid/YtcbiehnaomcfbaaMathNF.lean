/- The rows of a part are right; one more place; at most as many as the bound says. -/
import Derived.Test.YtcbiehnaomcfbaaMathNE
namespace Go.Proofs.Ytcbiehnaomcfbaa
open Go.RowKit (wrap64)

theorem rowL_len {f : Nat → Nat → PL} {ok : PL → Bool} {nx : Nat} (j : Nat) : (rowL f ok nx j 0).length ≤ j * nx := by
  unfold rowL
  refine Nat.le_trans (List.length_filter_le _ _) ?_
  simp only [List.range_zero, List.map_nil, List.append_nil]
  induction j with
  | zero => simp
  | succ j ih =>
    rw [List.range_succ, List.flatMap_append, List.length_append, Nat.add_mul]
    simp only [List.flatMap_cons, List.flatMap_nil, List.append_nil, List.length_map, List.length_range]
    omega
theorem boxN_mul {len box gap : Int} (hb : 1 ≤ box) (hg : 0 ≤ gap) (hl : 0 ≤ len) : (boxN len box gap : Int) * box ≤ len := by
  rcases Nat.eq_zero_or_pos (boxN len box gap) with h | h
  · rw [h]; simp; exact hl
  · have h1 := (boxN_lt (len := len) hb hg (boxN len box gap - 1)).1 (by omega)
    generalize boxN len box gap = n at *
    obtain ⟨m, rfl⟩ : ∃ m, n = m + 1 := ⟨n - 1, by omega⟩
    have e : ((m + 1 : Nat) : Int) * box = (m : Int) * box + box := by rw [Int.natCast_add, Int.add_mul]; simp
    have h2 : (m : Int) * box ≤ (m : Int) * (box + gap) := Int.mul_le_mul_of_nonneg_left (by omega) (by omega)
    rw [show m + 1 - 1 = m by omega] at h1
    omega
theorem rows_bound {b : BD} {pt : PT} {k : Nat} (hb : boardB b = true) (hv : validB pt.o = true)
    (he : (rowsOf b pt k (nearW 1 0 (base0 pt)) (farW 1 0 (base0 pt)) (nearW 0 1 (base0 pt)) (farW 0 1 (base0 pt))).2 = 0) :
    ((rowsOf b pt k (nearW 1 0 (base0 pt)) (farW 1 0 (base0 pt)) (nearW 0 1 (base0 pt)) (farW 0 1 (base0 pt))).1.length : Int) ≤ (2 * b.W * b.H).tdiv (areaW pt.o) := by
  obtain ⟨b1, b2, b3, b4, b5, b6, _⟩ := boardB_facts hb
  obtain ⟨q1, q2, q3, q4⟩ := canon_ends hv
  have hends := ends_facts hv
  have harea := area_box hv
  have hpos := (twice_pos hv).1
  rw [← area_eq hv] at hpos
  rw [lyL_zero hv, q1, q2, q3, q4] at he ⊢
  generalize nearW 1 0 pt.o = left at *
  generalize farW 1 0 pt.o = right at *
  generalize nearW 0 1 pt.o = low at *
  generalize farW 0 1 pt.o = high at *
  obtain ⟨l1, l2, l3, l4, l5, l6⟩ := hends
  unfold rowsOf at he ⊢
  dsimp only at he ⊢
  have m1 := boxN_mul (len := b.W) (box := right - left) (gap := b.G) (by omega) b5 (by omega)
  have m2 := boxN_mul (len := b.H) (box := high - low) (gap := b.G) (by omega) b5 (by omega)
  split at he
  · simp at he
  rename_i hbig
  rw [if_neg hbig]
  generalize boxN b.W (right - left) b.G = nx at *
  generalize boxN b.H (high - low) b.G = ny at *
  have hlen := rowL_len (f := stand b.G left low (right - left) (high - low) k) (ok := free0 b.F pt) (nx := nx) ny
  have ht : ((rowL (stand b.G left low (right - left) (high - low) k) (free0 b.F pt) nx ny 0).take 200).length ≤ ny * nx := by
    rw [List.length_take]; omega
  generalize ((rowL (stand b.G left low (right - left) (high - low) k) (free0 b.F pt) nx ny 0).take 200).length = n at *
  have hP : 0 ≤ 2 * b.W * b.H := Int.mul_nonneg (by omega) (by omega)
  rw [Int.tdiv_eq_ediv_of_nonneg hP]
  rw [Int.le_ediv_iff_mul_le hpos]
  generalize areaW pt.o = a at *
  have w1 : 0 ≤ right - left := by omega
  have w2 : 0 ≤ high - low := by omega
  generalize right - left = wd at *
  generalize high - low = tl at *
  have hn : (n : Int) ≤ (ny : Int) * (nx : Int) := by have : (n : Int) ≤ ((ny * nx : Nat) : Int) := by omega
                                                      simpa using this
  have s1 : (n : Int) * a ≤ (ny : Int) * (nx : Int) * a := Int.mul_le_mul_of_nonneg_right hn (by omega)
  have h0 : 0 ≤ (ny : Int) * (nx : Int) := Int.mul_nonneg (by omega) (by omega)
  have s2 : (ny : Int) * (nx : Int) * a ≤ (ny : Int) * (nx : Int) * (2 * wd * tl) := Int.mul_le_mul_of_nonneg_left harea h0
  have s3 : (ny : Int) * (nx : Int) * (2 * wd * tl) = 2 * ((nx : Int) * wd) * ((ny : Int) * tl) := by grind
  have h1 : 0 ≤ (nx : Int) * wd := Int.mul_nonneg (by omega) w1
  have h2 : 0 ≤ (ny : Int) * tl := Int.mul_nonneg (by omega) w2
  have s4 : 2 * ((nx : Int) * wd) * ((ny : Int) * tl) ≤ 2 * b.W * b.H := Int.mul_le_mul (by omega) m2 h2 (by omega)
  omega

theorem sep_dir {o p : List XY} (ho : Wd o) (hp : Wd p) {G u v : Int} (hd : Dr u v) (hn : u * u + v * v = 1) (h0 : 0 ≤ G) (h : ∀ i j, lin u v (cy p j) + G ≤ lin u v (cy o i)) : Sep o p u v G := by
  obtain ⟨_, i, ei⟩ := near_bot ho.1 u v
  obtain ⟨_, j, ej⟩ := far_top hp.1 u v
  have hij := h i j
  rw [← dotW_lin' hd (hp.2 j), ← dotW_lin' hd (ho.2 i), ei, ej] at hij
  refine .inl ⟨?_, ?_⟩
  · rw [← near_far ho hd]; omega
  · rw [← near_far ho hd, hn, Int.mul_one]
    exact sq_mono h0 (by omega)
theorem sep_x {o p : List XY} (ho : Wd o) (hp : Wd p) {G : Int} (h0 : 0 ≤ G) (h1 : G ≤ 2000) (h : ∀ i j, (cy p j).X + G ≤ (cy o i).X) : apartB o p G = true ∧ apartB p o G = true := by
  have S := sep_dir (u := 1) (v := 0) ho hp dr10 (by omega) h0 (fun i j => by have := h i j; unfold lin; omega)
  constructor
  · unfold apartB; rw [(splitB_iff ho hp dr10 h0 h1).2 S]; simp
  · unfold apartB; rw [(splitB_iff hp ho dr10 h0 h1).2 S.comm]; simp
theorem sep_y {o p : List XY} (ho : Wd o) (hp : Wd p) {G : Int} (h0 : 0 ≤ G) (h1 : G ≤ 2000) (h : ∀ i j, (cy p j).Y + G ≤ (cy o i).Y) : apartB o p G = true ∧ apartB p o G = true := by
  have S := sep_dir (u := 0) (v := 1) ho hp dr01 (by omega) h0 (fun i j => by have := h i j; unfold lin; omega)
  constructor
  · unfold apartB; rw [(splitB_iff ho hp dr01 h0 h1).2 S]; simp
  · unfold apartB; rw [(splitB_iff hp ho dr01 h0 h1).2 S.comm]; simp

theorem check3S_zero {b : BD} {os : List (List XY)} : (check3S b os).2 = 0 ↔ os.any (beyondB b.W b.H) = false ∧ os.any (faultyB b.F) = false ∧ (List.range os.length).any (clash b.G os) = false := by
  unfold check3S
  by_cases h1 : os.any (beyondB b.W b.H) = true
  · rw [if_pos h1, h1]; simp
  rw [if_neg h1]
  by_cases h2 : os.any (faultyB b.F) = true
  · rw [if_pos h2, h2]; simp
  rw [if_neg h2]
  by_cases h3 : (List.range os.length).any (clash b.G os) = true
  · rw [if_pos h3, h3]; simp
  rw [if_neg h3]
  rw [Bool.not_eq_true] at h1 h2 h3
  rw [h1, h2, h3]; simp
theorem checkS_zero {b : BD} {ps : List PT} {L : List PL} (hb : boardB b = true) (hp : partsB ps = true) : (checkS b ps L).2 = 0 ↔ L.length ≤ 200 ∧ L.any (fun p => !rightB ps p) = false ∧ (check3S b (L.map (lyP ps))).2 = 0 := by
  unfold checkS
  rw [hb, hp]
  simp only [Bool.and_self, Bool.not_true, Bool.false_eq_true, if_false]
  by_cases h1 : 200 < L.length
  · rw [if_pos h1]; simp; omega
  rw [if_neg h1]
  by_cases h2 : L.any (fun p => !rightB ps p) = true
  · rw [if_pos h2, h2]; simp
  rw [if_neg h2]
  rw [Bool.not_eq_true] at h2
  rw [h2]
  constructor
  · intro h; exact ⟨by omega, rfl, h⟩
  · rintro ⟨_, _, h⟩; exact h
theorem clash_left {g : Int} {os : List (List XY)} {o : List XY} {i : Nat} (h : i < os.length) : clash g (os ++ [o]) i = clash g os i := by
  unfold clash
  rw [List.getElem?_append_left h, List.take_append_of_le_length (by omega)]
theorem clash_last {g : Int} {os : List (List XY)} {o : List XY} : clash g (os ++ [o]) os.length = os.any (fun c => !apartB o c g) := by
  unfold clash
  rw [List.getElem?_append_right (Nat.le_refl _), Nat.sub_self, List.take_left' rfl]
  rfl
theorem check_append {b : BD} {ps : List PT} {L : List PL} {p : PL} (h : (checkS b ps L).2 = 0) : (checkS b ps (L ++ [p])).2 = 0 ↔ freeB b ps (L.map (lyP ps)) p = true := by
  have hrl := checkS_ok h
  obtain ⟨c1, c2, c3⟩ := (checkS_zero hrl.hb hrl.hp).1 h
  obtain ⟨d1, d2, d3⟩ := check3S_zero.1 c3
  rw [checkS_zero hrl.hb hrl.hp, check3S_zero]
  rw [List.map_append, List.any_append, List.any_append, List.any_append, c2, d1, d2, List.length_append, List.length_append]
  simp only [List.map_cons, List.map_nil, List.length_cons, List.length_nil, Nat.zero_add, List.any_cons, List.any_nil, Bool.or_false, Bool.false_or]
  have hr : (List.range ((L.map (lyP ps)).length + 1)).any (clash b.G (L.map (lyP ps) ++ [lyP ps p])) = (L.map (lyP ps)).any (fun c => !apartB (lyP ps p) c b.G) := by
    rw [List.range_succ, List.any_append]
    have e : (List.range (L.map (lyP ps)).length).any (clash b.G (L.map (lyP ps) ++ [lyP ps p])) = false := by
      rw [← d3]
      exact any_congr' fun i hi => clash_left (List.mem_range.1 hi)
    rw [e]
    simp only [List.any_cons, List.any_nil, Bool.or_false, Bool.false_or]
    exact clash_last
  rw [hr]
  unfold freeB
  simp only [Bool.and_eq_true, decide_eq_true_eq, Bool.not_eq_true', Bool.not_eq_false', List.length_map]
  constructor
  · rintro ⟨h1, h2, h3, h4, h5⟩; exact ⟨by omega, h2, h3, h4, h5⟩
  · rintro ⟨h1, h2, h3, h4, h5⟩; exact ⟨by omega, h2, h3, h4, h5⟩

/-- What Rows lays is right. -/
theorem rows_right {b : BD} {ps : List PT} {pt : PT} {k : Nat} (hb : boardB b = true) (hp : partsB ps = true) (hk : ps[k]? = some pt) :
    (checkS b ps (rowsOf b pt k (nearW 1 0 (base0 pt)) (farW 1 0 (base0 pt)) (nearW 0 1 (base0 pt)) (farW 0 1 (base0 pt))).1).2 = 0 := by
  have hv := partsB_each hp (List.mem_of_getElem? hk)
  have hkl : k < ps.length := (List.getElem?_eq_some_iff.1 hk).1
  have hps := partsB_len hp
  obtain ⟨b1, b2, b3, b4, b5, b6, _⟩ := boardB_facts hb
  have hvb : validB (base0 pt) = true := by rw [lyL_zero hv]; exact (canon_len hv).1
  have hends := ends_facts hvb
  have hw := wd_valid hvb
  obtain ⟨nx, _⟩ := near_bot hw.1 1 0
  obtain ⟨ny, _⟩ := near_bot hw.1 0 1
  obtain ⟨fx, _⟩ := far_top hw.1 1 0
  obtain ⟨fy, _⟩ := far_top hw.1 0 1
  have bx : ∀ j, nearW 1 0 (base0 pt) ≤ (cy (base0 pt) j).X ∧ (cy (base0 pt) j).X ≤ farW 1 0 (base0 pt) ∧ nearW 0 1 (base0 pt) ≤ (cy (base0 pt) j).Y ∧ (cy (base0 pt) j).Y ≤ farW 0 1 (base0 pt) := fun j => by
    have h1 := nx j; have h2 := fx j; have h3 := ny j; have h4 := fy j
    rw [(dot_xy (hw.2 j)).1] at h1 h2
    rw [(dot_xy (hw.2 j)).2] at h3 h4
    exact ⟨h1, h2, h3, h4⟩
  have hlb : lyB pt.o false = base0 pt := (lyL_zero hv).symm
  clear nx ny fx fy
  generalize nearW 1 0 (base0 pt) = left at *
  generalize farW 1 0 (base0 pt) = right at *
  generalize nearW 0 1 (base0 pt) = low at *
  generalize farW 0 1 (base0 pt) = high at *
  obtain ⟨l1, l2, l3, l4, l5, l6⟩ := hends
  rw [checkS_zero hb hp, check3S_zero]
  unfold rowsOf
  dsimp only
  split
  · simp
  rename_i hbig
  have hltx := fun i => boxN_lt (len := b.W) (box := right - left) (gap := b.G) (by omega) b5 i
  have hlty := fun i => boxN_lt (len := b.H) (box := high - low) (gap := b.G) (by omega) b5 i
  generalize boxN b.W (right - left) b.G = nx at *
  generalize boxN b.H (high - low) b.G = ny at *
  obtain ⟨S, hS⟩ : ∃ S, right - left + b.G = S := ⟨_, rfl⟩
  obtain ⟨T, hT⟩ : ∃ T, high - low + b.G = T := ⟨_, rfl⟩
  obtain ⟨f, hf⟩ : ∃ f, stand b.G left low (right - left) (high - low) k = f := ⟨_, rfl⟩
  have hfe : ∀ j i, f j i = ⟨k, (i : Int) * S - left, (j : Int) * T - low, false⟩ := fun j i => by rw [← hf, ← hS, ← hT]; rfl
  rw [hS] at hltx
  rw [hT] at hlty
  rw [hf]
  clear hf
  have hfar : ∀ j i, j < ny → i < nx → 0 ≤ (i : Int) * S ∧ (i : Int) * S + (right - left) ≤ b.W ∧ 0 ≤ (j : Int) * T ∧ (j : Int) * T + (high - low) ≤ b.H := fun j i hj hi =>
    ⟨Int.mul_nonneg (by omega) (by omega), (hltx i).1 hi, Int.mul_nonneg (by omega) (by omega), (hlty j).1 hj⟩
  have hat : partAt ps (k : Int) = pt := partAt_eq hk
  have hly : ∀ j i, lyP ps (f j i) = lyL pt.o ((i : Int) * S - left) ((j : Int) * T - low) false := fun j i => by
    unfold lyP; rw [hfe]; dsimp only; rw [hat]
  have hcy : ∀ j i, j < ny → i < nx → ∀ n, (i : Int) * S ≤ (cy (lyP ps (f j i)) n).X ∧ (cy (lyP ps (f j i)) n).X ≤ (i : Int) * S + (right - left) ∧ (j : Int) * T ≤ (cy (lyP ps (f j i)) n).Y ∧ (cy (lyP ps (f j i)) n).Y ≤ (j : Int) * T + (high - low) := fun j i hj hi n => by
    obtain ⟨g1, g2, g3, g4⟩ := hfar j i hj hi
    rw [hly, (ly_cy hv (by unfold Far; omega) false n).1, hlb]
    have := bx n
    dsimp only
    omega
  have hwd : ∀ j i, j < ny → i < nx → Wd (lyP ps (f j i)) := fun j i hj hi => by
    obtain ⟨g1, g2, g3, g4⟩ := hfar j i hj hi
    rw [hly]
    exact (lay_ly hv (by unfold Far; omega) false).1
  -- the members
  have hmem : ∀ p ∈ (rowL f (free0 b.F pt) nx ny 0).take 200, ∃ j i, j < ny ∧ i < nx ∧ p = f j i ∧ free0 b.F pt p = true := fun p hp => by
    have h1 := List.mem_of_mem_take hp
    unfold rowL at h1
    obtain ⟨h2, h3⟩ := List.mem_filter.1 h1
    simp only [List.range_zero, List.map_nil, List.append_nil] at h2
    obtain ⟨j, hj, h4⟩ := List.mem_flatMap.1 h2
    obtain ⟨i, hi, e⟩ := List.mem_map.1 h4
    exact ⟨j, i, List.mem_range.1 hj, List.mem_range.1 hi, e.symm, h3⟩
  have hpw : ((rowL f (free0 b.F pt) nx ny 0).take 200).Pairwise (fun p q => apartB (lyP ps q) (lyP ps p) b.G = true) := by
    refine List.Pairwise.sublist (List.take_sublist _ _) ?_
    unfold rowL
    refine List.Pairwise.sublist (List.filter_sublist) ?_
    simp only [List.range_zero, List.map_nil, List.append_nil]
    rw [List.pairwise_flatMap]
    constructor
    · intro j hj
      rw [List.pairwise_map]
      have hj' := List.mem_range.1 hj
      refine List.Pairwise.imp_of_mem ?_ (List.pairwise_lt_range (n := nx))
      intro i i' hi hi' hlt
      have hi1 := List.mem_range.1 hi
      have hi2 := List.mem_range.1 hi'
      refine (sep_x (hwd j i' hj' hi2) (hwd j i hj' hi1) b5 b6 fun n m => ?_).1
      have c1 := hcy j i hj' hi1 m
      have c2 := hcy j i' hj' hi2 n
      have hm : (i : Int) * S + S ≤ (i' : Int) * S := by
        have : ((i : Int) + 1) * S ≤ (i' : Int) * S := Int.mul_le_mul_of_nonneg_right (by omega) (by omega)
        rw [Int.add_mul, Int.one_mul] at this
        exact this
      omega
    · refine List.Pairwise.imp_of_mem ?_ (List.pairwise_lt_range (n := ny))
      intro j j' hj hj' hlt x hx y hy
      obtain ⟨i, hi, rfl⟩ := List.mem_map.1 hx
      obtain ⟨i', hi', rfl⟩ := List.mem_map.1 hy
      have hj1 := List.mem_range.1 hj
      have hj2 := List.mem_range.1 hj'
      have hi1 := List.mem_range.1 hi
      have hi2 := List.mem_range.1 hi'
      refine (sep_y (hwd j' i' hj2 hi2) (hwd j i hj1 hi1) b5 b6 fun n m => ?_).1
      have c1 := hcy j i hj1 hi1 m
      have c2 := hcy j' i' hj2 hi2 n
      have hm : (j : Int) * T + T ≤ (j' : Int) * T := by
        have : ((j : Int) + 1) * T ≤ (j' : Int) * T := Int.mul_le_mul_of_nonneg_right (by omega) (by omega)
        rw [Int.add_mul, Int.one_mul] at this
        exact this
      omega
  have hlen : ((rowL f (free0 b.F pt) nx ny 0).take 200).length ≤ 200 := by rw [List.length_take]; omega
  generalize (rowL f (free0 b.F pt) nx ny 0).take 200 = l at *
  refine ⟨hlen, ?_, ?_, ?_, ?_⟩
  · rw [List.any_eq_false]
    intro p hp
    obtain ⟨j, i, hj, hi, rfl, _⟩ := hmem p hp
    obtain ⟨g1, g2, g3, g4⟩ := hfar j i hj hi
    rw [hfe]
    simp only [rightB, placedB, betw, Bool.not_false, Bool.true_or, Bool.and_true, Bool.not_eq_true', Bool.and_eq_false_iff, decide_eq_false_iff_not]
    omega
  · rw [any_map', List.any_eq_false]
    intro p hp
    obtain ⟨j, i, hj, hi, rfl, _⟩ := hmem p hp
    obtain ⟨g1, g2, g3, g4⟩ := hfar j i hj hi
    unfold beyondB
    rw [List.any_eq_true]
    rintro ⟨q, hq, hbad⟩
    obtain ⟨n, hn⟩ := List.getElem?_of_mem hq
    have c := hcy j i hj hi n
    rw [cy_lt hn] at c
    simp only [betw, Bool.or_eq_true, Bool.not_eq_true', Bool.and_eq_false_iff, decide_eq_false_iff_not] at hbad
    omega
  · rw [any_map', List.any_eq_false]
    intro p hp
    obtain ⟨j, i, hj, hi, rfl, hok⟩ := hmem p hp
    unfold free0 at hok
    rw [hly]
    rw [hfe] at hok
    dsimp only at hok
    rw [Bool.not_eq_true'] at hok
    rw [hok]; simp
  · rw [List.any_eq_false]
    intro n hn
    have hnl := List.mem_range.1 hn
    rw [List.length_map] at hnl
    replace hnl : n < l.length := hnl
    unfold clash
    rw [List.any_eq_true]
    rintro ⟨c, hc, hbad⟩
    obtain ⟨m, hm⟩ := List.getElem?_of_mem hc
    have hml : m < n := by have := (List.getElem?_eq_some_iff.1 hm).1; simp at this; omega
    rw [List.getElem?_take, if_pos hml, List.getElem?_map] at hm
    rw [List.getElem?_map] at hbad
    obtain ⟨p, hp⟩ := getElem?_of_lt (show m < l.length by omega)
    obtain ⟨q, hq⟩ := getElem?_of_lt hnl
    rw [hp] at hm
    rw [hq] at hbad
    have e : lyP ps p = c := by simpa using hm
    have hR := (List.pairwise_iff_getElem.1 hpw) m n (by omega) hnl hml
    have e1 : l[m] = p := (List.getElem?_eq_some_iff.1 hp).2
    have e2 : l[n] = q := (List.getElem?_eq_some_iff.1 hq).2
    rw [e1, e2] at hR
    rw [← e] at hbad
    simp [hR] at hbad
end Go.Proofs.Ytcbiehnaomcfbaa

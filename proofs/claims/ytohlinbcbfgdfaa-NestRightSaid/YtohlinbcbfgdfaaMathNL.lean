/- A right layout: the areas of its parts together are at most the board's; it stays right without a place and in another order. -/
import Derived.Test.YtohlinbcbfgdfaaMathNK
import Derived.Test.YtohlinbcbfgdfaaMathNM
namespace Go.Proofs.Ytohlinbcbfgdfaa
open Go.RowKit (wrap64)

/-- A convex line of corners, from its lowest on: up, then down. -/
theorem poly_chain {l : List XY} (h3 : 3 ≤ l.length) (hc : Conv l) : ∃ a m, m ≤ l.length ∧ (∀ i, i < m → (cy l (a + i)).Y ≤ (cy l (a + i + 1)).Y) ∧ ∀ i, m ≤ i → i < l.length → (cy l (a + i + 1)).Y ≤ (cy l (a + i)).Y := by
  obtain ⟨_, ⟨j0, hj0⟩, huniq⟩ := once_of_convex h3 (cy_per l) hc
  have key : ∀ k, k ≤ l.length → ∃ m, m ≤ k ∧ (∀ i, i < m → up (dd (cy l) (j0 + 1 + i))) ∧ ∀ i, m ≤ i → i < k → ¬ up (dd (cy l) (j0 + 1 + i)) := by
    intro k
    induction k with
    | zero => intro _; exact ⟨0, Nat.le_refl _, fun i h => absurd h (Nat.not_lt_zero _), fun i _ h => absurd h (Nat.not_lt_zero _)⟩
    | succ k ih =>
      intro hk
      obtain ⟨m, hm, h1, h2⟩ := ih (by omega)
      by_cases hmk : m = k
      · subst hmk
        rcases Classical.em (up (dd (cy l) (j0 + 1 + m))) with hu | hu
        · refine ⟨m + 1, Nat.le_refl _, fun i hi => ?_, fun i hi hi2 => by omega⟩
          by_cases him : i = m
          · subst him; exact hu
          · exact h1 i (by omega)
        · refine ⟨m, by omega, h1, fun i hi hi2 => ?_⟩
          obtain rfl : i = m := by omega
          exact hu
      · refine ⟨m, by omega, h1, fun i hi hi2 => ?_⟩
        by_cases hik : i < k
        · exact h2 i hi hik
        · obtain rfl : i = k := by omega
          intro hc
          have hd := h2 (i - 1) (by omega) (by omega)
          rw [show j0 + 1 + (i - 1) = j0 + i by omega] at hd
          have := huniq (j0 + i) j0 ⟨hd, by rw [show j0 + i + 1 = j0 + 1 + i by omega]; exact hc⟩ hj0
          have h2 := Nat.sub_mod_eq_zero_of_mod_eq this
          rw [show j0 + i - j0 = i by omega, Nat.mod_eq_of_lt (by omega)] at h2
          omega
  obtain ⟨m, hm, h1, h2⟩ := key l.length (Nat.le_refl _)
  refine ⟨j0 + 1, m, hm, fun i hi => ?_, fun i hi hi2 => ?_⟩
  · have := up_dy (h1 i hi)
    unfold dd sb at this
    simp only at this
    omega
  · have := notup_dy (h2 i hi hi2)
    unfold dd sb at this
    simp only at this
    omega
theorem conv_left {l : List XY} (h3 : 3 ≤ l.length) (hc : Conv l) (i j : Nat) : 0 ≤ vx (dd (cy l) i) (sb (cy l i) (cy l j)) := by
  have h0 : ∀ t, t < l.length → 0 ≤ vx (dd (cy l) i) (sb (cy l i) (cy l (i + t))) := fun t ht => by
    by_cases h2 : 2 ≤ t
    · exact Int.le_of_lt (hc i t h2 ht)
    · rcases (show t = 0 ∨ t = 1 by omega) with rfl | rfl
      · unfold vx dd sb; simp
      · have : vx (dd (cy l) i) (sb (cy l i) (cy l (i + 1))) = 0 := vx_self _
        omega
  have hm := Nat.mod_lt i (show 0 < l.length by omega)
  have e : cy l (i + (j + (l.length - i % l.length)) % l.length) = cy l j := by
    rw [← cy_mod, Nat.add_mod, Nat.mod_mod, ← Nat.add_mod]
    have hd := Nat.div_add_mod i l.length
    rw [show i + (j + (l.length - i % l.length)) = j + l.length * (i / l.length) + l.length by omega, Nat.add_mod_right, Nat.add_mul_mod_self_left, cy_mod]
  have := h0 ((j + (l.length - i % l.length)) % l.length) (Nat.mod_lt _ (by omega))
  rwa [e] at this
theorem shoe_eq (X Y : Nat → Int) : ∀ n, shoeS X Y n = sumTo (fun i => X i * Y (i + 1) - Y i * X (i + 1)) n
  | 0 => rfl
  | n + 1 => by show shoeS X Y n + _ = sumTo _ n + _; rw [shoe_eq X Y n]
theorem shoe_move (X Y : Nat → Int) (x y : Int) : ∀ n, shoeS (fun i => X i + x) (fun i => Y i + y) n = shoeS X Y n + (x * (Y n - Y 0) - y * (X n - X 0))
  | 0 => by show (0 : Int) = 0 + _; rw [Int.sub_self, Int.sub_self]; simp
  | n + 1 => by
    show shoeS (fun i => X i + x) (fun i => Y i + y) n + ((X n + x) * (Y (n + 1) + y) - (Y n + y) * (X (n + 1) + x)) = shoeS X Y n + (X n * Y (n + 1) - Y n * X (n + 1)) + _
    rw [shoe_move X Y x y n]
    grind
theorem lyB_area {o : List XY} (h : validB o = true) (t : Bool) : areaW (lyB o t) = areaW o := by
  have hl := validB_len' h
  have can : ∀ {l : List XY}, validB l = true → areaW (canonL l) = areaW l := fun {l} hv => by
    have hvl := validB_len' hv
    rw [area_sides (canon_len hv).1, area_sides hv, canon_rot (by omega) (bd_cy' (by omega) (validB_ranged hv)), sides_rot vx (atTo_lt (by omega) _ (Nat.le_refl _))]
  cases t
  · exact can h
  · have hc := (canon_len h).1
    have hcl := validB_len' hc
    show areaW (canonL ((canonL o).map fTurn)) = _
    rw [can (valid_turn hc), area_sides (valid_turn hc), ← can h, area_sides hc]
    refine sides_map (by omega) fTurn fun i => ?_
    rw [fTurn_eq (bd_cy (by omega) (validB_ranged hc) i), fTurn_eq (bd_cy (by omega) (validB_ranged hc) (i + 1))]
    exact vx_neg _ _
/-- A placed part as a shape. -/
theorem shape_of {b : BD} {ps : List PT} {p : PL} (hb : boardB b = true) (hp : partsB ps = true) (hr : rightB ps p = true) (hbe : beyondB b.W b.H (lyP ps p) = false) :
    ∃ s : Shape, Good b.W b.H.toNat s ∧ s.A = areaW (partAt ps p.part).o ∧ (∀ i, ∃ j, cy (lyP ps p) j = ⟨s.X i, s.Y i⟩) ∧ ∀ i, dU (lyP ps p) i ≠ 0 ∨ dV (lyP ps p) i ≠ 0 := by
  obtain ⟨b1, b2, b3, b4, _, _, _⟩ := boardB_facts hb
  have hpl := rightB_placed hr
  obtain ⟨k, pt, hpk, hk, hat, hf⟩ := placed_get hpl
  have hv := partsB_each hp (List.mem_of_getElem? hk)
  obtain ⟨hv', hl'⟩ := lyB_valid hv p.t
  have hvl := validB_len' hv'
  have hc := validB_conv hv'
  obtain ⟨a, m, hm, hup, hdn⟩ := poly_chain hvl.1 hc
  have hly : lyP ps p = lyL pt.o p.X p.Y p.t := by unfold lyP; rw [hat]
  have hlen : (lyP ps p).length = (lyB pt.o p.t).length := by rw [hly, lyL_eq, List.length_map]
  have hcy : ∀ j, cy (lyP ps p) j = ⟨(cy (lyB pt.o p.t) j).X + p.X, (cy (lyB pt.o p.t) j).Y + p.Y⟩ := fun j => by rw [hly]; exact (ly_cy hv hf p.t j).1
  have hw := (lyP_lay hp hpl).1
  refine ⟨⟨(lyB pt.o p.t).length, fun i => (cy (lyB pt.o p.t) (a + i)).X + p.X, fun i => (cy (lyB pt.o p.t) (a + i)).Y + p.Y, areaW pt.o⟩, ⟨?_, ?_, ⟨m, hm, fun i hi => ?_, fun i hi hi2 => ?_⟩, fun i j => ?_, fun i => ?_, ?_⟩, by rw [hat], fun i => ⟨a + i, hcy _⟩, fun i => ?_⟩
  · show (cy _ (a + _)).X + _ = _; rw [cy_per]; rfl
  · show (cy _ (a + _)).Y + _ = _; rw [cy_per]; rfl
  · have := hup i hi
    show (cy _ (a + i)).Y + _ ≤ (cy _ (a + (i + 1))).Y + _
    rw [← Nat.add_assoc]; omega
  · have := hdn i hi hi2
    show (cy _ (a + (i + 1))).Y + _ ≤ (cy _ (a + i)).Y + _
    rw [← Nat.add_assoc]; omega
  · have := conv_left hvl.1 hc (a + i) (a + j)
    unfold vx dd sb at this
    simp only at this ⊢
    rw [← Nat.add_assoc]
    have e1 : ∀ x y z : Int, x + z - (y + z) = x - y := fun x y z => by omega
    rw [e1, e1, e1, e1]
    exact this
  · unfold beyondB at hbe
    rw [List.any_eq_false] at hbe
    have hm := hbe _ (cy_mem (show 0 < (lyP ps p).length by omega) (a + i))
    rw [hcy] at hm
    simp only [betw, Bool.or_eq_true, Bool.not_eq_true', Bool.and_eq_false_iff, decide_eq_false_iff_not] at hm
    simp only
    omega
  · show areaW pt.o = shoeS (fun i => (cy (lyB pt.o p.t) (a + i)).X + p.X) (fun i => (cy (lyB pt.o p.t) (a + i)).Y + p.Y) (lyB pt.o p.t).length
    rw [shoe_move (fun i => (cy (lyB pt.o p.t) (a + i)).X) (fun i => (cy (lyB pt.o p.t) (a + i)).Y), ← lyB_area hv p.t, area_sides hv']
    rw [show cy (lyB pt.o p.t) (a + (lyB pt.o p.t).length) = cy (lyB pt.o p.t) (a + 0) by rw [cy_per]; rfl, Int.sub_self, Int.sub_self, Int.mul_zero, Int.mul_zero, Int.sub_self, Int.add_zero, shoe_eq]
    exact (sumTo_shift (g := fun i => vx (cy (lyB pt.o p.t) i) (cy (lyB pt.o p.t) (i + 1))) (fun i => by show vx (cy _ (i + _)) (cy _ (i + _ + 1)) = _; rw [cy_per, show i + (lyB pt.o p.t).length + 1 = i + 1 + (lyB pt.o p.t).length by omega, cy_per]) a).symm
  · have := vx_ne ((once_of_convex hvl.1 (cy_per (lyB pt.o p.t)) hc).1 i)
    rw [(dU_eq hw.2 i).1, (dU_eq hw.2 i).2, hcy, hcy]
    unfold dd sb at this
    simp only at this ⊢
    omega
theorem sep_apt {o p : List XY} {s t : Shape} (ho : Wd o) (hp : Wd p) (h1 : ∀ i, ∃ j, cy o j = ⟨s.X i, s.Y i⟩) (h2 : ∀ i, ∃ j, cy p j = ⟨t.X i, t.Y i⟩) {u v g : Int} (hd : Dr u v) (hne : u ≠ 0 ∨ v ≠ 0) (h : Sep o p u v g) : Apt s t ∨ Apt t s := by
  have one : ∀ {o p : List XY} {s t : Shape}, Wd o → Wd p → (∀ i, ∃ j, cy o j = ⟨s.X i, s.Y i⟩) → (∀ i, ∃ j, cy p j = ⟨t.X i, t.Y i⟩) → 0 ≤ -farW (-u) (-v) o - farW u v p → Apt t s := fun {o p s t} ho hp h1 h2 hg => by
    obtain ⟨f1, _⟩ := far_lin ho hd.neg
    obtain ⟨f2, _⟩ := far_lin hp hd
    refine ⟨u, v, farW u v p, hne, fun i => ?_, fun i => ?_⟩
    · obtain ⟨j, hj⟩ := h2 i
      have := f2 j
      rw [hj] at this
      exact this
    · obtain ⟨j, hj⟩ := h1 i
      have := f1 j
      rw [hj] at this
      unfold lin at this
      simp only at this
      have e : -u * s.X i + -v * s.Y i = -(u * s.X i + v * s.Y i) := by grind
      omega
  rcases h with h | h
  · exact .inr (one ho hp h1 h2 h.1)
  · exact .inl (one hp ho h2 h1 h.1)
theorem apart_apt {o p : List XY} {s t : Shape} (lo : Lay o) (lp : Lay p) (h1 : ∀ i, ∃ j, cy o j = ⟨s.X i, s.Y i⟩) (h2 : ∀ i, ∃ j, cy p j = ⟨t.X i, t.Y i⟩) (n1 : ∀ i, dU o i ≠ 0 ∨ dV o i ≠ 0) (n2 : ∀ i, dU p i ≠ 0 ∨ dV p i ≠ 0) {g : Int} (h0 : 0 ≤ g) (hg : g ≤ 2000) (h : apartB o p g = true) : Apt s t ∨ Apt t s := by
  obtain ⟨u, v, hdir, hs⟩ := (apart_iff lo.1 lp.1 lo.2 lp.2 h0 hg).1 h
  refine sep_apt lo.1 lp.1 h1 h2 (dir_dr lo.2 lp.2 hdir) ?_ hs
  rcases hdir with ⟨rfl, rfl⟩ | ⟨rfl, rfl⟩ | ⟨i, rfl, rfl⟩ | ⟨i, rfl, rfl⟩
  · omega
  · omega
  · exact n1 i
  · exact n2 i

/-- What a right layout is, without order. -/
structure OkL (b : BD) (ps : List PT) (L : List PL) : Prop where
  hb : boardB b = true
  hp : partsB ps = true
  hl : L.length ≤ 200
  each : ∀ p ∈ L, rightB ps p = true ∧ beyondB b.W b.H (lyP ps p) = false ∧ faultyB b.F (lyP ps p) = false
  two : L.Pairwise fun p q => apartB (lyP ps p) (lyP ps q) b.G = true
theorem ok_of {b : BD} {ps : List PT} {L : List PL} (h : (checkS b ps L).2 = 0) : OkL b ps L := by
  have hrl := checkS_ok h
  obtain ⟨c1, c2, c3⟩ := (checkS_zero hrl.hb hrl.hp).1 h
  obtain ⟨d1, d2, d3⟩ := check3S_zero.1 c3
  obtain ⟨b1, b2, b3, b4, b5, b6, _⟩ := boardB_facts hrl.hb
  rw [any_map', List.any_eq_false] at d1 d2
  refine ⟨hrl.hb, hrl.hp, c1, fun p hp => ⟨hrl.hr p hp, by simpa using d1 p hp, by simpa using d2 p hp⟩, ?_⟩
  rw [List.pairwise_iff_getElem]
  intro i j hi hj hij
  rw [List.any_eq_false] at d3
  have h3 := d3 j (List.mem_range.2 (by rw [List.length_map]; exact hj))
  unfold clash at h3
  rw [← List.map_take, List.getElem?_map, List.getElem?_eq_getElem hj, any_map', List.any_eq_true] at h3
  have lp := lyP_lay hrl.hp (rightB_placed (hrl.hr _ (List.getElem_mem hi)))
  have lq := lyP_lay hrl.hp (rightB_placed (hrl.hr _ (List.getElem_mem hj)))
  rw [apart_comm lp.1 lq.1 lp.2 lq.2 b5 b6]
  cases hh : apartB (lyP ps L[j]) (lyP ps L[i]) b.G
  · exact absurd ⟨L[i], List.mem_take_iff_getElem.2 ⟨i, by omega, rfl⟩, by show (!apartB (lyP ps L[j]) (lyP ps L[i]) b.G) = true; rw [hh]; rfl⟩ h3
  · rfl
theorem ok_right {b : BD} {ps : List PT} {L : List PL} (h : OkL b ps L) : (checkS b ps L).2 = 0 := by
  obtain ⟨b1, b2, b3, b4, b5, b6, _⟩ := boardB_facts h.hb
  rw [checkS_zero h.hb h.hp, check3S_zero, any_map', any_map']
  refine ⟨h.hl, ?_, ?_, ?_, ?_⟩
  · rw [List.any_eq_false]; intro p hp; rw [(h.each p hp).1]; simp
  · rw [List.any_eq_false]; intro p hp; rw [show _ = false from (h.each p hp).2.1]; simp
  · rw [List.any_eq_false]; intro p hp; rw [show _ = false from (h.each p hp).2.2]; simp
  · rw [List.any_eq_false]
    intro j hj
    have hj := List.mem_range.1 hj
    rw [List.length_map] at hj
    unfold clash
    rw [← List.map_take, List.getElem?_map, List.getElem?_eq_getElem hj, any_map', List.any_eq_true]
    rintro ⟨q, hq, hc⟩
    obtain ⟨i, hi, rfl⟩ := List.mem_take_iff_getElem.1 hq
    have h2 := List.pairwise_iff_getElem.1 h.two i j (by omega) hj (by omega)
    have lp := lyP_lay h.hp (rightB_placed (h.each _ (List.getElem_mem (show i < L.length by omega))).1)
    have lq := lyP_lay h.hp (rightB_placed (h.each _ (List.getElem_mem hj)).1)
    rw [apart_comm lp.1 lq.1 lp.2 lq.2 b5 b6] at h2
    have hc : (!apartB (lyP ps L[j]) (lyP ps L[i]) b.G) = true := hc
    rw [h2] at hc
    simp at hc
theorem ok_perm {b : BD} {ps : List PT} {L M : List PL} (h : OkL b ps L) (hm : L.Perm M) : OkL b ps M := by
  obtain ⟨b1, b2, b3, b4, b5, b6, _⟩ := boardB_facts h.hb
  refine ⟨h.hb, h.hp, by rw [← hm.length_eq]; exact h.hl, fun p hp => h.each p (hm.mem_iff.2 hp), ?_⟩
  have hs : L.Pairwise fun p q => (p ∈ L ∧ q ∈ L) ∧ apartB (lyP ps p) (lyP ps q) b.G = true := by
    refine List.Pairwise.imp_of_mem ?_ h.two
    intro p q hp hq hpq
    exact ⟨⟨hp, hq⟩, hpq⟩
  refine List.Pairwise.imp (fun {p q} hpq => hpq.2) ((hm.pairwise_iff (fun {p q} hpq => ⟨⟨hpq.1.2, hpq.1.1⟩, ?_⟩)).1 hs)
  have lp := lyP_lay h.hp (rightB_placed (h.each p hpq.1.1).1)
  have lq := lyP_lay h.hp (rightB_placed (h.each q hpq.1.2).1)
  rw [apart_comm lq.1 lp.1 lq.2 lp.2 b5 b6]
  exact hpq.2
theorem ok_less {b : BD} {ps : List PT} {L M : List PL} (h : OkL b ps L) (hm : M.Sublist L) : OkL b ps M :=
  ⟨h.hb, h.hp, Nat.le_trans hm.length_le h.hl, fun p hp => h.each p (hm.subset hp), h.two.sublist hm⟩

/-- Without one place, and in another order. -/
theorem right_less {b : BD} {ps : List PT} {L : List PL} {k : Nat} {p : PL} (h : (checkS b ps L).2 = 0) (hk : L[k]? = some p) :
    (checkS b ps (L.drop (k + 1) ++ L.take k)).2 = 0 ∧ freeS b ps (L.drop (k + 1) ++ L.take k) p = (true, 0) := by
  have hok := ok_of h
  have hkl := (List.getElem?_eq_some_iff.1 hk).1
  have hsplit : L = L.take k ++ p :: L.drop (k + 1) := by
    have e := List.take_append_drop k L
    rw [List.drop_eq_getElem_cons hkl] at e
    rw [← (List.getElem?_eq_some_iff.1 hk).2]
    exact e.symm
  have hperm : L.Perm ((L.drop (k + 1) ++ L.take k) ++ [p]) := by
    conv => lhs; rw [hsplit]
    refine (List.perm_append_comm (l₁ := L.take k) (l₂ := p :: L.drop (k + 1))).trans ?_
    show (p :: (L.drop (k + 1) ++ L.take k)).Perm _
    exact (List.perm_append_comm (l₁ := [p]))
  have h2 := ok_perm hok hperm
  have h3 := ok_right (ok_less h2 (List.sublist_append_left _ _))
  refine ⟨h3, ?_⟩
  unfold freeS
  rw [if_pos h3, (check_append h3).1 (ok_right h2)]

/-- The areas of the parts of a right layout. -/
theorem areas_le {b : BD} {ps : List PT} {L : List PL} (h : OkL b ps L) : (L.map fun p => areaW (partAt ps p.part).o).sum ≤ 2 * b.W * b.H := by
  obtain ⟨b1, b2, b3, b4, b5, b6, _⟩ := boardB_facts h.hb
  have key : ∀ M : List PL, (∀ p ∈ M, rightB ps p = true ∧ beyondB b.W b.H (lyP ps p) = false) → M.Pairwise (fun p q => apartB (lyP ps p) (lyP ps q) b.G = true) →
      ∃ S : List Shape, S.map Shape.A = M.map (fun p => areaW (partAt ps p.part).o) ∧ (∀ s ∈ S, Good b.W b.H.toNat s) ∧ (∀ s ∈ S, ∃ p ∈ M, (∀ i, ∃ j, cy (lyP ps p) j = ⟨s.X i, s.Y i⟩)) ∧ S.Pairwise fun s t => Apt s t ∨ Apt t s := by
    intro M
    induction M with
    | nil => intro _ _; exact ⟨[], rfl, fun s hs => by simp at hs, fun s hs => by simp at hs, .nil⟩
    | cons p M ih =>
      intro he hp
      obtain ⟨p1, p2⟩ := List.pairwise_cons.1 hp
      obtain ⟨S, s1, s2, s3, s4⟩ := ih (fun q hq => he q (List.mem_cons_of_mem _ hq)) p2
      obtain ⟨e1, e2⟩ := he p List.mem_cons_self
      obtain ⟨s, g1, g2, g3, g4⟩ := shape_of h.hb h.hp e1 e2
      refine ⟨s :: S, by rw [List.map_cons, List.map_cons, s1, g2], fun t ht => ?_, fun t ht => ?_, List.pairwise_cons.2 ⟨fun t ht => ?_, s4⟩⟩
      · rcases List.mem_cons.1 ht with rfl | ht
        · exact g1
        · exact s2 t ht
      · rcases List.mem_cons.1 ht with rfl | ht
        · exact ⟨p, List.mem_cons_self, g3⟩
        · obtain ⟨q, hq, hc⟩ := s3 t ht
          exact ⟨q, List.mem_cons_of_mem _ hq, hc⟩
      · obtain ⟨q, hq, hc⟩ := s3 t ht
        obtain ⟨f1, f2⟩ := he q (List.mem_cons_of_mem _ hq)
        obtain ⟨_, _, _, _, k4⟩ := shape_of h.hb h.hp f1 f2
        exact apart_apt (lyP_lay h.hp (rightB_placed e1)) (lyP_lay h.hp (rightB_placed f1)) g3 hc g4 k4 b5 b6 (p1 q hq)
  obtain ⟨S, s1, s2, _, s4⟩ := key L (fun p hp => ⟨(h.each p hp).1, (h.each p hp).2.1⟩) h.two
  have := pack (W := b.W) (H := b.H.toNat) (by omega) s2 s4
  rw [s1, show ((b.H.toNat : Nat) : Int) = b.H by omega] at this
  exact this
end Go.Proofs.Ytohlinbcbfgdfaa

/- Which outlines are a gap apart: the program's test is the reference's; the order, half turns and moves play no part; less gaps; nothing of one lies strictly inside the other. -/
import Derived.Test.YtohlinbcbfgdfaaNSpec
import Derived.Test.YtohlinbcbfgdfaaMathE
import Derived.Test.YtohlinbcbfgdfaaMathQ
namespace Go.Proofs.Ytohlinbcbfgdfaa
open Go.RowKit (wrap64)

/-- Coordinates in reach; a direction in reach. -/
def Wd (l : List XY) : Prop := 0 < l.length ∧ ∀ j, Bd 300000 (cy l j)
def Dr (u v : Int) : Prop := -100000 ≤ u ∧ u ≤ 100000 ∧ -100000 ≤ v ∧ v ≤ 100000
theorem Dr.neg {u v : Int} (h : Dr u v) : Dr (-u) (-v) := by unfold Dr at *; omega
theorem lin_bd {u v : Int} (h : Dr u v) {q : XY} (hq : Bd 300000 q) : -60000000000 ≤ lin u v q ∧ lin u v q ≤ 60000000000 := by
  obtain ⟨h1, h2, h3, h4⟩ := hq
  obtain ⟨d1, d2, d3, d4⟩ := h
  have m1 := mul_bd (a := u) (b := q.X) (A := 100000) (B := 300000) (by omega) (by omega) (by omega) (by omega)
  have m2 := mul_bd (a := v) (b := q.Y) (A := 100000) (B := 300000) (by omega) (by omega) (by omega) (by omega)
  unfold lin; omega
theorem dotW_lin' {u v : Int} (h : Dr u v) {q : XY} (hq : Bd 300000 q) : dotW u v q = lin u v q := by
  have hb := lin_bd h hq
  obtain ⟨h1, h2, h3, h4⟩ := hq
  obtain ⟨d1, d2, d3, d4⟩ := h
  have m1 := mul_bd (a := u) (b := q.X) (A := 100000) (B := 300000) (by omega) (by omega) (by omega) (by omega)
  have m2 := mul_bd (a := v) (b := q.Y) (A := 100000) (B := 300000) (by omega) (by omega) (by omega) (by omega)
  unfold lin at hb
  unfold dotW lin
  rw [w64_id (n := u * q.X) (by omega) (by omega), w64_id (n := v * q.Y) (by omega) (by omega), w64_id (by omega) (by omega)]
theorem lin_neg (u v : Int) (q : XY) : lin (-u) (-v) q = -lin u v q := by unfold lin; grind
theorem Top.congr {l : List XY} {f g : XY → Int} {M : Int} (h : Top l f M) (e : ∀ j, g (cy l j) = f (cy l j)) : Top l g M := by
  refine ⟨fun j => by rw [e]; exact h.1 j, ?_⟩
  obtain ⟨j, hj⟩ := h.2
  exact ⟨j, by rw [e]; exact hj⟩

theorem far_lin {l : List XY} (hl : Wd l) {u v : Int} (h : Dr u v) : Top l (lin u v) (farW u v l) := (far_top hl.1 u v).congr fun j => (dotW_lin' h (hl.2 j)).symm
theorem near_bot {l : List XY} (h0 : 0 < l.length) (u v : Int) : (∀ j, nearW u v l ≤ dotW u v (cy l j)) ∧ ∃ j, dotW u v (cy l j) = nearW u v l := by
  have H : ∀ k, k ≤ l.length → (∀ j, j < k → nearTo u v l k ≤ dotW u v (cy l j)) ∧ nearTo u v l k ≤ dotW u v (cy l 0) ∧ ∃ j, dotW u v (cy l j) = nearTo u v l k := by
    intro k
    induction k with
    | zero =>
      intro _
      obtain ⟨p, hp⟩ := getElem?_of_lt h0
      have e : nearTo u v l 0 = dotW u v (cy l 0) := by
        unfold nearTo; simp only [List.take_zero, List.foldl_nil]; rw [hd_of hp, cy_lt hp]
      exact ⟨fun j hj => by omega, by rw [e]; exact Int.le_refl _, 0, e.symm⟩
    | succ k ih =>
      intro hk
      obtain ⟨q, hq⟩ := getElem?_of_lt (show k < l.length by omega)
      obtain ⟨i1, i2, j0, i3⟩ := ih (by omega)
      have es : nearTo u v l (k + 1) = min (nearTo u v l k) (dotW u v q) := by
        unfold nearTo; rw [take_succ_of hq, List.foldl_append]; rfl
      have eq := cy_lt hq
      rw [es]
      refine ⟨fun j hj => ?_, by omega, ?_⟩
      · rcases Nat.lt_or_ge j k with h | h
        · have := i1 j h; omega
        · obtain rfl : j = k := by omega
          rw [eq]; omega
      · by_cases hlt : nearTo u v l k ≤ dotW u v q
        · exact ⟨j0, by omega⟩
        · exact ⟨k, by rw [eq]; omega⟩
  obtain ⟨h1, _, h3⟩ := H l.length (Nat.le_refl _)
  refine ⟨fun j => ?_, h3⟩
  rw [← cy_mod]
  exact h1 _ (Nat.mod_lt _ h0)
theorem near_far {l : List XY} (hl : Wd l) {u v : Int} (h : Dr u v) : nearW u v l = -farW (-u) (-v) l := by
  have t := far_lin hl h.neg
  obtain ⟨b1, j, b2⟩ := near_bot hl.1 u v
  obtain ⟨i, hi⟩ := t.2
  have e1 := t.1 j
  have e2 := b1 i
  rw [dotW_lin' h (hl.2 _)] at b2 e2
  rw [lin_neg] at hi e1
  omega
theorem far_bd' {l : List XY} (hl : Wd l) {u v : Int} (h : Dr u v) : -60000000000 ≤ farW u v l ∧ farW u v l ≤ 60000000000 := by
  obtain ⟨j, hj⟩ := (far_lin hl h).2
  have := lin_bd h (hl.2 j)
  rw [hj] at this
  exact this

/-- The ideal test. -/
def gapI (d g n : Int) : Prop := 0 ≤ d ∧ g * g * n ≤ d * d
theorem sq_mono {a b : Int} (h0 : 0 ≤ a) (h : a ≤ b) : a * a ≤ b * b := Int.mul_le_mul h h h0 (by omega)
theorem gapI_mono {a b g n : Int} (h : gapI a g n) (hb : a ≤ b) : gapI b g n := ⟨by have := h.1; omega, Int.le_trans h.2 (sq_mono h.1 hb)⟩
theorem sqW_eq {u v : Int} (h : Dr u v) : sqW u v = u * u + v * v ∧ 0 ≤ u * u + v * v ∧ u * u + v * v ≤ 20000000000 := by
  obtain ⟨d1, d2, d3, d4⟩ := h
  have m1 := mul_bd (a := u) (b := u) (A := 100000) (B := 100000) (by omega) (by omega) (by omega) (by omega)
  have m2 := mul_bd (a := v) (b := v) (A := 100000) (B := 100000) (by omega) (by omega) (by omega) (by omega)
  have n1 := sq_nonneg u
  have n2 := sq_nonneg v
  unfold sqW
  rw [w64_id (n := u * u) (by omega) (by omega), w64_id (n := v * v) (by omega) (by omega), w64_id (by omega) (by omega)]
  omega
theorem gap_sides {g n : Int} (h0 : 0 ≤ g) (h1 : g ≤ 2000) (hn0 : 0 ≤ n) (hn : n ≤ 20000000000) : wrap64 (wrap64 (g * g) * n) = g * g * n ∧ 0 ≤ g * g * n ∧ g * g * n ≤ 80000000000000000 := by
  have m1 := mul_bd (a := g) (b := g) (A := 2000) (B := 2000) (by omega) (by omega) (by omega) (by omega)
  have n1 := sq_nonneg g
  have m2 := mul_bd (a := g * g) (b := n) (A := 4000000) (B := 20000000000) (by omega) (by omega) (by omega) (by omega)
  have n2 := Int.mul_nonneg n1 hn0
  rw [w64_id (n := g * g) (by omega) (by omega), w64_id (by omega) (by omega)]
  omega
theorem gapB_iff {d g n : Int} (h0 : 0 ≤ g) (h1 : g ≤ 2000) (hn0 : 0 ≤ n) (hn : n ≤ 20000000000) : gapB d g n = true ↔ gapI d g n := by
  obtain ⟨e, e1, e2⟩ := gap_sides h0 h1 hn0 hn
  unfold gapB gapI
  rw [e]
  simp only [Bool.and_eq_true, Bool.or_eq_true, decide_eq_true_eq]
  constructor
  · rintro ⟨hd, h | h⟩
    · refine ⟨hd, ?_⟩
      rcases h with h | h
      · subst h
        have := sq_nonneg d
        simp only [Int.zero_mul]; omega
      · have := sq_mono (show (0 : Int) ≤ 2147483648 by omega) h
        omega
    · refine ⟨hd, ?_⟩
      rcases Int.lt_or_le d 2147483648 with hs | hs
      · have := mul_bd (a := d) (b := d) (A := 2147483648) (B := 2147483648) (by omega) (by omega) (by omega) (by omega)
        rw [w64_id (by omega) (by omega)] at h
        exact h
      · have := sq_mono (show (0 : Int) ≤ 2147483648 by omega) hs
        omega
  · rintro ⟨hd, h⟩
    refine ⟨hd, ?_⟩
    rcases Int.lt_or_le d 2147483648 with hs | hs
    · right
      have := mul_bd (a := d) (b := d) (A := 2147483648) (B := 2147483648) (by omega) (by omega) (by omega) (by omega)
      rw [w64_id (by omega) (by omega)]
      exact h
    · exact .inl (.inr hs)
theorem enoughB_iff {d g n : Int} (h0 : 0 ≤ g) (h1 : g ≤ 2000) (hn0 : 0 ≤ n) (hn : n ≤ 20000000000) : enoughB d g n = true ↔ gapI d g n := by
  obtain ⟨e, e1, e2⟩ := gap_sides h0 h1 hn0 hn
  unfold enoughB gapI
  rw [e]
  by_cases hc : d < 0 ∨ g = 0 ∨ 1000000000 < d
  · rw [if_pos hc, decide_eq_true_eq]
    refine ⟨fun hd => ⟨hd, ?_⟩, fun h => h.1⟩
    rcases hc with h | h | h
    · omega
    · subst h
      have := sq_nonneg d
      simp only [Int.zero_mul]; omega
    · have := sq_mono (show (0 : Int) ≤ 1000000000 by omega) (Int.le_of_lt h)
      omega
  · rw [if_neg hc, decide_eq_true_eq]
    have := mul_bd (a := d) (b := d) (A := 1000000000) (B := 1000000000) (by omega) (by omega) (by omega) (by omega)
    rw [w64_id (n := d * d) (by omega) (by omega)]
    exact ⟨fun h => ⟨by omega, h⟩, fun h => h.2⟩

/-- In this direction the one lies behind the other, by the gap at least. -/
def Sep (o p : List XY) (u v g : Int) : Prop := gapI (-farW (-u) (-v) o - farW u v p) g (u * u + v * v) ∨ gapI (-farW (-u) (-v) p - farW u v o) g (u * u + v * v)
theorem splitB_iff {o p : List XY} (ho : Wd o) (hp : Wd p) {u v g : Int} (hd : Dr u v) (h0 : 0 ≤ g) (h1 : g ≤ 2000) : splitB o p u v g = true ↔ Sep o p u v g := by
  obtain ⟨es, es0, es1⟩ := sqW_eq hd
  have b1 := far_bd' ho hd
  have b2 := far_bd' hp hd
  have b3 := far_bd' ho hd.neg
  have b4 := far_bd' hp hd.neg
  unfold splitB
  rw [es, gapB_iff h0 h1 es0 es1, near_far ho hd, near_far hp hd, w64_id (by omega) (by omega), w64_id (by omega) (by omega)]
  unfold Sep
  constructor
  · intro h
    rcases Int.le_total (-farW (-u) (-v) p - farW u v o) (-farW (-u) (-v) o - farW u v p) with hh | hh
    · rw [Int.max_eq_right hh] at h; exact .inl h
    · rw [Int.max_eq_left hh] at h; exact .inr h
  · rintro (h | h)
    · exact gapI_mono h (by omega)
    · exact gapI_mono h (by omega)
theorem besideB_iff {o p : List XY} (ho : Wd o) (hp : Wd p) {u v g : Int} (hd : Dr u v) (h0 : 0 ≤ g) (h1 : g ≤ 2000) : besideB o p g u v = true ↔ Sep o p u v g := by
  obtain ⟨es, es0, es1⟩ := sqW_eq hd
  have b1 := far_bd' ho hd
  have b2 := far_bd' hp hd
  have b3 := far_bd' ho hd.neg
  have b4 := far_bd' hp hd.neg
  obtain ⟨d1, d2, d3, d4⟩ := hd
  unfold besideB aheadB
  rw [es, Bool.or_eq_true, enoughB_iff h0 h1 es0 es1, enoughB_iff h0 h1 es0 es1, w64_id (n := -u) (by omega) (by omega), w64_id (n := -v) (by omega) (by omega),
    w64_id (n := -farW (-u) (-v) o) (by omega) (by omega), w64_id (n := -farW (-u) (-v) p) (by omega) (by omega), w64_id (by omega) (by omega), w64_id (by omega) (by omega)]
  rfl
theorem split_beside {o p : List XY} (ho : Wd o) (hp : Wd p) {u v g : Int} (hd : Dr u v) (h0 : 0 ≤ g) (h1 : g ≤ 2000) : splitB o p u v g = besideB o p g u v := by
  rw [Bool.eq_iff_iff, splitB_iff ho hp hd h0 h1, besideB_iff ho hp hd h0 h1]

/-- The sides' directions in reach. -/
def Sd (l : List XY) : Prop := ∀ i, Dr (dU l i) (dV l i)
theorem any_congr' {α : Type} {l : List α} {f g : α → Bool} (h : ∀ x ∈ l, f x = g x) : l.any f = l.any g := by
  rw [Bool.eq_iff_iff]; simp only [List.any_eq_true]
  exact ⟨fun ⟨x, hx, hf⟩ => ⟨x, hx, by rw [← h x hx]; exact hf⟩, fun ⟨x, hx, hf⟩ => ⟨x, hx, by rw [h x hx]; exact hf⟩⟩
theorem dr10 : Dr 1 0 := by unfold Dr; omega
theorem dr01 : Dr 0 1 := by unfold Dr; omega
theorem apart_eq {o p : List XY} (ho : Wd o) (hp : Wd p) (so : Sd o) (sp : Sd p) {g : Int} (h0 : 0 ≤ g) (h1 : g ≤ 2000) : apartB o p g = apart2B o p g := by
  unfold apartB apart2B
  rw [split_beside ho hp dr10 h0 h1, split_beside ho hp dr01 h0 h1, any_congr' (fun i _ => split_beside ho hp (so i) h0 h1), any_congr' (fun i _ => split_beside ho hp (sp i) h0 h1)]

/-- Apart, as a fact: there is a direction. -/
def Dir (o p : List XY) (u v : Int) : Prop := (u = 1 ∧ v = 0) ∨ (u = 0 ∧ v = 1) ∨ (∃ i, u = dU o i ∧ v = dV o i) ∨ (∃ i, u = dU p i ∧ v = dV p i)
theorem dU_mod (l : List XY) (i : Nat) : dU l (i % l.length) = dU l i ∧ dV l (i % l.length) = dV l i := by
  have e : cy l (i % l.length + 1) = cy l (i + 1) := by rw [← cy_mod, Nat.mod_add_mod, cy_mod]
  unfold dU dV
  rw [e, cy_mod]
  exact ⟨rfl, rfl⟩
theorem apart_iff {o p : List XY} (ho : Wd o) (hp : Wd p) (so : Sd o) (sp : Sd p) {g : Int} (h0 : 0 ≤ g) (h1 : g ≤ 2000) : apartB o p g = true ↔ ∃ u v, Dir o p u v ∧ Sep o p u v g := by
  unfold apartB
  simp only [Bool.or_eq_true, List.any_eq_true, List.mem_range]
  constructor
  · rintro (((h | h) | ⟨i, _, h⟩) | ⟨i, _, h⟩)
    · exact ⟨1, 0, .inl ⟨rfl, rfl⟩, (splitB_iff ho hp dr10 h0 h1).1 h⟩
    · exact ⟨0, 1, .inr (.inl ⟨rfl, rfl⟩), (splitB_iff ho hp dr01 h0 h1).1 h⟩
    · exact ⟨_, _, .inr (.inr (.inl ⟨i, rfl, rfl⟩)), (splitB_iff ho hp (so i) h0 h1).1 h⟩
    · exact ⟨_, _, .inr (.inr (.inr ⟨i, rfl, rfl⟩)), (splitB_iff ho hp (sp i) h0 h1).1 h⟩
  · rintro ⟨u, v, hd, hs⟩
    rcases hd with ⟨rfl, rfl⟩ | ⟨rfl, rfl⟩ | ⟨i, rfl, rfl⟩ | ⟨i, rfl, rfl⟩
    · exact .inl (.inl (.inl ((splitB_iff ho hp dr10 h0 h1).2 hs)))
    · exact .inl (.inl (.inr ((splitB_iff ho hp dr01 h0 h1).2 hs)))
    · refine .inl (.inr ⟨i % o.length, Nat.mod_lt _ ho.1, ?_⟩)
      rw [(dU_mod o i).1, (dU_mod o i).2]
      exact (splitB_iff ho hp (so i) h0 h1).2 hs
    · refine .inr ⟨i % p.length, Nat.mod_lt _ hp.1, ?_⟩
      rw [(dU_mod p i).1, (dU_mod p i).2]
      exact (splitB_iff ho hp (sp i) h0 h1).2 hs

/-- The order plays no part. -/
theorem Sep.comm {o p : List XY} {u v g : Int} (h : Sep o p u v g) : Sep p o u v g := h.symm
theorem Dir.comm {o p : List XY} {u v : Int} (h : Dir o p u v) : Dir p o u v := by
  rcases h with h | h | h | h
  · exact .inl h
  · exact .inr (.inl h)
  · exact .inr (.inr (.inr h))
  · exact .inr (.inr (.inl h))
theorem apart_comm {o p : List XY} (ho : Wd o) (hp : Wd p) (so : Sd o) (sp : Sd p) {g : Int} (h0 : 0 ≤ g) (h1 : g ≤ 2000) : apartB o p g = apartB p o g := by
  rw [Bool.eq_iff_iff, apart_iff ho hp so sp h0 h1, apart_iff hp ho sp so h0 h1]
  exact ⟨fun ⟨u, v, a, b⟩ => ⟨u, v, a.comm, b.comm⟩, fun ⟨u, v, a, b⟩ => ⟨u, v, a.comm, b.comm⟩⟩

/-- A list of which each number lies by a shift (of all alike) where one of another list lies, in a direction or against it. -/
theorem Sep.same {o p o' p' : List XY} {u v u' v' g s : Int} (hn : u' * u' + v' * v' = u * u + v * v) (ho : farW u' v' o' = farW u v o + s) (hp : farW u' v' p' = farW u v p + s) (ho2 : farW (-u') (-v') o' = farW (-u) (-v) o - s) (hp2 : farW (-u') (-v') p' = farW (-u) (-v) p - s)
    (h : Sep o p u v g) : Sep o' p' u' v' g := by
  unfold Sep at *
  rw [hn, ho, hp, ho2, hp2, show -(farW (-u) (-v) o - s) - (farW u v p + s) = -farW (-u) (-v) o - farW u v p by omega, show -(farW (-u) (-v) p - s) - (farW u v o + s) = -farW (-u) (-v) p - farW u v o by omega]
  exact h
theorem Sep.neg {o p : List XY} {u v g : Int} (h : Sep o p u v g) : Sep o p (-u) (-v) g := by
  unfold Sep at *
  rw [Int.neg_neg, Int.neg_neg, show -u * -u + -v * -v = u * u + v * v by grind, show -farW u v o - farW (-u) (-v) p = -farW (-u) (-v) p - farW u v o by omega, show -farW u v p - farW (-u) (-v) o = -farW (-u) (-v) o - farW u v p by omega]
  exact h.symm
theorem sep_less {o p : List XY} {u v g k : Int} (h0 : 0 ≤ k) (h1 : k ≤ g) (h : Sep o p u v g) : Sep o p u v k := by
  have n1 : 0 ≤ u * u + v * v := by have := sq_nonneg u; have := sq_nonneg v; omega
  have hk : k * k * (u * u + v * v) ≤ g * g * (u * u + v * v) := Int.mul_le_mul_of_nonneg_right (sq_mono h0 h1) n1
  unfold Sep gapI at *
  omega
theorem apart_less {o p : List XY} (ho : Wd o) (hp : Wd p) (so : Sd o) (sp : Sd p) {g k : Int} (h0 : 0 ≤ k) (hk : k ≤ g) (h1 : g ≤ 2000) (h : apartB o p g = true) : apartB o p k = true := by
  rw [apart_iff ho hp so sp (by omega) h1] at h
  rw [apart_iff ho hp so sp h0 (by omega)]
  obtain ⟨u, v, a, b⟩ := h
  exact ⟨u, v, a, sep_less h0 hk b⟩

/-- Outlines are in reach. -/
theorem wd_valid {o : List XY} (h : validB o = true) : Wd o := ⟨by have := validB_len' h; omega, fun j => (bd_cy (by have := validB_len' h; omega) (validB_ranged h) j).mono (by omega)⟩
theorem dU_eq {l : List XY} (hl : ∀ j, Bd 300000 (cy l j)) (i : Nat) : dU l i = (cy l (i + 1)).Y - (cy l i).Y ∧ dV l i = (cy l i).X - (cy l (i + 1)).X := by
  obtain ⟨a1, a2, a3, a4⟩ := hl i
  obtain ⟨b1, b2, b3, b4⟩ := hl (i + 1)
  unfold dU dV
  exact ⟨w64_id (by omega) (by omega), w64_id (by omega) (by omega)⟩
theorem sd_valid {o : List XY} (h : validB o = true) : Sd o := by
  have hw := wd_valid h
  intro i
  obtain ⟨e1, e2⟩ := dU_eq hw.2 i
  obtain ⟨a1, a2, a3, a4⟩ := bd_cy (by have := validB_len' h; omega) (validB_ranged h) i
  obtain ⟨b1, b2, b3, b4⟩ := bd_cy (by have := validB_len' h; omega) (validB_ranged h) (i + 1)
  rw [e1, e2]
  unfold Dr; omega

/-- Nothing of an outline lies strictly inside one that is apart from it. -/
theorem strict_in {l : List XY} (h : 3 ≤ l.length) (hc : Conv l) {x : XY} (hx : ∀ i, 0 < vx (dd (cy l) i) (sb (cy l i) x)) {A B : Int} (hne : A ≠ 0 ∨ B ≠ 0) : ∃ j, lin A B (cy l j) < lin A B x := by
  obtain ⟨j, hj⟩ := exists_min (show 0 < l.length by omega) (lin A B)
  refine ⟨j, ?_⟩
  have hj' : ∀ i, lin A B (cy l (j + l.length - 1 + 1)) ≤ lin A B (cy l i) := fun i => by
    rw [show j + l.length - 1 + 1 = j + l.length by omega, cy_per]; exact hj i
  rw [show cy l j = cy l (j + l.length - 1 + 1) by rw [show j + l.length - 1 + 1 = j + l.length by omega, cy_per]]
  generalize j + l.length - 1 = k at hj'
  have hD := (once_of_convex h (cy_per l) hc).1 k
  have h1 := hx k
  have h2 := hx (k + 1)
  have h3 := hj' k
  have h4 := hj' (k + 1 + 1)
  have e0 : vx (dd (cy l) k) (sb (cy l k) x) = vx (dd (cy l) k) (sb (cy l (k + 1)) x) := by unfold vx dd sb; grind
  rw [e0] at h1
  have key : vx (dd (cy l) k) (dd (cy l) (k + 1)) * (lin A B x - lin A B (cy l (k + 1))) =
      vx (dd (cy l) k) (sb (cy l (k + 1)) x) * (lin A B (cy l (k + 1 + 1)) - lin A B (cy l (k + 1))) + vx (dd (cy l) (k + 1)) (sb (cy l (k + 1)) x) * (lin A B (cy l k) - lin A B (cy l (k + 1))) := by
    unfold vx dd sb lin; grind
  have p1 := Int.mul_nonneg (Int.le_of_lt h1) (show 0 ≤ lin A B (cy l (k + 1 + 1)) - lin A B (cy l (k + 1)) by omega)
  have p2 := Int.mul_nonneg (Int.le_of_lt h2) (show 0 ≤ lin A B (cy l k) - lin A B (cy l (k + 1)) by omega)
  refine Int.not_le.1 fun hle => ?_
  have hz : vx (dd (cy l) k) (dd (cy l) (k + 1)) * (lin A B x - lin A B (cy l (k + 1))) ≤ 0 := Int.mul_nonpos_of_nonneg_of_nonpos (Int.le_of_lt hD) (by omega)
  have z1 : lin A B (cy l (k + 1 + 1)) - lin A B (cy l (k + 1)) = 0 := by
    rcases Int.lt_or_le 0 (lin A B (cy l (k + 1 + 1)) - lin A B (cy l (k + 1))) with hh | hh
    · have := Int.mul_pos h1 hh; omega
    · omega
  have z2 : lin A B (cy l k) - lin A B (cy l (k + 1)) = 0 := by
    rcases Int.lt_or_le 0 (lin A B (cy l k) - lin A B (cy l (k + 1))) with hh | hh
    · have := Int.mul_pos h2 hh; omega
    · omega
  have za : A * vx (dd (cy l) k) (dd (cy l) (k + 1)) = 0 := by
    have : A * vx (dd (cy l) k) (dd (cy l) (k + 1)) = -(lin A B (cy l k) - lin A B (cy l (k + 1))) * (dd (cy l) (k + 1)).Y - (lin A B (cy l (k + 1 + 1)) - lin A B (cy l (k + 1))) * (dd (cy l) k).Y := by
      unfold lin vx dd sb; grind
    rw [this, z1, z2]; simp
  have zb : B * vx (dd (cy l) k) (dd (cy l) (k + 1)) = 0 := by
    have : B * vx (dd (cy l) k) (dd (cy l) (k + 1)) = (lin A B (cy l k) - lin A B (cy l (k + 1))) * (dd (cy l) (k + 1)).X + (lin A B (cy l (k + 1 + 1)) - lin A B (cy l (k + 1))) * (dd (cy l) k).X := by
      unfold lin vx dd sb; grind
    rw [this, z1, z2]; simp
  rcases hne with h | h
  · rcases Int.mul_eq_zero.1 za with h' | h' <;> omega
  · rcases Int.mul_eq_zero.1 zb with h' | h' <;> omega

theorem sep_stab {o p : List XY} (ho : Wd o) (hp : Wd p) (h3 : 3 ≤ p.length) (hc : Conv p) {u v g : Int} (hd : Dr u v) (hne : u ≠ 0 ∨ v ≠ 0) (h : Sep o p u v g) (i : Nat) : ¬ ∀ k, 0 < vx (dd (cy p) k) (sb (cy p k) (cy o i)) := by
  intro hx
  have t1 := (far_lin ho hd).1 i
  have t2 := (far_lin ho hd.neg).1 i
  obtain ⟨j, hj⟩ := strict_in h3 hc hx hne
  obtain ⟨k, hk⟩ := strict_in h3 hc hx (A := -u) (B := -v) (by omega)
  have t3 := (far_lin hp hd).1 k
  have t4 := (far_lin hp hd.neg).1 j
  rw [lin_neg] at t2 t4
  rw [lin_neg, lin_neg] at hk
  unfold Sep gapI at h
  omega
end Go.Proofs.Ytohlinbcbfgdfaa

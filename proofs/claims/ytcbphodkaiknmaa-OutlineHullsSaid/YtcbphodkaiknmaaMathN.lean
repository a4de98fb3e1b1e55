/- Being within goes on from one outline to the next; an outline sits in itself; more play never hurts. -/
import Derived.Test.YtcbphodkaiknmaaMathA
import Derived.Test.YtcbphodkaiknmaaW18
namespace Go.Proofs.Ytcbphodkaiknmaa
open Go.RowKit (wrap64)

def lin (A B : Int) (p : XY) : Int := A * p.X + B * p.Y

/-- A corner of a list at which a number is least. -/
theorem exists_min {l : List XY} (h : 0 < l.length) (f : XY → Int) : ∃ j, ∀ i, f (cy l j) ≤ f (cy l i) := by
  have H : ∀ k, 0 < k → ∃ j, ∀ i, i < k → f (cy l j) ≤ f (cy l i) := by
    intro k
    induction k with
    | zero => intro h; omega
    | succ k ih =>
      intro _
      rcases Nat.eq_zero_or_pos k with rfl | hk
      · exact ⟨0, fun i hi => by obtain rfl : i = 0 := by omega
                                 exact Int.le_refl _⟩
      · obtain ⟨j, hj⟩ := ih hk
        by_cases hlt : f (cy l j) ≤ f (cy l k)
        · refine ⟨j, fun i hi => ?_⟩
          rcases Nat.lt_or_ge i k with h1 | h1
          · exact hj i h1
          · obtain rfl : i = k := by omega
            exact hlt
        · refine ⟨k, fun i hi => ?_⟩
          rcases Nat.lt_or_ge i k with h1 | h1
          · have := hj i h1; omega
          · obtain rfl : i = k := by omega
            exact Int.le_refl _
  obtain ⟨j, hj⟩ := H l.length h
  exact ⟨j, fun i => by have := hj (i % l.length) (Nat.mod_lt _ h); rwa [cy_mod] at this⟩

/-- Inside, as a fact on all sides. -/
def Ins (l : List XY) (x : XY) : Prop := ∀ i, 0 ≤ vx (dd (cy l) i) (sb (cy l i) x)

theorem insideB_iff {l : List XY} (h : 0 < l.length) (hl : l.all rangedB = true) {p : XY} (hp : Bd 100000 p) : insideB l p = true ↔ Ins l p := by
  unfold insideB Ins
  rw [List.all_eq_true]
  constructor
  · intro H i
    have := H (i % l.length) (List.mem_range.2 (Nat.mod_lt _ h))
    rw [crossW_eq (bd_cy' h hl _) (bd_cy' h hl _) hp, cross_vx2] at this
    have h1 : 0 ≤ vx (dd (cy l) (i % l.length)) (sb (cy l (i % l.length)) p) := by
      simp only [Bool.not_eq_true', decide_eq_false_iff_not, Int.not_lt] at this
      exact this
    rwa [dd_mod, cy_mod] at h1
  · intro H i _
    rw [crossW_eq (bd_cy' h hl _) (bd_cy' h hl _) hp, cross_vx2]
    have := H i
    simp only [Bool.not_eq_true', decide_eq_false_iff_not, Int.not_lt]
    exact this

theorem lin_in {l : List XY} (h : 3 ≤ l.length) (hc : Conv l) {x : XY} (hx : Ins l x) (A B : Int) : ∃ j, lin A B (cy l j) ≤ lin A B x := by
  obtain ⟨j, hj⟩ := exists_min (show 0 < l.length by omega) (lin A B)
  refine ⟨j, ?_⟩
  have hj' : ∀ i, lin A B (cy l (j + l.length - 1 + 1)) ≤ lin A B (cy l i) := fun i => by
    rw [show j + l.length - 1 + 1 = j + l.length by omega, cy_per]; exact hj i
  rw [show cy l j = cy l (j + l.length - 1 + 1) by rw [show j + l.length - 1 + 1 = j + l.length by omega, cy_per]]
  generalize j + l.length - 1 = k at hj'
  have hD := (once_of_convex h (cy_per l) hc).1 k
  have h1 := hx k
  have h2 := hx (k + 1)
  have h3 := hj' k
  have h4 := hj' (k + 1 + 1)
  have e0 : vx (dd (cy l) k) (sb (cy l k) x) = vx (dd (cy l) k) (sb (cy l (k + 1)) x) := by unfold vx dd sb; grind
  rw [e0] at h1
  have key : vx (dd (cy l) k) (dd (cy l) (k + 1)) * (lin A B x - lin A B (cy l (k + 1))) =
      vx (dd (cy l) k) (sb (cy l (k + 1)) x) * (lin A B (cy l (k + 1 + 1)) - lin A B (cy l (k + 1))) + vx (dd (cy l) (k + 1)) (sb (cy l (k + 1)) x) * (lin A B (cy l k) - lin A B (cy l (k + 1))) := by
    unfold vx dd sb lin; grind
  have p1 := Int.mul_nonneg h1 (show 0 ≤ lin A B (cy l (k + 1 + 1)) - lin A B (cy l (k + 1)) by omega)
  have p2 := Int.mul_nonneg h2 (show 0 ≤ lin A B (cy l k) - lin A B (cy l (k + 1)) by omega)
  have hnn := nonneg_of_mul hD (show 0 ≤ (lin A B x - lin A B (cy l (k + 1))) * vx (dd (cy l) k) (dd (cy l) (k + 1)) by rw [Int.mul_comm, key]; omega)
  omega

theorem ins_trans {p q : List XY} (h : 3 ≤ p.length) (hc : Conv p) (hpq : ∀ y ∈ p, Ins q y) {x : XY} (hx : Ins p x) : Ins q x := by
  intro i
  obtain ⟨j, hj⟩ := lin_in h hc hx (-(dd (cy q) i).Y) (dd (cy q) i).X
  have h1 := hpq _ (cy_mem (show 0 < p.length by omega) j) i
  have e : ∀ y, vx (dd (cy q) i) (sb (cy q i) y) = lin (-(dd (cy q) i).Y) (dd (cy q) i).X y - lin (-(dd (cy q) i).Y) (dd (cy q) i).X (cy q i) := fun y => by unfold vx sb lin; grind
  rw [e] at h1 ⊢
  omega

theorem withinB_iff {o l : List XY} (ho : o.all rangedB = true) (h : 0 < l.length) (hl : l.all rangedB = true) : withinB o l = true ↔ ∀ y ∈ o, Ins l y := by
  unfold withinB
  rw [List.all_eq_true]
  exact forall_congr' fun y => forall_congr' fun hy => insideB_iff h hl ((bd_of_ranged (List.all_eq_true.1 ho _ hy)).mono (by omega))

theorem within_trans {o p q : List XY} (ho : validB o = true) (hp : validB p = true) (hq : validB q = true) (h1 : withinB o p = true) (h2 : withinB p q = true) : withinB o q = true := by
  have lp := validB_len' hp
  have lq := validB_len' hq
  rw [withinB_iff (validB_ranged ho) (by omega) (validB_ranged hp)] at h1
  rw [withinB_iff (validB_ranged hp) (by omega) (validB_ranged hq)] at h2
  rw [withinB_iff (validB_ranged ho) (by omega) (validB_ranged hq)]
  exact fun y hy => ins_trans lp.1 (validB_conv hp) h2 (h1 y hy)

theorem mem_cy {l : List XY} {y : XY} (h : y ∈ l) : ∃ k, k < l.length ∧ cy l k = y := by
  obtain ⟨k, hk, rfl⟩ := List.mem_iff_getElem.1 h
  exact ⟨k, hk, by unfold cy; rw [Nat.mod_eq_of_lt hk, List.getElem?_eq_getElem hk]; rfl⟩

theorem conv_ins {l : List XY} (h : 3 ≤ l.length) (hc : Conv l) {y : XY} (hy : y ∈ l) : Ins l y := by
  obtain ⟨k, hk, rfl⟩ := mem_cy hy
  intro i
  -- y is the corner t steps behind corner i
  have hm := Nat.mod_lt i (show 0 < l.length by omega)
  have e : ∃ t, t < l.length ∧ cy l k = cy l (i + t) := by
    rcases Nat.lt_or_ge k (i % l.length) with hlt | hge
    · refine ⟨k + l.length - i % l.length, by omega, ?_⟩
      refine per_eq (cy_per l) ?_
      have := Nat.mod_add_div i l.length
      rw [show i + (k + l.length - i % l.length) = k + l.length * (i / l.length + 1) by rw [Nat.mul_add]; omega, Nat.add_mul_mod_self_left]
    · refine ⟨k - i % l.length, by omega, ?_⟩
      refine per_eq (cy_per l) ?_
      have := Nat.mod_add_div i l.length
      rw [show i + (k - i % l.length) = k + l.length * (i / l.length) by omega, Nat.add_mul_mod_self_left]
  obtain ⟨t, ht, e⟩ := e
  rw [e]
  rcases Nat.lt_or_ge t 2 with h2 | h2
  · have e0 : vx (dd (cy l) i) (sb (cy l i) (cy l (i + t))) = 0 := by
      rcases Nat.lt_or_ge t 1 with h1 | h1
      · obtain rfl : t = 0 := by omega
        unfold vx dd sb; simp
      · obtain rfl : t = 1 := by omega
        unfold vx dd sb; grind
    omega
  · exact Int.le_of_lt (hc i t h2 ht)

theorem within_self {l : List XY} (h : validB l = true) : withinB l l = true := by
  have hl := validB_len' h
  rw [withinB_iff (validB_ranged h) (by omega) (validB_ranged h)]
  exact fun y hy => conv_ins hl.1 (validB_conv h) hy

theorem seat_self {l : List XY} (h : validB l = true) : seatS l l 0 = (true, 0) := by
  have h1 : (List.range l.length).all (seatAt l l 0) = true := by
    rw [List.all_eq_true]
    intro i _
    unfold seatAt
    simp only [Int.sub_self]
    have e : wrap64 (0 * 0) = 0 := w64_id (by omega) (by omega)
    have e1 : wrap64 0 = 0 := w64_id (by omega) (by omega)
    simp [e1]
  unfold seatS
  rw [h, within_self h, h1]
  rfl

theorem seatAt_more {lens groove : List XY} (hg : 0 < groove.length) (hr : groove.all rangedB = true) {n : Int} (h0 : 0 ≤ n) (h1 : n ≤ 255) {i : Nat} (h : seatAt lens groove n i = true) : seatAt lens groove (n + 100) i = true := by
  obtain ⟨a1, a2, a3, a4⟩ := bd_cy hg hr i
  obtain ⟨b1, b2, b3, b4⟩ := bd_cy hg hr (i + 1)
  unfold seatAt at h ⊢
  simp only at h ⊢
  rw [w64_id (show _ ≤ (cy groove (i + 1)).Y - (cy groove i).Y by omega) (by omega), w64_id (show _ ≤ (cy groove i).X - (cy groove (i + 1)).X by omega) (by omega)] at h ⊢
  generalize hu : (cy groove (i + 1)).Y - (cy groove i).Y = u at h ⊢
  generalize hv : (cy groove i).X - (cy groove (i + 1)).X = v at h ⊢
  obtain ⟨u1, u2⟩ := mul_bd (a := u) (b := u) (A := 10000) (B := 10000) (by omega) (by omega) (by omega) (by omega)
  obtain ⟨v1, v2⟩ := mul_bd (a := v) (b := v) (A := 10000) (B := 10000) (by omega) (by omega) (by omega) (by omega)
  have u0 := sq_nonneg u
  have v0 := sq_nonneg v
  obtain ⟨n1, n2⟩ := mul_bd (a := n) (b := n) (A := 355) (B := 355) (by omega) (by omega) (by omega) (by omega)
  obtain ⟨m1, m2⟩ := mul_bd (a := n + 100) (b := n + 100) (A := 355) (B := 355) (by omega) (by omega) (by omega) (by omega)
  have n0 := sq_nonneg n
  rw [w64_id (show _ ≤ u * u by omega) (by omega), w64_id (show _ ≤ v * v by omega) (by omega), w64_id (show _ ≤ u * u + v * v by omega) (by omega)] at h ⊢
  rw [w64_id (show _ ≤ n * n by omega) (by omega)] at h
  rw [w64_id (show _ ≤ (n + 100) * (n + 100) by omega) (by omega)]
  generalize hs : u * u + v * v = s at h ⊢
  obtain ⟨q1, q2⟩ := mul_bd (a := n * n) (b := s) (A := 126025) (B := 200000000) (by omega) (by omega) (by omega) (by omega)
  obtain ⟨r1, r2⟩ := mul_bd (a := (n + 100) * (n + 100)) (b := s) (A := 126025) (B := 200000000) (by omega) (by omega) (by omega) (by omega)
  rw [w64_id (show _ ≤ n * n * s by omega) (by omega)] at h
  rw [w64_id (show _ ≤ (n + 100) * (n + 100) * s by omega) (by omega)]
  have mono : n * n * s ≤ (n + 100) * (n + 100) * s := by
    refine Int.mul_le_mul_of_nonneg_right ?_ (by omega)
    have : (n + 100) * (n + 100) = n * n + 200 * n + 10000 := by grind
    omega
  simp only [Bool.not_eq_true', decide_eq_false_iff_not, Int.not_lt] at h ⊢
  omega

/-- What the law asks of the answers. -/
theorem seat_more {o p : List XY} (ho : validB o = true) {n : Int} (h0 : 0 ≤ n) (h1 : n ≤ 255) :
    (seatS o p n).2 = (seatS o p (n + 100)).2 ∧ ((seatS o p n).1 = true → (seatS o p (n + 100)).1 = true ∧ validB p = true ∧ withinB o p = true) := by
  cases hp : validB p
  · simp [seatS, hp]
  · have g1 : ¬ (n < 0 ∨ 1000 < n) := by omega
    have g2 : ¬ (n + 100 < 0 ∨ 1000 < n + 100) := by omega
    have lp := validB_len' hp
    have e1 : seatS o p n = (withinB o p && (List.range p.length).all (seatAt o p n), 0) := by simp [seatS, ho, hp, g1]
    have e2 : seatS o p (n + 100) = (withinB o p && (List.range p.length).all (seatAt o p (n + 100)), 0) := by simp [seatS, ho, hp, g2]
    rw [e1, e2]
    refine ⟨rfl, fun h => ?_⟩
    simp only [Bool.and_eq_true] at h ⊢
    refine ⟨⟨h.1, ?_⟩, trivial, h.1⟩
    rw [List.all_eq_true] at *
    exact fun i hi => seatAt_more (by omega) (validB_ranged hp) h0 h1 (h.2 i hi)

/-- What the answers of the law are, where the first list is an outline. -/
def NestsLike (a1 : Bool) (a2 : Int) (b1 : Bool) (b2 : Int) (d1 : Bool) (d2 : Int) (s1 : Bool) (f : Int) (m1 : Bool) : Prop :=
  (a2 = 10 ∧ s1 = false ∧ f = 10 ∧ m1 = false) ∨
  (a2 = 0 ∧ b2 = 10 ∧ f = 0 ∧ s1 = false) ∨ (a2 = 0 ∧ b2 = 10 ∧ f = 0 ∧ s1 = true ∧ m1 = true ∧ a1 = true) ∨
  (a2 = 0 ∧ b2 = 0 ∧ d2 = 0 ∧ f = 0 ∧ s1 = false ∧ a1 = false) ∨
  (a2 = 0 ∧ b2 = 0 ∧ d2 = 0 ∧ f = 0 ∧ s1 = false ∧ a1 = true ∧ b1 = false) ∨ (a2 = 0 ∧ b2 = 0 ∧ d2 = 0 ∧ f = 0 ∧ s1 = true ∧ m1 = true ∧ a1 = true ∧ b1 = false) ∨
  (a2 = 0 ∧ b2 = 0 ∧ d2 = 0 ∧ f = 0 ∧ s1 = false ∧ a1 = true ∧ b1 = true ∧ d1 = true) ∨ (a2 = 0 ∧ b2 = 0 ∧ d2 = 0 ∧ f = 0 ∧ s1 = true ∧ m1 = true ∧ a1 = true ∧ b1 = true ∧ d1 = true)

theorem nests_cases (o p q : List XY) {n : Int} (h0 : 0 ≤ n) (h1 : n ≤ 255) (ho : validB o = true) : ∃ a1 a2 b1 b2 d1 d2 s1 f m1, withinS validB withinB o p = (a1, a2) ∧ withinS validB withinB p q = (b1, b2) ∧ withinS validB withinB o q = (d1, d2) ∧
    seatS o o 0 = (true, 0) ∧ seatS o p n = (s1, f) ∧ seatS o p (n + 100) = (m1, f) ∧ NestsLike a1 a2 b1 b2 d1 d2 s1 f m1 := by
  obtain ⟨hf, hs⟩ := seat_more (p := p) ho h0 h1
  refine ⟨(withinS validB withinB o p).1, (withinS validB withinB o p).2, (withinS validB withinB p q).1, (withinS validB withinB p q).2, (withinS validB withinB o q).1, (withinS validB withinB o q).2,
    (seatS o p n).1, (seatS o p n).2, (seatS o p (n + 100)).1, rfl, rfl, rfl, seat_self ho, rfl, by rw [hf], ?_⟩
  unfold NestsLike
  cases hp : validB p
  · left
    simp [withinS, seatS, hp]
  · have g1 : ¬ (n < 0 ∨ 1000 < n) := by omega
    have e0 : (seatS o p n).2 = 0 := by simp [seatS, ho, hp, g1]
    have e1 : withinS validB withinB o p = (withinB o p, 0) := by simp [withinS, ho, hp]
    rw [e0, e1]
    cases hq : validB q
    · have e2 : withinS validB withinB p q = (false, 10) := by simp [withinS, hq]
      rw [e2]
      cases hs1 : (seatS o p n).1
      · simp
      · obtain ⟨x1, _, x3⟩ := hs hs1
        simp [x1, x3]
    · have e2 : withinS validB withinB p q = (withinB p q, 0) := by simp [withinS, hp, hq]
      have e3 : withinS validB withinB o q = (withinB o q, 0) := by simp [withinS, ho, hq]
      rw [e2, e3]
      cases hs1 : (seatS o p n).1
      · cases ha : withinB o p
        · simp
        · cases hb : withinB p q
          · simp
          · simp [within_trans ho hp hq ha hb]
      · obtain ⟨x1, _, x3⟩ := hs hs1
        cases hb : withinB p q
        · simp [x1, x3]
        · simp [x1, x3, within_trans ho hp hq x3 hb]
end Go.Proofs.Ytcbphodkaiknmaa

/- Intervals and sums over the rationals: what a line of corners crosses at one height, and the area that this adds up to; shapes on a board of which any two are apart have at most its area. -/
import Derived.Test.YtohlinbcbfgdfaaMathNM
namespace Go.Proofs.Ytohlinbcbfgdfaa

def sumR (f : Nat → Rat) : Nat → Rat
  | 0 => 0
  | n + 1 => sumR f n + f n
theorem sumR_congr {f g : Nat → Rat} : ∀ n, (∀ i, i < n → f i = g i) → sumR f n = sumR g n
  | 0, _ => rfl
  | n + 1, h => by
    show sumR f n + f n = sumR g n + g n
    rw [sumR_congr n (fun i hi => h i (by omega)), h n (by omega)]
theorem sumR_add (f g : Nat → Rat) : ∀ n, sumR (fun i => f i + g i) n = sumR f n + sumR g n
  | 0 => by show (0 : Rat) = 0 + 0; grind
  | n + 1 => by
    show sumR (fun i => f i + g i) n + (f n + g n) = (sumR f n + f n) + (sumR g n + g n)
    rw [sumR_add f g n]; grind
theorem sumR_zero : ∀ n, sumR (fun _ => 0) n = 0
  | 0 => rfl
  | n + 1 => by show sumR (fun _ => 0) n + 0 = 0; rw [sumR_zero n]; grind
theorem sumR_swap (f : Nat → Nat → Rat) (m : Nat) : ∀ n, sumR (fun j => sumR (fun i => f i j) m) n = sumR (fun i => sumR (fun j => f i j) n) m
  | 0 => by show (0 : Rat) = _; rw [show (fun i => sumR (fun j => f i j) 0) = (fun _ => 0) from rfl, sumR_zero]
  | n + 1 => by
    show sumR (fun j => sumR (fun i => f i j) m) n + sumR (fun i => f i n) m = sumR (fun i => sumR (fun j => f i j) n + f i n) m
    rw [sumR_swap f m n, sumR_add]
theorem sumR_le {f : Nat → Rat} {W : Rat} : ∀ n, (∀ i, i < n → f i ≤ W) → sumR f n ≤ W * n
  | 0, _ => by show (0 : Rat) ≤ _; rw [show ((0 : Nat) : Rat) = 0 from rfl]; grind
  | n + 1, h => by
    show sumR f n + f n ≤ W * ((n + 1 : Nat) : Rat)
    have h1 := sumR_le n (fun i hi => h i (by omega))
    have h2 := h n (by omega)
    have e : ((n + 1 : Nat) : Rat) = (n : Rat) + 1 := by push_cast; rfl
    rw [e]; grind

/-- Where the side from (a, c) to (b, d) crosses the middle between y and y + 1. -/
def xe (a c b d y : Int) : Rat := (a : Rat) + ((b : Rat) - a) * ((y : Rat) + 1 / 2 - c) / ((d : Rat) - c)
def cr (a c b d y : Int) : Rat := if c ≤ y ∧ y < d then xe a c b d y else if d ≤ y ∧ y < c then -xe a c b d y else 0

theorem cast_lt {a b : Int} (h : a < b) : (a : Rat) < (b : Rat) := by exact_mod_cast h
theorem cast_le {a b : Int} (h : a ≤ b) : (a : Rat) ≤ (b : Rat) := by exact_mod_cast h

theorem cr_up {a c b d : Int} (h : c < d) (hc : 0 ≤ c) : ∀ t : Nat, sumR (fun y => cr a c b d y) t = if (t : Int) ≤ c then 0 else if (t : Int) ≤ d then (a : Rat) * ((t : Rat) - c) + ((b : Rat) - a) * (((t : Rat) - c) * ((t : Rat) - c)) / (2 * ((d : Rat) - c)) else ((a : Rat) + b) * ((d : Rat) - c) / 2
  | 0 => by show (0 : Rat) = _; rw [if_pos (by omega)]
  | t + 1 => by
    have hd := cast_lt h
    have hne : (d : Rat) - c ≠ 0 := by grind
    show sumR (fun y => cr a c b d y) t + cr a c b d t = _
    rw [cr_up h hc t]
    have e : ((t + 1 : Nat) : Rat) = (t : Rat) + 1 := by push_cast; rfl
    have e0 : ((t + 1 : Nat) : Int) = (t : Int) + 1 := by push_cast; rfl
    have e2 : (((t : Nat) : Int) : Rat) = (t : Rat) := Rat.intCast_natCast t
    rw [e, e0]
    unfold cr xe
    rw [e2]
    have cst : ∀ x : Int, (t : Int) = x → (t : Rat) = (x : Rat) := fun x hx => by rw [← hx, e2]
    by_cases h1 : (t : Int) + 1 ≤ c
    · rw [if_pos (show (t : Int) ≤ c by omega), if_neg (show ¬(c ≤ (t : Int) ∧ (t : Int) < d) by omega), if_neg (show ¬(d ≤ (t : Int) ∧ (t : Int) < c) by omega), if_pos h1]; grind
    · rw [if_neg h1]
      by_cases h2 : (t : Int) + 1 ≤ d
      · rw [if_pos h2, if_pos (show c ≤ (t : Int) ∧ (t : Int) < d by omega)]
        by_cases h3 : (t : Int) ≤ c
        · rw [if_pos h3, cst c (by omega)]
          grind
        · rw [if_neg h3, if_pos (show (t : Int) ≤ d by omega)]
          grind
      · rw [if_neg h2, if_neg (show ¬(c ≤ (t : Int) ∧ (t : Int) < d) by omega), if_neg (show ¬(d ≤ (t : Int) ∧ (t : Int) < c) by omega), if_neg (show ¬(t : Int) ≤ c by omega)]
        by_cases h3 : (t : Int) ≤ d
        · rw [if_pos h3, cst d (by omega)]
          grind
        · rw [if_neg h3]; grind
theorem xe_swap {a c b d y : Int} (h : c ≠ d) : xe a c b d y = xe b d a c y := by
  have hne : (d : Rat) - c ≠ 0 := fun hh => h (by have : (c : Rat) = d := by grind
                                                  exact_mod_cast this)
  have hne2 : (c : Rat) - d ≠ 0 := by grind
  unfold xe
  grind
theorem cr_swap (a c b d y : Int) : cr b d a c y = -cr a c b d y := by
  unfold cr
  by_cases h1 : c ≤ y ∧ y < d
  · rw [if_pos h1, if_neg (by omega), if_pos h1, xe_swap (by omega)]
  · rw [if_neg h1]
    by_cases h2 : d ≤ y ∧ y < c
    · rw [if_pos h2, if_pos h2, xe_swap (by omega)]; grind
    · rw [if_neg h2, if_neg h2, if_neg h1]; grind
theorem sumR_neg (f : Nat → Rat) : ∀ n, sumR (fun i => -f i) n = -sumR f n
  | 0 => by show (0 : Rat) = -0; grind
  | n + 1 => by show sumR (fun i => -f i) n + -f n = -(sumR f n + f n); rw [sumR_neg f n]; grind
theorem cr_sum {a c b d : Int} {H : Nat} (hc : 0 ≤ c) (hd : 0 ≤ d) (hcH : c ≤ H) (hdH : d ≤ H) : 2 * sumR (fun y => cr a c b d y) H = ((a : Rat) + b) * ((d : Rat) - c) := by
  have up : ∀ {a c b d : Int}, c < d → 0 ≤ c → d ≤ H → 2 * sumR (fun y => cr a c b d y) H = ((a : Rat) + b) * ((d : Rat) - c) := fun {a c b d} h h0 hH => by
    have hdl := cast_lt h
    have hne : (d : Rat) - c ≠ 0 := by grind
    rw [cr_up h h0, if_neg (by omega)]
    by_cases h3 : (H : Int) ≤ d
    · have : (H : Int) = d := by omega
      have ec : (H : Rat) = (d : Rat) := by rw [← this, Rat.intCast_natCast]
      rw [if_pos h3, ec]
      grind
    · rw [if_neg h3]; grind
  rcases Int.lt_trichotomy c d with h | h | h
  · exact up h hc hdH
  · subst h
    have : (fun y : Nat => cr a c b c y) = fun _ => 0 := by
      funext y; unfold cr; rw [if_neg (by omega), if_neg (by omega)]
    rw [this, sumR_zero]; grind
  · have e : (fun y : Nat => cr a c b d y) = fun y : Nat => -cr b d a c y := by
      funext y; rw [cr_swap]
    rw [e, sumR_neg]
    have := up (a := b) (c := d) (b := a) (d := c) h hd hcH
    grind

theorem xe_le1 {a b c d u v k x h : Rat} (e : (d - c) * x = (d - c) * a + (b - a) * (h - c)) (m1 : 0 ≤ (d - h) * (k - (u * a + v * c))) (m2 : 0 ≤ (h - c) * (k - (u * b + v * d))) : (d - c) * (u * x + v * h) ≤ (d - c) * k := by
  have e1 : (d - c) * (u * x) = u * ((d - c) * a + (b - a) * (h - c)) := by rw [← e]; grind
  have e2 : (d - c) * (u * x + v * h) = (d - h) * (u * a + v * c) + (h - c) * (u * b + v * d) := by
    rw [Rat.mul_add, e1]; grind
  rw [e2]
  grind
/-- A side that crosses: a line that no corner of it is beyond is not crossed there. -/
theorem xe_le {a c b d y u v k : Int} (h : (c ≤ y ∧ y < d) ∨ (d ≤ y ∧ y < c)) (h1 : u * a + v * c ≤ k) (h2 : u * b + v * d ≤ k) : (u : Rat) * xe a c b d y + (v : Rat) * ((y : Rat) + 1 / 2) ≤ k := by
  have up : ∀ {a c b d : Int}, (c ≤ y ∧ y < d) → u * a + v * c ≤ k → u * b + v * d ≤ k → (u : Rat) * xe a c b d y + (v : Rat) * ((y : Rat) + 1 / 2) ≤ k := fun {a c b d} h h1 h2 => by
    have g1 := cast_le h1
    have g2 := cast_le h2
    simp only [Rat.intCast_add, Rat.intCast_mul] at g1 g2
    have c1 := cast_le h.1
    have c2 := cast_le (show y + 1 ≤ d by omega)
    simp only [Rat.intCast_add] at c2
    rw [show ((1 : Int) : Rat) = 1 from rfl] at c2
    have hp : (0 : Rat) < (d : Rat) - c := by grind
    have hne : (d : Rat) - c ≠ 0 := by grind
    refine Rat.le_of_mul_le_mul_left (c := (d : Rat) - c) ?_ hp
    have m1 := Rat.mul_nonneg (show (0 : Rat) ≤ (d : Rat) - (y + 1 / 2) by grind) (show (0 : Rat) ≤ k - (u * a + v * c) by grind)
    have m2 := Rat.mul_nonneg (show (0 : Rat) ≤ ((y : Rat) + 1 / 2) - c by grind) (show (0 : Rat) ≤ k - (u * b + v * d) by grind)
    have e : ((d : Rat) - c) * xe a c b d y = (d - c) * a + (b - a) * (y + 1 / 2 - c) := by unfold xe; grind
    exact xe_le1 e m1 m2
  rcases h with h | h
  · exact up h h1 h2
  · rw [xe_swap (by omega)]; exact up h h2 h1

/-- Intervals that do not overlap, in one. -/
theorem ivs_sum : ∀ (n : Nat) (l : List (Rat × Rat)) (A B : Rat), l.length ≤ n → A ≤ B → (∀ p ∈ l, A ≤ p.1 ∧ p.1 ≤ p.2 ∧ p.2 ≤ B) → l.Pairwise (fun p q => p.2 ≤ q.1 ∨ q.2 ≤ p.1) → (l.map fun p => p.2 - p.1).sum ≤ B - A
  | n, [], A, B, _, hAB, _, _ => by show (0 : Rat) ≤ _; grind
  | 0, p :: l, _, _, h, _, _, _ => by simp at h
  | n + 1, p :: l, A, B, hn, hAB, hb, hp => by
    obtain ⟨h1, h2⟩ := List.pairwise_cons.1 hp
    obtain ⟨a1, a2, a3⟩ := hb p List.mem_cons_self
    have hl : l.length ≤ n := by simpa using hn
    have part : ∀ (m : List (Rat × Rat)), (∀ q ∈ m, p.2 ≤ q.1 ∨ q.2 ≤ p.1) → (m.map fun p => p.2 - p.1).sum = ((m.filter fun q => decide (p.2 ≤ q.1)).map fun p => p.2 - p.1).sum + ((m.filter fun q => !decide (p.2 ≤ q.1)).map fun p => p.2 - p.1).sum := by
      intro m
      induction m with
      | nil => intro _; show (0 : Rat) = 0 + 0; grind
      | cons q m ih =>
        intro hm
        have hi := ih (fun r hr => hm r (List.mem_cons_of_mem _ hr))
        by_cases hq : p.2 ≤ q.1
        · simp only [List.filter_cons, hq, decide_true, Bool.not_true, List.map_cons, List.sum_cons, if_true]
          rw [hi]; simp; grind
        · simp only [List.filter_cons, hq, decide_false, Bool.not_false, List.map_cons, List.sum_cons, if_true]
          rw [hi]; simp; grind
    have f1 := ivs_sum n (l.filter fun q => decide (p.2 ≤ q.1)) p.2 B (by have := List.length_filter_le (fun q : Rat × Rat => decide (p.2 ≤ q.1)) l; omega) a3
      (fun q hq => by
        obtain ⟨m1, m2⟩ := List.mem_filter.1 hq
        obtain ⟨b1, b2, b3⟩ := hb q (List.mem_cons_of_mem _ m1)
        exact ⟨by simpa using m2, b2, b3⟩) (h2.filter _)
    have f2 := ivs_sum n (l.filter fun q => !decide (p.2 ≤ q.1)) A p.1 (by have := List.length_filter_le (fun q : Rat × Rat => !decide (p.2 ≤ q.1)) l; omega) a1
      (fun q hq => by
        obtain ⟨m1, m2⟩ := List.mem_filter.1 hq
        obtain ⟨b1, b2, b3⟩ := hb q (List.mem_cons_of_mem _ m1)
        simp at m2
        refine ⟨b1, b2, ?_⟩
        rcases h1 q m1 with h | h
        · exact absurd h (by grind)
        · exact h) (h2.filter _)
    rw [List.map_cons, List.sum_cons, part l h1]
    grind

/-- A line of corners that goes up, then down: its crossings at one height. -/
theorem chain_cross {X Y : Nat → Int} {m n : Nat} (hm : m ≤ n) (hup : ∀ i, i < m → Y i ≤ Y (i + 1)) (hdn : ∀ i, m ≤ i → i < n → Y (i + 1) ≤ Y i) (hY : Y n = Y 0) (y : Int) :
    sumR (fun i => cr (X i) (Y i) (X (i + 1)) (Y (i + 1)) y) n = 0 ∨ ∃ i j, i < m ∧ m ≤ j ∧ j < n ∧ (Y i ≤ y ∧ y < Y (i + 1)) ∧ (Y (j + 1) ≤ y ∧ y < Y j) ∧ sumR (fun i => cr (X i) (Y i) (X (i + 1)) (Y (i + 1)) y) n = xe (X i) (Y i) (X (i + 1)) (Y (i + 1)) y - xe (X j) (Y j) (X (j + 1)) (Y (j + 1)) y := by
  obtain ⟨f, hf⟩ : ∃ f : Nat → Rat, ∀ i, f i = cr (X i) (Y i) (X (i + 1)) (Y (i + 1)) y := ⟨_, fun i => rfl⟩
  rw [sumR_congr (f := fun i => cr (X i) (Y i) (X (i + 1)) (Y (i + 1)) y) (g := f) n (fun i _ => (hf i).symm)]
  have c1 : ∀ k, k ≤ m → (sumR f k = 0 ∧ (Y k ≤ y ∨ y < Y 0)) ∨ (Y 0 ≤ y ∧ y < Y k ∧ ∃ i, i < k ∧ (Y i ≤ y ∧ y < Y (i + 1)) ∧ sumR f k = xe (X i) (Y i) (X (i + 1)) (Y (i + 1)) y) := by
    intro k
    induction k with
    | zero => intro _; exact .inl ⟨rfl, by omega⟩
    | succ k ih =>
      intro hk
      have hstep : sumR f (k + 1) = sumR f k + f k := rfl
      have hmono := hup k (by omega)
      rcases ih (by omega) with ⟨h1, h2⟩ | ⟨h1, h2, i, hi, hc, hs⟩
      · by_cases hx : Y k ≤ y ∧ y < Y (k + 1)
        · have h0 : Y 0 ≤ y ∨ y < Y 0 := by omega
          rcases h0 with h0 | h0
          · refine .inr ⟨h0, hx.2, k, by omega, hx, ?_⟩
            rw [hstep, h1, hf]; unfold cr; rw [if_pos hx]; grind
          · exfalso
            have mono : ∀ t, t ≤ k → Y 0 ≤ Y t := by
              intro t
              induction t with
              | zero => intro _; omega
              | succ t iht => intro ht; have := hup t (by omega); have := iht (by omega); omega
            have := mono k (Nat.le_refl _)
            omega
        · refine .inl ⟨?_, by omega⟩
          rw [hstep, h1, hf]; unfold cr; rw [if_neg hx, if_neg (by omega)]; grind
      · refine .inr ⟨h1, by omega, i, by omega, hc, ?_⟩
        rw [hstep, hs, hf]; unfold cr; rw [if_neg (by omega), if_neg (by omega)]; grind
  have c2 : ∀ t, m + t ≤ n → (sumR f (m + t) = sumR f m ∧ (y < Y (m + t) ∨ Y m ≤ y)) ∨ (Y (m + t) ≤ y ∧ y < Y m ∧ ∃ j, m ≤ j ∧ j < n ∧ (Y (j + 1) ≤ y ∧ y < Y j) ∧ sumR f (m + t) = sumR f m - xe (X j) (Y j) (X (j + 1)) (Y (j + 1)) y) := by
    intro t
    induction t with
    | zero => intro _; exact .inl ⟨rfl, by show y < Y m ∨ _; omega⟩
    | succ t ih =>
      intro ht
      have hstep : sumR f (m + (t + 1)) = sumR f (m + t) + f (m + t) := rfl
      have hmono := hdn (m + t) (by omega) (by omega)
      have e : m + (t + 1) = m + t + 1 := by omega
      rcases ih (by omega) with ⟨h1, h2⟩ | ⟨h1, h2, j, hj, hjn, hc, hs⟩
      · by_cases hx : Y (m + t + 1) ≤ y ∧ y < Y (m + t)
        · by_cases h0 : Y m ≤ y
          · exfalso
            have mono : ∀ s, m + s ≤ m + t → Y (m + s) ≤ Y m := by
              intro s
              induction s with
              | zero => intro _; exact Int.le_refl _
              | succ s ihs => intro hs; have := hdn (m + s) (by omega) (by omega); have := ihs (by omega); show Y (m + s + 1) ≤ _; omega
            have := mono t (Nat.le_refl _)
            omega
          · refine .inr ⟨by rw [e]; exact hx.1, by omega, m + t, by omega, by omega, hx, ?_⟩
            rw [hstep, h1, hf]; unfold cr; rw [if_neg (by omega), if_pos hx]; grind
        · refine .inl ⟨?_, by rw [e]; omega⟩
          rw [hstep, h1, hf]; unfold cr; rw [if_neg (by omega), if_neg hx]; grind
      · refine .inr ⟨by rw [e]; omega, h2, j, hj, hjn, hc, ?_⟩
        rw [hstep, hs, hf]; unfold cr; rw [if_neg (by omega), if_neg (by omega)]; grind
  have d1 := c1 m (Nat.le_refl _)
  have d2 := c2 (n - m) (by omega)
  rw [show m + (n - m) = n by omega, hY] at d2
  rcases d1 with ⟨h1, h2⟩ | ⟨h1, h2, i, hi, hc, hs⟩
  · rcases d2 with ⟨k1, k2⟩ | ⟨k1, k2, _⟩
    · exact .inl (by rw [k1, h1])
    · omega
  · rcases d2 with ⟨k1, k2⟩ | ⟨k1, k2, j, hj, hjn, hcj, hsj⟩
    · omega
    · exact .inr ⟨i, j, hi, hj, hjn, hc, hcj, by rw [hsj, hs]⟩

/-- A line of corners that closes, goes up and then down, turns left and lies on a board; A is twice its area. -/
structure Shape where
  n : Nat
  X : Nat → Int
  Y : Nat → Int
  A : Int
def shoeS (X Y : Nat → Int) : Nat → Int
  | 0 => 0
  | k + 1 => shoeS X Y k + (X k * Y (k + 1) - Y k * X (k + 1))
structure Good (W : Int) (H : Nat) (s : Shape) : Prop where
  pX : s.X s.n = s.X 0
  pY : s.Y s.n = s.Y 0
  chain : ∃ m, m ≤ s.n ∧ (∀ i, i < m → s.Y i ≤ s.Y (i + 1)) ∧ ∀ i, m ≤ i → i < s.n → s.Y (i + 1) ≤ s.Y i
  left : ∀ i j, 0 ≤ (s.X (i + 1) - s.X i) * (s.Y j - s.Y i) - (s.Y (i + 1) - s.Y i) * (s.X j - s.X i)
  bd : ∀ i, 0 ≤ s.X i ∧ s.X i ≤ W ∧ 0 ≤ s.Y i ∧ s.Y i ≤ H
  area : s.A = shoeS s.X s.Y s.n
def Apt (s t : Shape) : Prop := ∃ u v k : Int, (u ≠ 0 ∨ v ≠ 0) ∧ (∀ i, u * s.X i + v * s.Y i ≤ k) ∧ ∀ i, k ≤ u * t.X i + v * t.Y i
def wdS (s : Shape) (y : Int) : Rat := sumR (fun i => cr (s.X i) (s.Y i) (s.X (i + 1)) (s.Y (i + 1)) y) s.n
structure Sec (s : Shape) (y : Int) (p : Rat × Rat) : Prop where
  le : p.1 ≤ p.2
  ex : ∃ i j, (s.Y i ≤ y ∧ y < s.Y (i + 1)) ∧ (s.Y (j + 1) ≤ y ∧ y < s.Y j) ∧ p.2 = xe (s.X i) (s.Y i) (s.X (i + 1)) (s.Y (i + 1)) y ∧ p.1 = xe (s.X j) (s.Y j) (s.X (j + 1)) (s.Y (j + 1)) y

theorem shoe_cast (X Y : Nat → Int) : ∀ k, sumR (fun i => ((X i : Rat) + (X (i + 1) : Rat)) * ((Y (i + 1) : Rat) - (Y i : Rat))) k = (shoeS X Y k : Rat) + (X k * Y k - X 0 * Y 0 : Int)
  | 0 => by show (0 : Rat) = ((0 : Int) : Rat) + _; rw [Int.sub_self, show ((0 : Int) : Rat) = 0 from rfl]; grind
  | k + 1 => by
    show sumR _ k + _ = ((shoeS X Y k + (X k * Y (k + 1) - Y k * X (k + 1)) : Int) : Rat) + _
    rw [shoe_cast X Y k]
    simp only [Rat.intCast_add, Rat.intCast_sub, Rat.intCast_mul]
    grind
theorem sumR_mul (c : Rat) (f : Nat → Rat) : ∀ n, c * sumR f n = sumR (fun i => c * f i) n
  | 0 => by show c * 0 = 0; grind
  | n + 1 => by show c * (sumR f n + f n) = sumR (fun i => c * f i) n + c * f n; rw [← sumR_mul c f n]; grind
theorem area_wd {W : Int} {H : Nat} {s : Shape} (h : Good W H s) : 2 * sumR (fun y => wdS s y) H = (s.A : Rat) := by
  unfold wdS
  rw [sumR_swap (fun i (y : Nat) => cr (s.X i) (s.Y i) (s.X (i + 1)) (s.Y (i + 1)) y) s.n H, sumR_mul]
  rw [sumR_congr (g := fun i => ((s.X i : Rat) + (s.X (i + 1) : Rat)) * ((s.Y (i + 1) : Rat) - (s.Y i : Rat))) s.n (fun i _ => cr_sum (h.bd i).2.2.1 (h.bd (i + 1)).2.2.1 (h.bd i).2.2.2 (h.bd (i + 1)).2.2.2)]
  rw [shoe_cast, h.pX, h.pY, Int.sub_self, h.area, show ((0 : Int) : Rat) = 0 from rfl]
  grind
theorem rat_mul_le {u x y : Rat} (hu : 0 < u) (h : u * x ≤ u * y) : x ≤ y := Rat.le_of_mul_le_mul_left h hu
theorem sec_of {W : Int} {H : Nat} {s : Shape} (h : Good W H s) (y : Int) : wdS s y = 0 ∨ ∃ p, Sec s y p ∧ wdS s y = p.2 - p.1 := by
  obtain ⟨m, hm, hup, hdn⟩ := h.chain
  rcases chain_cross (X := s.X) (Y := s.Y) hm hup hdn h.pY y with h0 | ⟨i, j, hi, hj, hjn, hci, hcj, he⟩
  · exact .inl h0
  · refine .inr ⟨(xe (s.X j) (s.Y j) (s.X (j + 1)) (s.Y (j + 1)) y, xe (s.X i) (s.Y i) (s.X (i + 1)) (s.Y (i + 1)) y), ⟨?_, i, j, hci, hcj, rfl, rfl⟩, he⟩
    obtain ⟨u, hu⟩ : ∃ u, s.Y (i + 1) - s.Y i = u := ⟨_, rfl⟩
    obtain ⟨v, hv⟩ : ∃ v, s.X (i + 1) - s.X i = v := ⟨_, rfl⟩
    have hl : ∀ c, u * s.X c + -v * s.Y c ≤ u * s.X i + -v * s.Y i := fun c => by
      have := h.left i c
      rw [hu, hv] at this
      grind
    have e1 := xe_le (u := u) (v := -v) (.inr hcj) (hl j) (hl (j + 1))
    have hi1 : -u * s.X (i + 1) + v * s.Y (i + 1) ≤ -(u * s.X i + -v * s.Y i) := by rw [← hu, ← hv]; grind
    have e2 := xe_le (u := -u) (v := v) (k := -(u * s.X i + -v * s.Y i)) (a := s.X i) (b := s.X (i + 1)) (.inl hci) (by rw [Int.neg_mul, Int.neg_mul]; omega) hi1
    have hpos : (0 : Rat) < (u : Rat) := by have := cast_lt (show 0 < u by omega); exact this
    refine rat_mul_le hpos ?_
    simp only [Rat.intCast_neg] at e1 e2
    grind
theorem sec_bd {W : Int} {H : Nat} {s : Shape} (h : Good W H s) {y : Int} {p : Rat × Rat} (hp : Sec s y p) : 0 ≤ p.1 ∧ p.2 ≤ (W : Rat) := by
  obtain ⟨i, j, hi, hj, e1, e2⟩ := hp.ex
  have b := h.bd
  have f1 := xe_le (a := s.X j) (b := s.X (j + 1)) (u := -1) (v := 0) (k := 0) (.inr hj) (by have := b j; omega) (by have := b (j + 1); omega)
  have f2 := xe_le (a := s.X i) (b := s.X (i + 1)) (u := 1) (v := 0) (k := W) (.inl hi) (by have := b i; omega) (by have := b (i + 1); omega)
  rw [e1, e2]
  rw [show ((-1 : Int) : Rat) = -1 from rfl, show ((0 : Int) : Rat) = 0 from rfl] at f1
  rw [show ((1 : Int) : Rat) = 1 from rfl, show ((0 : Int) : Rat) = 0 from rfl] at f2
  constructor <;> grind
theorem sec_apt {s t : Shape} (h : Apt s t) {y : Int} {p q : Rat × Rat} (hp : Sec s y p) (hq : Sec t y q) : p.2 ≤ q.1 ∨ q.2 ≤ p.1 := by
  obtain ⟨u, v, k, hne, hs, ht⟩ := h
  obtain ⟨i, j, hi, hj, e1, e2⟩ := hp.ex
  obtain ⟨a, b, ha, hb, g1, g2⟩ := hq.ex
  have s1 := xe_le (.inl hi) (hs i) (hs (i + 1))
  have s2 := xe_le (.inr hj) (hs j) (hs (j + 1))
  have ht' : ∀ c, -u * t.X c + -v * t.Y c ≤ -k := fun c => by have := ht c; grind
  have t1 := xe_le (.inl ha) (ht' a) (ht' (a + 1))
  have t2 := xe_le (.inr hb) (ht' b) (ht' (b + 1))
  rw [← e1] at s1
  rw [← e2] at s2
  rw [← g1] at t1
  rw [← g2] at t2
  simp only [Rat.intCast_neg] at t1 t2
  rcases Int.lt_trichotomy u 0 with hu | hu | hu
  · right
    have hpos : (0 : Rat) < -(u : Rat) := by have := cast_lt hu; rw [show ((0 : Int) : Rat) = 0 from rfl] at this; grind
    refine rat_mul_le hpos ?_
    grind
  · exfalso
    subst hu
    have k1 := hs i
    have k2 := hs (i + 1)
    have k3 := ht a
    have k4 := ht (a + 1)
    simp only [Int.zero_mul, Int.zero_add] at k1 k2 k3 k4
    rcases Int.lt_trichotomy v 0 with hv | hv | hv
    · have : v * s.Y i ≤ v * t.Y (a + 1) := by omega
      have := Int.le_of_mul_le_mul_left (a := -v) (b := t.Y (a + 1)) (c := s.Y i) (by rw [Int.neg_mul, Int.neg_mul]; omega) (by omega)
      omega
    · omega
    · have : v * s.Y (i + 1) ≤ v * t.Y a := by omega
      have := Int.le_of_mul_le_mul_left this hv
      omega
  · left
    have hpos : (0 : Rat) < (u : Rat) := by have := cast_lt hu; exact this
    refine rat_mul_le hpos ?_
    grind
theorem row_le {W : Int} {H : Nat} (hW : 0 ≤ W) (y : Int) {L : List Shape} (hg : ∀ s ∈ L, Good W H s) (hp : L.Pairwise fun s t => Apt s t ∨ Apt t s) : (L.map fun s => wdS s y).sum ≤ (W : Rat) := by
  have key : ∀ L : List Shape, (∀ s ∈ L, Good W H s) → (L.Pairwise fun s t => Apt s t ∨ Apt t s) → ∃ ivs : List (Rat × Rat), (L.map fun s => wdS s y).sum = (ivs.map fun p => p.2 - p.1).sum ∧ (∀ p ∈ ivs, ∃ s ∈ L, Sec s y p) ∧ ivs.Pairwise fun p q => p.2 ≤ q.1 ∨ q.2 ≤ p.1 := by
    intro L
    induction L with
    | nil => intro _ _; exact ⟨[], rfl, fun p hp => by simp at hp, .nil⟩
    | cons s L ih =>
      intro hg hp
      obtain ⟨h1, h2⟩ := List.pairwise_cons.1 hp
      obtain ⟨ivs, i1, i2, i3⟩ := ih (fun t ht => hg t (List.mem_cons_of_mem _ ht)) h2
      rcases sec_of (hg s List.mem_cons_self) y with h0 | ⟨p, hs, he⟩
      · refine ⟨ivs, ?_, fun q hq => ?_, i3⟩
        · rw [List.map_cons, List.sum_cons, h0, i1]; grind
        · obtain ⟨t, ht, hs⟩ := i2 q hq
          exact ⟨t, List.mem_cons_of_mem _ ht, hs⟩
      · refine ⟨p :: ivs, ?_, fun q hq => ?_, List.pairwise_cons.2 ⟨fun q hq => ?_, i3⟩⟩
        · rw [List.map_cons, List.sum_cons, he, i1, List.map_cons, List.sum_cons]
        · rcases List.mem_cons.1 hq with rfl | hq
          · exact ⟨s, List.mem_cons_self, hs⟩
          · obtain ⟨t, ht, hs⟩ := i2 q hq
            exact ⟨t, List.mem_cons_of_mem _ ht, hs⟩
        · obtain ⟨t, ht, hsq⟩ := i2 q hq
          rcases h1 t ht with h | h
          · exact sec_apt h hs hsq
          · exact (sec_apt h hsq hs).symm
  obtain ⟨ivs, i1, i2, i3⟩ := key L hg hp
  rw [i1]
  have hW' : (0 : Rat) ≤ (W : Rat) := cast_le hW
  have := ivs_sum ivs.length ivs 0 W (Nat.le_refl _) hW' (fun p hp => by
    obtain ⟨s, hs, hsec⟩ := i2 p hp
    obtain ⟨b1, b2⟩ := sec_bd (hg s hs) hsec
    exact ⟨b1, hsec.le, b2⟩) i3
  grind
theorem sum_swap (H : Nat) : ∀ L : List Shape, (L.map fun s => sumR (fun y => wdS s y) H).sum = sumR (fun y : Nat => (L.map fun s => wdS s y).sum) H
  | [] => by show (0 : Rat) = sumR (fun _ => 0) H; rw [sumR_zero]
  | s :: L => by
    rw [List.map_cons, List.sum_cons, sum_swap H L, ← sumR_add]
    exact sumR_congr H fun i _ => by rw [List.map_cons, List.sum_cons]
/-- Shapes on a board of which any two are apart. -/
theorem pack {W : Int} {H : Nat} (hW : 0 ≤ W) {L : List Shape} (hg : ∀ s ∈ L, Good W H s) (hp : L.Pairwise fun s t => Apt s t ∨ Apt t s) : (L.map Shape.A).sum ≤ 2 * W * H := by
  have e : ∀ L : List Shape, (∀ s ∈ L, Good W H s) → (((L.map Shape.A).sum : Int) : Rat) = 2 * (L.map fun s => sumR (fun y => wdS s y) H).sum := by
    intro L
    induction L with
    | nil => intro _; show ((0 : Int) : Rat) = 2 * 0; rw [show ((0 : Int) : Rat) = 0 from rfl]; grind
    | cons s L ih =>
      intro hg
      rw [List.map_cons, List.sum_cons, Rat.intCast_add, ih (fun t ht => hg t (List.mem_cons_of_mem _ ht)), ← area_wd (hg s List.mem_cons_self), List.map_cons, List.sum_cons]
      grind
  have h1 := e L hg
  rw [sum_swap] at h1
  have h2 := sumR_le (f := fun y : Nat => (L.map fun s => wdS s y).sum) (W := W) H (fun y _ => row_le hW y hg hp)
  have h3 : (((L.map Shape.A).sum : Int) : Rat) ≤ ((2 * W * H : Int) : Rat) := by
    rw [h1]
    simp only [Rat.intCast_mul, Rat.intCast_natCast]
    rw [show ((2 : Int) : Rat) = 2 from rfl]
    grind
  exact_mod_cast h3
end Go.Proofs.Ytohlinbcbfgdfaa

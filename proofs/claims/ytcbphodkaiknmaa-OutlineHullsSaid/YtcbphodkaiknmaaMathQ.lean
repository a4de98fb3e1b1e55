/- Sums over the sides; mirrors, half turns and the corner with which a list begins: what they leave; they undo themselves and keep all measures. -/
import Derived.Test.YtcbphodkaiknmaaMathE
namespace Go.Proofs.Ytcbphodkaiknmaa
open Go.RowKit (wrap64)

/-! ### Sums -/
def sumTo (g : Nat → Int) : Nat → Int
  | 0 => 0
  | n + 1 => sumTo g n + g n
theorem sumTo_front (g : Nat → Int) : ∀ n, sumTo g (n + 1) = g 0 + sumTo (fun i => g (i + 1)) n
  | 0 => by unfold sumTo; unfold sumTo; omega
  | n + 1 => by
    show sumTo g (n + 1) + g (n + 1) = g 0 + (sumTo (fun i => g (i + 1)) n + g (n + 1))
    rw [sumTo_front g n]; omega
theorem sumTo_congr {g h : Nat → Int} : ∀ n, (∀ i, i < n → g i = h i) → sumTo g n = sumTo h n
  | 0, _ => rfl
  | n + 1, H => by
    show sumTo g n + g n = sumTo h n + h n
    rw [sumTo_congr n (fun i hi => H i (by omega)), H n (by omega)]
theorem sumTo_rev (g : Nat → Int) : ∀ n, sumTo g n = sumTo (fun i => g (n - 1 - i)) n
  | 0 => rfl
  | n + 1 => by
    rw [sumTo_front (fun i => g (n + 1 - 1 - i)) n]
    show sumTo g n + g n = _
    rw [sumTo_rev g n, sumTo_congr (h := fun i => g (n + 1 - 1 - (i + 1))) n (fun i hi => by congr 1; omega)]
    show _ + g n = g (n + 1 - 1 - 0) + _
    simp only [Nat.add_sub_cancel, Nat.sub_zero]
    omega
theorem sumTo_shift1 {g : Nat → Int} {n : Nat} (per : ∀ i, g (i + n) = g i) : sumTo (fun i => g (i + 1)) n = sumTo g n := by
  have h1 := sumTo_front g n
  have h2 : sumTo g (n + 1) = sumTo g n + g n := rfl
  have h3 := per 0
  rw [Nat.zero_add] at h3
  omega
theorem sumTo_shift {g : Nat → Int} {n : Nat} (per : ∀ i, g (i + n) = g i) : ∀ k, sumTo (fun i => g (k + i)) n = sumTo g n
  | 0 => sumTo_congr n (fun i _ => by rw [Nat.zero_add])
  | k + 1 => by
    rw [← sumTo_shift per k, ← sumTo_shift1 (g := fun i => g (k + i)) (n := n) (fun i => by show g (k + (i + n)) = g (k + i); rw [← Nat.add_assoc]; exact per _)]
    exact sumTo_congr n (fun i _ => by show g (k + 1 + i) = g (k + (i + 1)); congr 1; omega)

/-- A sum over all sides. -/
def sides (F : XY → XY → Int) (l : List XY) : Int := sumTo (fun i => F (cy l i) (cy l (i + 1))) l.length
theorem sides_rot (F : XY → XY → Int) {l : List XY} {k : Nat} (hk : k < l.length) : sides F (rotL l k) = sides F l := by
  unfold sides
  rw [rotL_length]
  rw [sumTo_congr (h := fun i => F (cy l (k + i)) (cy l (k + i + 1))) _ (fun i _ => by rw [cy_rot hk, cy_rot hk, Nat.add_assoc])]
  exact sumTo_shift (g := fun i => F (cy l i) (cy l (i + 1))) (fun i => by show F (cy l (i + l.length)) (cy l (i + l.length + 1)) = _; rw [cy_per, show i + l.length + 1 = i + 1 + l.length by omega, cy_per]) k
theorem sides_map {F G : XY → XY → Int} {l : List XY} (h0 : 0 < l.length) (f : XY → XY) (h : ∀ i, F (f (cy l i)) (f (cy l (i + 1))) = G (cy l i) (cy l (i + 1))) : sides F (l.map f) = sides G l := by
  unfold sides
  rw [List.length_map]
  exact sumTo_congr _ (fun i _ => by rw [cy_map h0, cy_map h0, h])
theorem cy_rev {l : List XY} (h0 : 0 < l.length) (j : Nat) : cy l.reverse j = cy l (l.length - 1 - j % l.length) := by
  have hj := Nat.mod_lt j h0
  unfold cy
  rw [List.length_reverse, List.getElem?_reverse hj, Nat.mod_eq_of_lt (show l.length - 1 - j % l.length < l.length by omega)]
theorem sides_rev (F : XY → XY → Int) {l : List XY} (h0 : 0 < l.length) : sides F l.reverse = sides (fun a b => F b a) l := by
  unfold sides
  rw [List.length_reverse]
  -- the last term of the one is the first of the other: turned by one
  have e : ∀ i, i < l.length → F (cy l.reverse i) (cy l.reverse (i + 1)) = F (cy l (l.length - 1 - i + l.length)) (cy l (l.length - 1 - i + l.length - 1)) := fun i hi => by
    rw [cy_rev h0, cy_rev h0, Nat.mod_eq_of_lt hi, cy_per]
    congr 1
    rcases Nat.lt_or_ge (i + 1) l.length with h | h
    · rw [Nat.mod_eq_of_lt h, show l.length - 1 - i + l.length - 1 = l.length - 1 - (i + 1) + l.length by omega, cy_per]
    · have : i + 1 = l.length := by omega
      rw [this, Nat.mod_self]
      congr 1
      omega
  have p : ∀ i, (fun i => F (cy l (i + 1)) (cy l i)) (i + l.length) = (fun i => F (cy l (i + 1)) (cy l i)) i := fun i => by
    show F (cy l (i + l.length + 1)) (cy l (i + l.length)) = _
    rw [show i + l.length + 1 = i + 1 + l.length by omega, cy_per, cy_per]
  refine (sumTo_congr _ e).trans ((Eq.trans ?_ (sumTo_shift (g := fun i => F (cy l (i + 1)) (cy l i)) p (l.length - 1))))
  rw [sumTo_rev (fun i => (fun i => F (cy l (i + 1)) (cy l i)) (l.length - 1 + i)) l.length]
  refine sumTo_congr _ (fun i hi => ?_)
  show F (cy l (l.length - 1 - i + l.length)) (cy l (l.length - 1 - i + l.length - 1)) = F (cy l (l.length - 1 + (l.length - 1 - i) + 1)) (cy l (l.length - 1 + (l.length - 1 - i)))
  congr 2 <;> omega

/-! ### Valid ones stay valid -/
theorem vx_neg (u v : XY) : vx ⟨-u.X, -u.Y⟩ ⟨-v.X, -v.Y⟩ = vx u v := by unfold vx; grind
theorem fTurn_eq {p : XY} (h : Bd 5000 p) : fTurn p = ⟨-p.X, -p.Y⟩ := by
  obtain ⟨a1, a2, a3, a4⟩ := h
  unfold fTurn
  rw [w64_id (by omega) (by omega), w64_id (by omega) (by omega)]
theorem fMir_eq {p : XY} (h : Bd 5000 p) : fMir p = ⟨-p.X, p.Y⟩ := by
  obtain ⟨a1, a2, a3, a4⟩ := h
  unfold fMir
  rw [w64_id (by omega) (by omega)]
theorem ranged_of_bd {l : List XY} (hb : ∀ j, Bd 5000 (cy l j)) : l.all rangedB = true := by
  rw [List.all_eq_true]
  intro p hp
  obtain ⟨k, _, rfl⟩ := mem_cy hp
  obtain ⟨c1, c2, c3, c4⟩ := hb k
  unfold rangedB
  simp only [Bool.and_eq_true, decide_eq_true_eq]
  exact ⟨⟨⟨c1, c2⟩, c3⟩, c4⟩
theorem bd_turn {l : List XY} (h0 : 0 < l.length) (hr : l.all rangedB = true) (j : Nat) : Bd 5000 (cy (l.map fTurn) j) := by
  obtain ⟨c1, c2, c3, c4⟩ := bd_cy h0 hr j
  rw [cy_map h0, fTurn_eq (bd_cy h0 hr j)]
  exact ⟨by simp only; omega, by simp only; omega, by simp only; omega, by simp only; omega⟩
theorem bd_mir {l : List XY} (h0 : 0 < l.length) (hr : l.all rangedB = true) (j : Nat) : Bd 5000 (cy (l.map fMir) j) := by
  obtain ⟨c1, c2, c3, c4⟩ := bd_cy h0 hr j
  rw [cy_map h0, fMir_eq (bd_cy h0 hr j)]
  exact ⟨by simp only; omega, by simp only; omega, by simp only; omega, by simp only; omega⟩
theorem valid_turn {l : List XY} (h : validB l = true) : validB (l.map fTurn) = true := by
  have hl := validB_len' h
  have h0 : 0 < l.length := by omega
  have hr := validB_ranged h
  refine (validB_iff _).2 ⟨by simp; omega, by simp; omega, ranged_of_bd (bd_turn h0 hr), ?_⟩
  intro i t ht htn
  rw [List.length_map] at htn
  have := validB_conv h i t ht htn
  unfold dd at this ⊢
  rw [cy_map h0, cy_map h0, cy_map h0, fTurn_eq (bd_cy h0 hr _), fTurn_eq (bd_cy h0 hr _), fTurn_eq (bd_cy h0 hr _)]
  have e2 : ∀ a b : XY, sb ⟨-a.X, -a.Y⟩ ⟨-b.X, -b.Y⟩ = ⟨-(sb a b).X, -(sb a b).Y⟩ := fun a b => by unfold sb; simp only; congr 1 <;> omega
  rw [e2, e2, vx_neg]
  exact this
theorem valid_mir {l : List XY} (h : validB l = true) : validB (l.map fMir).reverse = true := by
  have hl := validB_len' h
  have h0 : 0 < l.length := by omega
  have hr := validB_ranged h
  have hm0 : 0 < (l.map fMir).length := by simpa using h0
  have hb := bd_mir h0 hr
  refine (validB_iff _).2 ⟨by simp; omega, by simp; omega, ranged_of_bd (fun j => by rw [cy_rev hm0]; exact hb _), ?_⟩
  intro i t ht htn
  rw [List.length_reverse, List.length_map] at htn
  have hi := Nat.mod_lt i h0
  -- the corner at which it stands, counted from behind
  obtain ⟨s, hs⟩ : ∃ s, l.length - 1 - i % l.length + l.length - 1 = s := ⟨_, rfl⟩
  have ge : ∀ d, d ≤ l.length → cy (l.map fMir).reverse (i + d) = fMir (cy l (s + 1 + l.length - d)) := fun d hd => by
    rw [cy_rev hm0, cy_map h0, List.length_map]
    congr 1
    refine per_eq (cy_per l) ?_
    rw [← Nat.mod_add_mod i l.length d]
    rcases Nat.lt_or_ge (i % l.length + d) l.length with hh | hh
    · rw [Nat.mod_eq_of_lt hh, show s + 1 + l.length - d = l.length - 1 - (i % l.length + d) + l.length + l.length by omega, Nat.add_mod_right, Nat.add_mod_right]
    · rw [Nat.mod_eq_sub_mod hh, Nat.mod_eq_of_lt (show i % l.length + d - l.length < l.length by omega), show s + 1 + l.length - d = l.length - 1 - (i % l.length + d - l.length) + l.length by omega, Nat.add_mod_right]
  have := validB_conv h s (l.length + 1 - t) (by omega) (by omega)
  have g0 := ge 0 (by omega)
  have g1 := ge 1 (by omega)
  have gt := ge t (by omega)
  rw [Nat.add_zero, Nat.sub_zero, show s + 1 + l.length = s + 1 + l.length by rfl, cy_per] at g0
  rw [show s + 1 + l.length - 1 = s + l.length by omega, cy_per] at g1
  rw [show s + 1 + l.length - t = s + (l.length + 1 - t) by omega] at gt
  unfold dd at this ⊢
  rw [g0, g1, gt, fMir_eq (bd_cy h0 hr _), fMir_eq (bd_cy h0 hr _), fMir_eq (bd_cy h0 hr _)]
  unfold vx sb at this ⊢
  simp only at this ⊢
  grind

/-! ### Undone -/
theorem rot_rot {l : List XY} {a b : Nat} (ha : a < l.length) (hb : b < l.length) : rotL (rotL l a) b = rotL l ((a + b) % l.length) := by
  have hm := Nat.mod_lt (a + b) (show 0 < l.length by omega)
  apply List.ext_getElem?
  intro i
  rcases Nat.lt_or_ge i l.length with h | h
  · rw [rotL_get (by rw [rotL_length]; exact hb) i (by rw [rotL_length]; exact h), rotL_get hm i h, cy_rot ha]
    congr 1
    refine per_eq (cy_per l) ?_
    rw [← Nat.add_assoc, Nat.mod_add_mod]
  · rw [List.getElem?_eq_none (by rw [rotL_length, rotL_length]; exact h), List.getElem?_eq_none (by rw [rotL_length]; exact h)]
/-- The lowest corner of an outline is but one: so the canonical form is the same wherever a list begins. -/
theorem valid_inj {l : List XY} (h : validB l = true) {i j : Nat} (hi : i < l.length) (hj : j < l.length) (e : cy l i = cy l j) : i = j := by
  have hl := validB_len' h
  have hc := validB_conv h
  rcases Nat.lt_trichotomy i j with hlt | rfl | hlt
  · exfalso
    rcases Nat.lt_or_ge (j - i) 2 with h2 | h2
    · have := (once_of_convex (by omega) (cy_per l) hc).1 i
      have e2 : j = i + 1 := by omega
      rw [e2] at e
      unfold vx dd sb at this
      rw [← e] at this
      simp at this
    · have := hc i (j - i) h2 (by omega)
      rw [show i + (j - i) = j by omega, ← e] at this
      unfold vx sb at this
      simp at this
  · rfl
  · exfalso
    rcases Nat.lt_or_ge (i - j) 2 with h2 | h2
    · have := (once_of_convex (by omega) (cy_per l) hc).1 j
      have e2 : i = j + 1 := by omega
      rw [e2] at e
      unfold vx dd sb at this
      rw [e] at this
      simp at this
    · have := hc j (i - j) h2 (by omega)
      rw [show j + (i - j) = i by omega, e] at this
      unfold vx sb at this
      simp at this
theorem canon_rot_any {l : List XY} (h : validB l = true) {k : Nat} (hk : k < l.length) : canonL (rotL l k) = canonL l := by
  have hl := validB_len' h
  have h0 : 0 < l.length := by omega
  have hb := bd_cy' h0 (validB_ranged h)
  have hrl : 0 < (rotL l k).length := by rw [rotL_length]; exact h0
  have hat := atTo_lt h0 _ (Nat.le_refl _)
  have hat2 := atTo_lt hrl _ (Nat.le_refl _)
  obtain ⟨p1, _⟩ := atTo_low h0 _ (Nat.le_refl _)
  obtain ⟨p2, _⟩ := atTo_low hrl _ (Nat.le_refl _)
  rw [canon_rot h0 hb, canon_rot hrl (fun j => by rw [cy_rot hk]; exact hb _)]
  generalize atTo l l.length = a at hat p1
  generalize atTo (rotL l k) (rotL l k).length = b at hat2 p2
  rw [rotL_length] at hat2 p2
  rw [rot_rot hk hat2]
  congr 1
  refine valid_inj h (Nat.mod_lt _ h0) hat ?_
  rw [cy_mod]
  have q1 : ¬ lx (cy l (k + b)) (cy l a) := by have := p1 ((k + b) % l.length) (Nat.mod_lt _ h0); rwa [cy_mod] at this
  have q2 : ¬ lx (cy l a) (cy l (k + b)) := by
    have := p2 ((a + l.length - k) % l.length) (Nat.mod_lt _ h0)
    rw [← rotL_length l k, cy_mod, cy_rot hk, cy_rot hk, rotL_length, show k + (a + l.length - k) = a + l.length by omega, cy_per] at this
    exact this
  have : (cy l (k + b)).X = (cy l a).X ∧ (cy l (k + b)).Y = (cy l a).Y := by unfold lx at q1 q2; omega
  cases hx : cy l (k + b)
  cases hy : cy l a
  rw [hx, hy] at this
  simp only at this
  rw [this.1, this.2]
end Go.Proofs.Ytcbphodkaiknmaa

namespace Go.Proofs.Ytcbphodkaiknmaa
open Go.RowKit (wrap64)

theorem map_rot (f : XY → XY) (l : List XY) (k : Nat) : (rotL l k).map f = rotL (l.map f) k := by unfold rotL; rw [List.map_append, List.map_drop, List.map_take]
theorem rev_rot {l : List XY} {k : Nat} (hk : k < l.length) : (rotL l k).reverse = rotL l.reverse ((l.length - k) % l.length) := by
  unfold rotL
  rw [List.reverse_append]
  rcases Nat.eq_zero_or_pos k with rfl | h
  · simp
  · rw [Nat.mod_eq_of_lt (by omega), List.drop_reverse, List.take_reverse, show l.length - (l.length - k) = k by omega]
theorem map_id_of {l : List XY} {f : XY → XY} (h : ∀ p ∈ l, f p = p) : l.map f = l := by
  have : l.map f = l.map id := List.map_congr_left (fun p hp => h p hp)
  rw [this, List.map_id]
theorem bd_mem {l : List XY} (hr : l.all rangedB = true) {p : XY} (hp : p ∈ l) : Bd 5000 p := bd_of_ranged (List.all_eq_true.1 hr p hp)

/-! ### Measures by sums over the sides -/
theorem shoe_sum (l : List XY) : ∀ k, shoe l k = sumTo (fun i => vx (cy l i) (cy l (i + 1))) k
  | 0 => rfl
  | k + 1 => by show shoe l k + _ = sumTo _ k + _; rw [shoe_sum l k]
theorem area_sides {l : List XY} (h : validB l = true) : areaW l = sides vx l := by
  have hl := validB_len' h
  unfold areaW sides
  rw [(areaTo_shoe (bd_cy (by omega) (validB_ranged h)) l.length (by omega)).1, shoe_sum]
theorem iceil_up (n : Nat) : iceil n ≤ isqrt n + 1 ∧ isqrt n ≤ iceil n := by unfold iceil; split <;> omega
theorem isqrt_small {n : Nat} (h : n ≤ 200000000) : isqrt n ≤ 20000 := by
  have := isqrt_le n
  refine Nat.le_of_not_lt fun hc => ?_
  have := Nat.mul_le_mul (Nat.succ_le_of_lt hc) (Nat.succ_le_of_lt hc)
  omega
theorem ar_sides {l : List XY} {f : Nat → Nat} (hf : ∀ n, n ≤ 200000000 → f n ≤ 20001) (hb : ∀ j, Bd 5000 (cy l j)) : ∀ k, k ≤ 64 → arTo f l k = sumTo (fun i => ((f (d2 (cy l i) (cy l (i + 1))) : Nat) : Int)) k ∧ 0 ≤ sumTo (fun i => ((f (d2 (cy l i) (cy l (i + 1))) : Nat) : Int)) k ∧ sumTo (fun i => ((f (d2 (cy l i) (cy l (i + 1))) : Nat) : Int)) k ≤ 20001 * (k : Int)
  | 0, _ => ⟨rfl, by unfold sumTo; omega, by unfold sumTo; omega⟩
  | k + 1, h => by
    obtain ⟨e, b1, b2⟩ := ar_sides hf hb k (by omega)
    have := hf _ (d2_bd (hb k) (hb (k + 1)))
    have es : sumTo (fun i => ((f (d2 (cy l i) (cy l (i + 1))) : Nat) : Int)) (k + 1) = sumTo (fun i => ((f (d2 (cy l i) (cy l (i + 1))) : Nat) : Int)) k + ((f (d2 (cy l k) (cy l (k + 1))) : Nat) : Int) := rfl
    rw [arTo_succ, e, es, w64_id (by omega) (by omega)]
    omega
def lenF (f : Nat → Nat) (a b : XY) : Int := ((f (d2 a b) : Nat) : Int)
theorem around_sides {l : List XY} (h : validB l = true) : aroundS validB l = (sides (lenF isqrt) l, sides (lenF iceil) l, 0) := by
  have hl := validB_len' h
  have hb := bd_cy (show 0 < l.length by omega) (validB_ranged h)
  unfold aroundS
  rw [if_pos h, (ar_sides (fun n hn => by have := isqrt_small hn; omega) hb l.length (by omega)).1, (ar_sides (fun n hn => by have := isqrt_small hn; have := iceil_up n; omega) hb l.length (by omega)).1]
  rfl
theorem sum_le {g h : Nat → Int} (hl : ∀ i, g i ≤ h i) (hu : ∀ i, h i ≤ g i + 1) : ∀ n, sumTo g n ≤ sumTo h n ∧ sumTo h n ≤ sumTo g n + (n : Int)
  | 0 => by unfold sumTo; omega
  | n + 1 => by
    obtain ⟨a, b⟩ := sum_le hl hu n
    have := hl n
    have := hu n
    show sumTo g n + g n ≤ sumTo h n + h n ∧ sumTo h n + h n ≤ sumTo g n + g n + _
    omega

theorem d2_turn (a b : XY) : d2 ⟨-a.X, -a.Y⟩ ⟨-b.X, -b.Y⟩ = d2 a b := by
  have h1 := d2_cast ⟨-a.X, -a.Y⟩ ⟨-b.X, -b.Y⟩
  have h2 := d2_cast a b
  simp only at h1
  have e : (-b.X - -a.X) * (-b.X - -a.X) + (-b.Y - -a.Y) * (-b.Y - -a.Y) = (b.X - a.X) * (b.X - a.X) + (b.Y - a.Y) * (b.Y - a.Y) := by grind
  omega
theorem d2_mir (a b : XY) : d2 ⟨-b.X, b.Y⟩ ⟨-a.X, a.Y⟩ = d2 a b := by
  have h1 := d2_cast ⟨-b.X, b.Y⟩ ⟨-a.X, a.Y⟩
  have h2 := d2_cast a b
  simp only at h1
  have e : (-a.X - -b.X) * (-a.X - -b.X) + (a.Y - b.Y) * (a.Y - b.Y) = (b.X - a.X) * (b.X - a.X) + (b.Y - a.Y) * (b.Y - a.Y) := by grind
  omega

theorem top_rev {l : List XY} (h0 : 0 < l.length) {f : XY → Int} {M : Int} (h : Top l f M) : Top l.reverse f M := by
  refine ⟨fun j => by rw [cy_rev h0]; exact h.1 _, ?_⟩
  obtain ⟨j, hj⟩ := h.2
  have hm := Nat.mod_lt j h0
  refine ⟨l.length - 1 - j % l.length, ?_⟩
  rw [cy_rev h0, Nat.mod_eq_of_lt (show l.length - 1 - j % l.length < l.length by omega), show l.length - 1 - (l.length - 1 - j % l.length) = j % l.length by omega, cy_mod]
  exact hj

/-- All that the law asks. -/
theorem back_facts {o : List XY} (h : validB o = true) : ∃ m t : List XY, validB m = true ∧ validB t = true ∧ mirrorS validB canonL o = (m, 0) ∧ mirrorS validB canonL m = (canonL o, 0) ∧ turnedS validB canonL o = (t, 0) ∧ turnedS validB canonL t = (canonL o, 0) ∧
    area2S m = area2S o ∧ area2S t = area2S o ∧ boxS m = boxS o ∧ boxS t = boxS o ∧ aroundS validB m = aroundS validB o ∧ aroundS validB t = aroundS validB o ∧ (aroundS validB o).1 ≤ (aroundS validB o).2.1 ∧ (aroundS validB o).2.1 ≤ (aroundS validB o).1 + o.length := by
  have hl := validB_len' h
  have h0 : 0 < o.length := by omega
  have hr := validB_ranged h
  have hbo := fun j => bd_cy h0 hr j
  -- the mirror
  have hvR := valid_mir h
  obtain ⟨R, hR⟩ : ∃ R, (o.map fMir).reverse = R := ⟨_, rfl⟩
  have hRl : R.length = o.length := by rw [← hR]; simp
  have hR0 : 0 < R.length := by omega
  rw [hR] at hvR
  have hRb := bd_cy' hR0 (validB_ranged hvR)
  have hRa := atTo_lt hR0 _ (Nat.le_refl _)
  have hcR := canon_rot hR0 hRb
  generalize atTo R R.length = a at hRa hcR
  have hvm : validB (rotL R a) = true := valid_rot hRa hvR
  have hback : (R.map fMir).reverse = o := by
    rw [← hR, List.map_reverse, List.reverse_reverse, List.map_map]
    refine map_id_of fun p hp => ?_
    have hb := bd_mem hr hp
    show fMir (fMir p) = p
    have hb2 : Bd 5000 (⟨-p.X, p.Y⟩ : XY) := by obtain ⟨c1, c2, c3, c4⟩ := hb; exact ⟨by simp only; omega, by simp only; omega, c3, c4⟩
    rw [fMir_eq hb, fMir_eq hb2]
    simp
  have hmm : (List.map fMir (rotL R a)).reverse = rotL o ((o.length - a) % o.length) := by
    rw [map_rot, rev_rot (by rw [List.length_map]; exact hRa), hback, List.length_map, hRl]
  -- the half turn
  have hvT := valid_turn h
  obtain ⟨T, hT⟩ : ∃ T, o.map fTurn = T := ⟨_, rfl⟩
  have hTl : T.length = o.length := by rw [← hT]; simp
  have hT0 : 0 < T.length := by omega
  rw [hT] at hvT
  have hTb := bd_cy' hT0 (validB_ranged hvT)
  have hTa := atTo_lt hT0 _ (Nat.le_refl _)
  have hcT := canon_rot hT0 hTb
  generalize atTo T T.length = b at hTa hcT
  have hvt : validB (rotL T b) = true := valid_rot hTa hvT
  have hback2 : T.map fTurn = o := by
    rw [← hT, List.map_map]
    refine map_id_of fun p hp => ?_
    have hb := bd_mem hr hp
    show fTurn (fTurn p) = p
    have hb2 : Bd 5000 (⟨-p.X, -p.Y⟩ : XY) := by obtain ⟨c1, c2, c3, c4⟩ := hb; exact ⟨by simp only; omega, by simp only; omega, by simp only; omega, by simp only; omega⟩
    rw [fTurn_eq hb, fTurn_eq hb2]
    simp
  have htt : List.map fTurn (rotL T b) = rotL o b := by rw [map_rot, hback2]
  -- sums over the sides
  have sm : ∀ F G : XY → XY → Int, (∀ i, F (fMir (cy o (i + 1))) (fMir (cy o i)) = G (cy o i) (cy o (i + 1))) → sides F (rotL R a) = sides G o := fun F G hFG => by
    rw [sides_rot F hRa, ← hR, sides_rev F (by simpa using h0), sides_map h0 fMir hFG]
  have st : ∀ F G : XY → XY → Int, (∀ i, F (fTurn (cy o i)) (fTurn (cy o (i + 1))) = G (cy o i) (cy o (i + 1))) → sides F (rotL T b) = sides G o := fun F G hFG => by
    rw [sides_rot F hTa, ← hT, sides_map h0 fTurn hFG]
  -- reaches
  have tm : ∀ u v u' v', (∀ j, dotW u v (fMir (cy o j)) = dotW u' v' (cy o j) + 0) → farW u v (rotL R a) = farW u' v' o := fun u v u' v' hd => by
    have e1 := far_top (show 0 < (rotL R a).length by rw [rotL_length]; exact hR0) u v
    have e2 : Top (rotL R a) (dotW u v) (farW u' v' o + 0) := by
      refine top_rot hRa ?_
      rw [← hR]
      exact top_rev (by simpa using h0) (top_map h0 hd (far_top h0 u' v'))
    have := e1.unique e2
    omega
  have tt : ∀ u v u' v', (∀ j, dotW u v (fTurn (cy o j)) = dotW u' v' (cy o j) + 0) → farW u v (rotL T b) = farW u' v' o := fun u v u' v' hd => by
    have e1 := far_top (show 0 < (rotL T b).length by rw [rotL_length]; exact hT0) u v
    have e2 : Top (rotL T b) (dotW u v) (farW u' v' o + 0) := by
      refine top_rot hTa ?_
      rw [← hT]
      exact top_map h0 hd (far_top h0 u' v')
    have := e1.unique e2
    omega
  have dm : ∀ u v u' v' : Int, -1 ≤ u → u ≤ 1 → -1 ≤ v → v ≤ 1 → u' = -u → v' = v → ∀ j, dotW u v (fMir (cy o j)) = dotW u' v' (cy o j) + 0 := fun u v u' v' a1 a2 a3 a4 a5 a6 j => by
    have hb := hbo j
    have hb2 : Bd 5000 (⟨-(cy o j).X, (cy o j).Y⟩ : XY) := by obtain ⟨c1, c2, c3, c4⟩ := hb; exact ⟨by simp only; omega, by simp only; omega, c3, c4⟩
    rw [fMir_eq hb, dotW_eq a1 a2 a3 a4 hb2, dotW_eq (by omega) (by omega) (by omega) (by omega) hb, a5, a6]
    simp only
    grind
  have dt : ∀ u v u' v' : Int, -1 ≤ u → u ≤ 1 → -1 ≤ v → v ≤ 1 → u' = -u → v' = -v → ∀ j, dotW u v (fTurn (cy o j)) = dotW u' v' (cy o j) + 0 := fun u v u' v' a1 a2 a3 a4 a5 a6 j => by
    have hb := hbo j
    have hb2 : Bd 5000 (⟨-(cy o j).X, -(cy o j).Y⟩ : XY) := by obtain ⟨c1, c2, c3, c4⟩ := hb; exact ⟨by simp only; omega, by simp only; omega, by simp only; omega, by simp only; omega⟩
    rw [fTurn_eq hb, dotW_eq a1 a2 a3 a4 hb2, dotW_eq (by omega) (by omega) (by omega) (by omega) hb, a5, a6]
    simp only
    grind
  refine ⟨rotL R a, rotL T b, hvm, hvt, by unfold mirrorS; rw [if_pos h, hR, hcR], ?_, by unfold turnedS; rw [if_pos h, hT, hcT], ?_, ?_, ?_, ?_, ?_, ?_, ?_, ?_⟩
  · unfold mirrorS
    rw [if_pos hvm, hmm, canon_rot_any h (Nat.mod_lt _ h0)]
  · unfold turnedS
    rw [if_pos hvt, htt, canon_rot_any h (by omega)]
  · unfold area2S
    rw [if_pos hvm, if_pos h, area_sides hvm, area_sides h, sm vx vx (fun i => by rw [fMir_eq (hbo _), fMir_eq (hbo _)]; unfold vx; simp only; grind)]
  · unfold area2S
    rw [if_pos hvt, if_pos h, area_sides hvt, area_sides h, st vx vx (fun i => by rw [fTurn_eq (hbo _), fTurn_eq (hbo _)]; exact vx_neg _ _)]
  · unfold boxS
    rw [if_pos hvm, if_pos h, tm 1 0 (-1) 0 (dm _ _ _ _ (by omega) (by omega) (by omega) (by omega) (by omega) (by omega)), tm (-1) 0 1 0 (dm _ _ _ _ (by omega) (by omega) (by omega) (by omega) (by omega) (by omega)), tm 0 1 0 1 (dm _ _ _ _ (by omega) (by omega) (by omega) (by omega) (by omega) (by omega)), tm 0 (-1) 0 (-1) (dm _ _ _ _ (by omega) (by omega) (by omega) (by omega) (by omega) (by omega)), Int.add_comm]
  · unfold boxS
    rw [if_pos hvt, if_pos h, tt 1 0 (-1) 0 (dt _ _ _ _ (by omega) (by omega) (by omega) (by omega) (by omega) (by omega)), tt (-1) 0 1 0 (dt _ _ _ _ (by omega) (by omega) (by omega) (by omega) (by omega) (by omega)), tt 0 1 0 (-1) (dt _ _ _ _ (by omega) (by omega) (by omega) (by omega) (by omega) (by omega)), tt 0 (-1) 0 1 (dt _ _ _ _ (by omega) (by omega) (by omega) (by omega) (by omega) (by omega)), Int.add_comm, Int.add_comm (farW 0 (-1) o)]
  · rw [around_sides hvm, around_sides h]
    have e : ∀ f, sides (lenF f) (rotL R a) = sides (lenF f) o := fun f => sm _ _ (fun i => by unfold lenF; rw [fMir_eq (hbo _), fMir_eq (hbo _), d2_mir])
    rw [e, e]
  · rw [around_sides hvt, around_sides h]
    have e : ∀ f, sides (lenF f) (rotL T b) = sides (lenF f) o := fun f => st _ _ (fun i => by unfold lenF; rw [fTurn_eq (hbo _), fTurn_eq (hbo _), d2_turn])
    rw [e, e]
  · rw [around_sides h]
    exact sum_le (g := fun i => lenF isqrt (cy o i) (cy o (i + 1))) (h := fun i => lenF iceil (cy o i) (cy o (i + 1))) (fun i => by unfold lenF; have := (iceil_up (d2 (cy o i) (cy o (i + 1)))).2; omega) (fun i => by unfold lenF; have := (iceil_up (d2 (cy o i) (cy o (i + 1)))).1; omega) o.length
end Go.Proofs.Ytcbphodkaiknmaa

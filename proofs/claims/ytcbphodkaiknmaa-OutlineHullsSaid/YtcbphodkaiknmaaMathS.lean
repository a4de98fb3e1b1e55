/- The angles of vectors, from the right one on; the sides of a canonical list are sorted by them. The sides of two outlines, merged by their angles. The merged line of corners is a convex one. All sums of corners lie in the merged line; it begins with its lowest corner. Going around places: where the next corner of the least outline comes to light. -/
import Derived.Test.YtcbphodkaiknmaaMathE
namespace Go.Proofs.Ytcbphodkaiknmaa

/-- u does not come behind v. -/
def le (u v : XY) : Prop := (up u ∧ ¬ up v) ∨ ((up u ↔ up v) ∧ 0 ≤ vx u v)
/-- u comes ahead of v. -/
def lt (u v : XY) : Prop := (up u ∧ ¬ up v) ∨ ((up u ↔ up v) ∧ 0 < vx u v)
def Nz (u : XY) : Prop := u.X ≠ 0 ∨ u.Y ≠ 0
theorem lt.le {u v : XY} (h : lt u v) : le u v := by
  rcases h with h | h
  · exact .inl h
  · exact .inr ⟨h.1, by omega⟩
theorem up_ng {u : XY} (hu : Nz u) (h : ¬ up u) : up (ng u) := (up_or u hu).resolve_left h
theorem tr_low {u v w : XY} (hu : up (ng u)) (hv : up (ng v)) (hw : up (ng w)) (h1 : 0 ≤ vx u v) (h2 : 0 ≤ vx v w) : 0 ≤ vx u w ∧ (0 < vx u v ∨ 0 < vx v w → 0 < vx u w) := by
  have := tr_up hu hv hw (by rw [vx_ng2]; exact h1) (by rw [vx_ng2]; exact h2)
  rw [vx_ng2, vx_ng2, vx_ng2] at this
  exact this
theorem le_trans {u v w : XY} (hu : Nz u) (hv : Nz v) (hw : Nz w) (h1 : le u v) (h2 : le v w) : le u w ∧ (lt u v ∨ lt v w → lt u w) := by
  by_cases pu : up u <;> by_cases pv : up v <;> by_cases pw : up w <;> simp only [le, lt, pu, pv, pw, true_and, not_true, not_false_iff, and_false, false_and, and_true, false_or, true_or, or_false, or_true, iff_self, iff_true, iff_false, imp_true_iff] at h1 h2 ⊢
  · exact tr_up pu pv pw h1 h2
  · exact tr_low (up_ng hu pu) (up_ng hv pv) (up_ng hw pw) h1 h2

/-- Between two vectors that are less than half a turn apart: with the first one. -/
theorem bet_up {p x q : XY} (hp : up p) (hx : up x) (hq : up (ng q)) (h : 0 < vx p q) (h1 : 0 ≤ vx p x) : 0 < vx x q := by
  have a : 0 < vx (ng q) p := by rw [vx_ngl, vx_swap]; omega
  have := (tr_up hq hp hx (by omega) h1).2 (.inl a)
  rw [vx_ngl, vx_swap] at this
  omega
theorem bet_low {p x q : XY} (hp : up p) (hx : up (ng x)) (hq : up (ng q)) (h : 0 < vx p q) (h1 : 0 ≤ vx x q) : 0 < vx p x := by
  have a : 0 < vx (ng q) p := by rw [vx_ngl, vx_swap]; omega
  have b : 0 ≤ vx (ng x) (ng q) := by rw [vx_ng2]; exact h1
  have := (tr_up hx hq hp b (by omega)).2 (.inr a)
  rw [vx_ngl, vx_swap] at this
  omega
theorem bet_up' {p x q : XY} (hp : up (ng p)) (hx : up (ng x)) (hq : up q) (h : 0 < vx p q) (h1 : 0 ≤ vx p x) : 0 < vx x q := by
  have := bet_up (p := ng p) (x := ng x) (q := ng q) hp hx (by unfold ng; simpa using hq) (by rw [vx_ng2]; exact h) (by rw [vx_ng2]; exact h1)
  rwa [vx_ng2] at this
theorem bet_low' {p x q : XY} (hp : up (ng p)) (hx : up x) (hq : up q) (h : 0 < vx p q) (h1 : 0 ≤ vx x q) : 0 < vx p x := by
  have := bet_low (p := ng p) (x := ng x) (q := ng q) hp (by unfold ng; simpa using hx) (by unfold ng; simpa using hq) (by rw [vx_ng2]; exact h) (by rw [vx_ng2]; exact h1)
  rwa [vx_ng2] at this

/-- A valid list that begins with its lowest corner: its sides are sorted. -/
structure Sorted (l : List XY) : Prop where
  len : 3 ≤ l.length
  conv : Conv l
  first : up (dd (cy l) 0)
  last : ¬ up (dd (cy l) (l.length - 1))
  left : ∀ j, 0 < vx (dd (cy l) j) (dd (cy l) (j + 1))
  ord : ∀ i j, i < j → j < l.length → lt (dd (cy l) i) (dd (cy l) j)
theorem Sorted.nz {l : List XY} (h : Sorted l) (j : Nat) : Nz (dd (cy l) j) := vx_ne (h.left j)

theorem sorted_of {l : List XY} (h3 : 3 ≤ l.length) (hc : Conv l) (hlow : ∀ j, ¬ lx (cy l j) (cy l 0)) : Sorted l := by
  have h0 : 0 < l.length := by omega
  obtain ⟨left, _, uniq⟩ := once_of_convex h3 (cy_per l) hc
  have nz : ∀ j, Nz (dd (cy l) j) := fun j => vx_ne (left j)
  have first : up (dd (cy l) 0) := by
    show up (sb (cy l 0) (cy l 1))
    rw [← lx_iff]
    have h1 := hlow 1
    have h2 := nz 0
    unfold Nz dd sb at h2
    simp only [Nat.zero_add] at h2
    unfold lx at h1 ⊢
    omega
  have last : ¬ up (dd (cy l) (l.length - 1)) := by
    have e : cy l (l.length - 1 + 1) = cy l 0 := by rw [show l.length - 1 + 1 = 0 + l.length by omega, cy_per]
    show ¬ up (sb (cy l (l.length - 1)) (cy l (l.length - 1 + 1)))
    rw [e, ← lx_iff]
    exact hlow _
  have cross : ∀ j, j + 1 < l.length → up (dd (cy l) (j + 1)) → up (dd (cy l) j) := fun j hj hu => by
    apply Classical.byContradiction
    intro hn
    have e : dd (cy l) (l.length - 1 + 1) = dd (cy l) 0 := by rw [show l.length - 1 + 1 = 0 + l.length by omega, dd_per (cy_per l)]
    have := uniq j (l.length - 1) ⟨hn, hu⟩ ⟨last, by rw [e]; exact first⟩
    rw [Nat.mod_eq_of_lt (by omega), Nat.mod_eq_of_lt (by omega)] at this
    omega
  have pre : ∀ d j, j + d < l.length → up (dd (cy l) (j + d)) → up (dd (cy l) j) := by
    intro d
    induction d with
    | zero => intro j _ h; exact h
    | succ d ih => intro j hj hu; exact ih j (by omega) (cross (j + d) (by omega) hu)
  refine ⟨h3, hc, first, last, left, fun i j hij hj => ?_⟩
  obtain ⟨d, rfl⟩ : ∃ d, j = i + d + 1 := ⟨j - i - 1, by omega⟩
  by_cases pj : up (dd (cy l) (i + d + 1))
  · have all : ∀ k, k < i + d + 2 → up (dd (cy l) k) := fun k hk => pre (i + d + 1 - k) k (by omega) (by rw [show k + (i + d + 1 - k) = i + d + 1 by omega]; exact pj)
    exact .inr ⟨⟨fun _ => pj, fun _ => all i (by omega)⟩, chain_up left all i d (by omega)⟩
  · by_cases pi : up (dd (cy l) i)
    · exact .inl ⟨pi, pj⟩
    · have all : ∀ k, i ≤ k → k < l.length → up (ng (dd (cy l) k)) := fun k hk hkn => up_ng (nz k) (fun hu => pi (pre (k - i) i (by omega) (by rw [show i + (k - i) = k by omega]; exact hu)))
      exact .inr ⟨⟨fun h => absurd h pi, fun h => absurd h pj⟩, chain_low left all i d (Nat.le_refl _) (by omega)⟩
end Go.Proofs.Ytcbphodkaiknmaa

namespace Go.Proofs.Ytcbphodkaiknmaa

/-- Vectors of one direction. -/
theorem par_pos {u v w : XY} (hu : Nz u) (hv : Nz v) (hh : up u ↔ up v) (h0 : vx u v = 0) (h : 0 < vx u w) : 0 < vx v w := by
  have e1 : vx v w * u.X = v.X * vx u w := by unfold vx at h0 ⊢; grind
  have e2 : vx v w * u.Y = v.Y * vx u w := by unfold vx at h0 ⊢; grind
  unfold Nz at hu hv
  unfold up at hh
  have key : (0 < u.X ∧ 0 < v.X) ∨ (u.X < 0 ∧ v.X < 0) ∨ (0 < u.Y ∧ 0 < v.Y) ∨ (u.Y < 0 ∧ v.Y < 0) := by
    unfold vx at h0
    rcases Int.lt_trichotomy u.Y 0 with hy | hy | hy <;> rcases Int.lt_trichotomy v.Y 0 with ky | ky | ky
    · omega
    · rw [ky] at h0
      have : v.X ≠ 0 := by omega
      exfalso
      have : u.Y * v.X = 0 := by omega
      rcases Int.mul_eq_zero.1 this with h | h <;> omega
    · exfalso; omega
    · rw [hy] at h0
      exfalso
      have : u.X * v.Y = 0 := by omega
      rcases Int.mul_eq_zero.1 this with h | h <;> omega
    · omega
    · rw [hy] at h0
      exfalso
      have : u.X * v.Y = 0 := by omega
      rcases Int.mul_eq_zero.1 this with h | h <;> omega
    · exfalso; omega
    · rw [ky] at h0
      exfalso
      have : u.Y * v.X = 0 := by omega
      rcases Int.mul_eq_zero.1 this with h | h <;> omega
    · omega
  rcases key with ⟨a, b⟩ | ⟨a, b⟩ | ⟨a, b⟩ | ⟨a, b⟩
  · exact pos_of_mul a (by rw [e1]; exact Int.mul_pos b h)
  · refine pos_of_mul (a := vx v w) (b := -u.X) (by omega) ?_
    rw [Int.mul_neg, e1, ← Int.neg_mul]
    exact Int.mul_pos (by omega) h
  · exact pos_of_mul a (by rw [e2]; exact Int.mul_pos b h)
  · refine pos_of_mul (a := vx v w) (b := -u.Y) (by omega) ?_
    rw [Int.mul_neg, e2, ← Int.neg_mul]
    exact Int.mul_pos (by omega) h
def ad (u v : XY) : XY := ⟨u.X + v.X, u.Y + v.Y⟩
theorem vx_adl (u v w : XY) : vx (ad u v) w = vx u w + vx v w := by unfold vx ad; grind
theorem vx_adr (u v w : XY) : vx u (ad v w) = vx u v + vx u w := by unfold vx ad; grind
theorem up_ad {u v : XY} (hu : up u) (hv : up v) : up (ad u v) := by unfold up ad at *; simp only; omega
theorem ng_ad (u v : XY) : ng (ad u v) = ad (ng u) (ng v) := by unfold ng ad; simp only; congr 1 <;> omega

section
variable {a b : List XY}
/-- The turn from the next side of the one to that of the other. -/
def tn (a b : List XY) (i k : Nat) : Int := vx (dd (cy a) i) (dd (cy b) k)
/-- The next pair of corners. -/
def nxt (a b : List XY) (s : Nat × Nat) : Nat × Nat :=
  if s.2 = b.length ∨ (s.1 < a.length ∧ 0 < tn a b s.1 s.2) then (s.1 + 1, s.2) else if s.1 = a.length ∨ tn a b s.1 s.2 < 0 then (s.1, s.2 + 1) else (s.1 + 1, s.2 + 1)

/-- What has been used comes ahead of what has not. -/
structure Inv (a b : List XY) (i k : Nat) : Prop where
  ia : i ≤ a.length
  kb : k ≤ b.length
  ab : ∀ i' k', i' < i → k ≤ k' → k' < b.length → lt (dd (cy a) i') (dd (cy b) k')
  ba : ∀ k' i', k' < k → i ≤ i' → i' < a.length → lt (dd (cy b) k') (dd (cy a) i')

theorem tn_spec (ha : Sorted a) (hb : Sorted b) {i k : Nat} (h : Inv a b i k) (hi : i < a.length) (hk : k < b.length) :
    (0 < tn a b i k → lt (dd (cy a) i) (dd (cy b) k)) ∧ (tn a b i k < 0 → lt (dd (cy b) k) (dd (cy a) i)) ∧ (tn a b i k = 0 → (up (dd (cy a) i) ↔ up (dd (cy b) k))) := by
  unfold tn
  by_cases pa : up (dd (cy a) i) <;> by_cases pb : up (dd (cy b) k)
  · refine ⟨fun h => .inr ⟨by simp [pa, pb], h⟩, fun h => .inr ⟨by simp [pa, pb], by rw [vx_swap]; omega⟩, fun _ => by simp [pa, pb]⟩
  · -- the one above, the other below: then it is ahead
    have h0 : 0 < k := by
      rcases Nat.eq_zero_or_pos k with rfl | h0
      · exact absurd hb.first pb
      · exact h0
    have hl := h.ba (k - 1) i (by omega) (Nat.le_refl _) hi
    have hl2 := hb.left (k - 1)
    rw [show k - 1 + 1 = k by omega] at hl2
    have hp : up (dd (cy b) (k - 1)) ∧ 0 < vx (dd (cy b) (k - 1)) (dd (cy a) i) := by
      rcases hl with ⟨_, h2⟩ | ⟨h1, h2⟩
      · exact absurd pa h2
      · exact ⟨h1.2 pa, h2⟩
    have hpos := bet_up hp.1 pa (up_ng (hb.nz k) pb) hl2 (by omega)
    exact ⟨fun _ => .inl ⟨pa, pb⟩, fun h => by omega, fun h => by omega⟩
  · have h0 : 0 < i := by
      rcases Nat.eq_zero_or_pos i with rfl | h0
      · exact absurd ha.first pa
      · exact h0
    have hl := h.ab (i - 1) k (by omega) (Nat.le_refl _) hk
    have hl2 := ha.left (i - 1)
    rw [show i - 1 + 1 = i by omega] at hl2
    have hp : up (dd (cy a) (i - 1)) ∧ 0 < vx (dd (cy a) (i - 1)) (dd (cy b) k) := by
      rcases hl with ⟨_, h2⟩ | ⟨h1, h2⟩
      · exact absurd pb h2
      · exact ⟨h1.2 pb, h2⟩
    have hpos := bet_up hp.1 pb (up_ng (ha.nz i) pa) hl2 (by omega)
    rw [vx_swap] at hpos
    exact ⟨fun h => by omega, fun _ => .inl ⟨pb, pa⟩, fun h => by omega⟩
  · refine ⟨fun h => .inr ⟨by simp [pa, pb], h⟩, fun h => .inr ⟨by simp [pa, pb], by rw [vx_swap]; omega⟩, fun _ => by simp [pa, pb]⟩

theorem inv_start : Inv a b 0 0 := ⟨Nat.zero_le _, Nat.zero_le _, fun i' k' h => by omega, fun k' i' h => by omega⟩
theorem inv_nxt (ha : Sorted a) (hb : Sorted b) {i k : Nat} (h : Inv a b i k) (hik : i < a.length ∨ k < b.length) : Inv a b (nxt a b (i, k)).1 (nxt a b (i, k)).2 := by
  have tr : ∀ {u v w : XY}, Nz u → Nz v → Nz w → le u v → lt v w → lt u w := fun hu hv hw h1 h2 => (le_trans hu hv hw h1 h2.le).2 (.inr h2)
  unfold nxt
  simp only
  by_cases c1 : k = b.length ∨ (i < a.length ∧ 0 < tn a b i k)
  · rw [if_pos c1]
    have hi : i < a.length := by omega
    refine ⟨hi, h.kb, fun i' k' h1 h2 h3 => ?_, fun k' i' h1 h2 h3 => h.ba k' i' h1 (by omega) h3⟩
    rcases Nat.lt_or_ge i' i with hh | hh
    · exact h.ab i' k' hh h2 h3
    · obtain rfl : i' = i := by omega
      have hl := (tn_spec ha hb h hi (by omega)).1 (by omega)
      rcases Nat.lt_or_ge k k' with hk | hk
      · exact tr (ha.nz _) (hb.nz _) (hb.nz _) hl.le (hb.ord k k' hk h3)
      · obtain rfl : k' = k := by omega
        exact hl
  · rw [if_neg c1]
    have hk : k < b.length := by have := h.kb; omega
    by_cases c2 : i = a.length ∨ tn a b i k < 0
    · rw [if_pos c2]
      refine ⟨h.ia, hk, fun i' k' h1 h2 h3 => h.ab i' k' h1 (by omega) h3, fun k' i' h1 h2 h3 => ?_⟩
      rcases Nat.lt_or_ge k' k with hh | hh
      · exact h.ba k' i' hh h2 h3
      · obtain rfl : k' = k := by omega
        have hl := (tn_spec ha hb h (by omega) hk).2.1 (by omega)
        rcases Nat.lt_or_ge i i' with hi | hi
        · exact tr (hb.nz _) (ha.nz _) (ha.nz _) hl.le (ha.ord i i' hi h3)
        · obtain rfl : i' = i := by omega
          exact hl
    · rw [if_neg c2]
      have hi : i < a.length := by have := h.ia; omega
      have ht : tn a b i k = 0 := by omega
      have hh := (tn_spec ha hb h hi hk).2.2 ht
      have l1 : le (dd (cy a) i) (dd (cy b) k) := .inr ⟨hh, by unfold tn at ht; omega⟩
      have l2 : le (dd (cy b) k) (dd (cy a) i) := .inr ⟨hh.symm, by unfold tn at ht; rw [vx_swap]; omega⟩
      refine ⟨hi, hk, fun i' k' h1 h2 h3 => ?_, fun k' i' h1 h2 h3 => ?_⟩
      · rcases Nat.lt_or_ge i' i with hq | hq
        · exact h.ab i' k' hq (by omega) h3
        · obtain rfl : i' = i := by omega
          exact tr (ha.nz _) (hb.nz _) (hb.nz _) l1 (hb.ord k k' (by omega) h3)
      · rcases Nat.lt_or_ge k' k with hq | hq
        · exact h.ba k' i' hq (by omega) h3
        · obtain rfl : k' = k := by omega
          exact tr (hb.nz _) (ha.nz _) (ha.nz _) l2 (ha.ord i i' (by omega) h3)
end
end Go.Proofs.Ytcbphodkaiknmaa

namespace Go.Proofs.Ytcbphodkaiknmaa

section
variable {a b : List XY}
def pt (a b : List XY) (s : Nat × Nat) : XY := ad (cy a s.1) (cy b s.2)
def st (a b : List XY) : Nat → Nat × Nat
  | 0 => (0, 0)
  | j + 1 => nxt a b (st a b j)
/-- A side that comes next. -/
def D (a b : List XY) (s : Nat × Nat) : XY :=
  if s.2 = b.length ∨ (s.1 < a.length ∧ 0 < tn a b s.1 s.2) then dd (cy a) s.1 else if s.1 = a.length ∨ tn a b s.1 s.2 < 0 then dd (cy b) s.2 else ad (dd (cy a) s.1) (dd (cy b) s.2)
theorem pt_next (s : Nat × Nat) : sb (pt a b s) (pt a b (nxt a b s)) = D a b s := by
  unfold nxt D
  split
  · unfold sb pt ad dd sb; simp only; congr 1 <;> omega
  · split
    · unfold sb pt ad dd sb; simp only; congr 1 <;> omega
    · unfold sb pt ad dd sb; simp only; congr 1 <;> omega

/-- The three ways to go on. -/
theorem ways {i k : Nat} (h : Inv a b i k) (hik : i < a.length ∨ k < b.length) :
    (nxt a b (i, k) = (i + 1, k) ∧ D a b (i, k) = dd (cy a) i ∧ i < a.length ∧ (k < b.length → 0 < tn a b i k)) ∨
    (nxt a b (i, k) = (i, k + 1) ∧ D a b (i, k) = dd (cy b) k ∧ k < b.length ∧ (i < a.length → tn a b i k < 0)) ∨
    (nxt a b (i, k) = (i + 1, k + 1) ∧ D a b (i, k) = ad (dd (cy a) i) (dd (cy b) k) ∧ i < a.length ∧ k < b.length ∧ tn a b i k = 0) := by
  have hi := h.ia
  have hk := h.kb
  unfold nxt D
  simp only
  by_cases c1 : k = b.length ∨ (i < a.length ∧ 0 < tn a b i k)
  · left
    rw [if_pos c1, if_pos c1]
    exact ⟨rfl, rfl, by omega, fun _ => by omega⟩
  · right
    rw [if_neg c1, if_neg c1]
    by_cases c2 : i = a.length ∨ tn a b i k < 0
    · left
      rw [if_pos c2, if_pos c2]
      exact ⟨rfl, rfl, by omega, fun _ => by omega⟩
    · right
      rw [if_neg c2, if_neg c2]
      exact ⟨rfl, rfl, by omega, by omega, by omega⟩

theorem turn_left (ha : Sorted a) (hb : Sorted b) {i k : Nat} (h : Inv a b i k) (hik : i < a.length ∨ k < b.length)
    (h' : Inv a b (nxt a b (i, k)).1 (nxt a b (i, k)).2) (hik' : (nxt a b (i, k)).1 < a.length ∨ (nxt a b (i, k)).2 < b.length) :
    0 < vx (D a b (i, k)) (D a b (nxt a b (i, k))) ∧ (¬ up (D a b (i, k)) → ¬ up (D a b (nxt a b (i, k)))) := by
  have low : ∀ {u v : XY}, lt u v → ¬ up u → ¬ up v := fun h hu hv => by
    rcases h with ⟨h, _⟩ | ⟨h, _⟩
    · exact hu h
    · exact hu (h.2 hv)
  have lowad : ∀ {u v : XY}, Nz u → Nz v → ¬ up u → ¬ up v → ¬ up (ad u v) := fun nu nv hu hv hc => by
    have := up_ad (up_ng nu hu) (up_ng nv hv)
    rw [← ng_ad] at this
    exact not_up_ng hc this
  have lta : ∀ i, i + 1 < a.length → lt (dd (cy a) i) (dd (cy a) (i + 1)) := fun i hi => ha.ord i (i + 1) (by omega) hi
  have ltb : ∀ k, k + 1 < b.length → lt (dd (cy b) k) (dd (cy b) (k + 1)) := fun k hk => hb.ord k (k + 1) (by omega) hk
  have la := ha.left i
  have lb := hb.left k
  rcases ways h hik with ⟨e, ed, hi, ht⟩ | ⟨e, ed, hk, ht⟩ | ⟨e, ed, hi, hk, ht⟩
  · rw [e] at h' hik' ⊢
    rw [ed]
    simp only at h' hik'
    have hlk : k < b.length → lt (dd (cy a) i) (dd (cy b) k) := fun hk => (tn_spec ha hb h hi hk).1 (ht hk)
    rcases ways h' hik' with ⟨_, ed', hi', _⟩ | ⟨_, ed', hk', _⟩ | ⟨_, ed', hi', hk', _⟩ <;> rw [ed']
    · exact ⟨la, low (lta i hi')⟩
    · exact ⟨ht hk', low (hlk hk')⟩
    · rw [vx_adr]
      have := ht hk'
      unfold tn at this
      exact ⟨by omega, fun hu => lowad (ha.nz _) (hb.nz _) (low (lta i hi') hu) (low (hlk hk') hu)⟩
  · rw [e] at h' hik' ⊢
    rw [ed]
    simp only at h' hik'
    have hli : i < a.length → lt (dd (cy b) k) (dd (cy a) i) := fun hi => (tn_spec ha hb h hi hk).2.1 (ht hi)
    have hti : i < a.length → 0 < vx (dd (cy b) k) (dd (cy a) i) := fun hi => by have := ht hi; unfold tn at this; rw [vx_swap]; omega
    rcases ways h' hik' with ⟨_, ed', hi', _⟩ | ⟨_, ed', hk', _⟩ | ⟨_, ed', hi', hk', _⟩ <;> rw [ed']
    · exact ⟨hti hi', low (hli hi')⟩
    · exact ⟨lb, low (ltb k hk')⟩
    · rw [vx_adr]
      have := hti hi'
      exact ⟨by omega, fun hu => lowad (ha.nz _) (hb.nz _) (low (hli hi') hu) (low (ltb k hk') hu)⟩
  · rw [e] at h' hik' ⊢
    rw [ed]
    simp only at h' hik'
    have hh := (tn_spec ha hb h hi hk).2.2 ht
    have ht' : vx (dd (cy b) k) (dd (cy a) i) = 0 := by unfold tn at ht; rw [vx_swap]; omega
    have p1 := par_pos (ha.nz i) (hb.nz k) hh ht la
    have p2 := par_pos (hb.nz k) (ha.nz i) hh.symm ht' lb
    have hlow : ¬ up (ad (dd (cy a) i) (dd (cy b) k)) → ¬ up (dd (cy a) i) ∧ ¬ up (dd (cy b) k) := fun hn =>
      ⟨fun hu => hn (up_ad hu (hh.1 hu)), fun hu => hn (up_ad (hh.2 hu) hu)⟩
    rcases ways h' hik' with ⟨_, ed', hi', _⟩ | ⟨_, ed', hk', _⟩ | ⟨_, ed', hi', hk', _⟩ <;> rw [ed']
    · rw [vx_adl]; exact ⟨by omega, fun hn => low (lta i hi') (hlow hn).1⟩
    · rw [vx_adl]; exact ⟨by omega, fun hn => low (ltb k hk') (hlow hn).2⟩
    · rw [vx_adl, vx_adr, vx_adr]; exact ⟨by omega, fun hn => lowad (ha.nz _) (hb.nz _) (low (lta i hi') (hlow hn).1) (low (ltb k hk') (hlow hn).2)⟩

/-- The path ends. -/
theorem path (ha : Sorted a) (hb : Sorted b) : ∃ N, st a b N = (a.length, b.length) ∧ (∀ j, j < N → (st a b j).1 < a.length ∨ (st a b j).2 < b.length) ∧ (∀ j, j ≤ N → Inv a b (st a b j).1 (st a b j).2) := by
  have H : ∀ f j, a.length - (st a b j).1 + (b.length - (st a b j).2) ≤ f → (∀ i, i < j → (st a b i).1 < a.length ∨ (st a b i).2 < b.length) → (∀ i, i ≤ j → Inv a b (st a b i).1 (st a b i).2) →
      ∃ N, st a b N = (a.length, b.length) ∧ (∀ j, j < N → (st a b j).1 < a.length ∨ (st a b j).2 < b.length) ∧ (∀ j, j ≤ N → Inv a b (st a b j).1 (st a b j).2) := by
    intro f
    induction f with
    | zero =>
      intro j hf hu hI
      have hj := hI j (Nat.le_refl _)
      exact ⟨j, Prod.ext (by have := hj.ia; simp only; omega) (by have := hj.kb; simp only; omega), hu, hI⟩
    | succ f ih =>
      intro j hf hu hI
      have hj := hI j (Nat.le_refl _)
      by_cases hd : (st a b j).1 < a.length ∨ (st a b j).2 < b.length
      · have hn : Inv a b (st a b (j + 1)).1 (st a b (j + 1)).2 := inv_nxt ha hb hj hd
        refine ih (j + 1) ?_ (fun i hi => ?_) (fun i hi => ?_)
        · have hw := ways hj hd
          have e : st a b (j + 1) = nxt a b ((st a b j).1, (st a b j).2) := rfl
          rcases hw with ⟨e1, _, h1, _⟩ | ⟨e1, _, h1, _⟩ | ⟨e1, _, h1, h2, _⟩ <;> rw [e, e1] <;> simp only <;> omega
        · rcases Nat.lt_or_ge i j with h | h
          · exact hu i h
          · obtain rfl : i = j := by omega
            exact hd
        · rcases Nat.lt_or_ge i (j + 1) with h | h
          · exact hI i (by omega)
          · obtain rfl : i = j + 1 := by omega
            exact hn
      · exact ⟨j, Prod.ext (by have := hj.ia; simp only; omega) (by have := hj.kb; simp only; omega), hu, hI⟩
  refine H _ 0 (Nat.le_refl _) (fun i hi => by omega) (fun i hi => ?_)
  obtain rfl : i = 0 := Nat.le_zero.1 hi
  exact inv_start
theorem st_le (ha : Sorted a) (hb : Sorted b) {N : Nat} (hu : ∀ j, j < N → (st a b j).1 < a.length ∨ (st a b j).2 < b.length) (hI : ∀ j, j ≤ N → Inv a b (st a b j).1 (st a b j).2) : ∀ j, j ≤ N → (st a b j).1 ≤ j ∧ (st a b j).2 ≤ j ∧ j ≤ (st a b j).1 + (st a b j).2
  | 0, _ => ⟨Nat.le_refl _, Nat.le_refl _, Nat.le_refl _⟩
  | j + 1, h => by
    obtain ⟨h1, h2, h3⟩ := st_le ha hb hu hI j (by omega)
    have e : st a b (j + 1) = nxt a b ((st a b j).1, (st a b j).2) := rfl
    rcases ways (hI j (by omega)) (hu j (by omega)) with ⟨e1, _, _⟩ | ⟨e1, _, _⟩ | ⟨e1, _, _⟩ <;> rw [e, e1] <;> simp only <;> omega

/-- The corners of the sum. -/
def outL (a b : List XY) (N : Nat) : List XY := (List.range N).map fun j => pt a b (st a b j)
theorem outL_length (N : Nat) : (outL a b N).length = N := by simp [outL]
theorem outL_cy {N j : Nat} (h : j < N) : cy (outL a b N) j = pt a b (st a b j) := by
  unfold cy
  rw [outL_length, Nat.mod_eq_of_lt h]
  simp [outL, h]
theorem pt_end (a b : List XY) : pt a b (a.length, b.length) = pt a b (0, 0) := by
  unfold pt
  simp only
  have e1 : cy a a.length = cy a 0 := by have := cy_per a 0; rwa [Nat.zero_add] at this
  have e2 : cy b b.length = cy b 0 := by have := cy_per b 0; rwa [Nat.zero_add] at this
  rw [e1, e2]

theorem sum_conv (ha : Sorted a) (hb : Sorted b) {N : Nat} (hN : st a b N = (a.length, b.length)) (hu : ∀ j, j < N → (st a b j).1 < a.length ∨ (st a b j).2 < b.length) (hI : ∀ j, j ≤ N → Inv a b (st a b j).1 (st a b j).2) :
    3 ≤ N ∧ Conv (outL a b N) ∧ ∀ j, j < N → dd (cy (outL a b N)) j = D a b (st a b j) := by
  have hla := ha.len
  have hlb := hb.len
  have h3 : 3 ≤ N := by
    have := (st_le ha hb hu hI N (Nat.le_refl _)).1
    rw [hN] at this
    simp only at this
    omega
  have hD : ∀ j, j < N → dd (cy (outL a b N)) j = D a b (st a b j) := fun j hj => by
    show sb (cy (outL a b N) j) (cy (outL a b N) (j + 1)) = _
    rw [outL_cy hj]
    rcases Nat.lt_or_ge (j + 1) N with h | h
    · rw [outL_cy h]; exact pt_next _
    · have e : j + 1 = N := by omega
      have e2 : cy (outL a b N) (j + 1) = pt a b (st a b (j + 1)) := by
        have := cy_per (outL a b N) 0
        rw [outL_length, Nat.zero_add] at this
        rw [e, this, outL_cy (by omega), hN, pt_end]; rfl
      rw [e2]; exact pt_next _
  refine ⟨h3, ?_, hD⟩
  have per := cy_per (outL a b N)
  rw [outL_length] at per
  have dper := dd_per per
  -- the last side and the first
  have s0 : D a b (st a b 0) = D a b (0, 0) := rfl
  have w0 := ways (a := a) (b := b) inv_start (.inl (by omega))
  have f0 : up (D a b (0, 0)) := by
    rcases w0 with ⟨_, e, _⟩ | ⟨_, e, _⟩ | ⟨_, e, _⟩ <;> rw [e]
    · exact ha.first
    · exact hb.first
    · exact up_ad ha.first hb.first
  have ea : dd (cy a) (a.length - 1 + 1) = dd (cy a) 0 := by rw [show a.length - 1 + 1 = 0 + a.length by omega, dd_per (cy_per a)]
  have eb : dd (cy b) (b.length - 1 + 1) = dd (cy b) 0 := by rw [show b.length - 1 + 1 = 0 + b.length by omega, dd_per (cy_per b)]
  have la := ha.left (a.length - 1)
  have lb := hb.left (b.length - 1)
  rw [ea] at la
  rw [eb] at lb
  have upna := up_ng (ha.nz _) ha.last
  have upnb := up_ng (hb.nz _) hb.last
  have hNm : st a b N = nxt a b ((st a b (N - 1)).1, (st a b (N - 1)).2) := by
    have : N = N - 1 + 1 := by omega
    rw [this]; rfl
  have hIN := hI (N - 1) (by omega)
  have huN := hu (N - 1) (by omega)
  have lastF : ¬ up (D a b (st a b (N - 1))) ∧ 0 < vx (D a b (st a b (N - 1))) (dd (cy a) 0) ∧ 0 < vx (D a b (st a b (N - 1))) (dd (cy b) 0) := by
    rw [hN] at hNm
    have low2 : ∀ {u v : XY}, lt u v → ¬ up u → ¬ up v → 0 < vx u v := fun h hu hv => by
      rcases h with ⟨h, _⟩ | ⟨_, h⟩
      · exact absurd h hu
      · exact h
    rcases ways hIN huN with ⟨e1, e2, hi, _⟩ | ⟨e1, e2, hk, _⟩ | ⟨e1, e2, hi, hk, ht⟩
    · rw [e1] at hNm
      obtain ⟨q1, q2⟩ := Prod.mk.inj hNm
      have ei : (st a b (N - 1)).1 = a.length - 1 := by omega
      have hl := hIN.ba (b.length - 1) (a.length - 1) (by omega) (by omega) (by omega)
      have hpos := low2 hl hb.last ha.last
      have e3 : D a b (st a b (N - 1)) = dd (cy a) (a.length - 1) := by rw [← ei]; exact e2
      rw [e3]
      exact ⟨ha.last, la, bet_up' upnb upna hb.first lb (by omega)⟩
    · rw [e1] at hNm
      obtain ⟨q1, q2⟩ := Prod.mk.inj hNm
      have ei : (st a b (N - 1)).2 = b.length - 1 := by omega
      have hl := hIN.ab (a.length - 1) (b.length - 1) (by omega) (by omega) (by omega)
      have hpos := low2 hl ha.last hb.last
      have e3 : D a b (st a b (N - 1)) = dd (cy b) (b.length - 1) := by rw [← ei]; exact e2
      rw [e3]
      exact ⟨hb.last, bet_up' upna upnb ha.first la (by omega), lb⟩
    · rw [e1] at hNm
      obtain ⟨q1, q2⟩ := Prod.mk.inj hNm
      have ei : (st a b (N - 1)).1 = a.length - 1 := by omega
      have ek : (st a b (N - 1)).2 = b.length - 1 := by omega
      rw [ei, ek] at ht
      have hh : up (dd (cy a) (a.length - 1)) ↔ up (dd (cy b) (b.length - 1)) := by simp [ha.last, hb.last]
      have ht' : vx (dd (cy b) (b.length - 1)) (dd (cy a) (a.length - 1)) = 0 := by unfold tn at ht; rw [vx_swap]; omega
      have p1 := par_pos (ha.nz _) (hb.nz _) hh ht la
      have p2 := par_pos (hb.nz _) (ha.nz _) hh.symm ht' lb
      have e3 : D a b (st a b (N - 1)) = ad (dd (cy a) (a.length - 1)) (dd (cy b) (b.length - 1)) := by rw [← ei, ← ek]; exact e2
      rw [e3, vx_adl, vx_adl]
      refine ⟨fun hc => ?_, by omega, by omega⟩
      have := up_ad upna upnb
      rw [← ng_ad] at this
      exact not_up_ng hc this
  have wrap : 0 < vx (D a b (st a b (N - 1))) (D a b (0, 0)) := by
    rcases w0 with ⟨_, e, _⟩ | ⟨_, e, _⟩ | ⟨_, e, _⟩ <;> rw [e]
    · exact lastF.2.1
    · exact lastF.2.2
    · rw [vx_adr]; omega
  have nextF : ∀ j, j + 1 < N → 0 < vx (D a b (st a b j)) (D a b (st a b (j + 1))) ∧ (¬ up (D a b (st a b j)) → ¬ up (D a b (st a b (j + 1)))) := fun j hj =>
    turn_left ha hb (hI j (by omega)) (hu j (by omega)) (hI (j + 1) (by omega)) (hu (j + 1) hj)
  have left : ∀ j, 0 < vx (dd (cy (outL a b N)) j) (dd (cy (outL a b N)) (j + 1)) := by
    have H : ∀ j, j < N → 0 < vx (dd (cy (outL a b N)) j) (dd (cy (outL a b N)) (j + 1)) := fun j hj => by
      rcases Nat.lt_or_ge (j + 1) N with h | h
      · rw [hD j hj, hD (j + 1) h]; exact (nextF j h).1
      · have e : j + 1 = 0 + N := by omega
        rw [e, dper, hD j hj, hD 0 (by omega)]
        have : j = N - 1 := by omega
        rw [this]; exact wrap
    intro j
    have hm := Nat.mod_lt j (show 0 < N by omega)
    have := H (j % N) hm
    have e1 : dd (cy (outL a b N)) (j % N) = dd (cy (outL a b N)) j := by have := dd_mod (outL a b N) j; rwa [outL_length] at this
    have e2 : dd (cy (outL a b N)) (j % N + 1) = dd (cy (outL a b N)) (j + 1) := by
      have h1 := dd_mod (outL a b N) (j % N + 1)
      have h2 := dd_mod (outL a b N) (j + 1)
      rw [outL_length] at h1 h2
      rw [← h1, ← h2, Nat.mod_add_mod]
    rwa [e1, e2] at this
  have pre : ∀ d j, j + d < N → up (D a b (st a b (j + d))) → up (D a b (st a b j)) := by
    intro d
    induction d with
    | zero => intro j _ h; exact h
    | succ d ih =>
      intro j hj h
      refine ih j (by omega) (Classical.byContradiction fun hn => ?_)
      exact (nextF (j + d) (by omega)).2 hn h
  intro i t ht htn
  rw [outL_length] at htn
  refine convex_of_once h3 per left (N - 1) ⟨by rw [hD _ (by omega)]; exact lastF.1, by rw [show N - 1 + 1 = 0 + N by omega, dper, hD 0 (by omega)]; exact f0⟩ (fun j hj => ?_) i t ht htn
  have hm := Nat.mod_lt j (show 0 < N by omega)
  rw [Nat.mod_eq_of_lt (show N - 1 < N by omega)]
  apply Classical.byContradiction
  intro hne
  have e1 : dd (cy (outL a b N)) (j % N) = dd (cy (outL a b N)) j := by have := dd_mod (outL a b N) j; rwa [outL_length] at this
  have e2 : dd (cy (outL a b N)) (j % N + 1) = dd (cy (outL a b N)) (j + 1) := by
    have h1 := dd_mod (outL a b N) (j % N + 1)
    have h2 := dd_mod (outL a b N) (j + 1)
    rw [outL_length] at h1 h2
    rw [← h1, ← h2, Nat.mod_add_mod]
  rw [← e1, ← e2, hD _ hm, hD _ (by omega)] at hj
  exact (nextF (j % N) (by omega)).2 hj.1 hj.2
end
end Go.Proofs.Ytcbphodkaiknmaa

namespace Go.Proofs.Ytcbphodkaiknmaa

section
variable {a b : List XY}
/-- A corner that is least among its neighbours in a direction is least of all. -/
theorem least {l : List XY} (h : Sorted l) (k : Nat) {d : XY} (h1 : 0 ≤ vx d (dd (cy l) (k + 1))) (h2 : vx d (dd (cy l) k) ≤ 0) (j : Nat) : 0 ≤ vx d (sb (cy l (k + 1)) (cy l j)) := by
  have h0 : 0 < l.length := by have := h.len; omega
  have hin := conv_ins h.len h.conv (cy_mem h0 j)
  have p1 := hin k
  have p2 := hin (k + 1)
  have hD := h.left k
  have e0 : vx (dd (cy l) k) (sb (cy l k) (cy l j)) = vx (dd (cy l) k) (sb (cy l (k + 1)) (cy l j)) := by unfold vx dd sb; grind
  rw [e0] at p1
  generalize sb (cy l (k + 1)) (cy l j) = z at p1 p2
  generalize dd (cy l) k = u at *
  generalize dd (cy l) (k + 1) = v at *
  have key : vx d z * vx u v = vx u z * vx d v + vx v z * (-(vx d u)) := by unfold vx; grind
  have q1 := Int.mul_nonneg p1 h1
  have q2 := Int.mul_nonneg p2 (show 0 ≤ -(vx d u) by omega)
  exact nonneg_of_mul hD (by rw [key]; omega)

theorem Inv.swap {i k : Nat} (h : Inv a b i k) : Inv b a k i := ⟨h.kb, h.ia, h.ba, h.ab⟩
theorem tn_swap (i k : Nat) : tn b a k i = -tn a b i k := by unfold tn; rw [vx_swap]

/-- Where a side of a comes next, the corner of b is the least one. -/
theorem suppA (ha : Sorted a) (hb : Sorted b) {i k : Nat} (h : Inv a b i k) (hi : i < a.length) (ht : k < b.length → 0 < tn a b i k) (j : Nat) : 0 ≤ vx (dd (cy a) i) (sb (cy b k) (cy b j)) := by
  have hlb := hb.len
  have hkb := h.kb
  have eb : dd (cy b) (b.length - 1 + 1) = dd (cy b) 0 := by rw [show b.length - 1 + 1 = 0 + b.length by omega, dd_per (cy_per b)]
  have lb := hb.left (b.length - 1)
  rw [eb] at lb
  have upnb := up_ng (hb.nz _) hb.last
  have e1 : cy b (k + b.length - 1 + 1) = cy b k := by rw [show k + b.length - 1 + 1 = k + b.length by omega, cy_per]
  have e2 : dd (cy b) (k + b.length - 1 + 1) = dd (cy b) k := by rw [show k + b.length - 1 + 1 = k + b.length by omega, dd_per (cy_per b)]
  rw [← e1]
  refine least hb (k + b.length - 1) ?_ ?_ j
  · rw [e2]
    rcases Nat.lt_or_ge k b.length with hk | hk
    · have := ht hk; unfold tn at this; omega
    · have ek : k = b.length := by omega
      have e3 : dd (cy b) k = dd (cy b) 0 := by have := dd_per (cy_per b) 0; rw [Nat.zero_add] at this; rw [ek, this]
      rw [e3]
      have hl := h.ba (b.length - 1) i (by omega) (Nat.le_refl _) hi
      rcases hl with ⟨hc, _⟩ | ⟨hh, hp⟩
      · exact absurd hc hb.last
      · have hna : ¬ up (dd (cy a) i) := fun hc => hb.last (hh.2 hc)
        have := bet_up' upnb (up_ng (ha.nz i) hna) hb.first lb (by omega)
        omega
  · suffices 0 ≤ vx (dd (cy b) (k + b.length - 1)) (dd (cy a) i) by rw [vx_swap]; omega
    rcases Nat.eq_zero_or_pos k with hk0 | hk0
    · -- ahead of the first side of b
      have hkl : k < b.length := by omega
      have hT := ht hkl
      have hl := (tn_spec ha hb h hi hkl).1 hT
      unfold tn at hT
      rw [hk0] at hT hl
      have e3 : k + b.length - 1 = b.length - 1 := by omega
      rw [e3]
      rcases hl with ⟨_, hc⟩ | ⟨hh, _⟩
      · exact absurd hb.first hc
      · have := bet_low' upnb (hh.2 hb.first) hb.first lb (by omega)
        omega
    · have e3 : dd (cy b) (k + b.length - 1) = dd (cy b) (k - 1) := by rw [show k + b.length - 1 = k - 1 + b.length by omega, dd_per (cy_per b)]
      rw [e3]
      have hl := h.ba (k - 1) i (by omega) (Nat.le_refl _) hi
      rcases hl with ⟨hu, hna⟩ | ⟨_, hp⟩
      · rcases Nat.lt_or_ge k b.length with hk | hk
        · have hT := ht hk
          have hl2 := (tn_spec ha hb h hi hk).1 hT
          unfold tn at hT
          have hleft := hb.left (k - 1)
          rw [show k - 1 + 1 = k by omega] at hleft
          rcases hl2 with ⟨hc, _⟩ | ⟨hh, _⟩
          · exact absurd hc hna
          · have hnb : ¬ up (dd (cy b) k) := fun hc => hna (hh.2 hc)
            have := bet_low hu (up_ng (ha.nz i) hna) (up_ng (hb.nz k) hnb) hleft (by omega)
            omega
        · have ek : k = b.length := by omega
          rw [ek] at hu
          exact absurd hu hb.last
      · omega

theorem sb_pt (s : Nat × Nat) (x y : XY) : sb (pt a b s) (ad x y) = ad (sb (cy a s.1) x) (sb (cy b s.2) y) := by unfold sb pt ad; simp only; congr 1 <;> omega

/-- All sums lie to the left of every side. -/
theorem supp (ha : Sorted a) (hb : Sorted b) {i k : Nat} (h : Inv a b i k) (hik : i < a.length ∨ k < b.length) (p q : Nat) : 0 ≤ vx (D a b (i, k)) (sb (pt a b (i, k)) (ad (cy a p) (cy b q))) := by
  have ia := conv_ins ha.len ha.conv (cy_mem (by have := ha.len; omega) p) i
  have ib := conv_ins hb.len hb.conv (cy_mem (by have := hb.len; omega) q) k
  rw [sb_pt, vx_adr]
  simp only
  rcases ways h hik with ⟨_, e, hi, ht⟩ | ⟨_, e, hk, ht⟩ | ⟨_, e, hi, hk, ht⟩ <;> rw [e]
  · have := suppA ha hb h hi ht q
    omega
  · have := suppA hb ha h.swap hk (fun hi => by rw [tn_swap]; have := ht hi; omega) p
    omega
  · have hh := (tn_spec ha hb h hi hk).2.2 ht
    have ht' : vx (dd (cy b) k) (dd (cy a) i) = 0 := by unfold tn at ht; rw [vx_swap]; omega
    have par : ∀ u v z : XY, Nz u → Nz v → (up u ↔ up v) → vx u v = 0 → 0 ≤ vx v z → 0 ≤ vx u z := fun u v z nu nv hh h0 hz => by
      refine Int.not_lt.1 fun hc => ?_
      have := par_pos nu nv hh h0 (w := ng z) (by rw [vx_ngr]; omega)
      rw [vx_ngr] at this
      omega
    have p1 := par _ _ _ (ha.nz i) (hb.nz k) hh ht ib
    have p2 := par _ _ _ (hb.nz k) (ha.nz i) hh.symm ht' ia
    rw [vx_adl, vx_adl]
    omega

theorem sum_ins (ha : Sorted a) (hb : Sorted b) {N : Nat} (hN : st a b N = (a.length, b.length)) (hu : ∀ j, j < N → (st a b j).1 < a.length ∨ (st a b j).2 < b.length) (hI : ∀ j, j ≤ N → Inv a b (st a b j).1 (st a b j).2) (p q : Nat) : Ins (outL a b N) (ad (cy a p) (cy b q)) := by
  obtain ⟨h3, _, hD⟩ := sum_conv ha hb hN hu hI
  intro i
  have hm := Nat.mod_lt i (show 0 < N by omega)
  have e1 : dd (cy (outL a b N)) (i % N) = dd (cy (outL a b N)) i := by have := dd_mod (outL a b N) i; rwa [outL_length] at this
  have e2 : cy (outL a b N) (i % N) = cy (outL a b N) i := by have := cy_mod (outL a b N) i; rwa [outL_length] at this
  rw [← e1, ← e2, hD _ hm, outL_cy hm]
  exact supp ha hb (hI _ (by omega)) (hu _ hm) p q

theorem lx_ad {x y x0 y0 : XY} (h1 : ¬ lx x x0) (h2 : ¬ lx y y0) : ¬ lx (ad x y) (ad x0 y0) := by unfold lx ad at *; simp only; omega
theorem sum_low {N : Nat} (h0 : 0 < N) (la : ∀ j, ¬ lx (cy a j) (cy a 0)) (lb : ∀ j, ¬ lx (cy b j) (cy b 0)) (j : Nat) : ¬ lx (cy (outL a b N) j) (cy (outL a b N) 0) := by
  have hm := Nat.mod_lt j h0
  have e2 : cy (outL a b N) (j % N) = cy (outL a b N) j := by have := cy_mod (outL a b N) j; rwa [outL_length] at this
  rw [← e2, outL_cy hm, outL_cy h0]
  exact lx_ad (la _) (lb _)
/-- A list that begins with its lowest corner is its own canonical form. -/
theorem canon_low {l : List XY} (h0 : 0 < l.length) (hb : ∀ j, Bd 100000 (cy l j)) (hl : ∀ j, ¬ lx (cy l j) (cy l 0)) : canonL l = l := by
  rw [canon_rot h0 hb]
  have : atTo l l.length = 0 := by
    rcases Nat.eq_zero_or_pos (atTo l l.length) with h | h
    · exact h
    · exact absurd ((atTo_low h0 _ (Nat.le_refl _)).2 0 h) (hl _)
  rw [this, rotL_zero]
end
end Go.Proofs.Ytcbphodkaiknmaa

namespace Go.Proofs.Ytcbphodkaiknmaa
open Go.RowKit (wrap64)

def sq2 (u : XY) : Int := u.X * u.X + u.Y * u.Y
/-- One place is looked at, behind the best one so far. -/
def stepF (A q p : XY) : XY := if p = A then q else if q = A ∨ cross2W A q p < 0 ∨ (cross2W A q p = 0 ∧ fartherB A p q = true) then p else q
def stepTo (l : List XY) (A : XY) (k : Nat) : XY := (l.take k).foldl (stepF A) A
theorem stepTo_succ {l : List XY} {A : XY} {k : Nat} {q : XY} (h : l[k]? = some q) : stepTo l A (k + 1) = stepF A (stepTo l A k) q := by
  unfold stepTo
  rw [List.take_add_one, h, List.foldl_append]
  rfl

theorem farther_iff {A p q : XY} (hA : Bd 100000 A) (hp : Bd 100000 p) (hq : Bd 100000 q) : fartherB A p q = true ↔ sq2 (sb A q) < sq2 (sb A p) := by
  obtain ⟨a1, a2, a3, a4⟩ := hA
  obtain ⟨p1, p2, p3, p4⟩ := hp
  obtain ⟨q1, q2, q3, q4⟩ := hq
  have m1 := mul_bd (a := q.X - A.X) (b := q.X - A.X) (A := 200000) (B := 200000) (by omega) (by omega) (by omega) (by omega)
  have m2 := mul_bd (a := q.Y - A.Y) (b := q.Y - A.Y) (A := 200000) (B := 200000) (by omega) (by omega) (by omega) (by omega)
  have m3 := mul_bd (a := p.X - A.X) (b := p.X - A.X) (A := 200000) (B := 200000) (by omega) (by omega) (by omega) (by omega)
  have m4 := mul_bd (a := p.Y - A.Y) (b := p.Y - A.Y) (A := 200000) (B := 200000) (by omega) (by omega) (by omega) (by omega)
  unfold fartherB sq2 sb
  simp only
  rw [w64_id (n := q.X - A.X) (by omega) (by omega), w64_id (n := q.Y - A.Y) (by omega) (by omega), w64_id (n := p.X - A.X) (by omega) (by omega), w64_id (n := p.Y - A.Y) (by omega) (by omega),
    w64_id (n := (q.X - A.X) * (q.X - A.X)) (by omega) (by omega), w64_id (n := (q.Y - A.Y) * (q.Y - A.Y)) (by omega) (by omega), w64_id (n := (p.X - A.X) * (p.X - A.X)) (by omega) (by omega), w64_id (n := (p.Y - A.Y) * (p.Y - A.Y)) (by omega) (by omega),
    w64_id (n := (q.X - A.X) * (q.X - A.X) + (q.Y - A.Y) * (q.Y - A.Y)) (by omega) (by omega), w64_id (n := (p.X - A.X) * (p.X - A.X) + (p.Y - A.Y) * (p.Y - A.Y)) (by omega) (by omega), decide_eq_true_eq]

/-- All places lie to the left of the way from A to B, and those on it nearer than B: then B comes next. -/
theorem wrap_step {l : List XY} {A B : XY} (hl : ∀ x ∈ l, Bd 100000 x) (hA : Bd 100000 A) (hAB : A ≠ B) (hB : B ∈ l) (left : ∀ x ∈ l, 0 ≤ vx (sb A B) (sb A x))
    (far : ∀ x ∈ l, x ≠ B → vx (sb A B) (sb A x) = 0 → sq2 (sb A x) < sq2 (sb A B)) : stepTo l A l.length = B := by
  have hBd := hl B hB
  have H : ∀ (m : List XY) (q : XY), (∀ x ∈ m, x ∈ l) → (q = A ∨ q ∈ l) → (B ∈ m ∨ q = B) → m.foldl (stepF A) q = B := by
    intro m
    induction m with
    | nil => intro q _ _ h; simpa using h
    | cons p m ih =>
      intro q hm hq hBq
      rw [List.foldl_cons]
      have hpl := hm p (by simp)
      have hpb := hl p hpl
      have hm' : ∀ x ∈ m, x ∈ l := fun x hx => hm x (by simp [hx])
      have cr : ∀ y z, Bd 100000 y → Bd 100000 z → cross2W A y z = vx (sb A y) (sb A z) := fun y z hy hz => by
        rw [cross2W_eq hA hy hz, cross_eq2]; unfold vx sb; rfl
      by_cases hpA : p = A
      · have e : stepF A q p = q := by unfold stepF; rw [if_pos hpA]
        rw [e]
        refine ih q hm' hq ?_
        rcases hBq with h | h
        · rcases List.mem_cons.1 h with h | h
          · exact absurd (hpA.symm.trans h.symm) hAB
          · exact .inl h
        · exact .inr h
      · by_cases hqA : q = A
        · have e : stepF A q p = p := by unfold stepF; rw [if_neg hpA, if_pos (.inl hqA)]
          rw [e]
          refine ih p hm' (.inr hpl) ?_
          rcases hBq with h | h
          · rcases List.mem_cons.1 h with h | h
            · exact .inr h.symm
            · exact .inl h
          · exact absurd (hqA.symm.trans h) hAB
        · have hql : q ∈ l := hq.resolve_left hqA
          have hqb := hl q hql
          by_cases hqB : q = B
          · -- it stays
            have e : stepF A q p = q := by
              unfold stepF
              rw [if_neg hpA, if_neg ?_]
              rw [cr q p hqb hpb, farther_iff hA hpb hqb, hqB]
              have h1 := left p hpl
              rintro (h | h | ⟨h, h2⟩)
              · exact hAB h.symm
              · omega
              · by_cases hpB : p = B
                · rw [hpB] at h2; omega
                · have := far p hpl hpB h; omega
            rw [e]
            exact ih q hm' hq (.inr hqB)
          · by_cases hpB : p = B
            · have e : stepF A q p = p := by
                unfold stepF
                rw [if_neg hpA, if_pos ?_]
                rw [cr q p hqb hpb, farther_iff hA hpb hqb, hpB]
                have h1 := left q hql
                have h3 : vx (sb A q) (sb A B) = -vx (sb A B) (sb A q) := vx_swap _ _
                rcases Int.lt_or_le 0 (vx (sb A B) (sb A q)) with h | h
                · exact .inr (.inl (by omega))
                · exact .inr (.inr ⟨by omega, far q hql hqB (by omega)⟩)
              rw [e]
              exact ih p hm' (.inr hpl) (.inr hpB)
            · have hBm : B ∈ m := by
                rcases hBq with h | h
                · rcases List.mem_cons.1 h with h | h
                  · exact absurd h.symm hpB
                  · exact h
                · exact absurd h hqB
              refine ih _ hm' ?_ (.inl hBm)
              unfold stepF
              rw [if_neg hpA]
              split
              · exact .inr hpl
              · exact .inr hql
  unfold stepTo
  rw [List.take_length]
  exact H l A (fun _ h => h) (.inl rfl) (.inl hB)

/-- On a side of a convex list all places lie nearer than its end. -/
theorem on_side {P : List XY} (h3 : 3 ≤ P.length) (hc : Conv P) (i : Nat) {x : XY} (hx : Ins P x) (h0 : vx (sb (cy P i) (cy P (i + 1))) (sb (cy P i) x) = 0) (hne : x ≠ cy P (i + 1)) :
    sq2 (sb (cy P i) x) < sq2 (sb (cy P i) (cy P (i + 1))) := by
  have left := (once_of_convex h3 (cy_per P) hc).1
  have p1 := hx (i + 1)
  have p0 := hx (i + P.length - 1)
  have e1 : cy P (i + P.length - 1 + 1) = cy P i := by rw [show i + P.length - 1 + 1 = i + P.length by omega, cy_per]
  have e2 : dd (cy P) (i + P.length - 1 + 1) = dd (cy P) i := by rw [show i + P.length - 1 + 1 = i + P.length by omega, dd_per (cy_per P)]
  have l0 := left (i + P.length - 1)
  have l1 := left i
  rw [e2] at l0
  have e3 : vx (dd (cy P) (i + P.length - 1)) (sb (cy P (i + P.length - 1)) x) = vx (dd (cy P) (i + P.length - 1)) (sb (cy P i) x) := by
    unfold dd; rw [e1]; unfold vx sb; grind
  rw [e3] at p0
  have e4 : sb (cy P (i + 1)) x = ad (sb (cy P i) x) (ng (dd (cy P) i)) := by unfold sb ad ng dd sb; simp only; congr 1 <;> omega
  rw [e4, vx_adr, vx_ngr] at p1
  have hz : sb (cy P i) x ≠ dd (cy P) i := fun h => hne (by
    have hX := congrArg XY.X h
    have hY := congrArg XY.Y h
    unfold dd sb at hX hY
    simp only at hX hY
    cases hx' : x; cases hp' : cy P (i + 1)
    rw [hx', hp'] at hX hY
    simp only at hX hY
    congr 1 <;> omega)
  change sq2 (sb (cy P i) x) < sq2 (dd (cy P) i)
  change vx (dd (cy P) i) (sb (cy P i) x) = 0 at h0
  generalize sb (cy P i) x = z at *
  generalize dd (cy P) i = d at *
  generalize dd (cy P) (i + 1) = e at *
  generalize dd (cy P) (i + P.length - 1) = c at *
  obtain ⟨m, hm⟩ : ∃ m, vx d e = m := ⟨_, rfl⟩
  obtain ⟨s, hs⟩ : ∃ s, vx z e = s := ⟨_, rfl⟩
  rw [hm] at l1
  have f1 : s ≤ m := by rw [← hs, ← hm]; rw [vx_swap e z, vx_swap e d] at p1; omega
  have k1 : m * z.X = s * d.X := by rw [← hm, ← hs]; unfold vx at h0 ⊢; grind
  have k2 : m * z.Y = s * d.Y := by rw [← hm, ← hs]; unfold vx at h0 ⊢; grind
  have k3 : m * vx c z = s * vx c d := by unfold vx; grind
  have f2 : 0 ≤ s := nonneg_of_mul l0 (by rw [← k3]; exact Int.mul_nonneg (by omega) p0)
  have f3 : s ≠ m := fun h => hz (by
    rw [h] at k1 k2
    have a1 := Int.eq_of_mul_eq_mul_left (by omega) k1
    have a2 := Int.eq_of_mul_eq_mul_left (by omega) k2
    cases z; cases d; simp only at a1 a2; rw [a1, a2])
  have nd : 0 < sq2 d := by
    unfold sq2
    have n1 := sq_nonneg d.X
    have n2 := sq_nonneg d.Y
    rcases vx_ne (u := d) (v := e) (by omega) with h | h
    · have : d.X * d.X ≠ 0 := fun hc => by rcases Int.mul_eq_zero.1 hc with h' | h' <;> exact h h'
      omega
    · have : d.Y * d.Y ≠ 0 := fun hc => by rcases Int.mul_eq_zero.1 hc with h' | h' <;> exact h h'
      omega
  have q1 : m * m * sq2 z = s * s * sq2 d := by
    unfold sq2
    have : m * m * (z.X * z.X + z.Y * z.Y) = (m * z.X) * (m * z.X) + (m * z.Y) * (m * z.Y) := by grind
    rw [this, k1, k2]; grind
  have q2 : s * s < m * m := by
    have a1 : s * s ≤ s * m := Int.mul_le_mul_of_nonneg_left f1 f2
    have a2 : s * m < m * m := Int.mul_lt_mul_of_pos_right (by omega) l1
    omega
  refine Int.not_le.1 fun hle => ?_
  have r1 : m * m * sq2 d ≤ m * m * sq2 z := Int.mul_le_mul_of_nonneg_left hle (sq_nonneg m)
  have r2 : s * s * sq2 d < m * m * sq2 d := Int.mul_lt_mul_of_pos_right q2 nd
  omega

/-- The walk around places from corner to corner of their least outline. -/
theorem wrap_next {l P : List XY} (hl : ∀ x ∈ l, Bd 100000 x) (h3 : 3 ≤ P.length) (hc : Conv P) (hPl : ∀ i, cy P i ∈ l) (hin : ∀ x ∈ l, Ins P x) (i : Nat) : stepTo l (cy P i) l.length = cy P (i + 1) := by
  have nz : Nz (dd (cy P) i) := vx_ne ((once_of_convex h3 (cy_per P) hc).1 i)
  refine wrap_step hl (hl _ (hPl i)) (fun h => ?_) (hPl (i + 1)) (fun x hx => hin x hx i) (fun x hx hne h0 => on_side h3 hc i (hin x hx) h0 hne)
  unfold Nz dd sb at nz
  rw [← h] at nz
  simp only at nz
  omega
end Go.Proofs.Ytcbphodkaiknmaa

/- Hulls: two chains make a convex line around all places. -/
import Derived.Test.YtcbphodkaiknmaaMathH1
namespace Go.Proofs.Ytcbphodkaiknmaa
open Go.RowKit

structure Arc (U : XY → Prop) (S C : List XY) : Prop where
  side : ∀ i a b, C[i]? = some a → C[i + 1]? = some b → U (sb a b) ∧ ∀ x ∈ S, 0 ≤ vx (sb a b) (sb a x)
  turn : ∀ i a b c, C[i]? = some a → C[i + 1]? = some b → C[i + 2]? = some c → 0 < vx (sb a b) (sb b c)
  mem : ∀ x ∈ C, x ∈ S
  first : ∃ a, C[0]? = some a ∧ ∀ x ∈ S, x = a ∨ U (sb a x)
  last : ∃ q, C[C.length - 1]? = some q ∧ ∀ x ∈ S, x = q ∨ U (sb x q)
theorem arc_of {U : XY → Prop} (H : Half U) {S : List XY} (h0 : S ≠ []) (hs : S.Pairwise (fun a b => U (sb a b))) : Arc U S (chainS S).reverse := by
  obtain ⟨hg, q, r, e, _, hq⟩ := good_chain H S h0 hs
  obtain ⟨z, hz, _, hz2⟩ := good_last hg
  have hpos : 0 < (chainS S).length := by rw [e]; simp
  have hrev : ∀ i a, (chainS S).reverse[i]? = some a → i < (chainS S).length ∧ (chainS S)[(chainS S).length - 1 - i]? = some a := fun i a h => by
    have hi := (List.getElem?_eq_some_iff.1 h).1
    rw [List.length_reverse] at hi
    rw [List.getElem?_reverse hi] at h
    exact ⟨hi, h⟩
  refine ⟨fun i a b ha hb => ?_, fun i a b c ha hb hc => ?_, fun x hx => good_mem hg (List.mem_reverse.1 hx), ?_, ?_⟩
  · obtain ⟨hi, ha⟩ := hrev i a ha
    obtain ⟨hi2, hb⟩ := hrev (i + 1) b hb
    have := good_get hg (j := (chainS S).length - 1 - (i + 1)) (a := a) (b := b) hb (by rw [show (chainS S).length - 1 - (i + 1) + 1 = (chainS S).length - 1 - i by omega]; exact ha)
    exact ⟨this.1, this.2.1⟩
  · obtain ⟨hi, ha⟩ := hrev i a ha
    obtain ⟨hi2, hb⟩ := hrev (i + 1) b hb
    obtain ⟨hi3, hc⟩ := hrev (i + 2) c hc
    have := good_get hg (j := (chainS S).length - 1 - (i + 2)) (a := b) (b := c) hc (by rw [show (chainS S).length - 1 - (i + 2) + 1 = (chainS S).length - 1 - (i + 1) by omega]; exact hb)
    exact this.2.2 a (by rw [show (chainS S).length - 1 - (i + 2) + 2 = (chainS S).length - 1 - i by omega]; exact ha)
  · refine ⟨z, ?_, hz2⟩
    rw [List.getElem?_reverse hpos, Nat.sub_zero, ← List.getLast?_eq_getElem?]; exact hz
  · refine ⟨q, ?_, hq⟩
    rw [List.length_reverse, List.getElem?_reverse (by omega), show (chainS S).length - 1 - ((chainS S).length - 1) = 0 by omega, e]; rfl
/-- Two opposite ways, all places left of both: all places on one line. -/
theorem all_on {u v w : XY} (hu : up u) (hv : up (ng v)) (h0 : vx u v = 0) (h1 : 0 ≤ vx u w) (h2 : 0 ≤ vx v w) : vx u w = 0 := by
  have i1 : vx u w * v.Y = vx v w * u.Y + vx u v * w.Y := by unfold vx; grind
  have i2 : vx u w * v.X = vx v w * u.X + vx u v * w.X := by unfold vx; grind
  rw [h0, Int.zero_mul, Int.add_zero] at i1 i2
  have hvy : v.Y ≤ 0 := by unfold up ng at hv; simp only at hv; omega
  have huy := up_y hu
  by_cases hz : vx u w = 0
  · exact hz
  exfalso
  have h : 0 < vx u w := by omega
  by_cases hy : v.Y = 0
  · -- v goes to the left, u to the right
    have hvx : v.X < 0 := by unfold up ng at hv; simp only at hv; omega
    have hu0 : u.Y * v.X = 0 := by unfold vx at h0; rw [hy] at h0; simp at h0; rw [← h0]
    have huy0 : u.Y = 0 := by rcases Int.mul_eq_zero.1 hu0 with h' | h' <;> omega
    have hux : 0 < u.X := by unfold up at hu; omega
    have n1 : vx u w * v.X < 0 := Int.mul_neg_of_pos_of_neg h hvx
    have n2 : 0 ≤ vx v w * u.X := Int.mul_nonneg h2 (by omega)
    omega
  · have n1 : vx u w * v.Y < 0 := Int.mul_neg_of_pos_of_neg h (by omega)
    have n2 : 0 ≤ vx v w * u.Y := Int.mul_nonneg h2 huy
    omega
theorem vx_nil {u s t : XY} (hu : up u) (h1 : vx u s = 0) (h2 : vx u t = 0) : vx s t = 0 := by
  have i1 : vx s t * u.Y = vx u t * s.Y - vx u s * t.Y := by unfold vx; grind
  have i2 : vx s t * u.X = vx u t * s.X - vx u s * t.X := by unfold vx; grind
  rw [h1, h2] at i1 i2
  rcases Int.mul_eq_zero.1 (show vx s t * u.Y = 0 by rw [i1]; simp) with h | h
  · exact h
  · rcases Int.mul_eq_zero.1 (show vx s t * u.X = 0 by rw [i2]; simp) with h' | h'
    · exact h'
    · unfold up at hu; omega
theorem ends_meet {S C D : List XY} (hC : Arc up S C) (hD : Arc (fun v => up (ng v)) S D) : C[C.length - 1]? = D[0]? ∧ D[D.length - 1]? = C[0]? := by
  obtain ⟨a, ha, ha2⟩ := hC.first
  obtain ⟨q, hq, hq2⟩ := hC.last
  obtain ⟨a', ha', ha2'⟩ := hD.first
  obtain ⟨q', hq', hq2'⟩ := hD.last
  have neg : ∀ x y : XY, up (ng (sb x y)) ↔ up (sb y x) := fun x y => by
    have e : ng (sb x y) = sb y x := by unfold ng sb; simp only; congr 1 <;> omega
    rw [e]
  have m1 := hC.mem a (List.mem_of_getElem? ha)
  have m2 := hC.mem q (List.mem_of_getElem? hq)
  have m3 := hD.mem a' (List.mem_of_getElem? ha')
  have m4 := hD.mem q' (List.mem_of_getElem? hq')
  have e1 : q = a' := by
    rcases hq2 a' m3 with h | h
    · exact h.symm
    · rcases ha2' q m2 with h' | h'
      · exact h'
      · exact absurd (half_up.add h ((neg _ _).1 h')) (half_up.irr _)
  have e2 : q' = a := by
    rcases ha2 q' m4 with h | h
    · exact h
    · rcases hq2' a m1 with h' | h'
      · exact h'.symm
      · exact absurd (half_up.add h ((neg _ _).1 h')) (half_up.irr _)
  rw [hq, ha', e1, hq', ha, e2]
  exact ⟨rfl, rfl⟩
theorem poly_len (C D : List XY) : (C.dropLast ++ D.dropLast).length = (C.length - 1) + (D.length - 1) := by simp
/-- Every side of the closed line is a side of a chain. -/
theorem poly_side {S C D : List XY} (hC : Arc up S C) (hD : Arc (fun v => up (ng v)) S D) (hc : 2 ≤ C.length) (hd : 2 ≤ D.length) {i : Nat} (hi : i < (C.length - 1) + (D.length - 1)) :
    (i < C.length - 1 ∧ C[i]? = some (cy (C.dropLast ++ D.dropLast) i) ∧ C[i + 1]? = some (cy (C.dropLast ++ D.dropLast) (i + 1))) ∨
    (C.length - 1 ≤ i ∧ D[i - (C.length - 1)]? = some (cy (C.dropLast ++ D.dropLast) i) ∧ D[i - (C.length - 1) + 1]? = some (cy (C.dropLast ++ D.dropLast) (i + 1))) := by
  have hl := poly_len C D
  obtain ⟨em1, em2⟩ := ends_meet hC hD
  have gC : ∀ k, k < C.length - 1 → C[k]? = some (cy (C.dropLast ++ D.dropLast) k) := fun k hk => by
    obtain ⟨x, hx⟩ := getElem?_of_lt (show k < C.length by omega)
    rw [hx]
    congr 1
    refine (cy_of ?_).symm
    rw [hl, Nat.mod_eq_of_lt (by omega), List.getElem?_append_left (by simpa using hk), List.getElem?_dropLast, if_pos (by omega)]; exact hx
  have gD : ∀ k, k < D.length - 1 → D[k]? = some (cy (C.dropLast ++ D.dropLast) (C.length - 1 + k)) := fun k hk => by
    obtain ⟨x, hx⟩ := getElem?_of_lt (show k < D.length by omega)
    rw [hx]
    congr 1
    refine (cy_of ?_).symm
    rw [hl, Nat.mod_eq_of_lt (by omega), List.getElem?_append_right (by simp), List.length_dropLast, show C.length - 1 + k - (C.length - 1) = k by omega, List.getElem?_dropLast, if_pos (by omega)]; exact hx
  by_cases h : i < C.length - 1
  · refine .inl ⟨h, gC i h, ?_⟩
    by_cases h2 : i + 1 < C.length - 1
    · exact gC (i + 1) h2
    · rw [show i + 1 = C.length - 1 by omega, em1]
      exact gD 0 (by omega)
  · refine .inr ⟨by omega, ?_, ?_⟩
    · have := gD (i - (C.length - 1)) (by omega)
      rwa [show C.length - 1 + (i - (C.length - 1)) = i by omega] at this
    · by_cases h2 : i - (C.length - 1) + 1 < D.length - 1
      · have := gD (i - (C.length - 1) + 1) h2
        rwa [show C.length - 1 + (i - (C.length - 1) + 1) = i + 1 by omega] at this
      · rw [show i - (C.length - 1) + 1 = D.length - 1 by omega, em2, gC 0 (by omega)]
        have : cy (C.dropLast ++ D.dropLast) (i + 1) = cy (C.dropLast ++ D.dropLast) (0 + (C.dropLast ++ D.dropLast).length) := by rw [hl]; congr 1; omega
        rw [this, cy_per]
/-- All places lie left of every side. -/
theorem poly_left {S C D : List XY} (hC : Arc up S C) (hD : Arc (fun v => up (ng v)) S D) (hc : 2 ≤ C.length) (hd : 2 ≤ D.length) (i : Nat) : ∀ x ∈ S, 0 ≤ vx (dd (cy (C.dropLast ++ D.dropLast)) i) (sb (cy (C.dropLast ++ D.dropLast) i) x) := by
  have hl := poly_len C D
  have main : ∀ i, i < (C.length - 1) + (D.length - 1) → ∀ x ∈ S, 0 ≤ vx (dd (cy (C.dropLast ++ D.dropLast)) i) (sb (cy (C.dropLast ++ D.dropLast) i) x) := fun i hi x hx => by
    rcases poly_side hC hD hc hd hi with ⟨_, h1, h2⟩ | ⟨_, h1, h2⟩
    · exact (hC.side _ _ _ h1 h2).2 x hx
    · exact (hD.side _ _ _ h1 h2).2 x hx
  have hm := Nat.mod_lt i (show 0 < (C.length - 1) + (D.length - 1) by omega)
  have := main _ hm
  have e1 : cy (C.dropLast ++ D.dropLast) (i % ((C.length - 1) + (D.length - 1))) = cy (C.dropLast ++ D.dropLast) i := by unfold cy; rw [hl, Nat.mod_mod]
  have e2 : cy (C.dropLast ++ D.dropLast) (i % ((C.length - 1) + (D.length - 1)) + 1) = cy (C.dropLast ++ D.dropLast) (i + 1) := by unfold cy; rw [hl]; congr 2; simp [Nat.add_mod]
  unfold dd at this ⊢
  rwa [e1, e2] at this
end Go.Proofs.Ytcbphodkaiknmaa

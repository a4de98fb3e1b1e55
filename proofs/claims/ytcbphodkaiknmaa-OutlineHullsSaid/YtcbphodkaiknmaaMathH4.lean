/- Hulls: the walk around the places comes to the corners of the two chains. -/
import Derived.Test.YtcbphodkaiknmaaMathH3
import Derived.Test.YtcbphodkaiknmaaMathS6
namespace Go.Proofs.Ytcbphodkaiknmaa
open Go.RowKit

theorem wraps_fun {l P Q : List XY} (hP : Wraps l P) (hQ : Wraps l Q) : P = Q := by
  have hhd : hd P = hd Q := hP.first.trans hQ.first.symm
  have h0 : P[0]? = Q[0]? := by
    obtain ⟨p, hp⟩ := getElem?_of_lt hP.pos
    obtain ⟨q, hq⟩ := getElem?_of_lt hQ.pos
    rw [hd_of hp, hd_of hq] at hhd
    rw [hp, hq, hhd]
  have step : ∀ (P Q : List XY), Wraps l P → Wraps l Q → hd P = hd Q → ∀ i p, P[i]? = some p → Q[i]? = some p → P[i + 1]? = none → Q[i + 1]? = none := fun P Q hP hQ hh i p hp hq hn => by
    cases hq1 : Q[i + 1]? with
    | none => rfl
    | some q =>
      obtain ⟨e, n1, n2⟩ := hQ.next i p q hq hq1
      have hl : i = P.length - 1 := by
        have := (List.getElem?_eq_some_iff.1 hp).1
        have := List.getElem?_eq_none_iff.1 hn
        omega
      rcases hP.last p (by rw [← hl]; exact hp) with h | h
      · rw [e, hh] at h; exact absurd h n1
      · rw [e] at h; exact absurd h n2
  apply List.ext_getElem?
  intro i
  induction i with
  | zero => exact h0
  | succ i ih =>
    cases hp : P[i]? with
    | none =>
      have h1 := List.getElem?_eq_none_iff.1 hp
      rw [hp] at ih
      have h2 := List.getElem?_eq_none_iff.1 ih.symm
      rw [List.getElem?_eq_none (by omega), List.getElem?_eq_none (by omega)]
    | some p =>
      rw [hp] at ih
      cases hp1 : P[i + 1]? with
      | none => exact (step P Q hP hQ hhd i p hp ih.symm hp1).symm
      | some p1 =>
        cases hq1 : Q[i + 1]? with
        | none => have := step Q P hQ hP hhd.symm i p ih.symm hp hq1; rw [hp1] at this; cases this
        | some q1 =>
          have a := (hP.next i p p1 hp hp1).1
          have b := (hQ.next i p q1 ih.symm hq1).1
          rw [← a, ← b]
/-- A convex line around all places, with corners out of them, from the lowest one on. -/
theorem wraps_conv {l P : List XY} (hbl : ∀ x ∈ l, Bd 100000 x) (h3 : 3 ≤ P.length) (hconv : Conv P) (hcorm : ∀ j, cy P j ∈ l) (hin : ∀ x ∈ l, Ins P x) (hlow2 : ∀ x ∈ l, ¬ lx x (cy P 0)) : Wraps l P := by
  have hout0 : 0 < P.length := by omega
  have hnext := wrap_next hbl h3 hconv hcorm hin
  have h0s : 0 < l.length := List.length_pos_of_mem (hcorm 0)
  have ehd : hd P = cy P 0 := by
    obtain ⟨q, hq⟩ := getElem?_of_lt hout0
    rw [hd_of hq, cy_lt hq]
  refine ⟨?_, hout0, fun i q r hq hr => ?_, fun q hq => ?_⟩
  · rw [ehd, hd_turn h0s]
    refine lx_anti ?_ ?_
    · obtain ⟨k, hk, e⟩ := mem_cy (hcorm 0)
      have := (atTo_low h0s _ (Nat.le_refl _)).1 k hk
      rwa [e] at this
    · exact hlow2 _ (cy_mem h0s _)
  · have hi : i + 1 < P.length := (List.getElem?_eq_some_iff.1 hr).1
    rw [← cy_lt hq, ← cy_lt hr, ehd]
    exact ⟨hnext i, fun e => conv_inj h3 hconv (show 0 < i + 1 by omega) hi e.symm, fun e => conv_inj h3 hconv (show i < i + 1 by omega) hi e.symm⟩
  · left
    rw [← cy_lt hq, ehd, hnext, show P.length - 1 + 1 = 0 + P.length by omega, cy_per]
theorem wraps_one {l : List XY} {s : XY} (h0 : 0 < l.length) (h : ∀ x ∈ l, x = s) : Wraps l [s] := by
  have hst : stepTo l s l.length = s := by
    unfold stepTo
    rw [List.take_length]
    have : ∀ m : List XY, (∀ x ∈ m, x = s) → m.foldl (stepF s) s = s := by
      intro m
      induction m with
      | nil => intro _; rfl
      | cons x m ih =>
        intro hm
        rw [List.foldl_cons, hm x (by simp)]
        have e : stepF s s s = s := by unfold stepF; rw [if_pos rfl]
        rw [e]
        exact ih fun y hy => hm y (by simp [hy])
    exact this l h
  refine ⟨?_, by simp, fun i p q _ hq => by simp at hq, fun p hp => .inr ?_⟩
  · rw [hd_turn h0, h _ (cy_mem h0 _)]; rfl
  · simp at hp; subst hp; exact hst
theorem dot_up {w v : XY} (hw : up w) (hv : up v) (h : vx w v = 0) : 0 ≤ w.X * v.X + w.Y * v.Y := by
  have i1 : w.Y * (w.X * v.X + w.Y * v.Y) = v.Y * (w.X * w.X + w.Y * w.Y) - w.X * vx w v := by unfold vx; grind
  rw [h, Int.mul_zero, Int.sub_zero] at i1
  by_cases hy : w.Y = 0
  · have hx : 0 < w.X := by unfold up at hw; omega
    have hvy : v.Y = 0 := by
      have : w.X * v.Y = 0 := by unfold vx at h; rw [hy] at h; simpa using h
      rcases Int.mul_eq_zero.1 this with h' | h' <;> omega
    have hvx : 0 < v.X := by unfold up at hv; omega
    rw [hy, hvy]
    have := Int.mul_nonneg (show 0 ≤ w.X by omega) (show 0 ≤ v.X by omega)
    omega
  · have hpos : 0 < w.Y := by have := up_y hw; omega
    have hvy := up_y hv
    have hr : 0 ≤ v.Y * (w.X * w.X + w.Y * w.Y) := Int.mul_nonneg hvy (by have := sq_nonneg w.X; have := sq_nonneg w.Y; omega)
    rw [← i1] at hr
    refine Int.not_lt.1 fun hlt => ?_
    have := Int.mul_neg_of_pos_of_neg hpos hlt
    omega
/-- On one line, in one half: what lies behind is farther. -/
theorem far_up {A B x : XY} (h1 : x = A ∨ up (sb A x)) (h2 : up (sb x B)) (h : vx (sb A B) (sb A x) = 0) (hAB : up (sb A B)) : sq2 (sb A x) < sq2 (sb A B) := by
  have hpos : ∀ u : XY, up u → 0 < sq2 u := fun u hu => by
    unfold sq2
    have n1 := sq_nonneg u.X
    have n2 := sq_nonneg u.Y
    rcases hu with h | ⟨_, h⟩
    · have : 0 < u.Y * u.Y := Int.mul_pos h h
      omega
    · have : 0 < u.X * u.X := Int.mul_pos h h
      omega
  rcases h1 with e | h1
  · subst e
    have := hpos _ hAB
    have e0 : sq2 (sb x x) = 0 := by unfold sq2 sb; simp
    omega
  · have e : sq2 (sb A B) = sq2 (sb A x) + sq2 (sb x B) + 2 * ((sb A x).X * (sb x B).X + (sb A x).Y * (sb x B).Y) := by unfold sq2 sb; grind
    have hv : vx (sb A x) (sb x B) = 0 := by
      have : vx (sb A x) (sb x B) = - vx (sb A B) (sb A x) := by unfold vx sb; grind
      rw [this, h]; rfl
    have := dot_up h1 h2 hv
    have := hpos _ h2
    omega
def hullL (S : List XY) : List XY := (chainS S).reverse.dropLast ++ (chainS S.reverse).reverse.dropLast
theorem sb_ng (a b : XY) : sb (ng a) (ng b) = sb b a := by unfold sb ng; simp only; congr 1 <;> omega
theorem arc_low {S : List XY} (h0 : S ≠ []) (hs : S.Pairwise (fun a b => up (sb a b))) : Arc (fun v => up (ng v)) S (chainS S.reverse).reverse := by
  have e : ∀ a b : XY, ng (sb a b) = sb b a := fun a b => by unfold ng sb; simp only; congr 1 <;> omega
  have h := arc_of half_low (S := S.reverse) (by simpa using h0) (by
    rw [List.pairwise_reverse]
    refine hs.imp ?_
    intro a b h
    show up (ng (sb b a))
    rw [e]; exact h)
  have hm : ∀ x, x ∈ S → x ∈ S.reverse := fun x hx => List.mem_reverse.2 hx
  obtain ⟨a, ha, ha2⟩ := h.first
  obtain ⟨q, hq, hq2⟩ := h.last
  exact ⟨fun i a b h1 h2 => ⟨(h.side i a b h1 h2).1, fun x hx => (h.side i a b h1 h2).2 x (hm x hx)⟩, h.turn, fun x hx => List.mem_reverse.1 (h.mem x hx), ⟨a, ha, fun x hx => ha2 x (hm x hx)⟩, ⟨q, hq, fun x hx => hq2 x (hm x hx)⟩⟩
theorem arc_two {U : XY → Prop} (H : Half U) {S C : List XY} (hC : Arc U S C) (hno : ¬ ∃ s, ∀ x ∈ S, x = s) : 2 ≤ C.length := by
  obtain ⟨a, ha, ha2⟩ := hC.first
  obtain ⟨q, hq, hq2⟩ := hC.last
  have hp := (List.getElem?_eq_some_iff.1 ha).1
  refine Nat.not_lt.1 fun hlt => ?_
  have h1 : C.length - 1 = 0 := by omega
  rw [h1, ha] at hq
  obtain rfl := Option.some.inj hq
  refine hno ⟨a, fun x hx => ?_⟩
  rcases ha2 x hx with h | h
  · exact h
  · rcases hq2 x hx with h' | h'
    · exact h'
    · exact absurd (H.add h h') (H.irr _)
theorem arc_one {U : XY → Prop} (H : Half U) {S C : List XY} (hC : Arc U S C) {s : XY} (hs : ∀ x ∈ S, x = s) : C.dropLast = [] := by
  have : C.length ≤ 1 := by
    refine Nat.not_lt.1 fun hlt => ?_
    obtain ⟨a, ha⟩ := getElem?_of_lt (show 0 < C.length by omega)
    obtain ⟨b, hb⟩ := getElem?_of_lt (show 1 < C.length by omega)
    have h1 := hs a (hC.mem a (List.mem_of_getElem? ha))
    have h2 := hs b (hC.mem b (List.mem_of_getElem? hb))
    have := (hC.side 0 a b ha hb).1
    rw [h1, h2] at this
    exact H.irr _ this
  apply List.length_eq_zero_iff.1
  rw [List.length_dropLast]; omega
/-- The least outline around places, as both find it. -/
theorem hull_wraps {l S : List XY} (hl : ∀ x ∈ l, Bd 5000 x) (h0 : 0 < l.length) (hs : S.Pairwise (fun a b => up (sb a b))) (hmem : ∀ x, x ∈ S ↔ x ∈ l) :
    ∃ P, Wraps l P ∧ (((hullL S).length < 3 ∧ P.length < 3) ∨ (hullL S = P ∧ 3 ≤ P.length ∧ Conv P ∧ canonL P = P ∧ (∀ x ∈ l, Ins P x) ∧ ∀ j, cy P j ∈ l)) := by
  have hne : S ≠ [] := fun h => by
    obtain ⟨x, hx⟩ := getElem?_of_lt h0
    have := (hmem x).2 (List.mem_of_getElem? hx)
    rw [h] at this
    simp at this
  have hC := arc_of half_up hne hs
  have hD := arc_low hne hs
  have hbl : ∀ x ∈ l, Bd 100000 x := fun x hx => (hl x hx).mono (by omega)
  by_cases hone : ∃ s, ∀ x ∈ S, x = s
  · obtain ⟨s, hs1⟩ := hone
    refine ⟨[s], wraps_one h0 (fun x hx => hs1 x ((hmem x).2 hx)), .inl ⟨?_, by simp⟩⟩
    unfold hullL
    rw [arc_one half_up hC hs1, arc_one half_low hD hs1]
    simp
  have c2 := arc_two half_up hC hone
  have d2 := arc_two half_low hD hone
  unfold hullL
  obtain ⟨C, hCe⟩ : ∃ C, (chainS S).reverse = C := ⟨_, rfl⟩
  obtain ⟨D, hDe⟩ : ∃ D, (chainS S.reverse).reverse = D := ⟨_, rfl⟩
  rw [hCe] at hC c2 ⊢
  rw [hDe] at hD d2 ⊢
  obtain ⟨A, hA, hA2⟩ := hC.first
  have hlowA : ∀ x ∈ l, ¬ lx x A := fun x hx h => by
    rcases hA2 x ((hmem x).2 hx) with e | e
    · subst e; exact lx_irr _ h
    · exact half_up.irr _ (half_up.add e ((lx_iff _ _).1 h))
  by_cases h3 : 3 ≤ (C.length - 1) + (D.length - 1)
  · have hlen := poly_len C D
    have hcv := poly_conv hC hD c2 d2 h3
    have hcm : ∀ j, cy (C.dropLast ++ D.dropLast) j ∈ l := fun j => (hmem _).1 (poly_mem hC hD c2 d2 j)
    have hin : ∀ x ∈ l, Ins (C.dropLast ++ D.dropLast) x := fun x hx i => poly_left hC hD c2 d2 i x ((hmem x).2 hx)
    have hA0 : cy (C.dropLast ++ D.dropLast) 0 = A := by
      rcases poly_side hC hD c2 d2 (i := 0) (by omega) with ⟨_, h1, _⟩ | ⟨h, _, _⟩
      · rw [hA] at h1; exact (Option.some.inj h1).symm
      · omega
    refine ⟨_, wraps_conv hbl (by omega) hcv hcm hin (fun x hx => by rw [hA0]; exact hlowA x hx), .inr ⟨rfl, by omega, hcv, canon_low (by omega) (fun j => (hl _ (hcm j)).mono (by omega)) (fun j => by rw [hA0]; exact hlowA _ (hcm j)), hin, hcm⟩⟩
  · have ec : C.length = 2 := by omega
    have ed : D.length = 2 := by omega
    obtain ⟨B, hB, hB2⟩ := hC.last
    rw [ec] at hB
    obtain ⟨em1, em2⟩ := ends_meet hC hD
    rw [ec] at em1
    rw [ed] at em2
    obtain ⟨hAB, hsC⟩ := hC.side 0 A B hA hB
    obtain ⟨_, hsD⟩ := hD.side 0 B A (by rw [← em1]; exact hB) (by rw [← hA]; exact em2)
    have hne' : A ≠ B := fun e => by rw [e] at hAB; exact half_up.irr _ hAB
    have hAl : A ∈ l := (hmem A).1 (hC.mem A (List.mem_of_getElem? hA))
    have hBl : B ∈ l := (hmem B).1 (hC.mem B (List.mem_of_getElem? hB))
    have s1 : stepTo l A l.length = B := wrap_step hbl (hbl A hAl) hne' hBl (fun x hx => hsC x ((hmem x).2 hx)) (fun x hx hxB hz => by
      rcases hB2 x ((hmem x).2 hx) with e | e
      · exact absurd e hxB
      · exact far_up (hA2 x ((hmem x).2 hx)) e hz hAB)
    have s2 : stepTo l B l.length = A := wrap_step hbl (hbl B hBl) (fun e => hne' e.symm) hAl (fun x hx => hsD x ((hmem x).2 hx)) (fun x hx hxA hz => by
      have hq : ∀ a b : XY, sq2 (sb (ng a) (ng b)) = sq2 (sb a b) := fun a b => by unfold sq2 sb ng; grind
      have hvq : ∀ a b c : XY, vx (sb (ng a) (ng b)) (sb (ng a) (ng c)) = vx (sb a b) (sb a c) := fun a b c => by unfold vx sb ng; grind
      rw [← hq B x, ← hq B A]
      refine far_up ?_ ?_ (by rw [hvq]; exact hz) (by rw [sb_ng]; exact hAB)
      · rcases hB2 x ((hmem x).2 hx) with e | e
        · exact .inl (by rw [e])
        · exact .inr (by rw [sb_ng]; exact e)
      · rcases hA2 x ((hmem x).2 hx) with e | e
        · exact absurd e hxA
        · rw [sb_ng]; exact e)
    refine ⟨[A, B], ⟨?_, by simp, fun i p q hp hq => ?_, fun p hp => ?_⟩, .inl ⟨by have := poly_len C D; omega, by simp⟩⟩
    · rw [hd_turn h0]
      show A = _
      refine lx_anti ?_ (hlowA _ (cy_mem h0 _))
      obtain ⟨k, hk, e⟩ := mem_cy hAl
      have := (atTo_low h0 _ (Nat.le_refl _)).1 k hk
      rwa [e] at this
    · match i, hp, hq with
      | 0, hp, hq =>
        simp at hp hq
        subst hp hq
        exact ⟨s1, fun e => hne' e.symm, fun e => hne' e.symm⟩
      | i + 1, _, hq => simp at hq
    · simp at hp
      subst hp
      exact .inl s2
end Go.Proofs.Ytcbphodkaiknmaa

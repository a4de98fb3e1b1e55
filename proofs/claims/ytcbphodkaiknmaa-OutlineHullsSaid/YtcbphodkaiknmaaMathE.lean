/- What lies furthest: in moved and turned lists. A centred outline lies about the middle, and is centred. -/
import Derived.Test.YtcbphodkaiknmaaMathO
namespace Go.Proofs.Ytcbphodkaiknmaa
open Go.RowKit (wrap64)

/-- The greatest number of the corners. -/
def Top (l : List XY) (f : XY → Int) (M : Int) : Prop := (∀ j, f (cy l j) ≤ M) ∧ ∃ j, f (cy l j) = M
theorem Top.unique {l : List XY} {f : XY → Int} {M N : Int} (h : Top l f M) (k : Top l f N) : M = N := by
  obtain ⟨j, hj⟩ := h.2
  obtain ⟨i, hi⟩ := k.2
  have := h.1 i
  have := k.1 j
  omega
theorem far_top {l : List XY} (h0 : 0 < l.length) (u v : Int) : Top l (dotW u v) (farW u v l) := by
  have H : ∀ k, k ≤ l.length → (∀ j, j < k → dotW u v (cy l j) ≤ farTo u v l k) ∧ dotW u v (cy l 0) ≤ farTo u v l k ∧ ∃ j, dotW u v (cy l j) = farTo u v l k := by
    intro k
    induction k with
    | zero =>
      intro _
      obtain ⟨p, hp⟩ := getElem?_of_lt h0
      have e : farTo u v l 0 = dotW u v (cy l 0) := by
        unfold farTo; simp only [List.take_zero, List.foldl_nil]; rw [hd_of hp, cy_lt hp]
      exact ⟨fun j hj => by omega, by rw [e]; exact Int.le_refl _, 0, e.symm⟩
    | succ k ih =>
      intro hk
      obtain ⟨q, hq⟩ := getElem?_of_lt (show k < l.length by omega)
      obtain ⟨i1, i2, j0, i3⟩ := ih (by omega)
      rw [farTo_succ hq]
      have eq := cy_lt hq
      by_cases hlt : farTo u v l k < dotW u v q
      · rw [if_pos hlt]
        refine ⟨fun j hj => ?_, by omega, k, by rw [eq]⟩
        rcases Nat.lt_or_ge j k with h | h
        · have := i1 j h; omega
        · obtain rfl : j = k := by omega
          rw [eq]; exact Int.le_refl _
      · rw [if_neg hlt]
        refine ⟨fun j hj => ?_, i2, j0, i3⟩
        rcases Nat.lt_or_ge j k with h | h
        · exact i1 j h
        · obtain rfl : j = k := by omega
          rw [eq]; omega
  obtain ⟨h1, _, h3⟩ := H l.length (Nat.le_refl _)
  refine ⟨fun j => ?_, h3⟩
  rw [← cy_mod]
  exact h1 _ (Nat.mod_lt _ h0)

theorem top_rot {l : List XY} {k : Nat} (hk : k < l.length) {f : XY → Int} {M : Int} (h : Top l f M) : Top (rotL l k) f M := by
  refine ⟨fun j => by rw [cy_rot hk]; exact h.1 _, ?_⟩
  obtain ⟨j, hj⟩ := h.2
  refine ⟨j % l.length + l.length - k, ?_⟩
  have hm := Nat.mod_lt j (show 0 < l.length by omega)
  rw [cy_rot hk, show k + (j % l.length + l.length - k) = j % l.length + l.length by omega, cy_per, cy_mod]
  exact hj
theorem top_map {l : List XY} (h0 : 0 < l.length) {f g : XY → Int} {t : XY → XY} {M N : Int} (hf : ∀ j, g (t (cy l j)) = f (cy l j) + N) (h : Top l f M) : Top (l.map t) g (M + N) := by
  refine ⟨fun j => by rw [cy_map h0, hf]; have := h.1 j; omega, ?_⟩
  obtain ⟨j, hj⟩ := h.2
  exact ⟨j, by rw [cy_map h0, hf, hj]⟩

/-- The canonical form of a canonical form. -/
theorem atTo_rot {l : List XY} (h0 : 0 < l.length) : atTo (rotL l (atTo l l.length)) (rotL l (atTo l l.length)).length = 0 := by
  have hat := atTo_lt h0 l.length (Nat.le_refl _)
  have h0' : 0 < (rotL l (atTo l l.length)).length := by rw [rotL_length]; exact h0
  obtain ⟨_, h2⟩ := atTo_low h0' _ (Nat.le_refl _)
  obtain ⟨h3, _⟩ := atTo_low h0 _ (Nat.le_refl _)
  have h3' : ∀ j, ¬ lx (cy l j) (cy l (atTo l l.length)) := fun j => by
    have := h3 (j % l.length) (Nat.mod_lt _ h0); rwa [cy_mod] at this
  generalize ha : atTo (rotL l (atTo l l.length)) (rotL l (atTo l l.length)).length = a at h2
  rcases Nat.eq_zero_or_pos a with h | h
  · exact h
  · exfalso
    have := h2 0 h
    rw [cy_rot hat, cy_rot hat] at this
    exact h3' _ this
theorem rotL_zero (l : List XY) : rotL l 0 = l := by unfold rotL; simp
theorem canon_canon {l : List XY} (h0 : 0 < l.length) (hb : ∀ j, Bd 100000 (cy l j)) : canonL (canonL l) = canonL l := by
  have hat := atTo_lt h0 l.length (Nat.le_refl _)
  rw [canon_rot h0 hb, canon_rot (by rw [rotL_length]; exact h0) (fun j => by rw [cy_rot hat]; exact hb _), atTo_rot h0, rotL_zero]

/-- What the law asks of a centred outline. -/
theorem centred_facts {o : List XY} (h : validB o = true) : ∃ c : List XY, centredS o = (c, 0) ∧ validB c = true ∧ centredS c = (c, 0) ∧
    (∃ a b, boxS c = (a, b, 0) ∧ 0 ≤ a ∧ a ≤ 10000 ∧ 0 ≤ b ∧ b ≤ 10000 ∧ farW 1 0 c = a - a / 2 ∧ farW 0 1 c = b - b / 2 ∧ (a % 2 = 0 → a ≤ diaW c) ∧ (b % 2 = 0 → b ≤ diaW c)) := by
  have hl := validB_len' h
  have h0 : 0 < o.length := by omega
  have hr := validB_ranged h
  obtain ⟨e1, e2, e3, e4⟩ := far_ends h0 hr o.length (Nat.le_refl _)
  obtain ⟨⟨a1, a2, a3, a4⟩, ⟨b1, b2, b3, b4⟩⟩ := ends_bd h0 hr o.length
  have t1 := far_top h0 1 0
  have t2 := far_top h0 (-1) 0
  have t3 := far_top h0 0 1
  have t4 := far_top h0 0 (-1)
  unfold farW at t1 t2 t3 t4
  rw [e1] at t1
  rw [e2] at t2
  rw [e3] at t3
  rw [e4] at t4
  have hx : cdx o = (lowTo o o.length).X + (highTo o o.length).X := by
    unfold cdx farW; rw [e1, e2, w64_id (by omega) (by omega)]; omega
  have hy : cdy o = (lowTo o o.length).Y + (highTo o o.length).Y := by
    unfold cdy farW; rw [e3, e4, w64_id (by omega) (by omega)]; omega
  generalize (lowTo o o.length).X = x1 at *
  generalize (highTo o o.length).X = x2 at *
  generalize (lowTo o o.length).Y = y1 at *
  generalize (highTo o o.length).Y = y2 at *
  have hbo := fun j => bd_cy h0 hr j
  have d1 : ∀ {q}, Bd 5000 q → dotW 1 0 q = q.X := fun hq => by rw [dotW_eq (by omega) (by omega) (by omega) (by omega) hq]; omega
  have d2 : ∀ {q}, Bd 5000 q → dotW (-1) 0 q = -q.X := fun hq => by rw [dotW_eq (by omega) (by omega) (by omega) (by omega) hq]; omega
  have d3 : ∀ {q}, Bd 5000 q → dotW 0 1 q = q.Y := fun hq => by rw [dotW_eq (by omega) (by omega) (by omega) (by omega) hq]; omega
  have d4 : ∀ {q}, Bd 5000 q → dotW 0 (-1) q = -q.Y := fun hq => by rw [dotW_eq (by omega) (by omega) (by omega) (by omega) hq]; omega
  -- the moved list
  have em : ∀ p, Bd 5000 p → fCen (cdx o) (cdy o) p = ⟨p.X - cdx o / 2, p.Y - cdy o / 2⟩ := fun p hp => by
    obtain ⟨c1, c2, c3, c4⟩ := hp
    unfold fCen
    rw [w64_id (by omega) (by omega), w64_id (by omega) (by omega)]
  have ek : ∀ j, cy (o.map (fCen (cdx o) (cdy o))) j = ⟨(cy o j).X - cdx o / 2, (cy o j).Y - cdy o / 2⟩ := fun j => by rw [cy_map h0, em _ (hbo j)]
  have hin : ∀ j, x1 ≤ (cy o j).X ∧ (cy o j).X ≤ x2 ∧ y1 ≤ (cy o j).Y ∧ (cy o j).Y ≤ y2 := fun j => by
    have s1 := t1.1 j; have s2 := t2.1 j; have s3 := t3.1 j; have s4 := t4.1 j
    rw [d1 (hbo j)] at s1; rw [d2 (hbo j)] at s2; rw [d3 (hbo j)] at s3; rw [d4 (hbo j)] at s4
    omega
  have hbm : ∀ j, Bd 5000 (cy (o.map (fCen (cdx o) (cdy o))) j) := fun j => by
    obtain ⟨s1, s2, s3, s4⟩ := hin j
    rw [ek]
    exact ⟨by simp only; omega, by simp only; omega, by simp only; omega, by simp only; omega⟩
  have hmr : (o.map (fCen (cdx o) (cdy o))).all rangedB = true := by
    rw [List.all_eq_true]
    intro p hp
    obtain ⟨k, _, rfl⟩ := mem_cy hp
    obtain ⟨c1, c2, c3, c4⟩ := hbm k
    unfold rangedB
    simp only [Bool.and_eq_true, decide_eq_true_eq]
    exact ⟨⟨⟨c1, c2⟩, c3⟩, c4⟩
  have hm0 : 0 < (o.map (fCen (cdx o) (cdy o))).length := by simpa using h0
  have hat := atTo_lt hm0 _ (Nat.le_refl _)
  have hcm := canon_rot hm0 (fun j => (hbm j).mono (by omega))
  have hconv : Conv (o.map (fCen (cdx o) (cdy o))) := by
    intro i t ht htn
    rw [List.length_map] at htn
    have := validB_conv h i t ht htn
    unfold dd at this ⊢
    rw [ek, ek, ek]
    have e2 : ∀ a b : XY, sb ⟨a.X - cdx o / 2, a.Y - cdy o / 2⟩ ⟨b.X - cdx o / 2, b.Y - cdy o / 2⟩ = sb a b := fun a b => by unfold sb; simp only; congr 1 <;> omega
    rw [e2, e2]
    exact this
  have hvm : validB (o.map (fCen (cdx o) (cdy o))) = true := (validB_iff _).2 ⟨by simp; omega, by simp; omega, hmr, hconv⟩
  obtain ⟨c, hc⟩ : ∃ c, canonL (o.map (fCen (cdx o) (cdy o))) = c := ⟨_, rfl⟩
  have hvc : validB c = true := by rw [← hc, hcm]; exact valid_rot hat hvm
  have hcl := validB_len' hvc
  have hc0 : 0 < c.length := by omega
  have hbc := fun j => bd_cy hc0 (validB_ranged hvc) j
  -- its ends
  have q1 : Top c (dotW 1 0) (x2 + -(cdx o / 2)) := by
    rw [← hc, hcm]
    exact top_rot hat (top_map h0 (fun j => by have hmj := hbm j; rw [cy_map h0] at hmj; rw [d1 hmj, em _ (hbo j), d1 (hbo j)]; simp only; omega) t1)
  have q2 : Top c (dotW (-1) 0) (-x1 + cdx o / 2) := by
    rw [← hc, hcm]
    exact top_rot hat (top_map h0 (fun j => by have hmj := hbm j; rw [cy_map h0] at hmj; rw [d2 hmj, em _ (hbo j), d2 (hbo j)]; simp only; omega) t2)
  have q3 : Top c (dotW 0 1) (y2 + -(cdy o / 2)) := by
    rw [← hc, hcm]
    exact top_rot hat (top_map h0 (fun j => by have hmj := hbm j; rw [cy_map h0] at hmj; rw [d3 hmj, em _ (hbo j), d3 (hbo j)]; simp only; omega) t3)
  have q4 : Top c (dotW 0 (-1)) (-y1 + cdy o / 2) := by
    rw [← hc, hcm]
    exact top_rot hat (top_map h0 (fun j => by have hmj := hbm j; rw [cy_map h0] at hmj; rw [d4 hmj, em _ (hbo j), d4 (hbo j)]; simp only; omega) t4)
  have f1 := (far_top hc0 1 0).unique q1
  have f2 := (far_top hc0 (-1) 0).unique q2
  have f3 := (far_top hc0 0 1).unique q3
  have f4 := (far_top hc0 0 (-1)).unique q4
  have w1 : x1 ≤ x2 := by have := hin 0; omega
  have w2 : y1 ≤ y2 := by have := hin 0; omega
  -- the greatest square
  have hdia : ∀ j, (cy c j).X * (cy c j).X * 4 ≤ diaW c * diaW c ∧ (cy c j).Y * (cy c j).Y * 4 ≤ diaW c * diaW c := by
    have H : ∀ k, k ≤ c.length → ∀ j, j < k → fourW (cy c j) ≤ mostTo c k := by
      intro k
      induction k with
      | zero => intro _ j hj; omega
      | succ k ih =>
        intro hk j hj
        obtain ⟨q, hq⟩ := getElem?_of_lt (show k < c.length by omega)
        rw [mostTo_succ hq]
        rcases Nat.lt_or_ge j k with hh | hh
        · have := ih (by omega) j hh
          split <;> omega
        · obtain rfl : j = k := by omega
          rw [cy_lt hq]
          split <;> omega
    intro j
    have s := H c.length (Nat.le_refl _) (j % c.length) (Nat.mod_lt _ hc0)
    rw [cy_mod, fourW_eq ((hbc j).mono (by omega))] at s
    have mb := mostTo_bd (validB_ranged hvc) c.length
    have g := iceil_ge (mostTo c c.length).toNat
    have g' : mostTo c c.length ≤ diaW c * diaW c := by
      unfold diaW
      rw [← Int.natCast_mul]
      omega
    have n1 := sq_nonneg (cy c j).X
    have n2 := sq_nonneg (cy c j).Y
    omega
  have hd0 : 0 ≤ diaW c := by unfold diaW; omega
  have hsq : ∀ m : Int, 0 ≤ m → m * m * 4 ≤ diaW c * diaW c → 2 * m ≤ diaW c := by
    intro m hm hmm
    refine Int.not_lt.1 fun hlt => ?_
    have h1 : (diaW c + 1) * (diaW c + 1) ≤ (2 * m) * (2 * m) := Int.mul_le_mul (by omega) (by omega) (by omega) (by omega)
    have h2 : (diaW c + 1) * (diaW c + 1) = diaW c * diaW c + 2 * diaW c + 1 := by grind
    have e : (2 * m) * (2 * m) = m * m * 4 := by grind
    omega
  have hdx2 : cdx c / 2 = 0 := by
    unfold cdx; rw [f1, f2, w64_id (by omega) (by omega)]; omega
  have hdy2 : cdy c / 2 = 0 := by
    unfold cdy; rw [f3, f4, w64_id (by omega) (by omega)]; omega
  refine ⟨c, by unfold centredS; rw [if_pos h, hc], hvc, ?_, x2 - x1, y2 - y1, ?_, by omega, by omega, by omega, by omega, by omega, by omega, ?_, ?_⟩
  · unfold centredS
    rw [if_pos hvc]
    have eid : c.map (fCen (cdx c) (cdy c)) = c := by
      have : c.map (fCen (cdx c) (cdy c)) = c.map id := by
        apply List.map_congr_left
        intro p hp
        obtain ⟨k, _, rfl⟩ := mem_cy hp
        obtain ⟨c1, c2, c3, c4⟩ := hbc k
        unfold fCen
        rw [hdx2, hdy2, w64_id (by omega) (by omega), w64_id (by omega) (by omega)]
        simp
      rw [this, List.map_id]
    rw [eid, ← hc, canon_canon hm0 (fun j => (hbm j).mono (by omega))]
  · unfold boxS
    rw [if_pos hvc, f1, f2, f3, f4, w64_id (by omega) (by omega), w64_id (by omega) (by omega)]
    congr 1
    · omega
    · congr 1
      omega
  · intro he
    obtain ⟨j, hj⟩ := q1.2
    rw [d1 (hbc j)] at hj
    have := (hdia j).1
    rw [hj] at this
    have := hsq _ (by omega) this
    omega
  · intro he
    obtain ⟨j, hj⟩ := q3.2
    rw [d3 (hbc j)] at hj
    have := (hdia j).2
    rw [hj] at this
    have := hsq _ (by omega) this
    omega
end Go.Proofs.Ytcbphodkaiknmaa

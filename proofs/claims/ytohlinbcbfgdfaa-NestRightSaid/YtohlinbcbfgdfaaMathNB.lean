/- Being apart: half turns and moves of both play no part. -/
import Derived.Test.YtohlinbcbfgdfaaMathNA
namespace Go.Proofs.Ytohlinbcbfgdfaa
open Go.RowKit (wrap64)

theorem far_rot {l : List XY} {k : Nat} (hk : k < l.length) (u v : Int) : farW u v (rotL l k) = farW u v l :=
  (far_top (by rw [rotL_length]; omega) u v).unique (top_rot hk (far_top (by omega) u v))
theorem wd_rot {l : List XY} {k : Nat} (hk : k < l.length) (h : Wd l) : Wd (rotL l k) := ⟨by rw [rotL_length]; exact h.1, fun j => by rw [cy_rot hk]; exact h.2 _⟩
theorem dU_rot {l : List XY} {k : Nat} (hk : k < l.length) (i : Nat) : dU (rotL l k) i = dU l (k + i) ∧ dV (rotL l k) i = dV l (k + i) := by
  unfold dU dV
  rw [cy_rot hk, cy_rot hk, ← Nat.add_assoc]
  exact ⟨rfl, rfl⟩
theorem sd_rot {l : List XY} {k : Nat} (hk : k < l.length) (h : Sd l) : Sd (rotL l k) := fun i => by rw [(dU_rot hk i).1, (dU_rot hk i).2]; exact h _
theorem dir_back {l : List XY} {k : Nat} (hk : k < l.length) (i : Nat) : ∃ j, dU l i = dU (rotL l k) j ∧ dV l i = dV (rotL l k) j := by
  refine ⟨i % l.length + l.length - k, ?_⟩
  have hm := Nat.mod_lt i (show 0 < l.length by omega)
  rw [(dU_rot hk _).1, (dU_rot hk _).2, show k + (i % l.length + l.length - k) = i % l.length + l.length by omega]
  have e : (i % l.length + l.length) % l.length = i % l.length := by rw [Nat.add_mod_right, Nat.mod_mod]
  rw [← (dU_mod l i).1, ← (dU_mod l i).2, ← (dU_mod l (i % l.length + l.length)).1, ← (dU_mod l (i % l.length + l.length)).2, e]
  exact ⟨rfl, rfl⟩
theorem apart_rot {o p : List XY} {k m : Nat} (hk : k < o.length) (hm : m < p.length) (ho : Wd o) (hp : Wd p) (so : Sd o) (sp : Sd p) {g : Int} (h0 : 0 ≤ g) (h1 : g ≤ 2000) : apartB (rotL o k) (rotL p m) g = apartB o p g := by
  rw [Bool.eq_iff_iff, apart_iff (wd_rot hk ho) (wd_rot hm hp) (sd_rot hk so) (sd_rot hm sp) h0 h1, apart_iff ho hp so sp h0 h1]
  have hs : ∀ u v, Sep (rotL o k) (rotL p m) u v g ↔ Sep o p u v g := fun u v => by
    unfold Sep; rw [far_rot hk, far_rot hm, far_rot hk, far_rot hm]
  constructor
  · rintro ⟨u, v, hd, h⟩
    rw [hs] at h
    refine ⟨u, v, ?_, h⟩
    rcases hd with hd | hd | ⟨i, e1, e2⟩ | ⟨i, e1, e2⟩
    · exact .inl hd
    · exact .inr (.inl hd)
    · exact .inr (.inr (.inl ⟨k + i, by rw [e1, (dU_rot hk i).1], by rw [e2, (dU_rot hk i).2]⟩))
    · exact .inr (.inr (.inr ⟨m + i, by rw [e1, (dU_rot hm i).1], by rw [e2, (dU_rot hm i).2]⟩))
  · rintro ⟨u, v, hd, h⟩
    rw [← hs] at h
    refine ⟨u, v, ?_, h⟩
    rcases hd with hd | hd | ⟨i, e1, e2⟩ | ⟨i, e1, e2⟩
    · exact .inl hd
    · exact .inr (.inl hd)
    · obtain ⟨j, j1, j2⟩ := dir_back hk i
      exact .inr (.inr (.inl ⟨j, e1.trans j1, e2.trans j2⟩))
    · obtain ⟨j, j1, j2⟩ := dir_back hm i
      exact .inr (.inr (.inr ⟨j, e1.trans j1, e2.trans j2⟩))

/-- Half a turn. -/
theorem turn_cy {o : List XY} (h : validB o = true) (j : Nat) : cy (o.map fTurn) j = ⟨-(cy o j).X, -(cy o j).Y⟩ := by
  have hl := validB_len' h
  rw [cy_map (by omega), fTurn_eq (bd_cy (by omega) (validB_ranged h) j)]
theorem far_turn {o : List XY} (h : validB o = true) {u v : Int} (hd : Dr u v) : farW u v (o.map fTurn) = farW (-u) (-v) o := by
  have ht := valid_turn h
  refine (far_lin (wd_valid ht) hd).unique ?_
  have t := far_lin (wd_valid h) hd.neg
  refine ⟨fun j => ?_, ?_⟩
  · rw [turn_cy h]
    have := t.1 j
    unfold lin at this ⊢
    simp only
    grind
  · obtain ⟨j, hj⟩ := t.2
    refine ⟨j, ?_⟩
    rw [turn_cy h]
    unfold lin at hj ⊢
    simp only
    grind
theorem dU_turn {o : List XY} (h : validB o = true) (i : Nat) : dU (o.map fTurn) i = -dU o i ∧ dV (o.map fTurn) i = -dV o i := by
  have ht := valid_turn h
  rw [(dU_eq (wd_valid ht).2 i).1, (dU_eq (wd_valid ht).2 i).2, (dU_eq (wd_valid h).2 i).1, (dU_eq (wd_valid h).2 i).2, turn_cy h, turn_cy h]
  simp only
  omega
theorem dir_dr {o p : List XY} (so : Sd o) (sp : Sd p) {u v : Int} (h : Dir o p u v) : Dr u v := by
  rcases h with ⟨rfl, rfl⟩ | ⟨rfl, rfl⟩ | ⟨i, rfl, rfl⟩ | ⟨i, rfl, rfl⟩
  · exact dr10
  · exact dr01
  · exact so i
  · exact sp i
theorem turn_go {o p : List XY} (ho : validB o = true) (hp : validB p = true) {g : Int} (h0 : 0 ≤ g) (h1 : g ≤ 2000) (h : apartB o p g = true) : apartB (o.map fTurn) (p.map fTurn) g = true := by
  have t1o := valid_turn ho
  have tp := valid_turn hp
  rw [apart_iff (wd_valid ho) (wd_valid hp) (sd_valid ho) (sd_valid hp) h0 h1] at h
  rw [apart_iff (wd_valid t1o) (wd_valid tp) (sd_valid t1o) (sd_valid tp) h0 h1]
  obtain ⟨u, v, hd, hs⟩ := h
  have hdr := dir_dr (sd_valid ho) (sd_valid hp) hd
  have hs2 : Sep (o.map fTurn) (p.map fTurn) (-u) (-v) g := by
    refine Sep.same (s := 0) (by grind) ?_ ?_ ?_ ?_ hs
    · rw [far_turn ho hdr.neg, Int.neg_neg, Int.neg_neg]; omega
    · rw [far_turn hp hdr.neg, Int.neg_neg, Int.neg_neg]; omega
    · rw [Int.neg_neg, Int.neg_neg, far_turn ho hdr]; omega
    · rw [Int.neg_neg, Int.neg_neg, far_turn hp hdr]; omega
  rcases hd with ⟨rfl, rfl⟩ | ⟨rfl, rfl⟩ | ⟨i, rfl, rfl⟩ | ⟨i, rfl, rfl⟩
  · exact ⟨1, 0, .inl ⟨rfl, rfl⟩, by have := hs2.neg; simpa using this⟩
  · exact ⟨0, 1, .inr (.inl ⟨rfl, rfl⟩), by have := hs2.neg; simpa using this⟩
  · exact ⟨_, _, .inr (.inr (.inl ⟨i, (dU_turn ho i).1.symm, (dU_turn ho i).2.symm⟩)), hs2⟩
  · exact ⟨_, _, .inr (.inr (.inr ⟨i, (dU_turn hp i).1.symm, (dU_turn hp i).2.symm⟩)), hs2⟩
theorem turn_turn {o : List XY} (h : validB o = true) : (o.map fTurn).map fTurn = o := by
  rw [List.map_map]
  refine map_id_of fun q hq => ?_
  have hb := bd_mem (validB_ranged h) hq
  show fTurn (fTurn q) = q
  have e := fTurn_eq hb
  rw [e, fTurn_eq (by obtain ⟨b1, b2, b3, b4⟩ := hb; unfold Bd; simp only; omega)]
  simp
theorem apart_turn {o p : List XY} (ho : validB o = true) (hp : validB p = true) {g : Int} (h0 : 0 ≤ g) (h1 : g ≤ 2000) : apartB (o.map fTurn) (p.map fTurn) g = apartB o p g := by
  rw [Bool.eq_iff_iff]
  refine ⟨fun h => ?_, turn_go ho hp h0 h1⟩
  have := turn_go (valid_turn ho) (valid_turn hp) h0 h1 h
  rwa [turn_turn ho, turn_turn hp] at this

/-- A move. -/
theorem move_go {o p o' p' : List XY} (ho : Wd o) (hp : Wd p) (so : Sd o) (sp : Sd p) (ho' : Wd o') (hp' : Wd p') {dx dy : Int} (eo : ∀ j, cy o' j = ⟨(cy o j).X + dx, (cy o j).Y + dy⟩) (ep : ∀ j, cy p' j = ⟨(cy p j).X + dx, (cy p j).Y + dy⟩)
    {g : Int} (h0 : 0 ≤ g) (h1 : g ≤ 2000) : Sd o' ∧ Sd p' ∧ apartB o' p' g = apartB o p g := by
  have far : ∀ {l l' : List XY}, Wd l → Wd l' → (∀ j, cy l' j = ⟨(cy l j).X + dx, (cy l j).Y + dy⟩) → ∀ {u v : Int}, Dr u v → farW u v l' = farW u v l + (u * dx + v * dy) := fun hl hl' e u v hd => by
    refine (far_lin hl' hd).unique ?_
    have t := far_lin hl hd
    refine ⟨fun j => ?_, ?_⟩
    · rw [e]
      have := t.1 j
      unfold lin at this ⊢
      simp only
      grind
    · obtain ⟨j, hj⟩ := t.2
      refine ⟨j, ?_⟩
      rw [e]
      unfold lin at hj ⊢
      simp only
      grind
  have dU' : ∀ {l l' : List XY}, Wd l → Wd l' → (∀ j, cy l' j = ⟨(cy l j).X + dx, (cy l j).Y + dy⟩) → ∀ i, dU l' i = dU l i ∧ dV l' i = dV l i := fun hl hl' e i => by
    rw [(dU_eq hl'.2 i).1, (dU_eq hl'.2 i).2, (dU_eq hl.2 i).1, (dU_eq hl.2 i).2, e, e]
    simp only
    omega
  have so' : Sd o' := fun i => by rw [(dU' ho ho' eo i).1, (dU' ho ho' eo i).2]; exact so i
  have sp' : Sd p' := fun i => by rw [(dU' hp hp' ep i).1, (dU' hp hp' ep i).2]; exact sp i
  refine ⟨so', sp', ?_⟩
  rw [Bool.eq_iff_iff, apart_iff ho' hp' so' sp' h0 h1, apart_iff ho hp so sp h0 h1]
  have hdir : ∀ u v, Dir o' p' u v ↔ Dir o p u v := fun u v => by
    unfold Dir
    simp only [(dU' ho ho' eo _).1, (dU' ho ho' eo _).2, (dU' hp hp' ep _).1, (dU' hp hp' ep _).2]
  have hsep : ∀ u v, Dr u v → (Sep o' p' u v g ↔ Sep o p u v g) := fun u v hd => by
    have f1 := far ho ho' eo hd
    have f2 := far hp hp' ep hd
    have f3 := far ho ho' eo hd.neg
    have f4 := far hp hp' ep hd.neg
    have e : -u * dx + -v * dy = -(u * dx + v * dy) := by grind
    rw [e] at f3 f4
    constructor
    · exact fun h => Sep.same (s := -(u * dx + v * dy)) rfl (by omega) (by omega) (by omega) (by omega) h
    · exact fun h => Sep.same (s := u * dx + v * dy) rfl f1 f2 (by omega) (by omega) h
  constructor
  · rintro ⟨u, v, hd, hs⟩
    rw [hdir] at hd
    exact ⟨u, v, hd, (hsep u v (dir_dr so sp hd)).1 hs⟩
  · rintro ⟨u, v, hd, hs⟩
    refine ⟨u, v, (hdir u v).2 hd, (hsep u v (dir_dr so sp hd)).2 hs⟩
end Go.Proofs.Ytohlinbcbfgdfaa

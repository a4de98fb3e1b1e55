/- The program's test of validity and the reference's agree: a closed line of at least three corners that turns left at each and comes to the upper half once is a convex one, and the other way round. -/
import Derived.Test.YtimehkeaeffcaaaGeo
namespace Go.Proofs.Ytimehkeaeffcaaa
open Go.RowKit (wrap64)

theorem cy_per (l : List XY) (j : Nat) : cy l (j + l.length) = cy l j := by unfold cy; rw [Nat.add_mod_right]
theorem cy_mod (l : List XY) (j : Nat) : cy l (j % l.length) = cy l j := by unfold cy; rw [Nat.mod_mod]
theorem cy_mem {l : List XY} (h : 0 < l.length) (j : Nat) : cy l j ∈ l := by
  have hj := Nat.mod_lt j h
  unfold cy
  rw [List.getElem?_eq_getElem hj]
  exact List.getElem_mem hj
theorem bd_cy {l : List XY} (h : 0 < l.length) (hr : l.all rangedB = true) (j : Nat) : Bd 5000 (cy l j) :=
  bd_of_ranged (List.all_eq_true.1 hr _ (cy_mem h j))
theorem bd_cy' {l : List XY} (h : 0 < l.length) (hr : l.all rangedB = true) (j : Nat) : Bd 100000 (cy l j) := (bd_cy h hr j).mono (by omega)

theorem cross_vx (a b c : XY) : cross a b c = vx (sb a b) (sb b c) := by unfold cross vx sb; grind
theorem cross_vx2 (a b c : XY) : cross a b c = vx (sb a b) (sb a c) := by unfold cross vx sb; grind

theorem turnB_iff {l : List XY} (h : 0 < l.length) (hr : l.all rangedB = true) (i : Nat) : turnB l i = true ↔ 0 < vx (dd (cy l) i) (dd (cy l) (i + 1)) := by
  unfold turnB
  rw [decide_eq_true_iff, crossW_eq (bd_cy' h hr _) (bd_cy' h hr _) (bd_cy' h hr _), cross_vx]
  exact Iff.rfl
theorem half_iff {l : List XY} (h : 0 < l.length) (hr : l.all rangedB = true) (i : Nat) :
    halfB (wrap64 ((cy l (i + 1)).X - (cy l i).X)) (wrap64 ((cy l (i + 1)).Y - (cy l i).Y)) = true ↔ up (dd (cy l) i) := by
  obtain ⟨a1, a2, a3, a4⟩ := bd_cy h hr i
  obtain ⟨b1, b2, b3, b4⟩ := bd_cy h hr (i + 1)
  rw [w64_id (by omega) (by omega), w64_id (by omega) (by omega)]
  unfold halfB up dd sb
  simp only [Bool.or_eq_true, Bool.and_eq_true, decide_eq_true_eq]
theorem upB_iff {l : List XY} (h : 0 < l.length) (hr : l.all rangedB = true) (i : Nat) : upB l i = true ↔ ¬ up (dd (cy l) i) ∧ up (dd (cy l) (i + 1)) := by
  have e1 := half_iff h hr i
  have e2 := half_iff h hr (i + 1)
  unfold upB
  rw [Bool.and_eq_true, Bool.not_eq_true', e2, ← e1, Bool.not_eq_true]
theorem upB_per (l : List XY) (j : Nat) : upB l (j % l.length) = upB l j := by
  have e1 : ∀ k, cy l (j % l.length + k) = cy l (j + k) := fun k => by
    rw [← cy_mod, Nat.add_mod, Nat.mod_mod, ← Nat.add_mod, cy_mod]
  unfold upB
  rw [e1 1, e1 2, show cy l (j % l.length) = cy l j from e1 0]

/-- Just one below a bound. -/
theorem filter_one {p : Nat → Bool} (n : Nat) : ((List.range n).filter p).length = 1 ↔ (∃ j, j < n ∧ p j = true) ∧ ∀ a b, a < n → b < n → p a = true → p b = true → a = b := by
  constructor
  · intro h
    obtain ⟨x, hx⟩ := List.length_eq_one_iff.1 h
    have hm : ∀ j, (j < n ∧ p j = true) ↔ j = x := fun j => by
      rw [← List.mem_range, ← List.mem_filter, hx, List.mem_singleton]
    refine ⟨⟨x, (hm x).2 rfl⟩, ?_⟩
    intro a b ha hb h1 h2
    rw [(hm a).1 ⟨ha, h1⟩, (hm b).1 ⟨hb, h2⟩]
  · rintro ⟨⟨j, hj, pj⟩, hu⟩
    have nd : ((List.range n).filter p).Nodup := List.nodup_range.filter _
    have hm : ∀ x ∈ (List.range n).filter p, x = j := fun x hx => by
      obtain ⟨h1, h2⟩ := List.mem_filter.1 hx
      exact hu _ _ (List.mem_range.1 h1) hj h2 pj
    have hj' : j ∈ (List.range n).filter p := List.mem_filter.2 ⟨List.mem_range.2 hj, pj⟩
    match hL : (List.range n).filter p, nd, hm, hj' with
    | [], _, _, h => simp at h
    | [x], _, _, _ => rfl
    | x :: y :: t, nd, hm, _ =>
      have h1 := hm x (by simp)
      have h2 := hm y (by simp)
      subst h1
      subst h2
      simp at nd

theorem leftB_iff {l : List XY} (h : 0 < l.length) (hr : l.all rangedB = true) (i j : Nat) : leftB l i j = true ↔ (j = i ∨ j = (i + 1) % l.length ∨ 0 < vx (dd (cy l) i) (sb (cy l i) (cy l j))) := by
  unfold leftB
  rw [Bool.or_eq_true, Bool.or_eq_true, decide_eq_true_iff, decide_eq_true_iff, decide_eq_true_iff, cross2W_eq (bd_cy' h hr _) (bd_cy' h hr _) (bd_cy' h hr _), cross_vx2, or_assoc]
  exact Iff.rfl

/-- The convex form: to the left of each side lie all other corners. -/
def Conv (l : List XY) : Prop := ∀ i t, 2 ≤ t → t < l.length → 0 < vx (dd (cy l) i) (sb (cy l i) (cy l (i + t)))

theorem dd_mod (l : List XY) (i : Nat) : dd (cy l) (i % l.length) = dd (cy l) i := by
  unfold dd
  rw [cy_mod, ← cy_mod l (i % l.length + 1), Nat.add_mod, Nat.mod_mod, ← Nat.add_mod, cy_mod]

theorem left_conv {l : List XY} (h : 3 ≤ l.length) (hr : l.all rangedB = true) : ((List.range l.length).all (fun i => (List.range l.length).all (leftB l i)) = true) ↔ Conv l := by
  have hp : 0 < l.length := by omega
  simp only [List.all_eq_true, List.mem_range]
  constructor
  · intro H i t h2 hn
    have hm := Nat.mod_lt i hp
    have hm2 := Nat.mod_lt (i + t) hp
    have := (leftB_iff hp hr _ _).1 (H (i % l.length) hm ((i + t) % l.length) hm2)
    rcases this with h1 | h1 | h1
    · exfalso
      have e : (i + t) % l.length = (i % l.length + t) % l.length := (Nat.mod_add_mod i l.length t).symm
      rw [e] at h1
      rcases Nat.lt_or_ge (i % l.length + t) l.length with hh | hh
      · rw [Nat.mod_eq_of_lt hh] at h1; omega
      · rw [Nat.mod_eq_sub_mod hh, Nat.mod_eq_of_lt (by omega)] at h1; omega
    · exfalso
      have e : (i + t) % l.length = (i % l.length + t) % l.length := (Nat.mod_add_mod i l.length t).symm
      rw [e] at h1
      rcases Nat.lt_or_ge (i % l.length + t) l.length with hh | hh
      · rw [Nat.mod_eq_of_lt hh] at h1
        rcases Nat.lt_or_ge (i % l.length + 1) l.length with hk | hk
        · rw [Nat.mod_eq_of_lt hk] at h1; omega
        · omega
      · rw [Nat.mod_eq_sub_mod hh, Nat.mod_eq_of_lt (by omega)] at h1
        rcases Nat.lt_or_ge (i % l.length + 1) l.length with hk | hk
        · rw [Nat.mod_eq_of_lt hk] at h1; omega
        · have : i % l.length + 1 = l.length := by omega
          rw [this, Nat.mod_self] at h1
          omega
    · rwa [dd_mod, cy_mod, cy_mod] at h1
  · intro H i hi j hj
    rw [leftB_iff hp hr]
    by_cases h1 : j = i
    · exact Or.inl h1
    by_cases h2 : j = (i + 1) % l.length
    · exact Or.inr (Or.inl h2)
    refine Or.inr (Or.inr ?_)
    rcases Nat.lt_or_ge i j with hh | hh
    · have h3 : j ≠ i + 1 := fun hc => h2 (by rw [hc, Nat.mod_eq_of_lt (hc ▸ hj)])
      have := H i (j - i) (by omega) (by omega)
      rwa [show i + (j - i) = j by omega] at this
    · have h3 : j + l.length ≠ i + 1 := fun hc => h2 (by rw [← hc, Nat.add_mod_right, Nat.mod_eq_of_lt hj])
      have := H i (j + l.length - i) (by omega) (by omega)
      rwa [show i + (j + l.length - i) = j + l.length by omega, cy_per] at this

theorem once_conv {l : List XY} (h : 3 ≤ l.length) (hr : l.all rangedB = true) : ((List.range l.length).all (turnB l) = true ∧ upsTo l l.length = 1) ↔ Conv l := by
  have hp : 0 < l.length := by omega
  have per := cy_per l
  constructor
  · rintro ⟨h1, h2⟩
    unfold upsTo at h2
    obtain ⟨⟨j0, hj, pj⟩, hu⟩ := (filter_one _).1 h2
    have left : ∀ j, 0 < vx (dd (cy l) j) (dd (cy l) (j + 1)) := fun j => by
      have := (turnB_iff hp hr _).1 (List.all_eq_true.1 h1 _ (List.mem_range.2 (Nat.mod_lt j hp)))
      have e : dd (cy l) (j % l.length + 1) = dd (cy l) (j + 1) := by
        rw [← dd_mod, Nat.add_mod, Nat.mod_mod, ← Nat.add_mod, dd_mod]
      rwa [dd_mod, e] at this
    have hun : ∀ j, ¬ up (dd (cy l) j) ∧ up (dd (cy l) (j + 1)) → j % l.length = j0 % l.length := fun j hj' => by
      rw [Nat.mod_eq_of_lt hj]
      refine hu _ _ (Nat.mod_lt j hp) hj ?_ pj
      rw [upB_per]
      exact (upB_iff hp hr j).2 hj'
    intro i t ht1 ht2
    exact convex_of_once h per left j0 ((upB_iff hp hr j0).1 pj) hun i t ht1 ht2
  · intro H
    obtain ⟨h1, ⟨j, hj⟩, h3⟩ := once_of_convex h per H
    constructor
    · rw [List.all_eq_true]
      intro i _
      exact (turnB_iff hp hr i).2 (h1 i)
    · unfold upsTo
      rw [filter_one]
      refine ⟨⟨j % l.length, Nat.mod_lt j hp, by rw [upB_per]; exact (upB_iff hp hr j).2 hj⟩, ?_⟩
      intro a b ha hb pa pb
      have := h3 a b ((upB_iff hp hr a).1 pa) ((upB_iff hp hr b).1 pb)
      rwa [Nat.mod_eq_of_lt ha, Nat.mod_eq_of_lt hb] at this

theorem valid_eq (l : List XY) : validB l = validRB l := by
  unfold validB validRB
  by_cases h : 3 ≤ l.length
  · cases hr : l.all rangedB
    · simp
    · have e := (once_conv h hr).trans (left_conv h hr).symm
      rw [Bool.and_assoc]
      congr 1
      rw [Bool.eq_iff_iff, ← e, Bool.and_eq_true, decide_eq_true_iff]
  · simp [h]

theorem validB_conv {l : List XY} (h : validB l = true) : Conv l := by
  rw [valid_eq] at h
  unfold validRB at h
  simp only [Bool.and_eq_true, decide_eq_true_eq] at h
  exact (left_conv h.1.1.1 h.1.2).1 h.2

theorem inside_eq {l : List XY} (hl : l.all rangedB = true) {p : XY} (hp : Bd 100000 p) : insideB l p = inside2B l p := by
  unfold insideB inside2B
  rw [Bool.eq_iff_iff, List.all_eq_true, List.all_eq_true]
  refine forall_congr' fun i => forall_congr' fun hi => ?_
  have h0 : 0 < l.length := by have := List.mem_range.1 hi; omega
  rw [crossW_eq (bd_cy' h0 hl _) (bd_cy' h0 hl _) hp, cross2W_eq (bd_cy' h0 hl _) (bd_cy' h0 hl _) hp]
theorem all_congr' {α : Type} {l : List α} {f g : α → Bool} (h : ∀ x ∈ l, f x = g x) : l.all f = l.all g := by
  rw [Bool.eq_iff_iff, List.all_eq_true, List.all_eq_true]
  exact forall_congr' fun x => forall_congr' fun hx => by rw [h x hx]
theorem within_eq {o l : List XY} (hl : l.all rangedB = true) (ho : o.all rangedB = true) : withinB o l = within2B o l := by
  unfold withinB within2B
  exact all_congr' fun p hp => inside_eq hl ((bd_of_ranged (List.all_eq_true.1 ho _ hp)).mono (by omega))

theorem seatS_eq (lens groove : List XY) (play : Int) : seatS lens groove play = seat2S lens groove play := by
  unfold seatS seat2S
  rw [← valid_eq, ← valid_eq]
  cases h1 : validB lens
  · rfl
  · cases h2 : validB groove
    · rfl
    · rw [within_eq (validB_ranged h2) (validB_ranged h1)]
end Go.Proofs.Ytimehkeaeffcaaa

/- Blocks: the reader: recipe: plain. -/
import Derived.Test.YtbcnkcndhgihaaaDoorSR4
namespace Go.Proofs.YtbcnkcndhgihaaaDoor
open Go.RowKit Go.Shelf
set_option linter.unusedSimpArgs false

theorem nums_snoc : ∀ (j : Nat) (r r1 r2 : Bs) (l : List Int) (n : Int), numsS j r = some (l, r1) → numS r1 = some (n, r2) → numsS (j + 1) r = some (l ++ [n], r2)
  | 0, r, r1, r2, l, n, h, hn => by
    unfold numsS at h
    injection h with h
    injection h with h1 h2
    subst h1 h2
    unfold numsS
    rw [hn]
    rfl
  | j + 1, r, r1, r2, l, n, h, hn => by
    unfold numsS at h
    cases hm : numS r with
    | none => rw [hm] at h; cases h
    | some p =>
      obtain ⟨m, q⟩ := p
      rw [hm] at h
      simp only at h
      cases hk : numsS j q with
      | none => rw [hk] at h; cases h
      | some p2 =>
        obtain ⟨l2, q2⟩ := p2
        rw [hk] at h
        injection h with h
        injection h with h1 h2
        subst h1 h2
        have := nums_snoc j q q2 r2 l2 n hk hn
        unfold numsS
        rw [hm]
        simp only
        rw [this]
        rfl
theorem nums_stop : ∀ (j m : Nat) (r r1 : Bs) (l : List Int), j < m → numsS j r = some (l, r1) → numS r1 = none → numsS m r = none
  | 0, m + 1, r, r1, l, _, h, hn => by
    unfold numsS at h
    injection h with h
    injection h with h1 h2
    subst h1 h2
    unfold numsS
    rw [hn]
  | j + 1, m + 1, r, r1, l, hj, h, hn => by
    unfold numsS at h
    unfold numsS
    cases hm : numS r with
    | none => rfl
    | some p =>
      obtain ⟨m2, q⟩ := p
      rw [hm] at h
      simp only at h
      cases hk : numsS j q with
      | none => rw [hk] at h; cases h
      | some p2 =>
        obtain ⟨l2, q2⟩ := p2
        rw [hk] at h
        injection h with h
        injection h with h1 h2
        subst h1 h2
        have := nums_stop j m q q2 l2 (by omega) hk hn
        simp only
        rw [this]
theorem nums_len : ∀ (j : Nat) (r r1 : Bs) (l : List Int), numsS j r = some (l, r1) → l.length = j ∧ r1.length ≤ r.length
  | 0, r, r1, l, h => by
    unfold numsS at h
    injection h with h
    injection h with h1 h2
    subst h1 h2
    exact ⟨rfl, Nat.le_refl _⟩
  | j + 1, r, r1, l, h => by
    unfold numsS at h
    cases hm : numS r with
    | none => rw [hm] at h; cases h
    | some p =>
      obtain ⟨m2, q⟩ := p
      rw [hm] at h
      simp only at h
      cases hk : numsS j q with
      | none => rw [hk] at h; cases h
      | some p2 =>
        obtain ⟨l2, q2⟩ := p2
        rw [hk] at h
        injection h with h
        injection h with h1 h2
        subst h1 h2
        have h3 := nums_len j q q2 l2 hk
        have h4 := num_len hm
        exact ⟨by rw [List.length_cons, h3.1], by omega⟩
theorem valD_bd {l : Bs} (h : ∀ c ∈ l, digB c = true) (hl : l.length ≤ 3) : 0 ≤ valD l ∧ valD l ≤ 999 := by
  have hb : ∀ c ∈ l, 48 ≤ c.toNat ∧ c.toNat ≤ 57 := fun c hc => by
    have := h c hc
    unfold digB at this
    simpa using this
  match l, hl with
  | [], _ => decide
  | [a], _ => have := hb a (by simp); unfold valD; simp; omega
  | [a, b], _ => have := hb a (by simp); have := hb b (by simp); unfold valD; simp; omega
  | [a, b, c], _ => have := hb a (by simp); have := hb b (by simp); have := hb c (by simp); unfold valD; simp; omega
theorem num_bd {r q : Bs} {n : Int} (h : numS r = some (n, q)) : 0 ≤ n ∧ n ≤ 999 := by
  unfold numS at h
  cases ht : takeS [32] r with
  | none => rw [ht] at h; cases h
  | some r2 =>
    rw [ht] at h
    simp only at h
    unfold num1S at h
    split at h
    · cases h
    · rename_i hc
      injection h with h
      injection h with h1 _
      subst h1
      exact valD_bd (dig_all r2) (by omega)
theorem nums_bd : ∀ (j : Nat) (r r1 : Bs) (l : List Int), numsS j r = some (l, r1) → ∀ n ∈ l, 0 ≤ n ∧ n ≤ 999
  | 0, r, r1, l, h => by
    unfold numsS at h
    injection h with h
    injection h with h1 h2
    subst h1
    intro n hn; simp at hn
  | j + 1, r, r1, l, h => by
    unfold numsS at h
    cases hm : numS r with
    | none => rw [hm] at h; cases h
    | some p =>
      obtain ⟨m2, q⟩ := p
      rw [hm] at h
      simp only at h
      cases hk : numsS j q with
      | none => rw [hk] at h; cases h
      | some p2 =>
        obtain ⟨l2, q2⟩ := p2
        rw [hk] at h
        injection h with h
        injection h with h1 h2
        subst h1
        intro n hn
        rcases List.mem_cons.1 hn with rfl | hn
        · exact num_bd hm
        · exact nums_bd j q q2 l2 hk n hn
theorem nth_bd {l : List Int} (h : ∀ n ∈ l, 0 ≤ n ∧ n ≤ 999) (k : Nat) : 0 ≤ nth l k ∧ nth l k ≤ 999 := by
  unfold nth
  rw [List.getD_eq_getElem?_getD]
  cases hk : l[k]? with
  | none => simp
  | some n => exact h n (List.mem_of_getElem? hk)
theorem head_op {r q : Bs} {op ax co : Int} (h : headS r = some (op, ax, co, q)) : (op = 1 ∨ op = 2 ∨ op = 3 ∨ op = 4 ∨ op = 5 ∨ op = 6) ∧ (0 ≤ ax ∧ ax ≤ 2) ∧ 0 ≤ co ∧ co ≤ 255 := by
  unfold headS at h
  split at h
  · rename_i x hx
    have hm := List.mem_of_find?_eq_some hx
    have : ∀ y ∈ headsS, (y.1 = 2 ∨ y.1 = 3 ∨ y.1 = 4 ∨ y.1 = 5 ∨ y.1 = 6) ∧ 0 ≤ y.2.1 ∧ y.2.1 ≤ 2 := by decide
    have := this x hm
    injection h with h
    injection h with h1 h
    injection h with h2 h
    injection h with h3 h
    subst h1 h2 h3
    omega
  · split at h
    · cases h
    · rename_i c l _
      split at h
      · injection h with h
        injection h with h1 h
        injection h with h2 h
        injection h with h3 h
        subst h1 h2 h3
        have := c.toNat_lt
        omega
      · cases h
end Go.Proofs.YtbcnkcndhgihaaaDoor

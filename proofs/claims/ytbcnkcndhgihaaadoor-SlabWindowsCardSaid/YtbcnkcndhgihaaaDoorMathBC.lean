/- Blocks: plain facts. Blocks: the reference's own tests, plain. -/
import Derived.Test.YtbcnkcndhgihaaaDoorS1
namespace Go.Proofs.YtbcnkcndhgihaaaDoor
open Go.RowKit

theorem foldl_max {f : BT → Int} (l : List BT) (a k : Int) : k < l.foldl (fun n p => max n (f p)) a ↔ k < a ∨ ∃ p ∈ l, k < f p := by
  induction l generalizing a with
  | nil => simp
  | cons p l ih =>
    rw [List.foldl_cons, ih]
    constructor
    · rintro (h | ⟨q, hq, h⟩)
      · by_cases h1 : k < a
        · exact .inl h1
        · exact .inr ⟨p, by simp, by omega⟩
      · exact .inr ⟨q, by simp [hq], h⟩
    · rintro (h | ⟨q, hq, h⟩)
      · left; omega
      · rcases List.mem_cons.1 hq with rfl | hq
        · left; omega
        · exact .inr ⟨q, hq, h⟩
theorem deep_level : ∀ (k : Nat) (b : BT), deepS k b = true ↔ (k : Int) < levelS (k + 1) b
  | 0, b => by unfold deepS levelS; simp
  | k + 1, b => by
    unfold deepS levelS
    rw [List.any_eq_true]
    have := foldl_max (f := levelS (k + 1)) b.ps 0 k
    constructor
    · rintro ⟨p, hp, h⟩
      have h1 := this.2 (.inr ⟨p, hp, (deep_level k p).1 h⟩)
      omega
    · intro h
      have h1 := this.1 (by omega)
      rcases h1 with h1 | ⟨p, hp, h1⟩
      · omega
      · exact ⟨p, hp, (deep_level k p).2 h1⟩
theorem level_bd : ∀ (k : Nat) (b : BT), 0 ≤ levelS k b ∧ levelS k b ≤ k
  | 0, b => by unfold levelS; omega
  | 1, b => by unfold levelS; omega
  | k + 2, b => by
    have hk := level_bd (k + 1)
    have : ∀ (l : List BT) (a : Int), 0 ≤ a → a ≤ k + 1 → 0 ≤ l.foldl (fun n p => max n (levelS (k + 1) p)) a ∧ l.foldl (fun n p => max n (levelS (k + 1) p)) a ≤ k + 1 := by
      intro l
      induction l with
      | nil => intro a h1 h2; exact ⟨h1, h2⟩
      | cons p l ih =>
        intro a h1 h2
        have := hk p
        rw [List.foldl_cons]
        exact ih _ (by omega) (by omega)
    have := this b.ps 0 (by omega) (by omega)
    unfold levelS
    omega
/-- A cell within extents. -/
def InE (n c : T3) : Prop := (0 ≤ c.x ∧ c.x < n.x) ∧ (0 ≤ c.y ∧ c.y < n.y) ∧ (0 ≤ c.z ∧ c.z < n.z)
def ExtOk (n : T3) : Prop := (1 ≤ n.x ∧ n.x ≤ 200) ∧ (1 ≤ n.y ∧ n.y ≤ 200) ∧ (1 ≤ n.z ∧ n.z ≤ 200) ∧ n.x * n.y * n.z ≤ 8000
def Ax (a : Int) : Prop := a = 0 ∨ a = 1 ∨ a = 2
def Sh.Ok : Sh → Prop
  | solid n c => ExtOk n ∧ 97 ≤ c ∧ c ≤ 105
  | stack n a f b => ExtOk n ∧ Ax a ∧ f.Ok ∧ b.Ok ∧ n = f.ext.set a (f.ext.get a + b.ext.get a) ∧ n = b.ext.set a (f.ext.get a + b.ext.get a)
  | turn n a p => ExtOk n ∧ Ax a ∧ p.Ok ∧ n = exch p.ext a
  | slice n a o p => ExtOk n ∧ Ax a ∧ p.Ok ∧ 0 ≤ o ∧ n = p.ext.set a (n.get a) ∧ o + n.get a ≤ p.ext.get a
  | flip n a p => ExtOk n ∧ Ax a ∧ p.Ok ∧ n = p.ext
  | rep n a p => ExtOk n ∧ Ax a ∧ p.Ok ∧ ∃ k, 1 ≤ k ∧ k ≤ 999 ∧ n = p.ext.set a (p.ext.get a * k)
theorem Sh.Ok.ext {s : Sh} (h : s.Ok) : ExtOk s.ext := by cases s <;> exact h.1
theorem get_set {t : T3} {a v : Int} (h : Ax a) : (t.set a v).get a = v := by rcases h with rfl | rfl | rfl <;> simp [T3.get, T3.set]
theorem in_stack {n f b c : T3} {a : Int} (ha : Ax a) (h1 : n = f.set a (f.get a + b.get a)) (h2 : n = b.set a (f.get a + b.get a)) (hc : InE n c) : (c.get a < f.get a → InE f c) ∧ (¬ c.get a < f.get a → InE b (c.set a (c.get a - f.get a))) := by
  obtain ⟨x, y, z⟩ := c
  obtain ⟨fx, fy, fz⟩ := f
  obtain ⟨bx, b_y, bz⟩ := b
  rw [h1] at h2
  subst h1
  rcases ha with rfl | rfl | rfl <;> (simp [T3.get, T3.set, InE] at hc h2 ⊢; omega)
theorem in_turn {n p c : T3} {a : Int} (ha : Ax a) (h1 : n = exch p a) (hc : InE n c) : InE p (turnC a p c) := by
  subst h1
  rcases ha with rfl | rfl | rfl <;> (simp [exch, turnC, InE] at hc ⊢; omega)
theorem in_slice {n p c : T3} {a o : Int} (ha : Ax a) (ho : 0 ≤ o) (h1 : n = p.set a (n.get a)) (h2 : o + n.get a ≤ p.get a) (hc : InE n c) : InE p (c.set a (c.get a + o)) := by
  obtain ⟨x, y, z⟩ := c
  obtain ⟨fx, fy, fz⟩ := n
  obtain ⟨bx, b_y, bz⟩ := p
  rcases ha with rfl | rfl | rfl <;> (simp [T3.get, T3.set, InE] at hc h1 h2 ⊢; omega)
theorem in_flip {n c : T3} {a : Int} (ha : Ax a) (hc : InE n c) : InE n (c.set a (n.get a - 1 - c.get a)) := by
  obtain ⟨x, y, z⟩ := c
  obtain ⟨fx, fy, fz⟩ := n
  rcases ha with rfl | rfl | rfl <;> (simp [T3.get, T3.set, InE] at hc ⊢; omega)
theorem in_rep {n p c : T3} {a k : Int} (ha : Ax a) (hp : ExtOk p) (h1 : n = p.set a (p.get a * k)) (hc : InE n c) : InE p (c.set a (c.get a % p.get a)) := by
  obtain ⟨x, y, z⟩ := c
  obtain ⟨bx, b_y, bz⟩ := p
  subst h1
  obtain ⟨⟨p1, _⟩, ⟨p2, _⟩, ⟨p3, _⟩, _⟩ := hp
  simp only at p1 p2 p3
  rcases ha with rfl | rfl | rfl <;> simp [T3.get, T3.set, InE] at hc ⊢
  · have e1 := Int.emod_nonneg x (show bx ≠ 0 by omega)
    have e2 := Int.emod_lt_of_pos x (show 0 < bx by omega)
    omega
  · have e1 := Int.emod_nonneg y (show b_y ≠ 0 by omega)
    have e2 := Int.emod_lt_of_pos y (show 0 < b_y by omega)
    omega
  · have e1 := Int.emod_nonneg z (show bz ≠ 0 by omega)
    have e2 := Int.emod_lt_of_pos z (show 0 < bz by omega)
    omega
theorem at_range : ∀ (s : Sh) (c : T3), s.Ok → InE s.ext c → 97 ≤ s.at c ∧ s.at c ≤ 105
  | .solid n k, c, h, _ => h.2
  | .stack n a f b, c, ⟨_, ha, hf, hb, h1, h2⟩, hc => by
    have := in_stack ha h1 h2 hc
    show 97 ≤ (if c.get a < f.ext.get a then f.at c else b.at (c.set a (c.get a - f.ext.get a))) ∧ (if c.get a < f.ext.get a then f.at c else b.at (c.set a (c.get a - f.ext.get a))) ≤ 105
    split
    · exact at_range f _ hf (this.1 ‹_›)
    · exact at_range b _ hb (this.2 ‹_›)
  | .turn n a p, c, ⟨_, ha, hp, h1⟩, hc => at_range p _ hp (in_turn ha h1 hc)
  | .slice n a o p, c, ⟨_, ha, hp, ho, h1, h2⟩, hc => at_range p _ hp (in_slice ha ho h1 h2 hc)
  | .flip n a p, c, ⟨_, ha, hp, h1⟩, hc => at_range p _ hp (by subst h1; exact in_flip ha hc)
  | .rep n a p, c, ⟨_, ha, hp, k, _, _, h1⟩, hc => at_range p _ hp (in_rep ha hp.ext h1 hc)
theorem fits_ok {n : T3} (h1 : 1 ≤ n.x) (h2 : 1 ≤ n.y) (h3 : 1 ≤ n.z) (h : fitsS n = 0) : ExtOk n := by
  unfold fitsS at h
  split at h
  · cases h
  · split at h
    · cases h
    · rename_i a b
      simp only [not_or] at a
      exact ⟨⟨h1, by omega⟩, ⟨h2, by omega⟩, ⟨h3, by omega⟩, by omega⟩
theorem ext_exch {n : T3} {a : Int} (ha : Ax a) (h : ExtOk n) : ExtOk (exch n a) := by
  obtain ⟨x, y, z⟩ := n
  obtain ⟨h1, h2, h3, h4⟩ := h
  simp only at h1 h2 h3 h4
  have e1 : x * z * y = x * y * z := by rw [Int.mul_assoc, Int.mul_comm z y, ← Int.mul_assoc]
  have e2 : z * y * x = x * y * z := by rw [Int.mul_comm, Int.mul_comm z y, ← Int.mul_assoc]
  have e3 : y * x * z = x * y * z := by rw [Int.mul_comm y x]
  rcases ha with rfl | rfl | rfl <;> simp [exch, ExtOk]
  · rw [e1]; exact ⟨h1, h3, h2, h4⟩
  · rw [e2]; exact ⟨h3, h2, h1, h4⟩
  · rw [e3]; exact ⟨h2, h1, h3, h4⟩
theorem prod_le {a b c a' b' c' : Int} (h0 : 0 ≤ a) (h1 : 0 ≤ b) (h2 : 0 ≤ c) (ha : a ≤ a') (hb : b ≤ b') (hc : c ≤ c') : a * b * c ≤ a' * b' * c' := by
  have s1 : a * b ≤ a' * b' := Int.mul_le_mul ha hb h1 (by omega)
  exact Int.mul_le_mul s1 hc h2 (Int.mul_nonneg (by omega) (by omega))
theorem ext_less {n : T3} {a v : Int} (ha : Ax a) (h : ExtOk n) (h1 : 1 ≤ v) (h2 : v ≤ n.get a) : ExtOk (n.set a v) := by
  obtain ⟨x, y, z⟩ := n
  obtain ⟨k1, k2, k3, k4⟩ := h
  simp only at k1 k2 k3 k4
  rcases ha with rfl | rfl | rfl <;> simp [T3.get, T3.set, ExtOk] at h2 ⊢
  · have := prod_le (a := v) (b := y) (c := z) (a' := x) (b' := y) (c' := z) (by omega) (by omega) (by omega) h2 (by omega) (by omega)
    omega
  · have := prod_le (a := x) (b := v) (c := z) (a' := x) (b' := y) (c' := z) (by omega) (by omega) (by omega) (by omega) h2 (by omega)
    omega
  · have := prod_le (a := x) (b := y) (c := v) (a' := x) (b' := y) (c' := z) (by omega) (by omega) (by omega) (by omega) (by omega) h2
    omega
theorem set_pos {n : T3} {a v : Int} (ha : Ax a) (h : ExtOk n) (hv : 1 ≤ v) : 1 ≤ (n.set a v).x ∧ 1 ≤ (n.set a v).y ∧ 1 ≤ (n.set a v).z := by
  obtain ⟨k1, k2, k3, k4⟩ := h
  rcases ha with rfl | rfl | rfl <;> simp [T3.set] <;> omega
theorem get_pos {n : T3} {a : Int} (ha : Ax a) (h : ExtOk n) : 1 ≤ n.get a ∧ n.get a ≤ 200 := by
  obtain ⟨k1, k2, k3, k4⟩ := h
  rcases ha with rfl | rfl | rfl <;> simp [T3.get] <;> omega
theorem set_get {n : T3} {a v : Int} (ha : Ax a) : (n.set a v) = n.set a ((n.set a v).get a) := by rw [get_set ha]
/-- What a block that is right by itself has. -/
theorem one_facts {b : BT} (h : oneS b = true) : (b.op = 1 ∧ b.ps = [] ∧ b.ax = 0 ∧ (97 ≤ b.co ∧ b.co ≤ 105) ∧ (1 ≤ b.n0 ∧ b.n0 ≤ 999) ∧ (1 ≤ b.n1 ∧ b.n1 ≤ 999) ∧ 1 ≤ b.n2 ∧ b.n2 ≤ 999) ∨
    (Ax b.ax ∧ b.co = 0 ∧ b.n2 = 0 ∧ ((b.op = 2 ∧ (∃ p q, b.ps = [p, q]) ∧ b.n0 = 0 ∧ b.n1 = 0) ∨ ∃ p, b.ps = [p] ∧ ((b.op = 3 ∧ b.n0 = 0 ∧ b.n1 = 0) ∨ (b.op = 4 ∧ (0 ≤ b.n0 ∧ b.n0 ≤ 999) ∧ 1 ≤ b.n1 ∧ b.n1 ≤ 999) ∨ (b.op = 5 ∧ b.n0 = 0 ∧ b.n1 = 0) ∨ (b.op = 6 ∧ (1 ≤ b.n0 ∧ b.n0 ≤ 999) ∧ b.n1 = 0)))) := by
  unfold oneS at h
  simp only [Bool.and_eq_true, decide_eq_true_eq] at h
  obtain ⟨h1, h2⟩ := h
  have len0 : ∀ {l : List BT}, ((0 : Int) = l.length) → l = [] := fun h => List.length_eq_zero_iff.1 (by omega)
  have len1 : ∀ {l : List BT}, ((1 : Int) = l.length) → ∃ p, l = [p] := fun {l} h => by
    match l, h with
    | [p], _ => exact ⟨p, rfl⟩
    | [], h => simp at h
    | p :: q :: l, h => simp at h; omega
  have len2 : ∀ {l : List BT}, ((2 : Int) = l.length) → ∃ p q, l = [p, q] := fun {l} h => by
    match l, h with
    | [p, q], _ => exact ⟨p, q, rfl⟩
    | [], h => simp at h
    | [p], h => simp at h
    | p :: q :: r :: l, h => simp at h; omega
  unfold fieldsS at h2
  by_cases o1 : b.op = 1
  · rw [if_pos o1] at h2
    simp only [btw, Bool.and_eq_true, decide_eq_true_eq] at h2
    obtain ⟨⟨⟨⟨a1, a2⟩, a3⟩, a4⟩, a5⟩ := h2
    rw [o1] at h1
    exact .inl ⟨o1, len0 h1, a1, a2, a3, a4, a5.1, a5.2⟩
  · rw [if_neg o1] at h2
    split at h2
    · cases h2
    · rename_i hn
      simp only [btw, Bool.not_eq_true', Bool.not_eq_false, Bool.and_eq_true, decide_eq_true_eq] at hn
      obtain ⟨⟨c1, c2⟩, c3⟩ := hn
      refine .inr ⟨by unfold Ax; omega, c1, c3, ?_⟩
      by_cases o4 : b.op = 4
      · rw [if_pos o4] at h2
        simp only [btw, Bool.and_eq_true, decide_eq_true_eq] at h2
        rw [o4] at h1
        obtain ⟨p, hp⟩ := len1 h1
        exact .inr ⟨p, hp, .inr (.inl ⟨o4, h2.1, h2.2.1, h2.2.2⟩)⟩
      · rw [if_neg o4] at h2
        by_cases o6 : b.op = 6
        · rw [if_pos o6] at h2
          simp only [btw, Bool.and_eq_true, decide_eq_true_eq] at h2
          rw [o6] at h1
          obtain ⟨p, hp⟩ := len1 h1
          exact .inr ⟨p, hp, .inr (.inr (.inr ⟨o6, h2.1, h2.2⟩))⟩
        · rw [if_neg o6] at h2
          simp only [Bool.and_eq_true, decide_eq_true_eq] at h2
          unfold partsS at h1
          rw [if_neg o1] at h1
          by_cases o2 : b.op = 2
          · rw [if_pos o2] at h1
            exact .inl ⟨o2, len2 h1, h2.1, h2.2⟩
          · rw [if_neg o2] at h1
            by_cases o3 : b.op = 3
            · rw [if_pos (.inl o3)] at h1
              obtain ⟨p, hp⟩ := len1 h1
              exact .inr ⟨p, hp, .inl ⟨o3, h2.1, h2.2⟩⟩
            · by_cases o5 : b.op = 5
              · rw [if_pos (.inr (.inr (.inl o5)))] at h1
                obtain ⟨p, hp⟩ := len1 h1
                exact .inr ⟨p, hp, .inr (.inr (.inl ⟨o5, h2.1, h2.2⟩))⟩
              · rw [if_neg (by omega)] at h1
                omega
theorem whole_parts {b : BT} (h : wholeS b = true) : oneS b = true ∧ ∀ p ∈ b.ps, wholeS p = true := by
  rw [wholeS_eq, Bool.and_eq_true, List.all_eq_true] at h
  exact h
/-- What is made is right. -/
theorem built_ok : ∀ b : BT, wholeS b = true → ∀ s, builtS b = .ok s → s.Ok := by
  refine BT.ind ?_
  intro b ih hw s hs
  obtain ⟨h1, hps⟩ := whole_parts hw
  rw [builtS_eq] at hs
  have hone : ∀ p, b.ps = [p] → ∃ t, builtL b.ps = .ok [t] ∧ t.Ok := by
    intro p hp
    have ihp := ih p (by simp [hp]) (hps p (by simp [hp]))
    rw [hp] at hs ⊢
    unfold builtL at hs ⊢
    unfold builtL at hs ⊢
    cases hb : builtS p with
    | error e => rw [hb] at hs; simp at hs
    | ok t => exact ⟨t, rfl, ihp t hb⟩
  rcases one_facts h1 with ⟨o, hp, a, c, n0, n1, n2⟩ | ⟨ha, _, hn2, ⟨o, ⟨p, q, hp⟩, hn⟩ | ⟨p, hp, h⟩⟩
  · rw [hp] at hs
    simp only [builtL] at hs
    unfold joinS at hs
    rw [if_pos o] at hs
    split at hs
    · injection hs with hs
      subst hs
      exact ⟨fits_ok n0.1 n1.1 n2.1 ‹_›, c⟩
    · cases hs
  · rw [hp] at hs
    have ihp := ih p (by simp [hp]) (hps p (by simp [hp]))
    have ihq := ih q (by simp [hp]) (hps q (by simp [hp]))
    unfold builtL at hs
    unfold builtL at hs
    unfold builtL at hs
    cases hb : builtS p with
    | error e => rw [hb] at hs; simp at hs
    | ok t =>
      cases hb2 : builtS q with
      | error e => rw [hb, hb2] at hs; simp at hs
      | ok u =>
        rw [hb, hb2] at hs
        simp only at hs
        have ht := ihp t hb
        have hu := ihq u hb2
        unfold joinS at hs
        rw [if_neg (by omega)] at hs
        simp only [if_pos o] at hs
        split at hs
        · rename_i he
          split at hs
          · injection hs with hs
            subst hs
            have g1 := get_pos ha ht.ext
            have g2 := get_pos ha hu.ext
            obtain ⟨s1, s2, s3⟩ := set_pos ha ht.ext (v := t.ext.get b.ax + u.ext.get b.ax) (by omega)
            exact ⟨fits_ok s1 s2 s3 ‹_›, ha, ht, hu, rfl, he⟩
          · cases hs
        · cases hs
  · obtain ⟨t, ht1, ht⟩ := hone p hp
    rw [ht1] at hs
    simp only at hs
    unfold joinS at hs
    have g1 := get_pos ha ht.ext
    rcases h with ⟨o, _⟩ | ⟨o, k1, k2, k3⟩ | ⟨o, _⟩ | ⟨o, k1, k2⟩
    · rw [if_neg (by omega)] at hs
      simp only at hs
      rw [if_neg (by omega), if_pos o] at hs
      injection hs with hs
      subst hs
      exact ⟨ext_exch ha ht.ext, ha, ht, rfl⟩
    · rw [if_neg (by omega)] at hs
      simp only at hs
      rw [if_neg (by omega), if_neg (by omega), if_pos o] at hs
      split at hs
      · cases hs
      · injection hs with hs
        subst hs
        refine ⟨ext_less ha ht.ext k2 (by omega), ha, ht, k1.1, set_get ha, ?_⟩
        rw [get_set ha]; omega
    · rw [if_neg (by omega)] at hs
      simp only at hs
      rw [if_neg (by omega), if_neg (by omega), if_neg (by omega), if_pos o] at hs
      injection hs with hs
      subst hs
      exact ⟨ht.ext, ha, ht, rfl⟩
    · rw [if_neg (by omega)] at hs
      simp only at hs
      rw [if_neg (by omega), if_neg (by omega), if_neg (by omega), if_neg (by omega)] at hs
      split at hs
      · injection hs with hs
        subst hs
        have hm : 1 ≤ t.ext.get b.ax * b.n0 := by
          have := Int.mul_le_mul (a := 1) (b := 1) g1.1 k1.1 (by omega) (by omega)
          omega
        obtain ⟨s1, s2, s3⟩ := set_pos ha ht.ext hm
        exact ⟨fits_ok s1 s2 s3 ‹_›, ha, ht, b.n0, k1.1, k1.2, rfl⟩
      · cases hs
end Go.Proofs.YtbcnkcndhgihaaaDoor

namespace Go.Proofs.YtbcnkcndhgihaaaDoor
open Go.RowKit

def num1B (m n : Int) : Bool := if m < 0 then decide (n = 0) else decide (m ≤ n) && decide (n ≤ 999)
def numsB (b : BT) (l : T3) : Bool := num1B l.x b.n0 && (num1B l.y b.n1 && num1B l.z b.n2)
theorem fits_zero {n : T3} (h : ExtOk n) : fitsS n = 0 := by
  obtain ⟨h1, h2, h3, h4⟩ := h
  unfold fitsS
  rw [if_neg (by omega), if_neg (by omega)]
theorem level_eq (b : BT) : decide (16 < levelS 17 b) = deepS 16 b := by
  have := deep_level 16 b
  rw [Bool.eq_iff_iff, decide_eq_true_eq, this]
  constructor <;> intro h <;> omega
/-- What formed says, Op by Op. -/
def formedB (b : BT) : Bool :=
  if b.op = 1 then decide (b.ax = 0) && (decide (97 ≤ b.co) && decide (b.co ≤ 105)) && (decide (b.ps.length = 0) && numsB b ⟨1, 1, 1⟩)
  else if b.op = 2 then decide (0 ≤ b.ax) && decide (b.ax ≤ 2) && decide (b.co = 0) && (decide (b.ps.length = 2) && numsB b ⟨-1, -1, -1⟩)
  else if b.op = 3 ∨ b.op = 5 then decide (0 ≤ b.ax) && decide (b.ax ≤ 2) && decide (b.co = 0) && (decide (b.ps.length = 1) && numsB b ⟨-1, -1, -1⟩)
  else if b.op = 4 then decide (0 ≤ b.ax) && decide (b.ax ≤ 2) && decide (b.co = 0) && (decide (b.ps.length = 1) && numsB b ⟨0, 1, -1⟩)
  else if b.op = 6 then decide (0 ≤ b.ax) && decide (b.ax ≤ 2) && decide (b.co = 0) && (decide (b.ps.length = 1) && numsB b ⟨1, -1, -1⟩)
  else false
theorem formed_eq (b : BT) : formedB b = oneS b := by
  by_cases o1 : b.op = 1
  · unfold formedB oneS fieldsS partsS numsB num1B btw
    rw [if_pos o1, if_pos o1, if_pos o1, Bool.eq_iff_iff]
    generalize b.ps.length = L
    simp
    omega
  by_cases o2 : b.op = 2
  · unfold formedB oneS fieldsS partsS numsB num1B btw
    simp only [o2]
    rw [Bool.eq_iff_iff]
    generalize b.ps.length = L
    simp
    omega
  by_cases o3 : b.op = 3
  · unfold formedB oneS fieldsS partsS numsB num1B btw
    simp only [o3]
    rw [Bool.eq_iff_iff]
    generalize b.ps.length = L
    simp
    omega
  by_cases o4 : b.op = 4
  · unfold formedB oneS fieldsS partsS numsB num1B btw
    simp only [o4]
    rw [Bool.eq_iff_iff]
    generalize b.ps.length = L
    simp
    omega
  by_cases o5 : b.op = 5
  · unfold formedB oneS fieldsS partsS numsB num1B btw
    simp only [o5]
    rw [Bool.eq_iff_iff]
    generalize b.ps.length = L
    simp
    omega
  by_cases o6 : b.op = 6
  · unfold formedB oneS fieldsS partsS numsB num1B btw
    simp only [o6]
    rw [Bool.eq_iff_iff]
    generalize b.ps.length = L
    simp
    omega
  unfold formedB oneS partsS
  rw [if_neg o1, if_neg o2, if_neg (by omega), if_neg o4, if_neg o6, if_neg o1, if_neg o2, if_neg (by omega)]
  rw [decide_eq_false (by omega)]
  rfl
end Go.Proofs.YtbcnkcndhgihaaaDoor

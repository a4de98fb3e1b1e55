/- Hulls: what both answer. -/
import Derived.Test.YtcbphodkaiknmaaMathH4
import Derived.Test.YtcbphodkaiknmaaHW1
namespace Go.Proofs.Ytcbphodkaiknmaa
open Go.RowKit

theorem crossW_vx {a b p : XY} (ha : Bd 100000 a) (hb : Bd 100000 b) (hp : Bd 100000 p) : crossW a b p = vx (sb a b) (sb a p) := by
  rw [crossW_eq ha hb hp, cross_eq2]; rfl
theorem popW_eq {p : XY} (hp : Bd 100000 p) : ∀ st : List XY, (∀ x ∈ st, Bd 100000 x) → popW st p = popS st p
  | [], _ => by unfold popW popS; rfl
  | [a], _ => by unfold popW popS; rfl
  | b :: a :: r, h => by
    have hb := h b (by simp)
    have ha := h a (by simp)
    have ih := popW_eq hp (a :: r) (fun x hx => h x (List.mem_cons_of_mem _ hx))
    have e := crossW_vx ha hb hp
    show (if crossW a b p ≤ 0 then popW (a :: r) p else b :: a :: r) = (if vx (sb a b) (sb a p) ≤ 0 then popS (a :: r) p else b :: a :: r)
    rw [e, ih]
theorem popS_mem {p x : XY} : ∀ {st : List XY}, x ∈ popS st p → x ∈ st
  | [], h => by unfold popS at h; exact h
  | [a], h => by unfold popS at h; exact h
  | b :: a :: r, h => by
    unfold popS at h
    split at h
    · exact List.mem_cons_of_mem _ (popS_mem h)
    · exact h
theorem chain_go : ∀ (S st : List XY), (∀ x ∈ S, Bd 100000 x) → (∀ x ∈ st, Bd 100000 x) → S.foldl (fun st p => p :: popW st p) st = S.foldl (fun st p => p :: popS st p) st
  | [], _, _, _ => rfl
  | p :: S, st, h1, h2 => by
    have hp := h1 p (by simp)
    rw [List.foldl_cons, List.foldl_cons, popW_eq hp st h2]
    refine chain_go S _ (fun x hx => h1 x (List.mem_cons_of_mem _ hx)) (fun x hx => ?_)
    rcases List.mem_cons.1 hx with e | e
    · subst e; exact hp
    · exact h2 x (popS_mem e)
theorem chainW_eq {S : List XY} (h : ∀ x ∈ S, Bd 100000 x) : chainW S = chainS S := chain_go S [] h (fun x hx => by simp at hx)
def hull2Res (P : List XY) : List XY × Int := if P.length < 3 then ([], 2) else if 64 < P.length then ([], 4) else (P, 0)
/-- What Hull answers. -/
def HullIs (l : List XY) (r : List XY × Int) : Prop :=
  (200 < l.length ∧ r = ([], 4)) ∨ (l.length ≤ 200 ∧ (l = [] ∨ l.all rangedB = false) ∧ r = ([], 2)) ∨
  (l.length ≤ 200 ∧ 0 < l.length ∧ l.all rangedB = true ∧ ∃ P, Wraps l P ∧ P.length ≤ 1000 ∧ r = hull2Res P)
theorem hullIs_fun {l : List XY} {r r' : List XY × Int} (h : HullIs l r) (h' : HullIs l r') : r = r' := by
  have ne : ∀ {l : List XY}, 0 < l.length → ¬ l = [] := fun h e => by rw [e] at h; simp at h
  rcases h with ⟨h1, h2⟩ | ⟨h1, h3, h2⟩ | ⟨h1, h0, h3, P, hP, _, h2⟩ <;> rcases h' with ⟨k1, k2⟩ | ⟨k1, k3, k2⟩ | ⟨k1, k0, k3, Q, hQ, _, k2⟩
  · rw [h2, k2]
  · omega
  · omega
  · omega
  · rw [h2, k2]
  · rcases h3 with h3 | h3
    · exact absurd h3 (ne k0)
    · rw [h3] at k3; cases k3
  · omega
  · rcases k3 with k3 | k3
    · exact absurd k3 (ne h0)
    · rw [k3] at h3; cases h3
  · rw [h2, k2, wraps_fun hP hQ]
/-- The program's way: two chains of the sorted places. -/
theorem hull_is {l S : List XY} (h200 : l.length ≤ 200) (h0 : 0 < l.length) (hr : l.all rangedB = true) (hs : S.Pairwise (fun a b => up (sb a b))) (hmem : ∀ x, x ∈ S ↔ x ∈ l) (hSl : S.length ≤ l.length) :
    (((chainW S).tail.reverse ++ (chainW S.reverse).tail.reverse) = hullL S) ∧
    ((hullL S).length < 3 ∧ HullIs l ([], 2) ∨ (3 ≤ (hullL S).length ∧ canonL (hullL S) = hullL S ∧ HullIs l (hull2Res (hullL S)))) := by
  have hb : ∀ x ∈ l, Bd 5000 x := fun x hx => bd_of_ranged (List.all_eq_true.1 hr x hx)
  have hbS : ∀ x ∈ S, Bd 100000 x := fun x hx => (hb x ((hmem x).1 hx)).mono (by omega)
  have e1 := chainW_eq hbS
  have e2 := chainW_eq (S := S.reverse) (fun x hx => hbS x (List.mem_reverse.1 hx))
  have hlen : (hullL S).length ≤ 1000 := by
    unfold hullL
    rw [← e1, ← e2]
    have a := chainW_len S S.length
    have b := chainW_len S.reverse S.reverse.length
    rw [List.take_length] at a b
    simp only [List.length_append, List.length_dropLast, List.length_reverse] at a b ⊢
    omega
  refine ⟨?_, ?_⟩
  · rw [e1, e2]
    unfold hullL
    rw [List.dropLast_reverse, List.dropLast_reverse]
  · obtain ⟨P, hW, hh⟩ := hull_wraps hb h0 hs hmem
    rcases hh with ⟨a, b⟩ | ⟨a, b, hc, hcan, hin, hcor⟩
    · exact .inl ⟨a, .inr (.inr ⟨h200, h0, hr, P, hW, by omega, by unfold hull2Res; rw [if_pos b]⟩)⟩
    · rw [a]
      rw [a] at hlen
      exact .inr ⟨b, hcan, .inr (.inr ⟨h200, h0, hr, P, hW, hlen, rfl⟩)⟩
/-- What the law asks of a hull. -/
theorem hull_law {l S P : List XY} (h200 : l.length ≤ 200) (h0 : 0 < l.length) (hr : l.all rangedB = true) (hs : S.Pairwise (fun a b => up (sb a b))) (hmem : ∀ x, x ∈ S ↔ x ∈ l) (h : HullIs l (P, 0)) :
    validB P = true ∧ (∀ x ∈ l, insideB P x = true) ∧ HullIs P (P, 0) ∧ ∀ x ∈ l, rangedB x = true := by
  have hb : ∀ x ∈ l, Bd 5000 x := fun x hx => bd_of_ranged (List.all_eq_true.1 hr x hx)
  have hne : ¬ l = [] := fun e => by rw [e] at h0; simp at h0
  rcases h with ⟨h1, _⟩ | ⟨_, h3, h2⟩ | ⟨_, _, _, Q, hQ, _, h2⟩
  · omega
  · injection h2 with _ h2; cases h2
  · have hq3 : ¬ Q.length < 3 := fun hlt => by unfold hull2Res at h2; rw [if_pos hlt] at h2; injection h2 with _ h2; cases h2
    have hq64 : ¬ 64 < Q.length := fun hlt => by unfold hull2Res at h2; rw [if_neg hq3, if_pos hlt] at h2; injection h2 with _ h2; cases h2
    have hPQ : P = Q := by unfold hull2Res at h2; rw [if_neg hq3, if_neg hq64] at h2; injection h2
    subst hPQ
    obtain ⟨P', hW, hh⟩ := hull_wraps hb h0 hs hmem
    obtain rfl := wraps_fun hQ hW
    rcases hh with ⟨_, b⟩ | ⟨_, b, hc, hcan, hin, hcor⟩
    · exact absurd b hq3
    · have hP0 : 0 < P.length := by omega
      have hmemP : ∀ x ∈ P, x ∈ l := fun x hx => by obtain ⟨k, _, rfl⟩ := mem_cy hx; exact hcor k
      have hrP : P.all rangedB = true := List.all_eq_true.2 fun x hx => List.all_eq_true.1 hr x (hmemP x hx)
      refine ⟨(validB_iff P).2 ⟨by omega, by omega, hrP, hc⟩, fun x hx => (insideB_iff hP0 hrP ((hb x hx).mono (by omega))).2 (hin x hx), .inr (.inr ⟨by omega, hP0, hrP, P, ?_, by omega, by unfold hull2Res; rw [if_neg hq3, if_neg hq64]⟩), fun x hx => List.all_eq_true.1 hr x hx⟩
      refine wraps_conv (fun x hx => (hb x (hmemP x hx)).mono (by omega)) b hc (fun j => cy_mem hP0 j) (fun x hx => hin x (hmemP x hx)) (fun x hx => ?_)
      -- the first corner is the lowest one
      have h1 := hW.first
      have ehd : hd P = cy P 0 := by
        obtain ⟨q, hq⟩ := getElem?_of_lt hP0
        rw [hd_of hq, cy_lt hq]
      rw [← ehd, h1, hd_turn h0]
      obtain ⟨k, hk, rfl⟩ := mem_cy (hmemP x hx)
      exact (atTo_low h0 _ (Nat.le_refl _)).1 k hk
end Go.Proofs.Ytcbphodkaiknmaa

/- slices.Compact of corners: the walk. -/
import Derived.Test.YtcbphodkaiknmaaHW1
import Derived.Test.YtcbphodkaiknmaaRound2
import Derived.Lib.SliceRun
import Derived.Test.YtcbphodkaiknmaaMathH1
namespace Go.Proofs.Ytcbphodkaiknmaa
open Go.RowKit
set_option linter.unusedSimpArgs false

def compF (acc : List XY) (x : XY) : List XY := if acc.getLast? = some x then acc else acc ++ [x]
def compL (l : List XY) : List XY := l.foldl compF []
theorem comp_succ {l : List XY} {k : Nat} {x : XY} (h : l[k]? = some x) : compL (l.take (k + 1)) = compF (compL (l.take k)) x := by unfold compL; rw [take_succ_of h, List.foldl_append]; rfl
theorem comp_last {l : List XY} {k : Nat} {x : XY} (h : l[k]? = some x) : (compL (l.take (k + 1))).getLast? = some x := by
  rw [comp_succ h]
  unfold compF
  split
  · next e => exact e
  · simp
theorem comp_len (l : List XY) : ∀ k, k ≤ l.length → (compL (l.take k)).length ≤ k
  | 0, _ => by unfold compL; simp
  | k + 1, hk => by
    obtain ⟨x, hx⟩ := getElem?_of_lt (show k < l.length by omega)
    have := comp_len l k (by omega)
    rw [comp_succ hx]
    unfold compF
    split
    · omega
    · simp; omega
theorem comp_mem (l : List XY) : ∀ k, k ≤ l.length → ∀ x, x ∈ compL (l.take k) ↔ x ∈ l.take k
  | 0, _ => by unfold compL; simp
  | k + 1, hk => by
    obtain ⟨y, hy⟩ := getElem?_of_lt (show k < l.length by omega)
    have ih := comp_mem l k (by omega)
    intro x
    rw [comp_succ hy, take_succ_of hy, List.mem_append, ← ih]
    unfold compF
    split
    · next e =>
      constructor
      · exact .inl
      · rintro (h | h)
        · exact h
        · simp at h; subst h; exact List.mem_of_getLast? e
    · rw [List.mem_append]
/-- Of a sorted list: sorted without equal ones. -/
theorem comp_sorted {l : List XY} (h : l.Pairwise (fun a b => ¬ lx b a)) : ∀ k, k ≤ l.length → (compL (l.take k)).Pairwise (fun a b => up (sb a b))
  | 0, _ => by unfold compL; simp
  | k + 1, hk => by
    obtain ⟨y, hy⟩ := getElem?_of_lt (show k < l.length by omega)
    have ih := comp_sorted h k (by omega)
    rw [comp_succ hy]
    unfold compF
    split
    · exact ih
    · next e =>
      rw [List.pairwise_append]
      refine ⟨ih, by simp, fun a ha b hb => ?_⟩
      simp at hb
      subst hb
      -- a is not above b, and is not b: the last one is not b, and all lie below the last one
      have hle : ¬ lx b a := by
        have hm := (comp_mem l k (by omega) a).1 ha
        have hp := h
        rw [← List.take_append_drop k l, List.pairwise_append] at hp
        refine hp.2.2 a hm b ?_
        rw [List.drop_eq_getElem_cons (by omega), (List.getElem?_eq_some_iff.1 hy).2]
        exact List.mem_cons_self
      have hne : a ≠ b := by
        intro e1
        subst e1
        obtain ⟨q, hq⟩ : ∃ q, (compL (l.take k)).getLast? = some q := by
          cases hc : (compL (l.take k)).getLast? with
          | none => rw [List.getLast?_eq_none_iff] at hc; rw [hc] at ha; simp at ha
          | some q => exact ⟨q, rfl⟩
        have hqm := (comp_mem l k (by omega) q).1 (List.mem_of_getLast? hq)
        have hle2 : ¬ lx a q := by
          have hp := h
          rw [← List.take_append_drop k l, List.pairwise_append] at hp
          refine hp.2.2 q hqm a ?_
          rw [List.drop_eq_getElem_cons (by omega), (List.getElem?_eq_some_iff.1 hy).2]
          exact List.mem_cons_self
        obtain ⟨i, hi, rfl⟩ := List.getElem_of_mem ha
        have hli : (compL (l.take k)).getLast? = (compL (l.take k))[(compL (l.take k)).length - 1]? := List.getLast?_eq_getElem?
        rw [hli] at hq
        by_cases hil : i = (compL (l.take k)).length - 1
        · apply e
          rw [hli, ← hil, List.getElem?_eq_getElem hi]
        · have hlt := List.pairwise_iff_getElem.1 ih i ((compL (l.take k)).length - 1) hi (by omega) (by omega)
          have hq2 : (compL (l.take k))[(compL (l.take k)).length - 1]'(by omega) = q := (List.getElem?_eq_some_iff.1 hq).2
          rw [hq2] at hlt
          exact hle2 ((lx_iff _ _).2 hlt)
      rcases half_up.tot hne with h1 | h1
      · exact h1
      · exact absurd ((lx_iff _ _).2 h1) hle
theorem own_cleared {B e g n c k : Nat} : ∀ (zs : List Value) (o : Nat) (w : World) (xs : List Value), k * 2 ≤ o → w.ownsRow B e 2 (.slice (some ⟨g, 0, none⟩) n c) n xs →
    ∃ xs', (w.setCells g o zs).ownsRow B e 2 (.slice (some ⟨g, 0, none⟩) n c) n xs' ∧ xs'.take (k * 2) = xs.take (k * 2) ∧ w.grownBy (w.setCells g o zs) (some g)
  | [], o, w, xs, _, h => ⟨xs, h, rfl, World.grownBy.refl _ _⟩
  | v :: zs, o, w, xs, ho, h => by
    have s := h.stored o v
    obtain ⟨xs', h1, h2, h3⟩ := own_cleared (k := k) zs (o + 1) (w.setCell ⟨g, o, none⟩ v) (xs.set o v) (by omega) s.1
    refine ⟨xs', h1, ?_, grown_same s.2 h3⟩
    rw [h2]
    apply List.ext_getElem?
    intro i
    rw [List.getElem?_take, List.getElem?_take]
    split
    · rw [List.getElem?_set_ne (by omega)]
    · rfl
end Go.Proofs.Ytcbphodkaiknmaa

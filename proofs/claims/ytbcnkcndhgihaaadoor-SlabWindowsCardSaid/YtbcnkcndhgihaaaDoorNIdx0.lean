/- The first place of a list at which something holds. -/
import Derived.Test.YtbcnkcndhgihaaaDoorBaseM
namespace Go.Proofs.YtbcnkcndhgihaaaDoor

/-- The first place at which f holds, or -1. -/
def idxG {α : Type} (f : α → Bool) (l : List α) : Int := if l.any f then (l.findIdx f : Nat) else -1
theorem idxG_hit {α : Type} {f : α → Bool} {l : List α} {k : Nat} {q : α} (hno : ∀ x ∈ l.take k, f x = false) (h : l[k]? = some q) (hq : f q = true) : idxG f l = k := by
  have hmem : q ∈ l := List.mem_of_getElem? h
  have hlt : k < l.length := (List.getElem?_eq_some_iff.1 h).1
  have hqe : l[k] = q := (List.getElem?_eq_some_iff.1 h).2
  unfold idxG
  rw [if_pos (List.any_eq_true.2 ⟨q, hmem, hq⟩)]
  have : l.findIdx f = k := by
    rw [List.findIdx_eq hlt]
    refine ⟨by rw [hqe]; exact hq, fun j hj => ?_⟩
    exact hno _ (List.mem_take_iff_getElem.2 ⟨j, by omega, rfl⟩)
  rw [this]
theorem idxG_none {α : Type} {f : α → Bool} {l : List α} (hno : ∀ x ∈ l, f x = false) : idxG f l = -1 := by
  unfold idxG
  rw [if_neg (by simp only [List.any_eq_true, not_exists, not_and]; intro x hx; rw [hno x hx]; simp)]
theorem noG_take_succ {α : Type} {f : α → Bool} {l : List α} {k : Nat} {q : α} (hno : ∀ x ∈ l.take k, f x = false) (h : l[k]? = some q) (hq : f q = false) : ∀ x ∈ l.take (k + 1), f x = false := by
  rw [take_succ_of h]
  intro x hx
  rcases List.mem_append.1 hx with hx | hx
  · exact hno x hx
  · simp at hx; rw [hx]; exact hq
end Go.Proofs.YtbcnkcndhgihaaaDoor

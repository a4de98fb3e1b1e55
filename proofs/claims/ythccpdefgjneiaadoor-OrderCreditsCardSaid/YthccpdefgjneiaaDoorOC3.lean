/- OrderCredits: the facts in plain numbers. -/
import Derived.Test.YthccpdefgjneiaaDoorOC1
namespace Go.Proofs.YthccpdefgjneiaaDoor
open Go.RowKit Go.Shelf

structure GoodC (am ls : List Int) : Prop where
  n1 : am.length ≤ 40
  n2 : ls.length ≤ 40
  ga : ∀ x ∈ am, amt x = true
  ix : idxOk am.length ls
theorem credit_ok {am ls : List Int} (h : (creditS am ls).2.2 = 0) : GoodC am ls := by
  unfold creditS at h
  split at h
  · simp at h
  · next h40 =>
    split at h
    · simp at h
    · next hb =>
      simp only [Bool.or_eq_true, not_or, Bool.not_eq_true, Bool.not_eq_false', decide_eq_true_eq, List.any_eq_false] at hb
      exact ⟨by omega, by omega, fun x hx => by have := hb.1 x hx; simpa using this, hb.2⟩
theorem credit_good {am ls : List Int} (h : GoodC am ls) : creditS am ls = (negW am ls, sumW am ls, 0) := by
  unfold creditS
  have h1 := h.n1
  have h2 := h.n2
  have : (am.any fun a => !amt a) = false := by rw [List.any_eq_false]; intro x hx; rw [h.ga x hx]; simp
  rw [if_neg (by omega), this, decide_eq_true h.ix]; simp
theorem credit_len (am ls : List Int) : (creditS am ls).1.length ≤ 40 := by
  unfold creditS
  split
  · simp
  · split
    · simp
    · simp only [negW, List.length_map]; omega
def sumN (am ls : List Int) : Int := (ls.map (atN am)).sum
theorem atN_bd {am : List Int} (h : ∀ x ∈ am, amt x = true) (i : Int) : -1099511627776 ≤ atN am i ∧ atN am i ≤ 1099511627776 := by
  unfold atN
  cases hi : am[i.toNat]? with
  | none => simp
  | some v => exact bet_iff.1 (h v (List.mem_of_getElem? hi))
theorem sumN_snoc (am ls : List Int) (i : Int) : sumN am (ls ++ [i]) = sumN am ls + atN am i := by unfold sumN; simp
theorem sumW_snoc (am ls : List Int) (i : Int) : sumW am (ls ++ [i]) = wrap64 (sumW am ls - atN am i) := by unfold sumW; rw [List.foldl_append]; rfl
theorem sumW_take {am ls : List Int} (h : ∀ x ∈ am, amt x = true) (hl : ls.length ≤ 40) : ∀ k, k ≤ ls.length → sumW am (ls.take k) = -(sumN am (ls.take k)) ∧ -1099511627776 * (k : Int) ≤ sumN am (ls.take k) ∧ sumN am (ls.take k) ≤ 1099511627776 * (k : Int)
  | 0, _ => by simp [sumW, sumN]
  | k + 1, hk => by
    obtain ⟨i, hi⟩ := getElem?_of_lt (show k < ls.length by omega)
    obtain ⟨e, a, b⟩ := sumW_take h hl k (by omega)
    have c := atN_bd h i
    rw [take_succ_of hi, sumN_snoc, sumW_snoc, e]
    refine ⟨?_, by push_cast; omega, by push_cast; omega⟩
    rw [w64_id (by omega) (by omega)]; omega
theorem sumW_all {am ls : List Int} (h : ∀ x ∈ am, amt x = true) (hl : ls.length ≤ 40) : sumW am ls = -(sumN am ls) ∧ -43980465111040 ≤ sumN am ls ∧ sumN am ls ≤ 43980465111040 := by
  have := sumW_take h hl ls.length (Nat.le_refl _)
  rw [List.take_length] at this
  exact ⟨this.1, by omega, by omega⟩
theorem good_take {am ls : List Int} (h : GoodC am ls) (c : Nat) : GoodC am (ls.take c) :=
  ⟨h.n1, by have := h.n2; rw [List.length_take]; omega, h.ga, fun x hx => h.ix.1 x (List.mem_of_mem_take hx), (List.take_sublist c ls).nodup h.ix.2⟩
theorem good_drop {am ls : List Int} (h : GoodC am ls) (c : Nat) : GoodC am (ls.drop c) :=
  ⟨h.n1, by have := h.n2; rw [List.length_drop]; omega, h.ga, fun x hx => h.ix.1 x (List.mem_of_mem_drop hx), (List.drop_sublist c ls).nodup h.ix.2⟩
theorem sum_parts {am ls : List Int} (h : GoodC am ls) (c : Nat) : wrap64 (sumW am (ls.take c) + sumW am (ls.drop c)) = sumW am ls := by
  obtain ⟨e1, a1, b1⟩ := sumW_all h.ga (good_take h c).n2
  obtain ⟨e2, a2, b2⟩ := sumW_all h.ga (good_drop h c).n2
  obtain ⟨e3, a3, b3⟩ := sumW_all h.ga h.n2
  have : sumN am ls = sumN am (ls.take c) + sumN am (ls.drop c) := by
    unfold sumN; rw [← List.sum_append, ← List.map_append, List.take_append_drop]
  rw [e1, e2, e3, w64_id (by omega) (by omega)]; omega
def allN (n : Nat) : List Int := (List.range n).map Int.ofNat
theorem allN_len (n : Nat) : (allN n).length = n := by unfold allN; simp
theorem allN_succ (n : Nat) : allN (n + 1) = allN n ++ [(n : Int)] := by unfold allN; rw [List.range_succ, List.map_append]; rfl
theorem good_all {am ls : List Int} (h : GoodC am ls) : GoodC am (allN am.length) := by
  refine ⟨h.n1, by rw [allN_len]; exact h.n1, h.ga, fun x hx => ?_, ?_⟩
  · unfold allN at hx
    obtain ⟨i, hi, rfl⟩ := List.mem_map.1 hx
    have := List.mem_range.1 hi
    simp; omega
  · unfold allN
    refine List.Pairwise.map _ (fun a b hab => ?_) (List.nodup_range (n := am.length))
    intro e
    exact hab (Int.ofNat.inj e)
theorem at_all (am : List Int) : (allN am.length).map (atN am) = am := by
  apply List.ext_getElem?
  intro i
  unfold allN
  rw [List.getElem?_map, List.getElem?_map]
  by_cases h : i < am.length
  · rw [List.getElem?_range h]
    simp [atN, h]
  · rw [List.getElem?_eq_none (by simp; omega), List.getElem?_eq_none (by omega)]; rfl
theorem neg_all (am : List Int) : negW am (allN am.length) = am.map fun a => wrap64 (-a) := by
  conv => rhs; rw [← at_all am]
  unfold negW; rw [List.map_map]; rfl
theorem all_sum {am ls : List Int} (h : GoodC am ls) : sumW am (allN am.length) = -am.sum ∧ -43980465111040 ≤ am.sum ∧ am.sum ≤ 43980465111040 := by
  have := sumW_all h.ga (good_all h).n2
  unfold sumN at this
  rw [at_all] at this
  exact this
theorem cum_bdA {am : List Int} (h : ∀ x ∈ am, amt x = true) : ∀ k, k ≤ am.length → -1099511627776 * (k : Int) ≤ cum am k ∧ cum am k ≤ 1099511627776 * (k : Int)
  | 0, _ => by unfold cum; simp
  | k + 1, hk => by
    obtain ⟨v, hv⟩ := getElem?_of_lt (show k < am.length by omega)
    have h1 := cum_bdA h k (by omega)
    have h2 := bet_iff.1 (h v (List.mem_of_getElem? hv))
    rw [cum_succ hv]
    push_cast
    omega
theorem RdI.part {w : World} {B : Nat} {a : Addr} {l : List Int} (h : RdI w B (some a) l) (c : Nat) : ∀ j u, (vI (l.take c))[j]? = some u → w.cell? (a.add j) = some u := by
  intro j u hj
  unfold vI at hj
  rw [List.getElem?_map] at hj
  obtain ⟨v, hv, rfl⟩ := Option.map_eq_some_iff.1 hj
  rw [List.getElem?_take] at hv
  split at hv
  · obtain ⟨b, off, e, _, hc⟩ := h j v hv
    injection e with e
    subst e
    rw [add_none]; exact hc
  · cases hv
theorem RdI.rest {w : World} {B : Nat} {a : Addr} {l : List Int} (h : RdI w B (some a) l) (c : Nat) : ∀ j u, (vI (l.drop c))[j]? = some u → w.cell? ((a.add c).add j) = some u := by
  intro j u hj
  unfold vI at hj
  rw [List.getElem?_map] at hj
  obtain ⟨v, hv, rfl⟩ := Option.map_eq_some_iff.1 hj
  rw [List.getElem?_drop] at hv
  obtain ⟨b, off, e, _, hc⟩ := h (c + j) v hv
  injection e with e
  subst e
  rw [add_none, add_none, Nat.add_assoc]; exact hc

end Go.Proofs.YthccpdefgjneiaaDoor

/- Merging lines: the lists; the closure of Merge: the walk; an own list of lines with a count changed. -/
import Derived.Test.YthccpdefgjneiaaDoorOP5
import Derived.Test.YthccpdefgjneiaaDoorOwn8
import Derived.Test.YthccpdefgjneiaaDoorOP1
import Derived.Test.YthccpdefgjneiaaDoorOM4
namespace Go.Proofs.YthccpdefgjneiaaDoor
open Go.RowKit Go.Shelf Go.Maps
set_option linter.unusedSimpArgs false

def keyG (g : GT) : ByteArray × Int × Int := (g.m, g.c, g.z)
def sameK (a b : GT) : Bool := decide (a.m = b.m) && (decide (a.c = b.c) && decide (a.z = b.z))
theorem sameK_iff {a b : GT} : sameK a b = true ↔ keyG a = keyG b := by unfold sameK keyG; simp
def bump (y x : GT) : GT := ⟨y.m, y.c, y.z, wrap64 (y.n + x.n)⟩
def bumpAll (acc : List GT) (x : GT) : List GT := acc.map fun y => if sameK y x then bump y x else y
def addG (acc : List GT) (x : GT) : List GT := if acc.any (fun o => sameK o x) then bumpAll acc x else acc ++ [x]
def mergeK (ls : List GT) (k : Nat) : List GT := (ls.take k).foldl addG []
theorem merge_succ {ls : List GT} {k : Nat} {x : GT} (h : ls[k]? = some x) : mergeK ls (k + 1) = addG (mergeK ls k) x := by unfold mergeK; rw [take_succ_of h, List.foldl_append]; rfl
theorem bump_key (y x : GT) : keyG (bump y x) = keyG y := rfl
theorem bumpAll_keys (acc : List GT) (x : GT) : (bumpAll acc x).map keyG = acc.map keyG := by
  unfold bumpAll
  rw [List.map_map]
  apply List.map_congr_left
  intro y _
  show keyG (if sameK y x then bump y x else y) = keyG y
  split
  · exact bump_key y x
  · rfl
theorem bumpAll_len (acc : List GT) (x : GT) : (bumpAll acc x).length = acc.length := by unfold bumpAll; rw [List.length_map]
theorem bumpAll_none {acc : List GT} {x : GT} (h : (acc.any fun o => sameK o x) = false) : bumpAll acc x = acc := by
  unfold bumpAll
  conv => rhs; rw [← List.map_id acc]
  apply List.map_congr_left
  intro y hy
  rw [if_neg]; rfl
  intro hs
  rw [List.any_eq_false] at h
  exact h y hy hs
theorem add_nodup {acc : List GT} {x : GT} (h : (acc.map keyG).Nodup) : ((addG acc x).map keyG).Nodup := by
  unfold addG
  split
  · rw [bumpAll_keys]; exact h
  · next hn =>
    rw [List.map_append, List.nodup_append]
    refine ⟨h, by simp, ?_⟩
    intro a ha b hb
    simp at hb
    subst hb
    intro e
    subst e
    obtain ⟨y, hy, hk⟩ := List.mem_map.1 ha
    exact hn (List.any_eq_true.2 ⟨y, hy, sameK_iff.2 hk⟩)
theorem merge_nodup (ls : List GT) : ∀ k, ((mergeK ls k).map keyG).Nodup
  | 0 => by unfold mergeK; simp
  | k + 1 => by
    cases h : ls[k]? with
    | none =>
      have hl := List.getElem?_eq_none_iff.1 h
      have e : mergeK ls (k + 1) = mergeK ls k := by unfold mergeK; rw [List.take_of_length_le (by omega), List.take_of_length_le hl]
      rw [e]; exact merge_nodup ls k
    | some x => rw [merge_succ h]; exact add_nodup (merge_nodup ls k)
theorem add_len (acc : List GT) (x : GT) : (addG acc x).length ≤ acc.length + 1 := by
  unfold addG
  split
  · rw [bumpAll_len]; omega
  · simp
theorem merge_len (ls : List GT) : ∀ k, (mergeK ls k).length ≤ k
  | 0 => by unfold mergeK; simp
  | k + 1 => by
    cases h : ls[k]? with
    | none =>
      have hl := List.getElem?_eq_none_iff.1 h
      have e : mergeK ls (k + 1) = mergeK ls k := by unfold mergeK; rw [List.take_of_length_le (by omega), List.take_of_length_le hl]
      rw [e]; exact Nat.le_succ_of_le (merge_len ls k)
    | some x => rw [merge_succ h]; have := add_len (mergeK ls k) x; have := merge_len ls k; omega
theorem nodup_idx {l : List GT} (h : (l.map keyG).Nodup) {i j : Nat} {p q : GT} (hi : l[i]? = some p) (hj : l[j]? = some q) (e : keyG p = keyG q) : i = j := by
  obtain ⟨h1, e1⟩ := List.getElem?_eq_some_iff.1 hi
  obtain ⟨h2, e2⟩ := List.getElem?_eq_some_iff.1 hj
  rw [List.nodup_iff_pairwise_ne, List.pairwise_iff_getElem] at h
  rcases Nat.lt_trichotomy i j with hlt | rfl | hlt
  · exact ((h i j (by simpa using h1) (by simpa using h2) hlt) (by simp [e1, e2, e])).elim
  · rfl
  · exact ((h j i (by simpa using h2) (by simpa using h1) hlt) (by simp [e1, e2, e])).elim
/-- Of a list with no key twice, all that is changed is the one element with the key. -/
theorem set_bump {acc : List GT} {x p : GT} {j : Nat} (h : (acc.map keyG).Nodup) (hj : acc[j]? = some p) (hs : sameK p x = true) : acc.set j (bump p x) = addG acc x := by
  unfold addG
  rw [if_pos (List.any_eq_true.2 ⟨p, List.mem_of_getElem? hj, hs⟩)]
  apply List.ext_getElem?
  intro i
  unfold bumpAll
  rw [List.getElem?_map, List.getElem?_set]
  by_cases e : j = i
  · subst e
    rw [if_pos rfl, if_pos (List.getElem?_eq_some_iff.1 hj).1, hj]
    show _ = some (if sameK p x then bump p x else p)
    rw [if_pos hs]
  · rw [if_neg e]
    cases hi : acc[i]? with
    | none => rfl
    | some q =>
      show some q = some (if sameK q x then bump q x else q)
      rw [if_neg]
      intro hq
      exact e (nodup_idx h hj hi ((sameK_iff.1 hs).trans (sameK_iff.1 hq).symm))
theorem flatG_set {l : List GT} {i : Nat} {p : GT} (y : Int) (h : l[i]? = some p) : (flatG l).set (i * 4 + 3) (.int .i64 y) = flatG (l.set i ⟨p.m, p.c, p.z, y⟩) := by
  induction l generalizing i with
  | nil => simp at h
  | cons a l ih =>
    cases i with
    | zero => simp at h; subst h; rfl
    | succ i =>
      rw [flatG_cons, show (i + 1) * 4 + 3 = i * 4 + 3 + 1 + 1 + 1 + 1 by omega, List.set_cons_succ, List.set_cons_succ, List.set_cons_succ, List.set_cons_succ, ih (by simpa using h), List.set_cons_succ, flatG_cons]
/-- The count of a line of an own list is changed. -/
theorem own8G_set {w : World} {B g c j : Nat} {l : List GT} {p : GT} (h : Own8G w B (.slice (some ⟨g, 0, none⟩) l.length c) l) (hp : l[j]? = some p) (y : Int) :
    Own8G (w.setCell ⟨g, j * 4 + 3, none⟩ (.int .i64 y)) B (.slice (some ⟨g, 0, none⟩) l.length c) (l.set j ⟨p.m, p.c, p.z, y⟩) ∧ w.grownBy (w.setCell ⟨g, j * 4 + 3, none⟩ (.int .i64 y)) (some g) := by
  have s := h.stored (j * 4 + 3) (.int .i64 y)
  refine ⟨?_, s.2⟩
  show World.ownsRow _ _ _ _ _ (l.set j _).length _
  rw [List.length_set, ← flatG_set y hp]
  exact s.1
theorem own8G_form {w : World} {B : Nat} {v : Value} {l : List GT} (h : Own8G w B v l) {j : Nat} {p : GT} (hp : l[j]? = some p) : ∃ g c, v = .slice (some ⟨g, 0, none⟩) l.length c ∧ B ≤ g ∧ g < w.heap.size ∧ (w.cell? ⟨g, j * 4, none⟩ = some (.string p.m) ∧ w.cell? ⟨g, j * 4 + 1, none⟩ = some (.int .i64 p.c) ∧ w.cell? ⟨g, j * 4 + 2, none⟩ = some (.int .i64 p.z) ∧ w.cell? ⟨g, j * 4 + 3, none⟩ = some (.int .i64 p.n)) ∧ w.frozen? ⟨g, j * 4 + 3, none⟩ = false := by
  have hlt := (List.getElem?_eq_some_iff.1 hp).1
  rcases h.2 with ⟨_, hn⟩ | ⟨g, cap, cur, rfl, hB, hg, h1, h2, h3, h4⟩
  · omega
  · obtain ⟨f0, f1, f2, f3⟩ := flatG_get hp
    have c0 := h.cells (g := g) rfl _ _ f0
    have c1 := h.cells (g := g) rfl _ _ f1
    have c2 := h.cells (g := g) rfl _ _ f2
    have c3 := h.cells (g := g) rfl _ _ f3
    rw [add_none, Nat.zero_add] at c0 c1 c2 c3
    exact ⟨g, cap, rfl, hB, (Array.getElem?_eq_some_iff.1 hg).1, ⟨c0, c1, c2, c3⟩, by simp [World.frozen?, hg]⟩
set_option maxRecDepth 100000 in
set_option maxHeartbeats 1000000 in
theorem merge1_any (p x : GT) (B : Nat) (w : World) (hB : B < w.heap.size) (hx : AtG w B x) : Calls Tryd.prog 76 #[valG p, .pointer (some ⟨B, 0, none⟩)] w (Ret (.bool (sameK p x)) w) := by
  obtain ⟨x0, x1, x2, x3⟩ := hx
  have h1 := str_eq p.m x.m
  go_enter Tryd.func76, Tryd.ntmps76
  go_wp2
  all_goals
    go_ret
    exact Ret.mk (by congr 1; unfold sameK; simp_all) ((Below.refl w.heap.size w).alloc (Nat.le_refl _) _)
end Go.Proofs.YthccpdefgjneiaaDoor

/- slices.SortFunc of corners by lower: an own list sorted. -/
import Derived.Test.YtcbphodkaiknmaaHW2
namespace Go.Proofs.Ytcbphodkaiknmaa
open Go.RowKit Go.Lib Go.Sort Go.Shelf

theorem put_take (cur : Array Value) (M : Array BXY) (h : M.size * 2 ≤ cur.size) : (putCells id 0 (flatK encB 2 M) cur).toList.take (M.size * 2) = flat (M.toList.map (·.1)) := by
  rw [← flatK_B]
  apply List.ext_getElem?
  intro i
  rw [List.getElem?_take]
  by_cases hi : i < M.size * 2
  · rw [if_pos hi, Array.getElem?_toList, Array.getElem?_toList]
    have hs : i < (flatK encB 2 M).size := by simpa using hi
    unfold putCells
    rw [Array.getElem?_mapIdx, Array.getElem?_eq_getElem (by omega : i < cur.size)]
    simp only [Option.map_some, Nat.zero_le, Nat.zero_add, true_and, Nat.sub_zero, id]
    rw [if_pos hs, Array.getElem?_eq_getElem hs, getElem!_pos _ i hs]
  · rw [if_neg hi, List.getElem?_eq_none (by simp; omega)]
set_option maxRecDepth 100000 in
set_option maxHeartbeats 1000000 in
theorem sort_any (g c : Nat) (l : List XY) (w : World) (B : Nat) (hb : ∀ x ∈ l, Bd 5000 x) (hm : l.length ≤ 1000000) (hown : OwnL w B (.slice (some ⟨g, 0, none⟩) l.length c) l) :
    Calls Try.prog 13 #[.slice (some ⟨g, 0, none⟩) l.length c, .func (.func 14) #[] #[]] w fun e w' => e = .returned (.tuple #[]) ∧ ∃ L, L.Perm l ∧ L.Pairwise (fun a b => ¬ lx b a) ∧ OwnL w' B (.slice (some ⟨g, 0, none⟩) l.length c) L ∧ w.grownBy w' (some g) := by
  obtain ⟨dl, hdl⟩ : ∃ dl : List BXY, dl.map (·.1) = l := ⟨l.attach.map fun x => ⟨x.1, hb x.1 x.2⟩, by rw [List.map_map]; simp [Function.comp_def]⟩
  have hlen : dl.length = l.length := by rw [← hdl, List.length_map]
  have hO := hown
  unfold OwnL at hO
  rcases hO.2 with ⟨e, _⟩ | ⟨g', cap, cur, e, hB, hg, h1, h2, h3, h4⟩
  · cases e
  injection e with e1 e2 e3
  injection e1 with e1
  injection e1 with e1
  subst e1 e3
  have hgs : g < w.heap.size := (Array.getElem?_eq_some_iff.1 hg).1
  have hfl : (flatK encB 2 dl.toArray).toList = flat l := by rw [flatK_B]; simp [hdl]
  have hH : HoldsK encB 2 w g 0 dl.toArray := by
    intro j hj
    have hj2 : j < l.length * 2 := by rw [size_flatK] at hj; simpa [hlen] using hj
    refine ⟨?_, by simp [World.frozen?, hg]⟩
    have hc := hO.cellAt j hj2
    rw [Nat.zero_add, hc, ← hfl, Array.getElem?_toList, Array.getElem?_eq_getElem hj, getElem!_pos _ j hj]; rfl
  have hcon := AnyQ.slices_SortFunc_total Try.sortXY 2 Try.isAgg29 Try.sizeOf29 encB (fun _ => rfl) (fun x v hv => by simp [encB] at hv; rcases hv with rfl | rfl <;> rfl) cfB swoB 14 #[] g 0 c dl.toArray w
    (enters_of Try.func14 (by kernel_rfl) rfl) (fun m os dk _ x y => lower_grow x.1 y.1 _) hH hgs (by simp; omega) totB
  change Calls Try.prog 13 _ _ _ at hcon
  have hsz : dl.toArray.size = l.length := by simpa using hlen
  rw [hsz] at hcon
  refine hcon.mono ?_
  rintro e w' ⟨rfl, n, os, rfl⟩
  refine ⟨rfl, ?_⟩
  obtain ⟨M, hM⟩ : ∃ M, dl.toArray.toList.mergeSort (fun x y => !(ltOf cfB) y x) = M := ⟨_, rfl⟩
  have hperm : M.Perm dl := by rw [← hM]; simpa using List.mergeSort_perm dl _
  have hsorted : M.Pairwise (fun x y => (!(ltOf cfB) y x) = true) := by
    rw [← hM]
    refine List.pairwise_mergeSort (fun a b c h1 h2 => ?_) (fun a b => ?_) _
    · simp only [Bool.not_eq_true'] at h1 h2 ⊢
      exact swoB.ntrans c b a h2 h1
    · cases hab : ltOf cfB b a
      · simp
      · have : ltOf cfB a b = false := by
          cases hba : ltOf cfB a b
          · rfl
          · have := swoB.trans a b a hba hab
            rw [swoB.irrefl] at this; cases this
        simp [this]
  rw [hM]
  have hMl : M.length = l.length := by rw [hperm.length_eq, hlen]
  have hMod : ∀ (n : Nat) (os : Array Obj) (M : List BXY) (k : Nat), k < w.heap.size → (sortWorldK encB 2 w g 0 n M.toArray os).heap[k]? = (w.heap.modify g (onCells (putCells id 0 (flatK encB 2 M.toArray))))[k]? := fun n os M k hk => by
    show ((w.heap.modify g (onCells (putCells id 0 (flatK encB 2 M.toArray)))) ++ os)[k]? = _
    rw [Array.getElem?_append_left (by simpa using hk)]
  refine ⟨M.map (·.1), by rw [← hdl]; exact hperm.map _, ?_, ?_, ?_⟩
  · rw [List.pairwise_map]
    refine hsorted.imp ?_
    intro a b h
    simp only [Bool.not_eq_true'] at h
    exact (ltB_false b a).1 h
  · have hcur : cur.size = c * 2 := h3
    have hmod := hMod n os M g hgs
    have hh : (sortWorldK encB 2 w g 0 n M.toArray os).heap[g]? = some (.cells (putCells id 0 (flatK encB 2 M.toArray) cur) 29 (0, 0)) := by
      rw [hmod, Array.getElem?_modify, if_pos rfl, hg]; rfl
    unfold OwnL
    rw [List.length_map]
    refine ⟨by rw [flat_length, List.length_map], .inr ⟨g, c, _, by rw [hMl], hB, hh, by omega, h2, by simp [putCells, hcur], ?_⟩⟩
    have := put_take cur M.toArray (by simp; omega)
    simpa using this
  · refine ⟨rfl, rfl, rfl, ?_, fun k hk hne => ?_⟩
    · unfold sortWorldK putRowK putRow mapBlock grow Sort.ahead; simp
    · have hkg : g ≠ k := fun e => hne (by rw [e])
      rw [hMod n os M k hk, Array.getElem?_modify, if_neg hkg]
end Go.Proofs.Ytcbphodkaiknmaa

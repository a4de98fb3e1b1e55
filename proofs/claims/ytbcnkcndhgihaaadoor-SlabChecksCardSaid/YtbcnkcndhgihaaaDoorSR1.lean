/- Blocks: the reader: take: the walk. -/
import Derived.Test.YtbcnkcndhgihaaaDoorMathP1
import Derived.Test.YtbcnkcndhgihaaaDoorSOwn
import Derived.Test.YtbcnkcndhgihaaaDoorRead
import Derived.Lib.BufferWrite
namespace Go.Proofs.YtbcnkcndhgihaaaDoor
open Go.RowKit Go.Shelf
set_option linter.unusedSimpArgs false

/-- A reader in its block. -/
def RdrX (w : World) (k : Nat) (r : Bs) : Prop := w.heap[k]? = some (.cells #[.string ⟨r.toArray⟩] 102 (0, 0))
theorem RdrX.c {w : World} {k : Nat} {r : Bs} (h : RdrX w k r) : w.cell? ⟨k, 0, none⟩ = some (.string ⟨r.toArray⟩) ∧ w.frozen? ⟨k, 0, none⟩ = false := by
  unfold RdrX at h
  exact ⟨by simp [World.cell?, h], by simp [World.frozen?, h]⟩
theorem RdrX.set {w : World} {k : Nat} {r : Bs} (h : RdrX w k r) (q : Bs) : RdrX (w.setCell ⟨k, 0, none⟩ (.string ⟨q.toArray⟩)) k q := by
  unfold RdrX at h ⊢
  simp [World.setCell, Array.getElem?_modify, h]
theorem RdrX.below {w w' : World} {k B : Nat} {r : Bs} (h : RdrX w k r) (hb : Below B w w') (hk : k < B) : RdrX w' k r := (hb.block k hk).trans h
theorem RdrX.lt {w : World} {k : Nat} {r : Bs} (h : RdrX w k r) : k < w.heap.size := (Array.getElem?_eq_some_iff.1 h).1
def tkS (t r : Bs) : Bs := if preB r t then r.drop t.length else r
set_option maxRecDepth 100000 in
theorem take_any (k : Nat) (r t : Bs) (w : World) (h : RdrX w k r) : Calls Tryd.prog 94 #[.pointer (some ⟨k, 0, none⟩), .string ⟨t.toArray⟩] w fun e w' => e = .returned (.bool (preB r t)) ∧ w' = w.setCell ⟨k, 0, none⟩ (.string ⟨(tkS t r).toArray⟩) := by
  have hcon := Any.strings_CutPrefix Tryd.lays103 ⟨r.toArray⟩ ⟨t.toArray⟩ w
  change Calls Tryd.prog 102 _ _ (fun e w' => e = .returned (.tuple #[.string ⟨(tkS t r).toArray⟩, .bool (preB r t)]) ∧ w' = w) at hcon
  have HCON := Lib.hid hcon
  clear hcon
  obtain ⟨c0, c1⟩ := h.c
  go_enter Tryd.func94, Tryd.ntmps94
  go_wp2_with fail
  refine HCON.out.mono ?_
  rintro e w9 ⟨rfl, rfl⟩
  go_wp2
  go_ret
  exact ⟨rfl, rfl⟩
end Go.Proofs.YtbcnkcndhgihaaaDoor

/- Arguments that are lists of corners, opened. -/
import Derived.Test.YtimehkeaeffcaaaRows
import Derived.Test.YtimehkeaeffcaaaBase
import Derived.ProofKit
import Derived.Deep.Slices
import Derived.Deep.Fields
import Derived.ChangeSame
import Derived.SizedLaws
import Derived.Lib.RowBridge
namespace Go.Proofs.Ytimehkeaeffcaaa
open Go.ChangeShapes Go.WideShapes Go.ChangeAt Go.RowKit Go.Deep

theorem Try.own : ownKnob Try.prog.godebug = none := by kernel_rfl
theorem Try.laidOut : laidOutB Try.prog = true := by kernel_rfl

section
variable {H : Type} {enc : TypeId × Value → H} {w : World} {base : Nat} {spare : Nat → Bool} {held : Bool}
/-- A slice of corners that came in: its corners as a list. -/
theorem open_xys {fuel : Nat} {v : Value} {x : DataW H × List MemPlace} {r : Reach} {b0 : Nat} (hv : Value.okWide Try.prog w r b0 22 v) (h : DataW.trod enc Try.prog w base spare held fuel 22 v.cells.toList = some x) : ∃ (A : Option Addr) (l : List XY) (c : Nat), v = .slice A l.length c ∧ Rd w w.heap.size A l := by
  obtain ⟨a0, len, cap, rfl⟩ := okWide_slice Try.underlying22 hv
  have h2 : Try.prog.cellsOf 37 = 2 := by kernel_rfl
  rcases open_slice Try.underlying22 h with ⟨h0, _⟩ | ⟨a, len', cap', m, fl, D, Pl, hcs, hb, hl, hm, hmm, hx, hi⟩
  · simp [Value.cells] at h0
    obtain ⟨rfl, rfl, rfl⟩ := h0
    exact ⟨none, [], 0, rfl, fun i p hp => by simp at hp⟩
  · simp [Value.cells] at hcs
    obtain ⟨rfl, rfl, rfl⟩ := hcs
    have hlm : len ≤ m := by rw [hmm]; split <;> omega
    have H1 : ∀ i : Nat, ∃ p : XY, i < len → w.cell? (a.add (i * 2)) = some (.int .i64 p.X) ∧ w.cell? (a.add (i * 2 + 1)) = some (.int .i64 p.Y) := by
      intro i
      by_cases hlt : i < len
      · obtain ⟨cs, hcells, htr⟩ := hi i (by omega)
        rw [h2] at hcells
        obtain ⟨_, hlen, hat⟩ := World.cells?_some hcells
        match cs, hlen with
        | [u, v], _ =>
          obtain ⟨ys, n, _, _, _, hyl, hf⟩ := DataW.trod_struct Try.underlying37 htr
          have hyl2 : ys.length = 2 := hyl
          have c3 : Try.prog.cellsOf 3 = 1 := by kernel_rfl
          have f0 := (hf 0 _ rfl).trans (List.getElem?_eq_getElem (by omega))
          have f1 := (hf 1 _ rfl).trans (List.getElem?_eq_getElem (by omega))
          simp only [List.getElem_toArray, List.getElem_cons_zero, List.getElem_cons_succ, c3] at f0 f1
          obtain ⟨x0, e0, _, _⟩ := DataW.trod_int Try.underlying3 f0
          obtain ⟨x1, e1, _, _⟩ := DataW.trod_int Try.underlying3 f1
          simp at e0 e1
          subst e0 e1
          refine ⟨⟨x0, x1⟩, fun _ => ⟨?_, ?_⟩⟩
          · have := hat 0 (by omega); rw [add_add] at this; simpa using this
          · have := hat 1 (by omega); rw [add_add] at this; simpa using this
      · exact ⟨⟨0, 0⟩, fun h => absurd h hlt⟩
    obtain ⟨f, hf⟩ := Classical.axiomOfChoice H1
    refine ⟨some a, (List.range len).map f, cap, by simp, ?_⟩
    intro i p hp
    have hlt : i < len := by
      have := (List.getElem?_eq_some_iff.1 hp).1; simpa using this
    obtain rfl : f i = p := by simpa [hlt] using hp
    obtain ⟨b, off, sp⟩ := a
    have hsp : sp = none := by
      have h0 := (hf 0 (by omega)).1
      cases sp with
      | none => rfl
      | some q => simp [Addr.add, World.cell?] at h0; split at h0 <;> simp at h0
    subst hsp
    have hadd : ∀ k : Nat, (⟨b, off, none⟩ : Addr).add k = ⟨b, off + k, none⟩ := by
      intro k; unfold Addr.add; split <;> simp_all
    have h1 := hf i hlt
    rw [hadd, hadd] at h1
    exact ⟨b, off, rfl, World.block_lt_of_cell? w _ h1.1, h1.1, by rw [Nat.add_assoc]; exact h1.2⟩
end
end Go.Proofs.Ytimehkeaeffcaaa

/- Arguments opened: lists of numbers, numbers; what the rows of the orders list. -/
import Derived.Test.YthccpdefgjneiaaDoorRows
import Derived.Test.YthccpdefgjneiaaDoorTie
import Derived.Test.YthccpdefgjneiaaDoorOW1
import Derived.ProofKit
import Derived.Deep.Slices
import Derived.Deep.Fields
import Derived.ChangeSame
import Derived.SizedLaws
import Derived.Lib.RowBridge
import Derived.Carry
import Derived.OpenShut
import Derived.LaidMore
import Derived.Lay
import Derived.SevenTiedAt
import Derived.Stop.Joined
namespace Go.Proofs.YthccpdefgjneiaaDoor
open Go.ChangeShapes Go.WideShapes Go.ChangeAt Go.RowKit Go.Deep

theorem Tryd.own : ownKnob Tryd.prog.godebug = none := by kernel_rfl
theorem Tryd.laidOut : laidOutB Tryd.prog = true := by kernel_rfl
def laid8 : List (String × DataW Unit) := [("unicode/utf8.acceptRanges", Rows.laid_unicode_utf8_acceptRanges), ("unicode/utf8.first", Rows.laid_unicode_utf8_first)]

section
variable {H : Type} {enc : TypeId × Value → H} {w : World} {base : Nat} {spare : Nat → Bool} {held : Bool}
theorem wf_i64' {n : Int} (h : (Lit.int .i64 n).wf = true) : -9223372036854775808 ≤ n ∧ n ≤ 9223372036854775807 := by
  simp [Lit.wf, IntKind.min, IntKind.max, IntKind.signed, IntKind.bits] at h; omega
theorem wf_u8' {n : Int} (h : (Lit.int .u8 n).wf = true) : 0 ≤ n ∧ n ≤ 255 := by
  simp [Lit.wf, IntKind.min, IntKind.max, IntKind.signed, IntKind.bits] at h; omega
set_option maxRecDepth 100000 in
/-- A slice of numbers that came in, as a list. -/
theorem open_is {fuel : Nat} {v : Value} {x : DataW H × List MemPlace} {r : Reach} {b0 : Nat} (hv : Value.okWide Tryd.prog w r b0 36 v) (h : DataW.trod enc Tryd.prog w base spare held fuel 36 v.cells.toList = some x) :
    ∃ (A : Option Addr) (l : List Int) (c : Nat), v = .slice A l.length c ∧ RdI w w.heap.size A l ∧ l.length ≤ c ∧ l.length ≤ maxLen ∧ ∀ n ∈ l, -9223372036854775808 ≤ n ∧ n ≤ 9223372036854775807 := by
  obtain ⟨a0, len, cap, rfl⟩ := okWide_slice Tryd.underlying36 hv
  rcases open_ints Tryd.underlying36 Tryd.underlying3 (by kernel_rfl) h with ⟨h0, _⟩ | ⟨a, len', cap', zs, hcs, hb, hl, hm, hz, hx, hi, hw⟩
  · simp [Value.cells] at h0
    obtain ⟨rfl, rfl, rfl⟩ := h0
    exact ⟨none, [], 0, rfl, fun i p hp => by simp at hp, Nat.le_refl _, Nat.zero_le _, fun n hn => by simp at hn⟩
  · simp [Value.cells] at hcs
    obtain ⟨rfl, rfl, rfl⟩ := hcs
    have hlz : len ≤ zs.length := by rw [hz]; split <;> omega
    have hlen : (zs.take len).length = len := by rw [List.length_take]; omega
    refine ⟨some a, zs.take len, cap, by rw [hlen], ?_, by omega, by omega, fun n hn => wf_i64' (hw n (List.mem_of_mem_take hn))⟩
    intro i p hp
    have hlt : i < len := by
      have := (List.getElem?_eq_some_iff.1 hp).1; omega
    have hp2 : zs[i]? = some p := by
      rw [List.getElem?_take] at hp
      rw [if_pos hlt] at hp
      exact hp
    obtain ⟨b, off, sp⟩ := a
    have h1 := hi i (by omega)
    have hsp : sp = none := by
      have h0 := hi 0 (by omega)
      cases sp with
      | none => rfl
      | some q => simp [Addr.add, World.cell?] at h0; split at h0 <;> simp at h0
    subst hsp
    have hadd : (⟨b, off, none⟩ : Addr).add i = ⟨b, off + i, none⟩ := by
      unfold Addr.add; split <;> simp_all
    rw [hadd, List.getD, hp2] at h1
    exact ⟨b, off, rfl, World.block_lt_of_cell? w _ h1, h1⟩
set_option maxRecDepth 100000 in
/-- The same, with what a nil slice is. -/
theorem open_is0 {fuel : Nat} {v : Value} {x : DataW H × List MemPlace} {r : Reach} {b0 : Nat} (hv : Value.okWide Tryd.prog w r b0 36 v) (h : DataW.trod enc Tryd.prog w base spare held fuel 36 v.cells.toList = some x) :
    ∃ (A : Option Addr) (l : List Int) (c : Nat), v = .slice A l.length c ∧ RdI w w.heap.size A l ∧ l.length ≤ c ∧ l.length ≤ maxLen ∧ (A = none → l = [] ∧ c = 0) ∧ ∀ n ∈ l, -9223372036854775808 ≤ n ∧ n ≤ 9223372036854775807 := by
  obtain ⟨a0, len, cap, rfl⟩ := okWide_slice Tryd.underlying36 hv
  rcases open_ints Tryd.underlying36 Tryd.underlying3 (by kernel_rfl) h with ⟨h0, _⟩ | ⟨a, len', cap', zs, hcs, hb, hl, hm, hz, hx, hi, hw⟩
  · simp [Value.cells] at h0
    obtain ⟨rfl, rfl, rfl⟩ := h0
    exact ⟨none, [], 0, rfl, fun i p hp => by simp at hp, Nat.le_refl _, Nat.zero_le _, fun _ => ⟨rfl, rfl⟩, fun n hn => by simp at hn⟩
  · simp [Value.cells] at hcs
    obtain ⟨rfl, rfl, rfl⟩ := hcs
    have hlz : len ≤ zs.length := by rw [hz]; split <;> omega
    have hlen : (zs.take len).length = len := by rw [List.length_take]; omega
    refine ⟨some a, zs.take len, cap, by rw [hlen], ?_, by omega, by omega, (fun h => by cases h), fun n hn => wf_i64' (hw n (List.mem_of_mem_take hn))⟩
    intro i p hp
    have hlt : i < len := by
      have := (List.getElem?_eq_some_iff.1 hp).1; omega
    have hp2 : zs[i]? = some p := by
      rw [List.getElem?_take] at hp
      rw [if_pos hlt] at hp
      exact hp
    obtain ⟨b, off, sp⟩ := a
    have h1 := hi i (by omega)
    have hsp : sp = none := by
      have h0 := hi 0 (by omega)
      cases sp with
      | none => rfl
      | some q => simp [Addr.add, World.cell?] at h0; split at h0 <;> simp at h0
    subst hsp
    have hadd : (⟨b, off, none⟩ : Addr).add i = ⟨b, off + i, none⟩ := by
      unfold Addr.add; split <;> simp_all
    rw [hadd, List.getD, hp2] at h1
    exact ⟨b, off, rfl, World.block_lt_of_cell? w _ h1, h1⟩
end
end Go.Proofs.YthccpdefgjneiaaDoor

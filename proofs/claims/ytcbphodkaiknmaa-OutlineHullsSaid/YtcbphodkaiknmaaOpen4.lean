/- Arguments opened: lists of corners, corners, numbers. -/
import Derived.Test.YtcbphodkaiknmaaRows
import Derived.Test.YtcbphodkaiknmaaBaseM
import Derived.ProofKit
import Derived.Deep.Slices
import Derived.Deep.Fields
import Derived.ChangeSame
import Derived.SizedLaws
import Derived.Lib.RowBridge
import Derived.Carry
import Derived.OpenShut
namespace Go.Proofs.Ytcbphodkaiknmaa
open Go.ChangeShapes Go.WideShapes Go.ChangeAt Go.RowKit Go.Deep

theorem Try.own : ownKnob Try.prog.godebug = none := by kernel_rfl
theorem Try.laidOut : laidOutB Try.prog = true := by kernel_rfl

section
variable {H : Type} {enc : TypeId × Value → H} {w : World} {base : Nat} {spare : Nat → Bool} {held : Bool}
set_option maxRecDepth 100000 in
/-- A slice of corners that came in: its corners as a list. -/
theorem open_xys {fuel : Nat} {v : Value} {x : DataW H × List MemPlace} {r : Reach} {b0 : Nat} (hv : Value.okWide Try.prog w r b0 22 v) (h : DataW.trod enc Try.prog w base spare held fuel 22 v.cells.toList = some x) : ∃ (A : Option Addr) (l : List XY) (c : Nat), v = .slice A l.length c ∧ Rd w w.heap.size A l := by
  obtain ⟨a0, len, cap, rfl⟩ := okWide_slice Try.underlying22 hv
  have h2 : Try.prog.cellsOf 29 = 2 := by kernel_rfl
  rcases open_slice Try.underlying22 h with ⟨h0, _⟩ | ⟨a, len', cap', m, fl, D, Pl, hcs, hb, hl, hm, hmm, hx, hi⟩
  · simp [Value.cells] at h0
    obtain ⟨rfl, rfl, rfl⟩ := h0
    exact ⟨none, [], 0, rfl, fun i p hp => by simp at hp⟩
  · simp [Value.cells] at hcs
    obtain ⟨rfl, rfl, rfl⟩ := hcs
    have hlm : len ≤ m := by rw [hmm]; split <;> omega
    have H1 : ∀ i : Nat, ∃ p : XY, i < len → w.cell? (a.add (i * 2)) = some (.int .i64 p.X) ∧ w.cell? (a.add (i * 2 + 1)) = some (.int .i64 p.Y) := by
      intro i
      by_cases hlt : i < len
      · obtain ⟨cs, hcells, htr⟩ := hi i (by omega)
        rw [h2] at hcells
        obtain ⟨_, hlen, hat⟩ := World.cells?_some hcells
        match cs, hlen with
        | [u, v], _ =>
          obtain ⟨ys, n, _, _, _, hyl, hf⟩ := DataW.trod_struct Try.underlying29 htr
          have hyl2 : ys.length = 2 := hyl
          have c3 : Try.prog.cellsOf 3 = 1 := by kernel_rfl
          have f0 := (hf 0 _ rfl).trans (List.getElem?_eq_getElem (by omega))
          have f1 := (hf 1 _ rfl).trans (List.getElem?_eq_getElem (by omega))
          simp only [List.getElem_toArray, List.getElem_cons_zero, List.getElem_cons_succ, c3] at f0 f1
          obtain ⟨x0, e0, _, _⟩ := DataW.trod_int Try.underlying3 f0
          obtain ⟨x1, e1, _, _⟩ := DataW.trod_int Try.underlying3 f1
          simp at e0 e1
          subst e0 e1
          refine ⟨⟨x0, x1⟩, fun _ => ⟨?_, ?_⟩⟩
          · have := hat 0 (by omega); rw [add_add] at this; simpa using this
          · have := hat 1 (by omega); rw [add_add] at this; simpa using this
      · exact ⟨⟨0, 0⟩, fun h => absurd h hlt⟩
    obtain ⟨f, hf⟩ := Classical.axiomOfChoice H1
    refine ⟨some a, (List.range len).map f, cap, by simp, ?_⟩
    intro i p hp
    have hlt : i < len := by
      have := (List.getElem?_eq_some_iff.1 hp).1; simpa using this
    obtain rfl : f i = p := by simpa [hlt] using hp
    obtain ⟨b, off, sp⟩ := a
    have hsp : sp = none := by
      have h0 := (hf 0 (by omega)).1
      cases sp with
      | none => rfl
      | some q => simp [Addr.add, World.cell?] at h0; split at h0 <;> simp at h0
    subst hsp
    have hadd : ∀ k : Nat, (⟨b, off, none⟩ : Addr).add k = ⟨b, off + k, none⟩ := by
      intro k; unfold Addr.add; split <;> simp_all
    have h1 := hf i hlt
    rw [hadd, hadd] at h1
    exact ⟨b, off, rfl, World.block_lt_of_cell? w _ h1.1, h1.1, by rw [Nat.add_assoc]; exact h1.2⟩
end
end Go.Proofs.Ytcbphodkaiknmaa

namespace Go.Proofs.Ytcbphodkaiknmaa
open Go.ChangeShapes Go.WideShapes Go.ChangeAt Go.RowKit Go.Deep

section
variable {H : Type} {enc : TypeId × Value → H} {w : World} {base : Nat} {spare : Nat → Bool} {held : Bool}
set_option maxRecDepth 100000 in
/-- A corner that came in. -/
theorem open_xy {v : Value} {d : DataW H} {ps : List MemPlace} {r : Reach} {b0 : Nat} (hv : Value.okWide Try.prog w r b0 29 v) (h : DataW.Trod enc Try.prog w base spare held 29 v d ps) : ∃ p : XY, v = xyv p := by
  obtain ⟨cs, rfl, hcs⟩ := okWide_struct Try.underlying29 hv
  have h2 : Try.prog.cellsOf 29 = 2 := by kernel_rfl
  rw [h2] at hcs
  obtain ⟨fuel, htr⟩ := h
  obtain ⟨cl⟩ := cs
  match cl, hcs with
  | [u, v], _ =>
    obtain ⟨ys, n, _, _, _, hyl, hf⟩ := DataW.trod_struct Try.underlying29 htr
    have hyl2 : ys.length = 2 := hyl
    have c3 : Try.prog.cellsOf 3 = 1 := by kernel_rfl
    have f0 := (hf 0 _ rfl).trans (List.getElem?_eq_getElem (by omega))
    have f1 := (hf 1 _ rfl).trans (List.getElem?_eq_getElem (by omega))
    simp only [List.getElem_toArray, List.getElem_cons_zero, List.getElem_cons_succ, c3] at f0 f1
    obtain ⟨x0, e0, _, _⟩ := DataW.trod_int Try.underlying3 f0
    obtain ⟨x1, e1, _, _⟩ := DataW.trod_int Try.underlying3 f1
    simp [Value.cells] at e0 e1
    subst e0 e1
    exact ⟨⟨x0, x1⟩, rfl⟩

theorem trodAll_five {t1 t2 t3 t4 t5 : TypeId} {args : Array Value} {ds : List (DataW H)} {ps : List MemPlace} (h : DataW.TrodAll enc Try.prog w base spare held [t1, t2, t3, t4, t5] args.toList ds ps) :
    ∃ v1 v2 v3 v4 v5 d1 d2 d3 d4 d5 p1 p2 p3 p4 p5, args = #[v1, v2, v3, v4, v5] ∧ ds = [d1, d2, d3, d4, d5] ∧ ps = p1 ++ (p2 ++ (p3 ++ (p4 ++ p5))) ∧
      DataW.Trod enc Try.prog w base spare held t1 v1 d1 p1 ∧ DataW.Trod enc Try.prog w base spare held t2 v2 d2 p2 ∧ DataW.Trod enc Try.prog w base spare held t3 v3 d3 p3 ∧
      DataW.Trod enc Try.prog w base spare held t4 v4 d4 p4 ∧ DataW.Trod enc Try.prog w base spare held t5 v5 d5 p5 := by
  obtain ⟨v1, vs1, d1, ds1, p1, q1, e1, rfl, rfl, h1, h⟩ := trodAll_cons h
  obtain ⟨v2, vs2, d2, ds2, p2, q2, e2, rfl, rfl, h2, h⟩ := trodAll_cons h
  obtain ⟨v3, vs3, d3, ds3, p3, q3, e3, rfl, rfl, h3, h⟩ := trodAll_cons h
  obtain ⟨v4, vs4, d4, ds4, p4, q4, e4, rfl, rfl, h4, h⟩ := trodAll_cons h
  obtain ⟨v5, vs5, d5, ds5, p5, q5, e5, rfl, rfl, h5, h⟩ := trodAll_cons h
  obtain ⟨rfl, rfl, rfl⟩ := trodAll_nil h
  subst e2 e3 e4 e5
  obtain ⟨al⟩ := args
  simp at e1
  subst e1
  exact ⟨v1, v2, v3, v4, v5, d1, d2, d3, d4, d5, p1, p2, p3, p4, p5, rfl, rfl, by simp, h1, h2, h3, h4, h5⟩
theorem trodAll_mk5 {t1 t2 t3 t4 t5 : TypeId} {v1 v2 v3 v4 v5 : Value} {d1 d2 d3 d4 d5 : DataW H} {p1 p2 p3 p4 p5 : List MemPlace}
    (h1 : DataW.Trod enc Try.prog w base spare held t1 v1 d1 p1) (h2 : DataW.Trod enc Try.prog w base spare held t2 v2 d2 p2) (h3 : DataW.Trod enc Try.prog w base spare held t3 v3 d3 p3)
    (h4 : DataW.Trod enc Try.prog w base spare held t4 v4 d4 p4) (h5 : DataW.Trod enc Try.prog w base spare held t5 v5 d5 p5) :
    DataW.TrodAll enc Try.prog w base spare held [t1, t2, t3, t4, t5] [v1, v2, v3, v4, v5] [d1, d2, d3, d4, d5] (p1 ++ (p2 ++ (p3 ++ (p4 ++ p5)))) :=
  trodAll_cons_mk h1 (trodAll_mk4 h2 h3 h4 h5)
end
end Go.Proofs.Ytcbphodkaiknmaa

namespace Go.Proofs.Ytcbphodkaiknmaa
theorem wf_u8 {n : Int} (h : (Lit.int .u8 n).wf = true) : 0 ≤ n ∧ n ≤ 255 := by
  simp only [Lit.wf, Bool.and_eq_true, decide_eq_true_eq] at h
  have e1 : IntKind.u8.min = 0 := by decide
  have e2 : IntKind.u8.max = 255 := by decide
  omega
theorem wf_i64 {n : Int} (h : (Lit.int .i64 n).wf = true) : -9223372036854775808 ≤ n ∧ n ≤ 9223372036854775807 := by
  simp only [Lit.wf, Bool.and_eq_true, decide_eq_true_eq] at h
  have e1 : IntKind.i64.min = -9223372036854775808 := by decide
  have e2 : IntKind.i64.max = 9223372036854775807 := by decide
  omega
end Go.Proofs.Ytcbphodkaiknmaa

namespace Go.Proofs.Ytcbphodkaiknmaa
open Go.ChangeShapes Go.WideShapes Go.ChangeAt Go.RowKit Go.Deep

section
variable {H : Type} {enc : TypeId × Value → H} {w : World} {base : Nat} {spare : Nat → Bool} {held : Bool}
set_option maxRecDepth 100000 in
/-- A slice of corners that came in: its corners as a list. -/
theorem open_xysc {fuel : Nat} {v : Value} {x : DataW H × List MemPlace} {r : Reach} {b0 : Nat} (hv : Value.okWide Try.prog w r b0 22 v) (h : DataW.trod enc Try.prog w base spare held fuel 22 v.cells.toList = some x) : ∃ (A : Option Addr) (l : List XY) (c : Nat), v = .slice A l.length c ∧ Rd w w.heap.size A l ∧ l.length ≤ c := by
  obtain ⟨a0, len, cap, rfl⟩ := okWide_slice Try.underlying22 hv
  have h2 : Try.prog.cellsOf 29 = 2 := by kernel_rfl
  rcases open_slice Try.underlying22 h with ⟨h0, _⟩ | ⟨a, len', cap', m, fl, D, Pl, hcs, hb, hl, hm, hmm, hx, hi⟩
  · simp [Value.cells] at h0
    obtain ⟨rfl, rfl, rfl⟩ := h0
    exact ⟨none, [], 0, rfl, fun i p hp => by simp at hp, Nat.le_refl _⟩
  · simp [Value.cells] at hcs
    obtain ⟨rfl, rfl, rfl⟩ := hcs
    have hlm : len ≤ m := by rw [hmm]; split <;> omega
    have H1 : ∀ i : Nat, ∃ p : XY, i < len → w.cell? (a.add (i * 2)) = some (.int .i64 p.X) ∧ w.cell? (a.add (i * 2 + 1)) = some (.int .i64 p.Y) := by
      intro i
      by_cases hlt : i < len
      · obtain ⟨cs, hcells, htr⟩ := hi i (by omega)
        rw [h2] at hcells
        obtain ⟨_, hlen, hat⟩ := World.cells?_some hcells
        match cs, hlen with
        | [u, v], _ =>
          obtain ⟨ys, n, _, _, _, hyl, hf⟩ := DataW.trod_struct Try.underlying29 htr
          have hyl2 : ys.length = 2 := hyl
          have c3 : Try.prog.cellsOf 3 = 1 := by kernel_rfl
          have f0 := (hf 0 _ rfl).trans (List.getElem?_eq_getElem (by omega))
          have f1 := (hf 1 _ rfl).trans (List.getElem?_eq_getElem (by omega))
          simp only [List.getElem_toArray, List.getElem_cons_zero, List.getElem_cons_succ, c3] at f0 f1
          obtain ⟨x0, e0, _, _⟩ := DataW.trod_int Try.underlying3 f0
          obtain ⟨x1, e1, _, _⟩ := DataW.trod_int Try.underlying3 f1
          simp at e0 e1
          subst e0 e1
          refine ⟨⟨x0, x1⟩, fun _ => ⟨?_, ?_⟩⟩
          · have := hat 0 (by omega); rw [add_add] at this; simpa using this
          · have := hat 1 (by omega); rw [add_add] at this; simpa using this
      · exact ⟨⟨0, 0⟩, fun h => absurd h hlt⟩
    obtain ⟨f, hf⟩ := Classical.axiomOfChoice H1
    refine ⟨some a, (List.range len).map f, cap, by simp, ?_, by simpa using hl⟩
    intro i p hp
    have hlt : i < len := by
      have := (List.getElem?_eq_some_iff.1 hp).1; simpa using this
    obtain rfl : f i = p := by simpa [hlt] using hp
    obtain ⟨b, off, sp⟩ := a
    have hsp : sp = none := by
      have h0 := (hf 0 (by omega)).1
      cases sp with
      | none => rfl
      | some q => simp [Addr.add, World.cell?] at h0; split at h0 <;> simp at h0
    subst hsp
    have hadd : ∀ k : Nat, (⟨b, off, none⟩ : Addr).add k = ⟨b, off + k, none⟩ := by
      intro k; unfold Addr.add; split <;> simp_all
    have h1 := hf i hlt
    rw [hadd, hadd] at h1
    exact ⟨b, off, rfl, World.block_lt_of_cell? w _ h1.1, h1.1, by rw [Nat.add_assoc]; exact h1.2⟩
end
end Go.Proofs.Ytcbphodkaiknmaa

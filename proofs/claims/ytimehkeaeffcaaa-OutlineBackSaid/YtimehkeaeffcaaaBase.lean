/- Words for memory that the walks over outlines share: corners as values, a list of corners in memory, the ending of a call that leaves all that lay. -/
import Derived.Test.YtimehkeaeffcaaaProg
import Derived.Test.YtimehkeaeffcaaaSpec
import Derived.WalkKit
import Derived.WalkSpells
import Derived.WalkLawsBesides
import Derived.Deep.QuietTactic
import Derived.BigQuiet
import Derived.Lib.Hide
import Derived.Shelf.Abstract
namespace Go.Proofs.Ytimehkeaeffcaaa
open Go.RowKit

/-- A corner as a value. -/
abbrev xyv (p : XY) : Value := .agg #[.int .i64 p.X, .int .i64 p.Y]

/-- The call returns v, and of what lay nothing has turned. -/
def Ret (v : Value) (w : World) (e : Ending) (w' : World) : Prop := e = .returned v ∧ Below w.heap.size w w'
theorem Ret.mk {v u : Value} {w w' : World} (h : u = v) (hb : Below w.heap.size w w') : Ret v w (.returned u) w' := ⟨by rw [h], hb⟩

/-- The slice's address A reads as the corners l, in a block below B. -/
def Rd (w : World) (B : Nat) (A : Option Addr) (l : List XY) : Prop :=
  ∀ i p, l[i]? = some p → ∃ b off, A = some ⟨b, off, none⟩ ∧ b < B ∧ w.cell? ⟨b, off + i * 2, none⟩ = some (.int .i64 p.X) ∧ w.cell? ⟨b, off + i * 2 + 1, none⟩ = some (.int .i64 p.Y)

theorem Rd.keep {w w' : World} {B : Nat} {A : Option Addr} {l : List XY} (h : Rd w B A l) (hk : ∀ p : Addr, p.block < B → w'.cell? p = w.cell? p) : Rd w' B A l := by
  intro i p hp
  obtain ⟨b, off, hA, hb, hx, hy⟩ := h i p hp
  exact ⟨b, off, hA, hb, (hk ⟨b, off + i * 2, none⟩ hb).trans hx, (hk ⟨b, off + i * 2 + 1, none⟩ hb).trans hy⟩
theorem Rd.below {w w' : World} {B : Nat} {A : Option Addr} {l : List XY} (h : Rd w B A l) (hb : Below B w w') : Rd w' B A l := h.keep fun _ hp => hb.cell hp
theorem Rd.more {w : World} {B B' : Nat} {A : Option Addr} {l : List XY} (h : Rd w B A l) (hB : B ≤ B') : Rd w B' A l := by
  intro i p hp
  obtain ⟨b, off, hA, hb, hx, hy⟩ := h i p hp
  exact ⟨b, off, hA, by omega, hx, hy⟩
/-- A list that came in, in a later world, for a callee. -/
theorem Rd.now {w w' : World} {A : Option Addr} {l : List XY} (h : Rd w w.heap.size A l) (hb : Below w.heap.size w w') : Rd w' w'.heap.size A l := (h.below hb).more hb.size

/-- A corner that lies in a block of its own. -/
def Pt (w : World) (B : Nat) (p : XY) : Prop := w.cell? ⟨B, 0, none⟩ = some (.int .i64 p.X) ∧ w.cell? ⟨B, 1, none⟩ = some (.int .i64 p.Y)
theorem Pt.below {w w' : World} {B C : Nat} {p : XY} (h : Pt w B p) (hb : Below C w w') (hB : B < C) : Pt w' B p :=
  ⟨(hb.cell (p := ⟨B, 0, none⟩) hB).trans h.1, (hb.cell (p := ⟨B, 1, none⟩) hB).trans h.2⟩
theorem Pt.drew {w : World} {B : Nat} {p : XY} (h : Pt w B p) : Pt w.drew B p := h

theorem below_drewN {B : Nat} {a w : World} (h : Below B a w) (n : Nat) : Below B a (w.drewN n) := ⟨h.os, h.tape, h.output, h.size, h.block⟩
theorem below_of_drew {B : Nat} {a w : World} (h : Below B a.drew w) : Below B a w := ⟨h.os, h.tape, h.output, h.size, h.block⟩
theorem below_of_drewN {B n : Nat} {a w : World} (h : Below B (a.drewN n) w) : Below B a w := ⟨h.os, h.tape, h.output, h.size, h.block⟩
theorem getElem?_of_lt {α : Type} {l : List α} {k : Nat} (h : k < l.length) : ∃ q, l[k]? = some q := ⟨_, List.getElem?_eq_getElem h⟩
theorem take_succ_of {α : Type} {l : List α} {k : Nat} {q : α} (h : l[k]? = some q) : l.take (k + 1) = l.take k ++ [q] := by
  rw [List.take_add_one, h]; rfl

theorem w64_k (k : Nat) (h : k < 9223372036854775807) : wrap64 ((k : Int) + 1) = (k : Int) + 1 := by unfold wrap64; omega
theorem hd_of {l : List XY} {p : XY} (h : l[0]? = some p) : hd l = p := by simp [hd, h]
theorem cy_of {l : List XY} {i : Nat} {p : XY} (h : l[i % l.length]? = some p) : cy l i = p := by simp [cy, h]
theorem farTo_succ {u v : Int} {l : List XY} {k : Nat} {q : XY} (h : l[k]? = some q) : farTo u v l (k + 1) = if farTo u v l k < dotW u v q then dotW u v q else farTo u v l k := by
  unfold farTo
  rw [take_succ_of h, List.foldl_append]
  simp only [List.foldl_cons, List.foldl_nil]
  split <;> omega

/-- Behind a call that leaves what lay: every old cell and mark reads as before (two rules for the walk). -/
theorem bcell {W w1 : World} (hb : Below W.heap.size W w1) : (∀ b o, b < W.heap.size → w1.cell? ⟨b, o, none⟩ = W.cell? ⟨b, o, none⟩) ∧ (∀ b o, b < W.heap.size → w1.frozen? ⟨b, o, none⟩ = W.frozen? ⟨b, o, none⟩) :=
  ⟨fun b o h => hb.cell (p := ⟨b, o, none⟩) h, fun b o h => hb.frozen (p := ⟨b, o, none⟩) h⟩

theorem tmod_pos {x y : Int} (hx : 0 ≤ x) : x.tmod y = x % y := IntWalk.rem_in _ _ hx
theorem emod_toNat {x : Int} {m n : Nat} (hx : x = (m : Int)) : (x % (n : Int)).toNat = m % n := by subst hx; rfl
theorem emod_bd {x : Int} {n : Nat} (hn : 0 < n) : 0 ≤ x % (n : Int) ∧ x % (n : Int) < (n : Int) := ⟨Int.emod_nonneg _ (by omega), Int.emod_lt_of_pos _ (by omega)⟩
theorem ne_nil_of_lt {α : Type} {l : List α} {k : Nat} (h : k < l.length) : ¬ l = [] := by rintro rfl; simp at h

/-- '==' and '!=' at two corners. -/
theorem run_eqXY (p q : XY) (w : World) : (binOp .eql 37 (xyv p) (xyv q)).run Try.prog w = .ok (.bool (decide (p = q))) w := by
  have u3 := Try.underlying3
  have a3 := Try.isAgg3
  have z3 := Try.sizeOf3
  have hS : Try.prog.underlying 37 = some (.struct (Try.prog.fieldsOf 37)) := by kernel_rfl
  have hp : Try.prog.stoodInHeld 37 = false := by kernel_rfl
  obtain ⟨px, py⟩ := p
  obtain ⟨qx, qy⟩ := q
  rw [run_eql_struct, show (10000 : Nat) = 9999 + 1 from rfl, run_equalIn_agg w 9999 37 _ _ hS hp]
  simp only [Program.fieldsOf, Try.underlying37]
  go_simp
  by_cases h1 : px = qx <;> by_cases h2 : py = qy <;> simp [h1, h2]
theorem run_neXY (p q : XY) (w : World) : (binOp .neq 37 (xyv p) (xyv q)).run Try.prog w = .ok (.bool (!decide (p = q))) w := by
  have u3 := Try.underlying3
  have a3 := Try.isAgg3
  have z3 := Try.sizeOf3
  have hS : Try.prog.underlying 37 = some (.struct (Try.prog.fieldsOf 37)) := by kernel_rfl
  have hp : Try.prog.stoodInHeld 37 = false := by kernel_rfl
  obtain ⟨px, py⟩ := p
  obtain ⟨qx, qy⟩ := q
  rw [run_neq_struct, show (10000 : Nat) = 9999 + 1 from rfl, run_equalIn_agg w 9999 37 _ _ hS hp]
  simp only [Program.fieldsOf, Try.underlying37]
  go_simp
  by_cases h1 : px = qx <;> by_cases h2 : py = qy <;> simp [h1, h2]
theorem guardXY : Try.prog.eqGuardType Try.prog.depth 37 = false := by kernel_rfl
end Go.Proofs.Ytimehkeaeffcaaa

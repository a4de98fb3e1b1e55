/- The latest rate and the latest price, of both: the walks. Printed by genom5.py. -/
import Derived.Test.YthccpdefgjneiaaDoorOM4
namespace Go.Proofs.YthccpdefgjneiaaDoor
open Go.RowKit Go.Shelf Go.Maps

def beats {α : Type} (key : α → NK) (l : List α) (x : α) (o : Option Nat) : Bool := match o with
  | none => true
  | some j => ((l[j]?).map fun y => decide ((key y).d < (key x).d)).getD true
def hits {α : Type} (key : α → NK) (name : ByteArray) (day : Int) (l : List α) (x : α) (o : Option Nat) : Bool := decide ((key x).s = name) && (decide ((key x).d ≤ day) && beats key l x o)
def lateI {α : Type} (key : α → NK) (name : ByteArray) (day : Int) (l : List α) : Nat → Option Nat
  | 0 => none
  | k + 1 => match l[k]? with
    | none => lateI key name day l k
    | some x => if hits key name day l x (lateI key name day l k) then some k else lateI key name day l k
def atI (o : Option Nat) : Int := match o with
  | none => -1
  | some j => (j : Int)
theorem lateI_step {α : Type} {key : α → NK} {name : ByteArray} {day : Int} {l : List α} {k : Nat} {x : α} (hx : l[k]? = some x) : lateI key name day l (k + 1) = if hits key name day l x (lateI key name day l k) then some k else lateI key name day l k := by
  conv => lhs; unfold lateI
  rw [hx]
theorem lateI_lt {α : Type} {key : α → NK} {name : ByteArray} {day : Int} {l : List α} : ∀ {k j : Nat}, lateI key name day l k = some j → j < k ∧ j < l.length
  | 0, j, h => by unfold lateI at h; cases h
  | k + 1, j, h => by
    cases hx : l[k]? with
    | none =>
      unfold lateI at h
      rw [hx] at h
      have := lateI_lt (show lateI key name day l k = some j from h)
      omega
    | some x =>
      rw [lateI_step hx] at h
      split at h
      · obtain rfl := Option.some.inj h
        exact ⟨by omega, (List.getElem?_eq_some_iff.1 hx).1⟩
      · have := lateI_lt h; omega
theorem late_miss1 {α : Type} {key : α → NK} {name : ByteArray} {day : Int} {l : List α} {k : Nat} {x : α} (hx : l[k]? = some x) (h : ¬ (key x).s = name) : lateI key name day l (k + 1) = lateI key name day l k := by
  rw [lateI_step hx, if_neg]; unfold hits; rw [decide_eq_false h]; simp
theorem late_miss2 {α : Type} {key : α → NK} {name : ByteArray} {day : Int} {l : List α} {k : Nat} {x : α} (hx : l[k]? = some x) (h : ¬ (key x).d ≤ day) : lateI key name day l (k + 1) = lateI key name day l k := by
  rw [lateI_step hx, if_neg]; unfold hits; rw [decide_eq_false h]; simp
theorem late_hit1 {α : Type} {key : α → NK} {name : ByteArray} {day : Int} {l : List α} {k : Nat} {x : α} (hx : l[k]? = some x) (h : (key x).s = name) (h2 : (key x).d ≤ day) (ho : lateI key name day l k = none) : lateI key name day l (k + 1) = some k := by
  rw [lateI_step hx, if_pos]; unfold hits; rw [decide_eq_true h, decide_eq_true h2, ho]; rfl
theorem late_hit2 {α : Type} {key : α → NK} {name : ByteArray} {day : Int} {l : List α} {k j : Nat} {x y : α} (hx : l[k]? = some x) (h : (key x).s = name) (h2 : (key x).d ≤ day) (ho : lateI key name day l k = some j) (hy : l[j]? = some y) (hd : (key y).d < (key x).d) : lateI key name day l (k + 1) = some k := by
  rw [lateI_step hx, if_pos]; unfold hits beats; rw [decide_eq_true h, decide_eq_true h2, ho]; simp [hy, hd]
theorem late_miss3 {α : Type} {key : α → NK} {name : ByteArray} {day : Int} {l : List α} {k j : Nat} {x y : α} (hx : l[k]? = some x) (ho : lateI key name day l k = some j) (hy : l[j]? = some y) (hd : ¬ (key y).d < (key x).d) : lateI key name day l (k + 1) = lateI key name day l k := by
  rw [lateI_step hx, if_neg]; unfold hits beats; rw [ho]; simp [hy, hd]


/-- Such a value, alone in its block. -/
def BlT (w : World) (B : Nat) (r : RT) : Prop := w.heap[B]? = some (.cells #[.string r.c, .int .i64 r.d, .int .i64 r.n, .int .i64 r.m] 70 (0, 0))
theorem BlT.c {w : World} {B : Nat} {r : RT} (h : BlT w B r) : AtT w B r := by unfold BlT at h; exact ⟨by simp [World.cell?, h], by simp [World.cell?, h], by simp [World.cell?, h], by simp [World.cell?, h]⟩
theorem BlT.f {w : World} {B : Nat} {r : RT} (h : BlT w B r) : w.frozen? ⟨B, 0, none⟩ = false ∧ w.frozen? ⟨B, 1, none⟩ = false ∧ w.frozen? ⟨B, 2, none⟩ = false ∧ w.frozen? ⟨B, 3, none⟩ = false := by unfold BlT at h; exact ⟨by simp [World.frozen?, h], by simp [World.frozen?, h], by simp [World.frozen?, h], by simp [World.frozen?, h]⟩
theorem BlT.below {w w' : World} {B C : Nat} {r : RT} (h : BlT w B r) (hb : Below C w w') (hB : B < C) : BlT w' B r := (hb.block B hB).trans h
theorem BlT.new (w : World) (r : RT) : BlT (w.alloc (.cells #[.string r.c, .int .i64 r.d, .int .i64 r.n, .int .i64 r.m] 70)) w.heap.size r := heap_alloc_new w _
theorem BlT.put {w : World} {B : Nat} {p : RT} (h : BlT w B p) (r : RT) : BlT (((((w.setCell ⟨B, 0, none⟩ (.string r.c)).setCell ⟨B, 1, none⟩ (.int .i64 r.d)).setCell ⟨B, 2, none⟩ (.int .i64 r.n)).setCell ⟨B, 3, none⟩ (.int .i64 r.m))) B r := by
  unfold BlT at h ⊢
  simp [World.setCell, Array.getElem?_modify, h]
theorem BlT.rd {w : World} {B : Nat} {p : RT} (h : BlT w B p) (r : RT) : (w.setCell ⟨B, 0, none⟩ (.string r.c)).cell? ⟨B, 0, none⟩ = some (.string r.c) ∧ ((w.setCell ⟨B, 0, none⟩ (.string r.c)).setCell ⟨B, 1, none⟩ (.int .i64 r.d)).cell? ⟨B, 1, none⟩ = some (.int .i64 r.d) ∧ (((w.setCell ⟨B, 0, none⟩ (.string r.c)).setCell ⟨B, 1, none⟩ (.int .i64 r.d)).setCell ⟨B, 2, none⟩ (.int .i64 r.n)).cell? ⟨B, 2, none⟩ = some (.int .i64 r.n) ∧ ((((w.setCell ⟨B, 0, none⟩ (.string r.c)).setCell ⟨B, 1, none⟩ (.int .i64 r.d)).setCell ⟨B, 2, none⟩ (.int .i64 r.n)).setCell ⟨B, 3, none⟩ (.int .i64 r.m)).cell? ⟨B, 3, none⟩ = some (.int .i64 r.m) := by
  unfold BlT at h
  exact ⟨by simp [World.setCell, World.cell?, Array.getElem?_modify, h], by simp [World.setCell, World.cell?, Array.getElem?_modify, h], by simp [World.setCell, World.cell?, Array.getElem?_modify, h], by simp [World.setCell, World.cell?, Array.getElem?_modify, h]⟩
theorem putT_grown (w : World) (B : Nat) (r : RT) : w.grownBy (((((w.setCell ⟨B, 0, none⟩ (.string r.c)).setCell ⟨B, 1, none⟩ (.int .i64 r.d)).setCell ⟨B, 2, none⟩ (.int .i64 r.n)).setCell ⟨B, 3, none⟩ (.int .i64 r.m))) (some B) :=
  ⟨rfl, rfl, rfl, by simp [World.setCell], fun k _ hne => by
    have : B ≠ k := fun e => hne (by rw [e])
    simp [World.setCell, Array.getElem?_modify, this]⟩
def zeroT : RT := ⟨⟨#[]⟩, 0, 0, 0⟩
def bestT (l : List RT) (o : Option Nat) : RT := (o.bind fun j => l[j]?).getD zeroT


/-- Such a value, alone in its block. -/
def BlQ (w : World) (B : Nat) (r : QT) : Prop := w.heap[B]? = some (.cells #[.string r.m, .int .i64 r.d, .slice r.A r.st.length r.cp] 54 (0, 0))
theorem BlQ.c {w : World} {B : Nat} {r : QT} (h : BlQ w B r) : AtQ w B r := by unfold BlQ at h; exact ⟨by simp [World.cell?, h], by simp [World.cell?, h], by simp [World.cell?, h]⟩
theorem BlQ.f {w : World} {B : Nat} {r : QT} (h : BlQ w B r) : w.frozen? ⟨B, 0, none⟩ = false ∧ w.frozen? ⟨B, 1, none⟩ = false ∧ w.frozen? ⟨B, 2, none⟩ = false := by unfold BlQ at h; exact ⟨by simp [World.frozen?, h], by simp [World.frozen?, h], by simp [World.frozen?, h]⟩
theorem BlQ.below {w w' : World} {B C : Nat} {r : QT} (h : BlQ w B r) (hb : Below C w w') (hB : B < C) : BlQ w' B r := (hb.block B hB).trans h
theorem BlQ.new (w : World) (r : QT) : BlQ (w.alloc (.cells #[.string r.m, .int .i64 r.d, .slice r.A r.st.length r.cp] 54)) w.heap.size r := heap_alloc_new w _
theorem BlQ.put {w : World} {B : Nat} {p : QT} (h : BlQ w B p) (r : QT) : BlQ ((((w.setCell ⟨B, 0, none⟩ (.string r.m)).setCell ⟨B, 1, none⟩ (.int .i64 r.d)).setCell ⟨B, 2, none⟩ (.slice r.A r.st.length r.cp))) B r := by
  unfold BlQ at h ⊢
  simp [World.setCell, Array.getElem?_modify, h]
theorem BlQ.rd {w : World} {B : Nat} {p : QT} (h : BlQ w B p) (r : QT) : (w.setCell ⟨B, 0, none⟩ (.string r.m)).cell? ⟨B, 0, none⟩ = some (.string r.m) ∧ ((w.setCell ⟨B, 0, none⟩ (.string r.m)).setCell ⟨B, 1, none⟩ (.int .i64 r.d)).cell? ⟨B, 1, none⟩ = some (.int .i64 r.d) ∧ (((w.setCell ⟨B, 0, none⟩ (.string r.m)).setCell ⟨B, 1, none⟩ (.int .i64 r.d)).setCell ⟨B, 2, none⟩ (.slice r.A r.st.length r.cp)).cell? ⟨B, 2, none⟩ = some (.slice r.A r.st.length r.cp) := by
  unfold BlQ at h
  exact ⟨by simp [World.setCell, World.cell?, Array.getElem?_modify, h], by simp [World.setCell, World.cell?, Array.getElem?_modify, h], by simp [World.setCell, World.cell?, Array.getElem?_modify, h]⟩
theorem putQ_grown (w : World) (B : Nat) (r : QT) : w.grownBy ((((w.setCell ⟨B, 0, none⟩ (.string r.m)).setCell ⟨B, 1, none⟩ (.int .i64 r.d)).setCell ⟨B, 2, none⟩ (.slice r.A r.st.length r.cp))) (some B) :=
  ⟨rfl, rfl, rfl, by simp [World.setCell], fun k _ hne => by
    have : B ≠ k := fun e => hne (by rw [e])
    simp [World.setCell, Array.getElem?_modify, this]⟩
def zeroQ : QT := ⟨⟨#[]⟩, 0, none, 0, []⟩
def bestQ (l : List QT) (o : Option Nat) : QT := (o.bind fun j => l[j]?).getD zeroQ

end Go.Proofs.YthccpdefgjneiaaDoor

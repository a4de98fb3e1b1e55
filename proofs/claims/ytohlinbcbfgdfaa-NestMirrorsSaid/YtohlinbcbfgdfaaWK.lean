/- Drop, of both: the walks. Drop, of the reference: the walk. -/
import Derived.Test.YtohlinbcbfgdfaaWJ
namespace Go.Proofs.Ytohlinbcbfgdfaa
open Go.RowKit Go.Shelf

/-- Where a thing comes to lie that falls from n on. -/
def fallN (f : Nat → Bool) : Nat → Nat
  | 0 => 0
  | n + 1 => if f n then fallN f n else n + 1
def atY (p : PL) (y : Int) : PL := ⟨p.part, p.X, y, p.t⟩
def zeroP : PL := ⟨0, 0, 0, false⟩
def dropS (b : BD) (ps : List PT) (L : List PL) (p : PL) : PL × Bool × Int :=
  if (checkS b ps L).2 = 0 then
    if betw 0 p.Y 500 then
      if freeB b ps (L.map (lyP ps)) p then (atY p (fallN (fun n => freeB b ps (L.map (lyP ps)) (atY p n)) p.Y.toNat), true, 0) else (zeroP, false, 0)
    else (zeroP, false, 2)
  else (zeroP, false, (checkS b ps L).2)

def Px (w : World) (B : Nat) (p : PL) : Prop := w.heap[B]? = some (.cells #[.int .i64 p.part, .int .i64 p.X, .int .i64 p.Y, .bool p.t] 52 (0, 0))
theorem Px.c {w : World} {B : Nat} {p : PL} (h : Px w B p) : PlAt w B p := by unfold Px at h; exact ⟨by simp [World.cell?, h], by simp [World.cell?, h], by simp [World.cell?, h], by simp [World.cell?, h]⟩
theorem Px.f {w : World} {B : Nat} {p : PL} (h : Px w B p) : w.frozen? ⟨B, 0, none⟩ = false ∧ w.frozen? ⟨B, 1, none⟩ = false ∧ w.frozen? ⟨B, 2, none⟩ = false ∧ w.frozen? ⟨B, 3, none⟩ = false := by unfold Px at h; exact ⟨by simp [World.frozen?, h], by simp [World.frozen?, h], by simp [World.frozen?, h], by simp [World.frozen?, h]⟩
theorem Px.below {w w' : World} {B C : Nat} {p : PL} (h : Px w B p) (hb : Below C w w') (hB : B < C) : Px w' B p := (hb.block B hB).trans h
theorem Px.put {w : World} {B : Nat} {p : PL} (h : Px w B p) (q : PL) : Px ((((w.setCell ⟨B, 0, none⟩ (.int .i64 q.part)).setCell ⟨B, 1, none⟩ (.int .i64 q.X)).setCell ⟨B, 2, none⟩ (.int .i64 q.Y)).setCell ⟨B, 3, none⟩ (.bool q.t)) B q := by
  unfold Px at h ⊢
  simp [World.setCell, Array.getElem?_modify, h]
theorem Px.new (w : World) (p : PL) : Px (w.alloc (.cells #[.int .i64 p.part, .int .i64 p.X, .int .i64 p.Y, .bool p.t] 52)) w.heap.size p := heap_alloc_new w _
theorem Px.setY {w : World} {B : Nat} {p : PL} (h : Px w B p) (y : Int) : Px (w.setCell ⟨B, 2, none⟩ (.int .i64 y)) B (atY p y) := by
  unfold Px at h ⊢
  simp [World.setCell, Array.getElem?_modify, h, atY]
theorem Px.rd {w : World} {B : Nat} {p : PL} (h : Px w B p) (x y z u : Value) : (w.setCell ⟨B, 0, none⟩ x).cell? ⟨B, 0, none⟩ = some x ∧ ((w.setCell ⟨B, 0, none⟩ x).setCell ⟨B, 1, none⟩ y).cell? ⟨B, 1, none⟩ = some y ∧
    (((w.setCell ⟨B, 0, none⟩ x).setCell ⟨B, 1, none⟩ y).setCell ⟨B, 2, none⟩ z).cell? ⟨B, 2, none⟩ = some z ∧ ((((w.setCell ⟨B, 0, none⟩ x).setCell ⟨B, 1, none⟩ y).setCell ⟨B, 2, none⟩ z).setCell ⟨B, 3, none⟩ u).cell? ⟨B, 3, none⟩ = some u := by
  unfold Px at h
  exact ⟨by simp [World.setCell, World.cell?, Array.getElem?_modify, h], by simp [World.setCell, World.cell?, Array.getElem?_modify, h], by simp [World.setCell, World.cell?, Array.getElem?_modify, h], by simp [World.setCell, World.cell?, Array.getElem?_modify, h]⟩
theorem put4_other {w : World} {B k : Nat} {x y z u : Value} (hk : k ≠ B) : ((((w.setCell ⟨B, 0, none⟩ x).setCell ⟨B, 1, none⟩ y).setCell ⟨B, 2, none⟩ z).setCell ⟨B, 3, none⟩ u).heap[k]? = w.heap[k]? := by
  simp [World.setCell, Array.getElem?_modify, Ne.symm hk]
theorem put4_grown {w : World} {B : Nat} {x y z u : Value} : w.grownBy ((((w.setCell ⟨B, 0, none⟩ x).setCell ⟨B, 1, none⟩ y).setCell ⟨B, 2, none⟩ z).setCell ⟨B, 3, none⟩ u) (some B) :=
  ⟨rfl, rfl, rfl, by simp [World.setCell], fun k _ hne => put4_other (fun e => hne (by rw [e]))⟩
theorem grown_below {a b c : World} {row : Option Nat} (hg : a.grownBy b row) (hb : Below b.heap.size b c) : a.grownBy c row :=
  ⟨hb.os.trans hg.os, hb.tape.trans hg.tape, hb.output.trans hg.output, Nat.le_trans hg.size hb.size, fun k hk hne => (hb.block k (Nat.lt_of_lt_of_le hk hg.size)).trans (hg.block k hk hne)⟩
theorem grown_grown {a b c : World} {row : Option Nat} (hg : a.grownBy b row) (hb : b.grownBy c row) : a.grownBy c row :=
  ⟨hb.os.trans hg.os, hb.tape.trans hg.tape, hb.output.trans hg.output, Nat.le_trans hg.size hb.size, fun k hk hne => (hb.block k (Nat.lt_of_lt_of_le hk hg.size) hne).trans (hg.block k hk hne)⟩
theorem grown_refl (w : World) (row : Option Nat) : w.grownBy w row := ⟨rfl, rfl, rfl, Nat.le_refl _, fun _ _ _ => rfl⟩
theorem below_of_grown {B : Nat} {a b c : World} {k : Nat} (h : Below B a b) (hg : b.grownBy c (some k)) (hk : B ≤ k) (hB : B ≤ b.heap.size) : Below B a c :=
  below_grown h hg (fun j hj => by cases hj; exact hk) hB
theorem px_grown {w w' : World} {B k : Nat} {p : PL} (h : Px w B p) (hg : w.grownBy w' (some k)) (hB : B < w.heap.size) (hne : B ≠ k) : Px w' B p := (hg.block B hB (by simpa using hne)).trans h
theorem bd_grown {w w' : World} {B k : Nat} {b : BD} {A : Option Addr} {c : Nat} (h : BdAt w B b A c) (hg : w.grownBy w' (some k)) (hne : B ≠ k) : BdAt w' B b A c :=
  ⟨hg.cell h.c0 (by simpa using hne), hg.cell h.c1 (by simpa using hne), hg.cell h.c2 (by simpa using hne), hg.cell h.c3 (by simpa using hne)⟩
theorem rds_grown {w w' : World} {k : Nat} {A : Option Addr} {l : List SL} (h : RdS w w.heap.size A l) (hg : w.grownBy w' (some k)) (hne : ∀ a, A = some a → a.block ≠ k) : RdS w' w'.heap.size A l := by
  intro i p hp
  obtain ⟨b, off, hA, hb, h0⟩ := h i p hp
  have hn := hne _ hA
  exact ⟨b, off, hA, Nat.lt_of_lt_of_le hb hg.size, hg.cell h0 (by simpa using hn)⟩
/-- The height of the place that lies at B. -/
def yOf (w : World) (B : Nat) : Nat := ((w.cell? ⟨B, 2, none⟩).map (fun v => (intOf v).toNat)).getD 0
theorem Px.y {w : World} {B : Nat} {p : PL} (h : Px w B p) : yOf w B = p.Y.toNat := by unfold yOf; rw [h.c.c2]; rfl


end Go.Proofs.Ytohlinbcbfgdfaa

namespace Go.Proofs.Ytohlinbcbfgdfaa
open Go.RowKit Go.Shelf

end Go.Proofs.Ytohlinbcbfgdfaa

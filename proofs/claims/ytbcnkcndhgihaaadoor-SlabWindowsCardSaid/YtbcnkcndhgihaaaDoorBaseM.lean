/- The plain functions of the outlines' texts, as Go's int computes them: no program in sight. Words for memory that the walks over outlines share: corners as values, a list of corners in memory, the ending of a call that leaves all that lay. Lists of corners in memory that a call made itself. -/
import Derived.RowKit
import Derived.Test.YtbcnkcndhgihaaaDoorProg
import Derived.WalkKit
import Derived.WalkSpells
import Derived.WalkLawsBesides
import Derived.Deep.QuietTactic
import Derived.BigQuiet
import Derived.Lib.Hide
import Derived.Shelf.Abstract
namespace Go.Proofs.YtbcnkcndhgihaaaDoor
open Go.RowKit (wrap64)

structure XY where
  X : Int
  Y : Int
deriving DecidableEq

/-- The turn at a corner, as Go's int computes it: in the program, in the reference. -/
def crossW (a b c : XY) : Int := wrap64 (wrap64 (wrap64 (b.X - a.X) * wrap64 (c.Y - b.Y)) - wrap64 (wrap64 (b.Y - a.Y) * wrap64 (c.X - b.X)))
def cross2W (a b c : XY) : Int := wrap64 (wrap64 (wrap64 (b.X - a.X) * wrap64 (c.Y - a.Y)) - wrap64 (wrap64 (b.Y - a.Y) * wrap64 (c.X - a.X)))
def rangedB (p : XY) : Bool := decide (-5000 ≤ p.X) && decide (p.X ≤ 5000) && decide (-5000 ≤ p.Y) && decide (p.Y ≤ 5000)
def halfB (x y : Int) : Bool := decide (0 < y) || (decide (y = 0) && decide (0 < x))
def lowerW (a b : XY) : Int := if a.Y ≠ b.Y then wrap64 (a.Y - b.Y) else wrap64 (a.X - b.X)
def lowB (p q : XY) : Bool := decide (p.Y < q.Y) || (decide (p.Y = q.Y) && decide (p.X < q.X))
def fartherB (o p q : XY) : Bool :=
  decide (wrap64 (wrap64 (wrap64 (q.X - o.X) * wrap64 (q.X - o.X)) + wrap64 (wrap64 (q.Y - o.Y) * wrap64 (q.Y - o.Y))) < wrap64 (wrap64 (wrap64 (p.X - o.X) * wrap64 (p.X - o.X)) + wrap64 (wrap64 (p.Y - o.Y) * wrap64 (p.Y - o.Y))))
def dotW (u v : Int) (p : XY) : Int := wrap64 (wrap64 (u * p.X) + wrap64 (v * p.Y))

/-- The corner at place i, going round. -/
def cy (l : List XY) (i : Nat) : XY := (l[i % l.length]?).getD ⟨0, 0⟩
/-- The first corner. -/
def hd (l : List XY) : XY := (l[0]?).getD ⟨0, 0⟩

/-- The program's test of validity: every turn is a left one, and the direction comes to the upper half once. -/
def turnB (l : List XY) (i : Nat) : Bool := decide (0 < crossW (cy l i) (cy l (i + 1)) (cy l (i + 2)))
def upB (l : List XY) (i : Nat) : Bool :=
  !halfB (wrap64 ((cy l (i + 1)).X - (cy l i).X)) (wrap64 ((cy l (i + 1)).Y - (cy l i).Y)) && halfB (wrap64 ((cy l (i + 2)).X - (cy l (i + 1)).X)) (wrap64 ((cy l (i + 2)).Y - (cy l (i + 1)).Y))
def upsTo (l : List XY) (k : Nat) : Nat := ((List.range k).filter (upB l)).length
def validB (l : List XY) : Bool :=
  decide (3 ≤ l.length) && decide (l.length ≤ 64) && l.all rangedB && (List.range l.length).all (turnB l) && decide (upsTo l l.length = 1)
/-- The reference's: all other corners lie to the left of each side. -/
def leftB (l : List XY) (i j : Nat) : Bool := decide (j = i) || decide (j = (i + 1) % l.length) || decide (0 < cross2W (cy l i) (cy l (i + 1)) (cy l j))
def validRB (l : List XY) : Bool :=
  decide (3 ≤ l.length) && decide (l.length ≤ 64) && l.all rangedB && (List.range l.length).all (fun i => (List.range l.length).all (leftB l i))

/-- The greatest number in a direction. -/
def farTo (u v : Int) (l : List XY) (k : Nat) : Int := (l.take k).foldl (fun m q => max m (dotW u v q)) (dotW u v (hd l))
def farW (u v : Int) (l : List XY) : Int := farTo u v l l.length

/-- slices.MinFunc by lower; slices.Index; the canonical form. -/
def minTo (l : List XY) (k : Nat) : XY := (l.take k).foldl (fun m q => if lowerW q m < 0 then q else m) (hd l)
def minW (l : List XY) : XY := minTo l l.length
def idxOf (l : List XY) (p : XY) : Nat := l.findIdx (fun q => decide (q = p))
def canonL (l : List XY) : List XY := l.drop (idxOf l (minW l)) ++ l.take (idxOf l (minW l))
/-- The reference's Turn: the place of the lowest corner; the list from there on. -/
def atTo (l : List XY) (k : Nat) : Nat := (List.range k).foldl (fun a i => if lowB (cy l i) (cy l a) then i else a) 0
def turnL (l : List XY) : List XY := (List.range l.length).map (fun i => cy l (atTo l l.length + i))

def insideB (l : List XY) (p : XY) : Bool := (List.range l.length).all (fun i => !decide (crossW (cy l i) (cy l (i + 1)) p < 0))
def inside2B (l : List XY) (p : XY) : Bool := (List.range l.length).all (fun i => !decide (cross2W (cy l i) (cy l (i + 1)) p < 0))
def withinB (o p : List XY) : Bool := o.all (insideB p)
def within2B (o p : List XY) : Bool := o.all (inside2B p)

/-- A lens sits in a groove, at one side. -/
def seatAt (lens groove : List XY) (play : Int) (i : Nat) : Bool :=
  let u := wrap64 ((cy groove (i + 1)).Y - (cy groove i).Y)
  let v := wrap64 ((cy groove i).X - (cy groove (i + 1)).X)
  let g := wrap64 (farW u v groove - farW u v lens)
  !decide (wrap64 (wrap64 (play * play) * wrap64 (wrap64 (u * u) + wrap64 (v * v))) < wrap64 (g * g))
def seatS (lens groove : List XY) (play : Int) : Bool × Int :=
  if !validB lens || !validB groove then (false, 10) else if play < 0 ∨ 1000 < play then (false, 2)
  else (withinB lens groove && (List.range groove.length).all (seatAt lens groove play), 0)
def seat2S (lens groove : List XY) (play : Int) : Bool × Int :=
  if !validRB lens || !validRB groove then (false, 10) else if play < 0 ∨ 1000 < play then (false, 2)
  else (within2B lens groove && (List.range groove.length).all (seatAt lens groove play), 0)

/-- The root of a number, rounded down. -/
def isqrt : Nat → Nat
  | 0 => 0
  | n + 1 => if (isqrt n + 1) * (isqrt n + 1) ≤ n + 1 then isqrt n + 1 else isqrt n
theorem isqrt_le (n : Nat) : isqrt n * isqrt n ≤ n := by
  induction n with
  | zero => simp [isqrt]
  | succ n ih => unfold isqrt; split <;> omega
theorem isqrt_lt (n : Nat) : n < (isqrt n + 1) * (isqrt n + 1) := by
  induction n with
  | zero => simp [isqrt]
  | succ n ih =>
    unfold isqrt
    split
    · have h : (isqrt n + 1 + 1) * (isqrt n + 1 + 1) = (isqrt n + 1) * (isqrt n + 1) + 2 * (isqrt n + 1) + 1 := by
        simp only [Nat.add_mul, Nat.mul_add]; omega
      omega
    · omega
theorem isqrt_eq {n r : Nat} (h1 : r * r ≤ n) (h2 : n < (r + 1) * (r + 1)) : isqrt n = r := by
  have a := isqrt_le n
  have b := isqrt_lt n
  rcases Nat.lt_trichotomy (isqrt n) r with h | h | h
  · have := Nat.mul_le_mul (Nat.succ_le_of_lt h) (Nat.succ_le_of_lt h); simp only [Nat.succ_eq_add_one] at this; omega
  · exact h
  · have := Nat.mul_le_mul (Nat.succ_le_of_lt h) (Nat.succ_le_of_lt h); simp only [Nat.succ_eq_add_one] at this; omega
def iceil (n : Nat) : Nat := if isqrt n * isqrt n < n then isqrt n + 1 else isqrt n

def lenW (a b : XY) : Int := wrap64 (wrap64 (wrap64 (b.X - a.X) * wrap64 (b.X - a.X)) + wrap64 (wrap64 (b.Y - a.Y) * wrap64 (b.Y - a.Y)))
def areaTo (l : List XY) (k : Nat) : Int := (List.range k).foldl (fun n i => wrap64 (n + wrap64 (wrap64 ((cy l i).X * (cy l (i + 1)).Y) - wrap64 ((cy l i).Y * (cy l (i + 1)).X)))) 0
def areaW (l : List XY) : Int := areaTo l l.length
def fourW (p : XY) : Int := wrap64 (4 * wrap64 (wrap64 (p.X * p.X) + wrap64 (p.Y * p.Y)))
end Go.Proofs.YtbcnkcndhgihaaaDoor

namespace Go.Proofs.YtbcnkcndhgihaaaDoor
open Go.RowKit

/-- A corner as a value. -/
abbrev xyv (p : XY) : Value := .agg #[.int .i64 p.X, .int .i64 p.Y]

/-- The call returns v, and of what lay nothing has turned. -/
def Ret (v : Value) (w : World) (e : Ending) (w' : World) : Prop := e = .returned v ∧ Below w.heap.size w w'
theorem Ret.mk {v u : Value} {w w' : World} (h : u = v) (hb : Below w.heap.size w w') : Ret v w (.returned u) w' := ⟨by rw [h], hb⟩

/-- The slice's address A reads as the corners l, in a block below B. -/
def Rd (w : World) (B : Nat) (A : Option Addr) (l : List XY) : Prop :=
  ∀ i p, l[i]? = some p → ∃ b off, A = some ⟨b, off, none⟩ ∧ b < B ∧ w.cell? ⟨b, off + i * 2, none⟩ = some (.int .i64 p.X) ∧ w.cell? ⟨b, off + i * 2 + 1, none⟩ = some (.int .i64 p.Y)

theorem Rd.keep {w w' : World} {B : Nat} {A : Option Addr} {l : List XY} (h : Rd w B A l) (hk : ∀ p : Addr, p.block < B → w'.cell? p = w.cell? p) : Rd w' B A l := by
  intro i p hp
  obtain ⟨b, off, hA, hb, hx, hy⟩ := h i p hp
  exact ⟨b, off, hA, hb, (hk ⟨b, off + i * 2, none⟩ hb).trans hx, (hk ⟨b, off + i * 2 + 1, none⟩ hb).trans hy⟩
theorem Rd.below {w w' : World} {B : Nat} {A : Option Addr} {l : List XY} (h : Rd w B A l) (hb : Below B w w') : Rd w' B A l := h.keep fun _ hp => hb.cell hp
theorem Rd.more {w : World} {B B' : Nat} {A : Option Addr} {l : List XY} (h : Rd w B A l) (hB : B ≤ B') : Rd w B' A l := by
  intro i p hp
  obtain ⟨b, off, hA, hb, hx, hy⟩ := h i p hp
  exact ⟨b, off, hA, by omega, hx, hy⟩
/-- A list that came in, in a later world, for a callee. -/
theorem Rd.now {w w' : World} {A : Option Addr} {l : List XY} (h : Rd w w.heap.size A l) (hb : Below w.heap.size w w') : Rd w' w'.heap.size A l := (h.below hb).more hb.size

/-- A corner that lies in a block of its own. -/
def Pt (w : World) (B : Nat) (p : XY) : Prop := w.cell? ⟨B, 0, none⟩ = some (.int .i64 p.X) ∧ w.cell? ⟨B, 1, none⟩ = some (.int .i64 p.Y)
theorem Pt.below {w w' : World} {B C : Nat} {p : XY} (h : Pt w B p) (hb : Below C w w') (hB : B < C) : Pt w' B p :=
  ⟨(hb.cell (p := ⟨B, 0, none⟩) hB).trans h.1, (hb.cell (p := ⟨B, 1, none⟩) hB).trans h.2⟩
theorem Pt.drew {w : World} {B : Nat} {p : XY} (h : Pt w B p) : Pt w.drew B p := h

theorem below_drewN {B : Nat} {a w : World} (h : Below B a w) (n : Nat) : Below B a (w.drewN n) := ⟨h.os, h.tape, h.output, h.size, h.block⟩
theorem below_of_drew {B : Nat} {a w : World} (h : Below B a.drew w) : Below B a w := ⟨h.os, h.tape, h.output, h.size, h.block⟩
theorem below_of_drewN {B n : Nat} {a w : World} (h : Below B (a.drewN n) w) : Below B a w := ⟨h.os, h.tape, h.output, h.size, h.block⟩
theorem getElem?_of_lt {α : Type} {l : List α} {k : Nat} (h : k < l.length) : ∃ q, l[k]? = some q := ⟨_, List.getElem?_eq_getElem h⟩
theorem take_succ_of {α : Type} {l : List α} {k : Nat} {q : α} (h : l[k]? = some q) : l.take (k + 1) = l.take k ++ [q] := by
  rw [List.take_add_one, h]; rfl

theorem w64_k (k : Nat) (h : k < 9223372036854775807) : wrap64 ((k : Int) + 1) = (k : Int) + 1 := by unfold wrap64; omega
theorem hd_of {l : List XY} {p : XY} (h : l[0]? = some p) : hd l = p := by simp [hd, h]
theorem cy_of {l : List XY} {i : Nat} {p : XY} (h : l[i % l.length]? = some p) : cy l i = p := by simp [cy, h]
theorem farTo_succ {u v : Int} {l : List XY} {k : Nat} {q : XY} (h : l[k]? = some q) : farTo u v l (k + 1) = if farTo u v l k < dotW u v q then dotW u v q else farTo u v l k := by
  unfold farTo
  rw [take_succ_of h, List.foldl_append]
  simp only [List.foldl_cons, List.foldl_nil]
  split <;> omega

/-- Behind a call that leaves what lay: every old cell and mark reads as before (two rules for the walk). -/
theorem bcell {W w1 : World} (hb : Below W.heap.size W w1) : (∀ b o, b < W.heap.size → w1.cell? ⟨b, o, none⟩ = W.cell? ⟨b, o, none⟩) ∧ (∀ b o, b < W.heap.size → w1.frozen? ⟨b, o, none⟩ = W.frozen? ⟨b, o, none⟩) :=
  ⟨fun b o h => hb.cell (p := ⟨b, o, none⟩) h, fun b o h => hb.frozen (p := ⟨b, o, none⟩) h⟩

theorem tmod_pos {x y : Int} (hx : 0 ≤ x) : x.tmod y = x % y := IntWalk.rem_in _ _ hx
theorem emod_toNat {x : Int} {m n : Nat} (hx : x = (m : Int)) : (x % (n : Int)).toNat = m % n := by subst hx; rfl
theorem emod_bd {x : Int} {n : Nat} (hn : 0 < n) : 0 ≤ x % (n : Int) ∧ x % (n : Int) < (n : Int) := ⟨Int.emod_nonneg _ (by omega), Int.emod_lt_of_pos _ (by omega)⟩
theorem ne_nil_of_lt {α : Type} {l : List α} {k : Nat} (h : k < l.length) : ¬ l = [] := by rintro rfl; simp at h

end Go.Proofs.YtbcnkcndhgihaaaDoor

namespace Go.Proofs.YtbcnkcndhgihaaaDoor
open Go.RowKit

def flat (l : List XY) : List Value := l.flatMap fun p => [.int .i64 p.X, .int .i64 p.Y]
theorem flat_nil : flat [] = [] := rfl
theorem flat_cons (p : XY) (l : List XY) : flat (p :: l) = .int .i64 p.X :: .int .i64 p.Y :: flat l := rfl
theorem flat_append (a b : List XY) : flat (a ++ b) = flat a ++ flat b := List.flatMap_append
theorem flat_length (l : List XY) : (flat l).length = l.length * 2 := by
  induction l with
  | nil => rfl
  | cons p l ih => rw [flat_cons]; simp only [List.length_cons, ih]; omega
theorem flat_one {l : List XY} {u : Value} (h : u ∈ flat l) : u.oneCell' = true := by
  obtain ⟨p, _, hp⟩ := List.mem_flatMap.1 h
  simp at hp
  rcases hp with rfl | rfl <;> rfl
theorem flat_x : ∀ {l : List XY} {i : Nat} {p : XY}, l[i]? = some p → (flat l)[i * 2]? = some (.int .i64 p.X)
  | [], i, p, h => by simp at h
  | q :: l, 0, p, h => by simp at h; subst h; rfl
  | q :: l, i + 1, p, h => by
    rw [flat_cons, show (i + 1) * 2 = i * 2 + 1 + 1 by omega, List.getElem?_cons_succ, List.getElem?_cons_succ]
    exact flat_x (by simpa using h)
theorem flat_y : ∀ {l : List XY} {i : Nat} {p : XY}, l[i]? = some p → (flat l)[i * 2 + 1]? = some (.int .i64 p.Y)
  | [], i, p, h => by simp at h
  | q :: l, 0, p, h => by simp at h; subst h; rfl
  | q :: l, i + 1, p, h => by
    rw [flat_cons, show (i + 1) * 2 + 1 = i * 2 + 1 + 1 + 1 by omega, List.getElem?_cons_succ, List.getElem?_cons_succ]
    exact flat_y (by simpa using h)

theorem add_none (b off k : Nat) : (⟨b, off, none⟩ : Addr).add k = ⟨b, off + k, none⟩ := by unfold Addr.add; split <;> simp_all

/-- What is read is laid as cells. -/
theorem rd_cells {w : World} {B b off : Nat} {l : List XY} (h : Rd w B (some ⟨b, off, none⟩) l) : ∀ j u, (flat l)[j]? = some u → w.cell? ((⟨b, off, none⟩ : Addr).add j) = some u := by
  intro j u hu
  have hj : j < l.length * 2 := by
    have := (List.getElem?_eq_some_iff.1 hu).1
    rwa [flat_length] at this
  obtain ⟨p, hp⟩ := getElem?_of_lt (show j / 2 < l.length by omega)
  obtain ⟨b', off', hA, _, hx, hy⟩ := h _ p hp
  obtain ⟨rfl, rfl⟩ : b = b' ∧ off = off' := by simpa using hA
  rw [add_none]
  rcases Nat.mod_two_eq_zero_or_one j with h2 | h2
  · have e : j = j / 2 * 2 := by omega
    have hu' : (flat l)[j / 2 * 2]? = some u := by rw [← e]; exact hu
    rw [flat_x hp] at hu'
    rw [← hu']
    have : off + j = off + j / 2 * 2 := by omega
    rw [this]
    exact hx
  · have e : j = j / 2 * 2 + 1 := by omega
    have hu' : (flat l)[j / 2 * 2 + 1]? = some u := by rw [← e]; exact hu
    rw [flat_y hp] at hu'
    rw [← hu']
    have : off + j = off + j / 2 * 2 + 1 := by omega
    rw [this]
    exact hy

theorem below_grown {w w1 w' : World} {B : Nat} {row : Option Nat} (h : Below B w w1) (hg : w1.grownBy w' row) (hr : ∀ k, row = some k → B ≤ k) (hB : B ≤ w1.heap.size) : Below B w w' :=
  ⟨hg.os.trans h.os, hg.tape.trans h.tape, hg.output.trans h.output, Nat.le_trans h.size hg.size, fun k hk => (hg.block k (by omega) (fun e => by have := hr k e.symm; omega)).trans (h.block k hk)⟩
theorem own_base {w : World} {B B' : Nat} {e : TypeId} {size : Nat} {v : Value} {n : Nat} {xs : List Value} (h : w.ownsRow B e size v n xs) (hB : B' ≤ B) : w.ownsRow B' e size v n xs := by
  refine ⟨h.1, ?_⟩
  rcases h.2 with h0 | ⟨g, cap, cur, hv, hb, hg⟩
  · exact .inl h0
  · exact .inr ⟨g, cap, cur, hv, by omega, hg⟩
theorem rd_drop {w : World} {B b off : Nat} {l : List XY} (h : Rd w B (some ⟨b, off, none⟩) l) (k : Nat) : Rd w B (some ⟨b, off + k * 2, none⟩) (l.drop k) := by
  intro i p hp
  rw [List.getElem?_drop] at hp
  obtain ⟨b', off', hA, hb, hx, hy⟩ := h _ p hp
  obtain ⟨rfl, rfl⟩ : b = b' ∧ off = off' := by simpa using hA
  rw [show off + (k + i) * 2 = off + k * 2 + i * 2 by omega] at hx hy
  exact ⟨b, off + k * 2, rfl, hb, hx, hy⟩
theorem rd_take {w : World} {B : Nat} {A : Option Addr} {l : List XY} (h : Rd w B A l) (k : Nat) : Rd w B A (l.take k) := by
  intro i p hp
  have hp' : l[i]? = some p := by
    rw [List.getElem?_take] at hp
    split at hp
    · exact hp
    · cases hp
  exact h i p hp'
end Go.Proofs.YtbcnkcndhgihaaaDoor

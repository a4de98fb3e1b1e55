/- Lists of corners in memory that a call made itself. -/
import Derived.Test.YtimehkeaeffcaaaBase
namespace Go.Proofs.Ytimehkeaeffcaaa
open Go.RowKit

def flat (l : List XY) : List Value := l.flatMap fun p => [.int .i64 p.X, .int .i64 p.Y]
theorem flat_nil : flat [] = [] := rfl
theorem flat_cons (p : XY) (l : List XY) : flat (p :: l) = .int .i64 p.X :: .int .i64 p.Y :: flat l := rfl
theorem flat_append (a b : List XY) : flat (a ++ b) = flat a ++ flat b := List.flatMap_append
theorem flat_length (l : List XY) : (flat l).length = l.length * 2 := by
  induction l with
  | nil => rfl
  | cons p l ih => rw [flat_cons]; simp only [List.length_cons, ih]; omega
theorem flat_one {l : List XY} {u : Value} (h : u ∈ flat l) : u.oneCell' = true := by
  obtain ⟨p, _, hp⟩ := List.mem_flatMap.1 h
  simp at hp
  rcases hp with rfl | rfl <;> rfl
theorem flat_x : ∀ {l : List XY} {i : Nat} {p : XY}, l[i]? = some p → (flat l)[i * 2]? = some (.int .i64 p.X)
  | [], i, p, h => by simp at h
  | q :: l, 0, p, h => by simp at h; subst h; rfl
  | q :: l, i + 1, p, h => by
    rw [flat_cons, show (i + 1) * 2 = i * 2 + 1 + 1 by omega, List.getElem?_cons_succ, List.getElem?_cons_succ]
    exact flat_x (by simpa using h)
theorem flat_y : ∀ {l : List XY} {i : Nat} {p : XY}, l[i]? = some p → (flat l)[i * 2 + 1]? = some (.int .i64 p.Y)
  | [], i, p, h => by simp at h
  | q :: l, 0, p, h => by simp at h; subst h; rfl
  | q :: l, i + 1, p, h => by
    rw [flat_cons, show (i + 1) * 2 + 1 = i * 2 + 1 + 1 + 1 by omega, List.getElem?_cons_succ, List.getElem?_cons_succ]
    exact flat_y (by simpa using h)

theorem add_none (b off k : Nat) : (⟨b, off, none⟩ : Addr).add k = ⟨b, off + k, none⟩ := by unfold Addr.add; split <;> simp_all

/-- What is read is laid as cells. -/
theorem rd_cells {w : World} {B b off : Nat} {l : List XY} (h : Rd w B (some ⟨b, off, none⟩) l) : ∀ j u, (flat l)[j]? = some u → w.cell? ((⟨b, off, none⟩ : Addr).add j) = some u := by
  intro j u hu
  have hj : j < l.length * 2 := by
    have := (List.getElem?_eq_some_iff.1 hu).1
    rwa [flat_length] at this
  obtain ⟨p, hp⟩ := getElem?_of_lt (show j / 2 < l.length by omega)
  obtain ⟨b', off', hA, _, hx, hy⟩ := h _ p hp
  obtain ⟨rfl, rfl⟩ : b = b' ∧ off = off' := by simpa using hA
  rw [add_none]
  rcases Nat.mod_two_eq_zero_or_one j with h2 | h2
  · have e : j = j / 2 * 2 := by omega
    have hu' : (flat l)[j / 2 * 2]? = some u := by rw [← e]; exact hu
    rw [flat_x hp] at hu'
    rw [← hu']
    have : off + j = off + j / 2 * 2 := by omega
    rw [this]
    exact hx
  · have e : j = j / 2 * 2 + 1 := by omega
    have hu' : (flat l)[j / 2 * 2 + 1]? = some u := by rw [← e]; exact hu
    rw [flat_y hp] at hu'
    rw [← hu']
    have : off + j = off + j / 2 * 2 + 1 := by omega
    rw [this]
    exact hy

abbrev OwnL (w : World) (B : Nat) (v : Value) (l : List XY) : Prop := w.ownsRow B 37 2 v l.length (flat l)

theorem own_rd {w : World} {B : Nat} {v : Value} {l : List XY} (h : OwnL w B v l) : ∃ A c, v = .slice A l.length c ∧ Rd w w.heap.size A l := by
  rcases h.2 with ⟨rfl, hn⟩ | ⟨g, cap, cur, rfl, hB, hg, h1, h2, h3, h4⟩
  · obtain rfl : l = [] := List.length_eq_zero_iff.1 hn
    exact ⟨none, 0, rfl, fun i p hp => by simp at hp⟩
  · refine ⟨some ⟨g, 0, none⟩, cap, rfl, fun i p hp => ⟨g, 0, rfl, (Array.getElem?_eq_some_iff.1 hg).1, ?_, ?_⟩⟩
    · have := h.cells (g := g) rfl _ _ (flat_x hp)
      rwa [add_none] at this
    · have := h.cells (g := g) rfl _ _ (flat_y hp)
      rwa [add_none, ← Nat.add_assoc] at this

/-- The call returns a list of its own. -/
def RetO (l : List XY) (w : World) (e : Ending) (w' : World) : Prop := ∃ v, e = .returned v ∧ OwnL w' w.heap.size v l ∧ Below w.heap.size w w'
/-- The same, and a number behind it. -/
def RetO2 (l : List XY) (z : Int) (w : World) (e : Ending) (w' : World) : Prop := ∃ v, e = .returned (.tuple #[v, .int .i64 z]) ∧ OwnL w' w.heap.size v l ∧ Below w.heap.size w w'

theorem below_grown {w w1 w' : World} {B : Nat} {row : Option Nat} (h : Below B w w1) (hg : w1.grownBy w' row) (hr : ∀ k, row = some k → B ≤ k) (hB : B ≤ w1.heap.size) : Below B w w' :=
  ⟨hg.os.trans h.os, hg.tape.trans h.tape, hg.output.trans h.output, Nat.le_trans h.size hg.size, fun k hk => (hg.block k (by omega) (fun e => by have := hr k e.symm; omega)).trans (h.block k hk)⟩
theorem own_base {w : World} {B B' : Nat} {e : TypeId} {size : Nat} {v : Value} {n : Nat} {xs : List Value} (h : w.ownsRow B e size v n xs) (hB : B' ≤ B) : w.ownsRow B' e size v n xs := by
  refine ⟨h.1, ?_⟩
  rcases h.2 with h0 | ⟨g, cap, cur, hv, hb, hg⟩
  · exact .inl h0
  · exact .inr ⟨g, cap, cur, hv, by omega, hg⟩
theorem rd_drop {w : World} {B b off : Nat} {l : List XY} (h : Rd w B (some ⟨b, off, none⟩) l) (k : Nat) : Rd w B (some ⟨b, off + k * 2, none⟩) (l.drop k) := by
  intro i p hp
  rw [List.getElem?_drop] at hp
  obtain ⟨b', off', hA, hb, hx, hy⟩ := h _ p hp
  obtain ⟨rfl, rfl⟩ : b = b' ∧ off = off' := by simpa using hA
  rw [show off + (k + i) * 2 = off + k * 2 + i * 2 by omega] at hx hy
  exact ⟨b, off + k * 2, rfl, hb, hx, hy⟩
theorem rd_take {w : World} {B : Nat} {A : Option Addr} {l : List XY} (h : Rd w B A l) (k : Nat) : Rd w B A (l.take k) := by
  intro i p hp
  have hp' : l[i]? = some p := by
    rw [List.getElem?_take] at hp
    split at hp
    · exact hp
    · cases hp
  exact h i p hp'
theorem Try.infoXY : (Try.prog.info? 37).map (fun i => (i.zero, i.size, i.bytes)) = some (some (.agg #[.int .i64 0, .int .i64 0]), 2, 16) := by kernel_rfl
end Go.Proofs.Ytimehkeaeffcaaa

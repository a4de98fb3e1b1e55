/- Lists of rectangles, of parts and of places that a call made itself, and a board in a block: facts for the walks of Mirror. A layout in a mirror, seen in a mirror again, and what it leaves. Mirror, of the program: the walk. Mirror, of the reference: the walk. -/
import Derived.Test.YtohlinbcbfgdfaaWK
import Derived.Test.YtohlinbcbfgdfaaMathNM
import Derived.Test.YtohlinbcbfgdfaaW43
namespace Go.Proofs.Ytohlinbcbfgdfaa
open Go.RowKit Go.Shelf

def flatR (l : List RC) : List Value := l.flatMap fun p => [.int .i64 p.X, .int .i64 p.Y, .int .i64 p.W, .int .i64 p.H]
theorem flatR_cons (p : RC) (l : List RC) : flatR (p :: l) = .int .i64 p.X :: .int .i64 p.Y :: .int .i64 p.W :: .int .i64 p.H :: flatR l := rfl
theorem flatR_append (a b : List RC) : flatR (a ++ b) = flatR a ++ flatR b := List.flatMap_append
theorem flatR_get : ∀ {l : List RC} {i : Nat} {p : RC}, l[i]? = some p → (flatR l)[i * 4]? = some (.int .i64 p.X) ∧ (flatR l)[i * 4 + 1]? = some (.int .i64 p.Y) ∧ (flatR l)[i * 4 + 2]? = some (.int .i64 p.W) ∧ (flatR l)[i * 4 + 3]? = some (.int .i64 p.H)
  | [], i, p, h => by simp at h
  | q :: l, 0, p, h => by simp at h; subst h; exact ⟨rfl, rfl, rfl, rfl⟩
  | q :: l, i + 1, p, h => by
    rw [flatR_cons, show (i + 1) * 4 = i * 4 + 4 by omega, show i * 4 + 4 + 1 = i * 4 + 1 + 4 by omega, show i * 4 + 4 + 2 = i * 4 + 2 + 4 by omega, show i * 4 + 4 + 3 = i * 4 + 3 + 4 by omega]
    exact flatR_get (by simpa using h)
theorem Try.infoRect : (Try.prog.info? 61).map (fun i => (i.zero, i.size, i.bytes)) = some (some (.agg #[.int .i64 0, .int .i64 0, .int .i64 0, .int .i64 0]), 4, 32) := by kernel_rfl
theorem info_partsR {i : Option TypeInfo} (h : i.map (fun i => (i.zero, i.size, i.bytes)) = some (some (.agg #[.int .i64 0, .int .i64 0, .int .i64 0, .int .i64 0]), 4, 32)) : ∃ i0, i = some i0 ∧ i0.zero = some (.agg #[.int .i64 0, .int .i64 0, .int .i64 0, .int .i64 0]) ∧ i0.size = 4 ∧ i0.bytes = 32 := by
  cases i with
  | none => simp at h
  | some i0 => simp at h; exact ⟨i0, rfl, h.1, h.2.1, h.2.2⟩
abbrev OwnR (w : World) (B : Nat) (v : Value) (l : List RC) : Prop := w.ownsRow B 61 4 v l.length (flatR l)
theorem own_rdR {w : World} {B : Nat} {v : Value} {l : List RC} (h : OwnR w B v l) : ∃ A c, v = .slice A l.length c ∧ RdR w w.heap.size A l ∧ ∀ a, A = some a → B ≤ a.block := by
  rcases h.2 with ⟨rfl, hn⟩ | ⟨g, cap, cur, rfl, hB, hg, h1, h2, h3, h4⟩
  · obtain rfl : l = [] := List.length_eq_zero_iff.1 hn
    exact ⟨none, 0, rfl, fun i p hp => by simp at hp, fun a h => by cases h⟩
  · refine ⟨some ⟨g, 0, none⟩, cap, rfl, fun i p hp => ?_, fun a h => by cases h; exact hB⟩
    obtain ⟨f0, f1, f2, f3⟩ := flatR_get hp
    have c0 := h.cells (g := g) rfl _ _ f0
    have c1 := h.cells (g := g) rfl _ _ f1
    have c2 := h.cells (g := g) rfl _ _ f2
    have c3 := h.cells (g := g) rfl _ _ f3
    rw [add_none] at c0 c1 c2 c3
    simp only [← Nat.add_assoc] at c1 c2 c3
    exact ⟨g, 0, rfl, (Array.getElem?_eq_some_iff.1 hg).1, c0, c1, c2, c3⟩
theorem ownR_snoc {w : World} {B : Nat} {v : Value} {R R' : List RC} {p : RC} (h : w.ownsRow B 61 4 v (R.length + 1) (flatR R ++ [.int .i64 p.X, .int .i64 p.Y, .int .i64 p.W, .int .i64 p.H])) (e : R' = R ++ [p]) : OwnR w B v R' := by
  subst e
  show w.ownsRow B 61 4 v (R ++ [p]).length (flatR (R ++ [p]))
  rw [flatR_append, List.length_append]
  exact h

def flatQ (l : List PT) : List Value := l.flatMap fun p => [.slice p.A p.o.length p.c, .bool p.t]
theorem flatQ_cons (p : PT) (l : List PT) : flatQ (p :: l) = .slice p.A p.o.length p.c :: .bool p.t :: flatQ l := rfl
theorem flatQ_append (a b : List PT) : flatQ (a ++ b) = flatQ a ++ flatQ b := List.flatMap_append
theorem flatQ_get : ∀ {l : List PT} {i : Nat} {p : PT}, l[i]? = some p → (flatQ l)[i * 2]? = some (.slice p.A p.o.length p.c) ∧ (flatQ l)[i * 2 + 1]? = some (.bool p.t)
  | [], i, p, h => by simp at h
  | q :: l, 0, p, h => by simp at h; subst h; exact ⟨rfl, rfl⟩
  | q :: l, i + 1, p, h => by
    rw [flatQ_cons, show (i + 1) * 2 = i * 2 + 2 by omega, show i * 2 + 2 + 1 = i * 2 + 1 + 2 by omega]
    exact flatQ_get (by simpa using h)
theorem Try.infoPart : (Try.prog.info? 41).map (fun i => (i.zero, i.size, i.bytes)) = some (some (.agg #[.slice none 0 0, .bool false]), 2, 32) := by kernel_rfl
theorem info_partsQ {i : Option TypeInfo} (h : i.map (fun i => (i.zero, i.size, i.bytes)) = some (some (.agg #[.slice none 0 0, .bool false]), 2, 32)) : ∃ i0, i = some i0 ∧ i0.zero = some (.agg #[.slice none 0 0, .bool false]) ∧ i0.size = 2 ∧ i0.bytes = 32 := by
  cases i with
  | none => simp at h
  | some i0 => simp at h; exact ⟨i0, rfl, h.1, h.2.1, h.2.2⟩
abbrev OwnQ (w : World) (B : Nat) (v : Value) (l : List PT) : Prop := w.ownsRow B 41 2 v l.length (flatQ l)
theorem own_rdQ {w : World} {B : Nat} {v : Value} {l : List PT} (h : OwnQ w B v l) : ∃ A c, v = .slice A l.length c ∧ RdP w w.heap.size A l ∧ l.length ≤ c ∧ ∀ a, A = some a → B ≤ a.block := by
  rcases h.2 with ⟨rfl, hn⟩ | ⟨g, cap, cur, rfl, hB, hg, h1, h2, h3, h4⟩
  · obtain rfl : l = [] := List.length_eq_zero_iff.1 hn
    exact ⟨none, 0, rfl, fun i p hp => by simp at hp, Nat.le_refl _, fun a h => by cases h⟩
  · refine ⟨some ⟨g, 0, none⟩, cap, rfl, fun i p hp => ?_, h1, fun a h => by cases h; exact hB⟩
    obtain ⟨f0, f1⟩ := flatQ_get hp
    have c0 := h.cells (g := g) rfl _ _ f0
    have c1 := h.cells (g := g) rfl _ _ f1
    rw [add_none] at c0 c1
    simp only [← Nat.add_assoc] at c1
    exact ⟨g, 0, rfl, (Array.getElem?_eq_some_iff.1 hg).1, c0, c1⟩
theorem ownQ_snoc {w : World} {B : Nat} {v : Value} {R R' : List PT} {p : PT} (h : w.ownsRow B 41 2 v (R.length + 1) (flatQ R ++ [.slice p.A p.o.length p.c, .bool p.t])) (e : R' = R ++ [p]) : OwnQ w B v R' := by
  subst e
  show w.ownsRow B 41 2 v (R ++ [p]).length (flatQ (R ++ [p]))
  rw [flatQ_append, List.length_append]
  exact h
theorem own_rdP2 {w : World} {B : Nat} {v : Value} {l : List PL} (h : OwnP w B v l) : ∃ A c, v = .slice A l.length c ∧ RdL w w.heap.size A l ∧ l.length ≤ c ∧ ∀ a, A = some a → B ≤ a.block := by
  obtain ⟨A, c, e, hr⟩ := own_rdP h
  refine ⟨A, c, e, hr, ?_⟩
  rcases h.2 with ⟨rfl, hn⟩ | ⟨g, cap, cur, rfl, hB, hg, h1, h2, h3, h4⟩
  · injection e with e1 e2 e3
    subst e1
    exact ⟨by omega, fun a h => by cases h⟩
  · injection e with e1 e2 e3
    subst e1 e3
    exact ⟨h1, fun a h => by cases h; exact hB⟩
theorem own_new2 {w : World} {B : Nat} {v : Value} {l : List XY} (h : OwnL w B v l) : ∃ A c, v = .slice A l.length c ∧ Rd w w.heap.size A l ∧ l.length ≤ c ∧ ∀ a, A = some a → B ≤ a.block ∧ a.block < w.heap.size := by
  obtain ⟨A, c, e, hr, hn⟩ := own_new h
  refine ⟨A, c, e, hr, ?_, hn⟩
  rcases h.2 with ⟨rfl, hn⟩ | ⟨g, cap, cur, rfl, hB, hg, h1, h2, h3, h4⟩
  · injection e with e1 e2 e3
    omega
  · injection e with e1 e2 e3
    subst e3
    exact h1
/-- An own list, when a cell of another block is set. -/
theorem own_set {w : World} {B e size n k : Nat} {v : Value} {xs : List Value} (h : w.ownsRow B e size v n xs) (a : Addr) (ha : a.block = k) (hk : k < B) (x : Value) : (w.setCell a x).ownsRow B e size v n xs := by
  refine ⟨h.1, ?_⟩
  rcases h.2 with hn | ⟨g, cap, cur, rfl, hg, hgg, rest⟩
  · exact .inl hn
  · refine .inr ⟨g, cap, cur, rfl, hg, ?_, rest⟩
    have : a.block ≠ g := by omega
    simp [World.setCell, Array.getElem?_modify, this, hgg]

/-- A board in a block, whose list is the value v. -/
def Bx (w : World) (B : Nat) (b : BD) (v : Value) : Prop := w.heap[B]? = some (.cells #[.int .i64 b.W, .int .i64 b.H, .int .i64 b.G, v] 24 (0, 0))
theorem Bx.c {w : World} {B : Nat} {b : BD} {v : Value} (h : Bx w B b v) : w.cell? ⟨B, 0, none⟩ = some (.int .i64 b.W) ∧ w.cell? ⟨B, 1, none⟩ = some (.int .i64 b.H) ∧ w.cell? ⟨B, 2, none⟩ = some (.int .i64 b.G) ∧ w.cell? ⟨B, 3, none⟩ = some v := by unfold Bx at h; exact ⟨by simp [World.cell?, h], by simp [World.cell?, h], by simp [World.cell?, h], by simp [World.cell?, h]⟩
theorem Bx.f {w : World} {B : Nat} {b : BD} {v : Value} (h : Bx w B b v) : w.frozen? ⟨B, 0, none⟩ = false ∧ w.frozen? ⟨B, 1, none⟩ = false ∧ w.frozen? ⟨B, 2, none⟩ = false ∧ w.frozen? ⟨B, 3, none⟩ = false := by unfold Bx at h; exact ⟨by simp [World.frozen?, h], by simp [World.frozen?, h], by simp [World.frozen?, h], by simp [World.frozen?, h]⟩
theorem Bx.below {w w' : World} {B C : Nat} {b : BD} {v : Value} (h : Bx w B b v) (hb : Below C w w') (hB : B < C) : Bx w' B b v := (hb.block B hB).trans h
theorem Bx.new (w : World) (b : BD) (v : Value) : Bx (w.alloc (.cells #[.int .i64 b.W, .int .i64 b.H, .int .i64 b.G, v] 24)) w.heap.size b v := heap_alloc_new w _
theorem Bx.set {w : World} {B : Nat} {b : BD} {v : Value} (h : Bx w B b v) (x : Value) : Bx (w.setCell ⟨B, 3, none⟩ x) B b x := by
  unfold Bx at h ⊢
  simp [World.setCell, Array.getElem?_modify, h]
theorem Bx.grown {w w' : World} {B : Nat} {row : Option Nat} {b : BD} {v : Value} (h : Bx w B b v) (hg : w.grownBy w' row) (hne : some B ≠ row) : Bx w' B b v := (hg.block B (Array.getElem?_eq_some_iff.1 h).1 hne).trans h
theorem Bx.rd {w : World} {B : Nat} {b : BD} {v : Value} (h : Bx w B b v) (x y z u : Value) : (w.setCell ⟨B, 0, none⟩ x).cell? ⟨B, 0, none⟩ = some x ∧ ((w.setCell ⟨B, 0, none⟩ x).setCell ⟨B, 1, none⟩ y).cell? ⟨B, 1, none⟩ = some y ∧
    (((w.setCell ⟨B, 0, none⟩ x).setCell ⟨B, 1, none⟩ y).setCell ⟨B, 2, none⟩ z).cell? ⟨B, 2, none⟩ = some z ∧ ((((w.setCell ⟨B, 0, none⟩ x).setCell ⟨B, 1, none⟩ y).setCell ⟨B, 2, none⟩ z).setCell ⟨B, 3, none⟩ u).cell? ⟨B, 3, none⟩ = some u := by
  unfold Bx at h
  exact ⟨by simp [World.setCell, World.cell?, Array.getElem?_modify, h], by simp [World.setCell, World.cell?, Array.getElem?_modify, h], by simp [World.setCell, World.cell?, Array.getElem?_modify, h], by simp [World.setCell, World.cell?, Array.getElem?_modify, h]⟩
theorem set_below {B : Nat} {w w' : World} (h : Below B w w') (a : Addr) (ha : B ≤ a.block) (x : Value) : Below B w (w'.setCell a x) := by
  refine ⟨h.os, h.tape, h.output, by simpa [World.setCell] using h.size, fun k hk => ?_⟩
  have : a.block ≠ k := by omega
  simp only [World.setCell, Array.getElem?_modify, if_neg this]
  exact h.block k hk

theorem set_grown (w : World) (a : Addr) (x : Value) : w.grownBy (w.setCell a x) (some a.block) := by
  refine ⟨rfl, rfl, rfl, by simp [World.setCell], fun k _ hne => ?_⟩
  have : a.block ≠ k := fun e => hne (by rw [e])
  simp [World.setCell, Array.getElem?_modify, this]
/-- A part in a block. -/
def Qx (w : World) (B : Nat) (v : Value) (t : Bool) : Prop := w.heap[B]? = some (.cells #[v, .bool t] 41 (0, 0))
theorem Qx.c {w : World} {B : Nat} {v : Value} {t : Bool} (h : Qx w B v t) : w.cell? ⟨B, 0, none⟩ = some v ∧ w.cell? ⟨B, 1, none⟩ = some (.bool t) ∧ w.frozen? ⟨B, 0, none⟩ = false ∧ w.frozen? ⟨B, 1, none⟩ = false := by
  unfold Qx at h; exact ⟨by simp [World.cell?, h], by simp [World.cell?, h], by simp [World.frozen?, h], by simp [World.frozen?, h]⟩
theorem Qx.new (w : World) (v : Value) (t : Bool) : Qx (w.alloc (.cells #[v, .bool t] 41)) w.heap.size v t := heap_alloc_new w _
theorem Qx.below {w w' : World} {B C : Nat} {v : Value} {t : Bool} (h : Qx w B v t) (hb : Below C w w') (hB : B < C) : Qx w' B v t := (hb.block B hB).trans h
theorem Qx.set {w : World} {B : Nat} {v : Value} {t : Bool} (h : Qx w B v t) (x : Value) : Qx (w.setCell ⟨B, 0, none⟩ x) B x t := by
  unfold Qx at h ⊢
  simp [World.setCell, Array.getElem?_modify, h]

/-! Lists that are read, when another block has grown. -/
theorem rdR_grown {w w' : World} {row : Option Nat} {A : Option Addr} {l : List RC} (h : RdR w w.heap.size A l) (hg : w.grownBy w' row) (hne : ∀ a, A = some a → some a.block ≠ row) : RdR w' w'.heap.size A l := by
  intro i p hp
  obtain ⟨b, off, hA, hb, h0, h1, h2, h3⟩ := h i p hp
  have hn := hne _ hA
  exact ⟨b, off, hA, Nat.lt_of_lt_of_le hb hg.size, hg.cell h0 hn, hg.cell h1 hn, hg.cell h2 hn, hg.cell h3 hn⟩
theorem rdL_grown {w w' : World} {row : Option Nat} {A : Option Addr} {l : List PL} (h : RdL w w.heap.size A l) (hg : w.grownBy w' row) (hne : ∀ a, A = some a → some a.block ≠ row) : RdL w' w'.heap.size A l := by
  intro i p hp
  obtain ⟨b, off, hA, hb, h0, h1, h2, h3⟩ := h i p hp
  have hn := hne _ hA
  exact ⟨b, off, hA, Nat.lt_of_lt_of_le hb hg.size, hg.cell h0 hn, hg.cell h1 hn, hg.cell h2 hn, hg.cell h3 hn⟩
theorem rdP_grown {w w' : World} {row : Option Nat} {A : Option Addr} {l : List PT} (h : RdP w w.heap.size A l) (hg : w.grownBy w' row) (hne : ∀ a, A = some a → some a.block ≠ row) : RdP w' w'.heap.size A l := by
  intro i p hp
  obtain ⟨b, off, hA, hb, h0, h1⟩ := h i p hp
  have hn := hne _ hA
  exact ⟨b, off, hA, Nat.lt_of_lt_of_le hb hg.size, hg.cell h0 hn, hg.cell h1 hn⟩
/-- All parts' outlines read, and none lies in the row's block. -/
structure AllQ (B : Nat) (w : World) (v : Value) (qs : List PT) : Prop where
  lo : ∀ s ∈ qs, ∀ a, s.A = some a → B ≤ a.block
  each : ∀ s ∈ qs, Rd w w.heap.size s.A s.o
  lt : ∀ s ∈ qs, ∀ a, s.A = some a → a.block < w.heap.size
  off : ∀ s ∈ qs, ∀ a, s.A = some a → some a.block ≠ v.ownBlock
  cap : ∀ s ∈ qs, s.o.length ≤ s.c
theorem AllQ.below {B : Nat} {w w' : World} {v : Value} {sl : List PT} (h : AllQ B w v sl) (hb : Below w.heap.size w w') : AllQ B w' v sl :=
  ⟨h.lo, fun s hs => (h.each s hs).now hb, fun s hs a ha => Nat.lt_of_lt_of_le (h.lt s hs a ha) hb.size, h.off, h.cap⟩
theorem AllQ.grown {B : Nat} {w w' : World} {v v' : Value} {sl : List PT} (h : AllQ B w v sl) (hg : w.grownBy w' v.ownBlock) (hv : v'.ownBlock = v.ownBlock ∨ v'.ownBlock = some w.heap.size) : AllQ B w' v' sl := by
  refine ⟨h.lo, fun s hs => rd_grown (h.each s hs) hg (h.off s hs), fun s hs a ha => Nat.lt_of_lt_of_le (h.lt s hs a ha) hg.size, fun s hs a ha => ?_, h.cap⟩
  rcases hv with e | e
  · rw [e]; exact h.off s hs a ha
  · rw [e]; have := h.lt s hs a ha; simp; omega
theorem AllQ.rd {B : Nat} {w w' : World} {v : Value} {A : Option Addr} {k : Nat} {sl : List PT} (h : AllQ B w v sl) (hA : RdP w w.heap.size A sl) (hn : ∀ a, A = some a → B ≤ a.block) (hg : w.grownBy w' (some k)) (hk : k < B) : RdPP w' w'.heap.size A sl :=
  ⟨rdP_grown hA hg (fun a ha => by have := hn a ha; simp; omega), fun p hp => ⟨rd_grown (h.each p hp) hg (fun a ha => by have := h.lo p hp a ha; simp; omega), h.cap p hp⟩⟩
/-- Another list is made behind all these. -/
theorem AllQ.snoc {B : Nat} {w : World} {v : Value} {sl : List PT} {p : PT} {C : Nat} (h : AllQ B w v sl) (hr : Rd w w.heap.size p.A p.o) (hc : p.o.length ≤ p.c) (hn : ∀ a, p.A = some a → C ≤ a.block ∧ a.block < w.heap.size) (hB : B ≤ C) (hv : ∀ k, v.ownBlock = some k → k < C) : AllQ B w v (sl ++ [p]) := by
  refine ⟨fun s hs a ha => ?_, fun s hs => ?_, fun s hs a ha => ?_, fun s hs a ha => ?_, fun s hs => ?_⟩
  all_goals rcases List.mem_append.1 hs with h' | h'
  · exact h.lo s h' a ha
  · simp at h'; subst h'; have := (hn a ha).1; omega
  · exact h.each s h'
  · simp at h'; subst h'; exact hr
  · exact h.lt s h' a ha
  · simp at h'; subst h'; exact (hn a ha).2
  · exact h.off s h' a ha
  · simp at h'; subst h'
    intro e
    have := hv _ e.symm
    have := (hn a ha).1
    omega
  · exact h.cap s h'
  · simp at h'; subst h'; exact hc

/-! What Mirror returns. -/
def zeroB : BD := ⟨0, 0, 0, []⟩
def mirBS (b : BD) (ps : List PT) (L : List PL) : BD := if (checkS b ps L).2 = 0 then mirB b else zeroB
def mirPS (b : BD) (ps : List PT) (L : List PL) : List (List XY × Bool) := if (checkS b ps L).2 = 0 then ps.map (fun p => (mirO p.o, p.t)) else []
def mirLS (b : BD) (ps : List PT) (L : List PL) : List PL := if (checkS b ps L).2 = 0 then L.map (mirL b.W) else []
structure RetMir (b : BD) (ps : List PT) (L : List PL) (w : World) (e : Ending) (w' : World) : Prop where
  ex : ∃ A1 c1 A2 c2 qs A3 c3, e = .returned (.tuple #[bdv (mirBS b ps L) A1 c1, .slice A2 qs.length c2, .slice A3 (mirLS b ps L).length c3, .int .i64 (checkS b ps L).2]) ∧
    qs.map (fun p => (p.o, p.t)) = mirPS b ps L ∧ (mirLS b ps L).length ≤ c3 ∧ RdR w' w'.heap.size A1 (mirBS b ps L).F ∧ RdPP w' w'.heap.size A2 qs ∧ RdL w' w'.heap.size A3 (mirLS b ps L)
  below : Below w.heap.size w w'
theorem RetMir.no {b : BD} {ps : List PT} {L : List PL} {w w' : World} {f : Int} (hf : f ≠ 0) (h : (checkS b ps L).2 = f) (hb : Below w.heap.size w w') :
    RetMir b ps L w (.returned (.tuple #[bdv zeroB none 0, .slice none 0 0, .slice none 0 0, .int .i64 f])) w' := by
  subst h
  have e1 : mirBS b ps L = zeroB := by unfold mirBS; rw [if_neg hf]
  have e2 : mirPS b ps L = [] := by unfold mirPS; rw [if_neg hf]
  have e3 : mirLS b ps L = [] := by unfold mirLS; rw [if_neg hf]
  refine ⟨⟨none, 0, none, 0, [], none, 0, ?_, ?_, ?_, ?_, ?_, ?_⟩, hb⟩
  · rw [e1, e3]; rfl
  · rw [e2]; rfl
  · rw [e3]; exact Nat.le_refl _
  · rw [e1]; intro i p hp; simp [zeroB] at hp
  · exact ⟨fun i p hp => by simp at hp, fun p hp => by simp at hp⟩
  · rw [e3]; intro i p hp; simp at hp
theorem RetMir.yes {b : BD} {ps : List PT} {L : List PL} {w w' : World} (h : (checkS b ps L).2 = 0) (hb : Below w.heap.size w w') {A1 A2 A3 : Option Addr} {c1 c2 c3 : Nat} {qs : List PT} {n m : Nat} (hn : n = (mirB b).F.length) (hm : m = L.length)
    (hq : qs.map (fun p => (p.o, p.t)) = ps.map (fun p => (mirO p.o, p.t))) (hc : L.length ≤ c3) (hR : RdR w' w'.heap.size A1 (mirB b).F) (hP : RdPP w' w'.heap.size A2 qs) (hL : RdL w' w'.heap.size A3 (L.map (mirL b.W))) :
    RetMir b ps L w (.returned (.tuple #[.agg #[.int .i64 b.W, .int .i64 b.H, .int .i64 b.G, .slice A1 n c1], .slice A2 qs.length c2, .slice A3 m c3, .int .i64 0])) w' := by
  have e1 : mirBS b ps L = mirB b := by unfold mirBS; rw [if_pos h]
  have e2 : mirPS b ps L = ps.map (fun p => (mirO p.o, p.t)) := by unfold mirPS; rw [if_pos h]
  have e3 : mirLS b ps L = L.map (mirL b.W) := by unfold mirLS; rw [if_pos h]
  subst hn hm
  refine ⟨⟨A1, c1, A2, c2, qs, A3, c3, ?_, ?_, ?_, ?_, ?_, ?_⟩, hb⟩
  · rw [e1, e3, h, List.length_map]; rfl
  · rw [e2]; exact hq
  · rw [e3, List.length_map]; exact hc
  · rw [e1]; exact hR
  · exact hP
  · rw [e3]; exact hL
end Go.Proofs.Ytohlinbcbfgdfaa

namespace Go.Proofs.Ytohlinbcbfgdfaa
open Go.RowKit (wrap64)

theorem mirO_facts {o : List XY} (h : validB o = true) : mirO (mirO o) = canonL o ∧ areaW (mirO o) = areaW o := by
  obtain ⟨m, t, hm, _, e1, e2, _, _, e3, _⟩ := back_facts h
  have e4 : m = mirO o := by
    unfold mirrorS at e1
    rw [if_pos h] at e1
    exact (Prod.mk.inj e1).1.symm
  subst e4
  refine ⟨?_, ?_⟩
  · unfold mirrorS at e2
    rw [if_pos hm] at e2
    exact (Prod.mk.inj e2).1
  · unfold area2S at e3
    rw [if_pos hm, if_pos h] at e3
    exact (Prod.mk.inj e3).1
theorem mirPs_of {ps qs : List PT} (h : qs.map (fun p => (p.o, p.t)) = ps.map (fun p => (mirO p.o, p.t))) : MirPs ps qs := by
  refine ⟨by have := congrArg List.length h; simpa using this, fun i p q hp hq => ?_⟩
  have e := congrArg (fun l => l[i]?) h
  simp only [List.getElem?_map, hp, hq, Option.map_some, Option.some.injEq, Prod.mk.injEq] at e
  exact e
theorem mir_each {b : BD} {ps qs : List PT} {L : List PL} (h : MirPs ps qs) (hc : (checkS b ps L).2 = 0) {p : PL} (hp : p ∈ L) :
    mirL b.W (mirL b.W p) = p ∧ (partAt qs p.part).o = mirO (partAt ps p.part).o ∧ validB (partAt ps p.part).o = true := by
  have hrl := checkS_ok hc
  obtain ⟨c1, c2, c3⟩ := (checkS_zero hrl.hb hrl.hp).1 hc
  obtain ⟨d1, d2, d3⟩ := check3S_zero.1 c3
  rw [any_map', List.any_eq_false] at d1
  obtain ⟨_, _, m3, m4, m5⟩ := mir_place h hrl.hb hrl.hp (hrl.hr p hp) (by simpa using d1 p hp)
  exact ⟨m3, m4, m5⟩
theorem mir_waste {b : BD} {ps qs : List PT} {L : List PL} (h : MirPs ps qs) (hc : (checkS b ps L).2 = 0) : wasteS (mirB b) qs (L.map (mirL b.W)) = wasteS b ps L := by
  unfold wasteS
  rw [if_pos hc, if_pos (mir_right h hc)]
  have key : ∀ k, k ≤ L.length → wasTo (mirB b) qs (L.map (mirL b.W)) k = wasTo b ps L k := by
    intro k
    induction k with
    | zero => intro _; rfl
    | succ k ih =>
      intro hk
      obtain ⟨p, hp⟩ := getElem?_of_lt (show k < L.length by omega)
      obtain ⟨_, e1, e2⟩ := mir_each h hc (List.mem_of_getElem? hp)
      rw [wasTo_succ hp, wasTo_succ (p := mirL b.W p) (by rw [List.getElem?_map, hp]; rfl), ih (by omega)]
      show wrap64 (_ - areaW (partAt qs p.part).o) = _
      rw [e1, (mirO_facts e2).2]
  rw [List.length_map, key _ (Nat.le_refl _)]
theorem mir_back {b : BD} {ps qs : List PT} {L : List PL} (h : qs.map (fun p => (p.o, p.t)) = ps.map (fun p => (mirO p.o, p.t))) (hc : (checkS b ps L).2 = 0) :
    mirBS (mirB b) qs (L.map (mirL b.W)) = b ∧ mirLS (mirB b) qs (L.map (mirL b.W)) = L ∧ mirPS (mirB b) qs (L.map (mirL b.W)) = ps.map (fun p => (canonL p.o, p.t)) := by
  have hm := mirPs_of h
  have hr := mir_right hm hc
  have hrl := checkS_ok hc
  refine ⟨by unfold mirBS; rw [if_pos hr, mirB_mirB hrl.hb], ?_, ?_⟩
  · unfold mirLS
    rw [if_pos hr]
    show (L.map (mirL b.W)).map (mirL b.W) = L
    rw [List.map_map]
    conv => rhs; rw [← List.map_id L]
    exact List.map_congr_left fun p hp => (mir_each hm hc hp).1
  · unfold mirPS
    rw [if_pos hr]
    have e : qs.map (fun p => (mirO p.o, p.t)) = (qs.map (fun p => (p.o, p.t))).map (fun x => (mirO x.1, x.2)) := by rw [List.map_map]; rfl
    rw [e, h, List.map_map]
    exact List.map_congr_left fun p hp => by show (mirO (mirO p.o), p.t) = _; rw [(mirO_facts (partsB_each hrl.hp hp)).1]
end Go.Proofs.Ytohlinbcbfgdfaa

namespace Go.Proofs.Ytohlinbcbfgdfaa
open Go.RowKit Go.Shelf

set_option maxRecDepth 100000 in
set_option maxHeartbeats 4000000 in
theorem nMirror_any (b : BD) (A A2 A3 : Option Addr) (c c2 c3 : Nat) (ps : List PT) (L : List PL) (w : World) (hF : RdR w w.heap.size A b.F) (hp : RdPP w w.heap.size A2 ps) (hl : RdL w w.heap.size A3 L) :
    Calls Try.prog 8 #[bdv b A c, .slice A2 ps.length c2, .slice A3 L.length c3] w (RetMir b ps L w) := by
  have HF := Lib.hid hF; clear hF
  have HP := Lib.hid hp; clear hp
  have HL := Lib.hid hl; clear hl
  obtain ⟨w0, hw0⟩ : ∃ w0, (w.alloc (.cells #[.int .i64 b.W, .int .i64 b.H, .int .i64 b.G, .slice A b.F.length c] 24)).alloc (.cells #[.int .i64 0, .int .i64 0, .int .i64 0, .slice none 0 0] 24) = w0 := ⟨_, rfl⟩
  have hB0 : Below w.heap.size w w0 := by rw [← hw0]; (repeat (first | exact Below.refl _ _ | assumption | refine Below.alloc ?_ (by first | exact Nat.le_refl _ | exact Below.size (by assumption) | omega | (simp <;> omega)) _ | refine Below.setCell ?_ (by first | exact Nat.le_refl _ | exact Below.size (by assumption) | omega | (simp <;> omega)) _ | refine below_drewN ?_ _ | refine Below.drew ?_))
  have hz0 : w0.heap.size = w.heap.size + 2 := by rw [← hw0]; simp
  have hbd : BdAt w0 w.heap.size b A c := by rw [← hw0]; exact (BdAt.new w b A c).below (C := w.heap.size + 1) (by (repeat (first | exact Below.refl _ _ | assumption | refine Below.alloc ?_ (by first | exact Nat.le_refl _ | exact Below.size (by assumption) | omega | (simp <;> omega)) _ | refine Below.setCell ?_ (by first | exact Nat.le_refl _ | exact Below.size (by assumption) | omega | (simp <;> omega)) _ | refine below_drewN ?_ _ | refine Below.drew ?_))) (by omega)
  have hbz : Bx w0 (w.heap.size + 1) zeroB (.slice none 0 0) := by
    rw [← hw0]
    have := Bx.new (w.alloc (.cells #[.int .i64 b.W, .int .i64 b.H, .int .i64 b.G, .slice A b.F.length c] 24)) zeroB (.slice none 0 0)
    rwa [World.size_alloc] at this
  have HBD := Lib.hid hbd
  have HBZ := Lib.hid hbz
  obtain ⟨k0, k1, k2, k3⟩ := hbd
  clear hbz
  have hok := fun h => checkS_ok (b := b) (ps := ps) (L := L) h
  obtain ⟨⟨n, f⟩, hn⟩ : ∃ r, checkS b ps L = r := ⟨_, rfl⟩
  have hn2 : (checkS b ps L).2 = f := by rw [hn]
  rw [hn2] at hok
  have HN := Lib.hid hn; clear hn
  have HN2 := Lib.hid hn2; clear hn2
  have HOK := Lib.hid hok; clear hok
  go_enter Try.func8, Try.ntmps8
  go_wp2_with fail
  clear hw0
  refine (Check_any b A A2 A3 c c2 c3 ps L _ (HF.out.now hB0) (HP.out.now hB0) (HL.out.now hB0)).mono ?_
  rintro e w2 ⟨rfl, hb2⟩
  rw [HN.out]
  have hB2 := hB0.trans (hb2.mono hB0.size)
  have hs2 := hb2.size
  clear k0 k1 k2 k3
  have HBD2 := Lib.hid (HBD.out.below hb2 (by omega))
  have HBZ2 := Lib.hid (HBZ.out.below hb2 (by omega))
  obtain ⟨k0, k1, k2, k3⟩ := HBD2.out
  have hww : w.heap.size < w2.heap.size := by omega
  have hww1 : w.heap.size + 1 < w2.heap.size := by omega
  by_cases hf : f = 0
  case neg =>
    obtain ⟨z0, z1, z2, z3⟩ := HBZ2.out.c
    obtain ⟨g0, g1, g2, g3⟩ := HBZ2.out.f
    go_wp2
    obtain ⟨r0, r1, r2, r3⟩ := Bx.rd HBZ2.out (.int .i64 0) (.int .i64 0) (.int .i64 0) (.slice none 0 0); refine bodyPost_ret (v := .tuple #[bdv zeroB none 0, .slice none 0 0, .slice none 0 0, .int .i64 f]) (by simp [results, Try.results8, go_sem, r0, r1, r2, r3, zeroB]) rfl ?_
    exact RetMir.no hf HN2.out (by (repeat (first | exact Below.refl _ _ | assumption | refine Below.alloc ?_ (by first | exact Nat.le_refl _ | exact Below.size (by assumption) | omega | (simp <;> omega)) _ | refine Below.setCell ?_ (by first | exact Nat.le_refl _ | exact Below.size (by assumption) | omega | (simp <;> omega)) _ | refine below_drewN ?_ _ | refine Below.drew ?_)))
  subst hf
  have HRL := Lib.hid (HOK.out rfl)
  have hlL := HRL.out.hl
  have hps := partsB_len HRL.out.hp
  obtain ⟨_, _, _, _, _, _, f10⟩ := boardB_facts HRL.out.hb
  obtain ⟨i1, hi1, hy1, hy2, hy3⟩ := info_partsR Try.infoRect
  have HJ1 := Lib.hid hi1; clear hi1
  obtain ⟨i2, hi2, hx1, hx2, hx3⟩ := info_partsQ Try.infoPart
  have HJ2 := Lib.hid hi2; clear hi2
  obtain ⟨i3, hi3, hu1, hu2, hu3⟩ := info_partsP Try.infoPlace
  have HJ3 := Lib.hid hi3; clear hi3
  have HBX0 := Lib.hid (Bx.new w2 b (.slice none 0 0))
  go_wp2
  go_loopw [14, 39] (fun _ i wr => ∃ (k : Nat) (v : Value), k ≤ b.F.length ∧ i = .int .i64 k ∧ Bx wr w2.heap.size b v ∧ OwnR wr (w2.heap.size + 1) v ((b.F.take k).map (mirR b.W)) ∧ w2.heap.size < wr.heap.size ∧ Below w2.heap.size w2 wr) (fun _ i _ => b.F.length - (intOf i).toNat)
  case atStart => exact ⟨0, _, Nat.zero_le _, rfl, HBX0.out, World.ownsRow_nil _ _ _ _, by simp, by (repeat (first | exact Below.refl _ _ | assumption | refine Below.alloc ?_ (by first | exact Nat.le_refl _ | exact Below.size (by assumption) | omega | (simp <;> omega)) _ | refine Below.setCell ?_ (by first | exact Nat.le_refl _ | exact Below.size (by assumption) | omega | (simp <;> omega)) _ | refine below_drewN ?_ _ | refine Below.drew ?_))⟩
  case round =>
    obtain ⟨k, v, hk, rfl, hbx, hown, hsz, hB⟩ := hrel
    have HX := Lib.hid hbx; clear hbx
    have HO := Lib.hid hown; clear hown
    by_cases hlt : k < b.F.length
    · obtain ⟨r, hr⟩ := getElem?_of_lt hlt
      obtain ⟨bb, off, hA, hbb, d0, d1, d2, d3⟩ := ((HF.out.now hB2).below hB) k r hr
      subst hA
      have hbr : bb < wr.heap.size := by have := hB.size; omega
      have HQ := Lib.hid (take_succ_of hr); clear hr
      have hwr0 : w.heap.size < wr.heap.size := by omega
      obtain ⟨k0, k1, k2, k3⟩ := HBD2.out.below hB hww
      obtain ⟨x0, x1, x2, x3⟩ := HX.out.c
      have hwm : wrap64 (wrap64 (b.W - r.X) - r.W) = (mirR b.W r).X := rfl
      have hmr : (mirR b.W r).Y = r.Y ∧ (mirR b.W r).W = r.W ∧ (mirR b.W r).H = r.H := ⟨rfl, rfl, rfl⟩
      obtain ⟨m, hm⟩ : ∃ m, mirR b.W r = m := ⟨_, rfl⟩
      have hsn : (b.F.take (k + 1)).map (mirR b.W) = (b.F.take k).map (mirR b.W) ++ [m] := by rw [HQ.out, List.map_append, ← hm]; rfl
      rw [hm] at hwm hmr
      have HSN := Lib.hid hsn; clear hsn hm HQ
      obtain ⟨R, hR⟩ : ∃ R, (b.F.take k).map (mirR b.W) = R := ⟨_, rfl⟩
      have hlen : R.length = k := by rw [← hR]; simp; omega
      have hsn := HSN.out
      have hown := HO.out
      rw [hR] at hsn hown
      have HSN2 := Lib.hid hsn
      have HO2 := Lib.hid (own_belowP hown (w' := wr.alloc (.cells #[.int .i64 m.X, .int .i64 r.Y, .int .i64 r.W, .int .i64 r.H] 61)) (by (repeat (first | exact Below.refl _ _ | assumption | refine Below.alloc ?_ (by first | exact Nat.le_refl _ | exact Below.size (by assumption) | omega | (simp <;> omega)) _ | refine Below.setCell ?_ (by first | exact Nat.le_refl _ | exact Below.size (by assumption) | omega | (simp <;> omega)) _ | refine below_drewN ?_ _ | refine Below.drew ?_))))
      have HX2 := Lib.hid (HX.out.below (C := wr.heap.size) (w' := (wr.alloc (.cells #[.int .i64 m.X, .int .i64 r.Y, .int .i64 r.W, .int .i64 r.H] 61)).alloc (.cells #[.int .i64 m.X, .int .i64 r.Y, .int .i64 r.W, .int .i64 r.H] 61)) (by (repeat (first | exact Below.refl _ _ | assumption | refine Below.alloc ?_ (by first | exact Nat.le_refl _ | exact Below.size (by assumption) | omega | (simp <;> omega)) _ | refine Below.setCell ?_ (by first | exact Nat.le_refl _ | exact Below.size (by assumption) | omega | (simp <;> omega)) _ | refine below_drewN ?_ _ | refine Below.drew ?_))) hsz)
      clear hsn hown hR HSN HO
      go_wp2_with (at_builtin; refine wpList_append_own _ rfl _ _ 22 rfl (w2.heap.size + 1) 61 i1 (.agg #[.int .i64 0, .int .i64 0, .int .i64 0, .int .i64 0]) 4 32 Try.underlying22 HJ1.out hy1 hy2 hy3 rfl (by decide) _ _ _ rfl (HO2.out.alloc _) ⟨wr.heap.size + 1, 0, none⟩ 1 1 [.int .i64 m.X, .int .i64 r.Y, .int .i64 r.W, .int .i64 r.H] rfl rfl (by intro j u hj; match j, hj with | 0, hj => (simp at hj; subst hj; simp [Addr.add]) | 1, hj => (simp at hj; subst hj; simp [Addr.add]) | 2, hj => (simp at hj; subst hj; simp [Addr.add]) | 3, hj => (simp at hj; subst hj; simp [Addr.add]) | j + 4, hj => simp at hj) (by intro u hu; simp at hu; rcases hu with rfl | rfl | rfl | rfl <;> rfl) (by unfold maxLen; omega) (by omega) (by simp; omega) ?_; intro v' w11 hown' hgrow _; have hB11 := below_grown (w1 := (wr.alloc (.cells #[.int .i64 m.X, .int .i64 r.Y, .int .i64 r.W, .int .i64 r.H] 61)).alloc (.cells #[.int .i64 m.X, .int .i64 r.Y, .int .i64 r.W, .int .i64 r.H] 61)) ((hB.alloc (by omega) _).alloc (by simp; omega) _) hgrow (fun j hj => by have := (HO2.out.lt j hj).1; omega) (by simp; omega); have hne11 : some w2.heap.size ≠ v.ownBlock := (fun e => by have := (HO2.out.lt _ e.symm).1; omega); have HX11 := Lib.hid (HX2.out.grown hgrow hne11); have own12 := ownR_snoc (p := ⟨m.X, r.Y, r.W, r.H⟩) hown' rfl; obtain ⟨Av, cv, hvv, _⟩ := own_rdR own12; subst hvv; have HOW := Lib.hid own12; have hsz11 := hgrow.size; simp only [World.size_alloc] at hsz11; clear own12 hown' hgrow; obtain ⟨g0, g1, g2, g3⟩ := HX11.out.f; obtain ⟨y0, y1, y2, y3⟩ := HX11.out.c)
      go_wp2
      go_roundw
      case rel =>
        refine ⟨k + 1, _, by omega, by go_num, HX11.out.set _, ?_, by simp [World.setCell]; omega, set_below hB11 _ (Nat.le_refl _) _⟩
        rw [HSN2.out]
        have e := own_set HOW.out ⟨w2.heap.size, 3, none⟩ rfl (Nat.lt_succ_self _) (.slice Av (k + 1) cv)
        have e1 : (⟨m.X, r.Y, r.W, r.H⟩ : RC) = m := by obtain ⟨h1, h2, h3⟩ := hmr; rw [← h1, ← h2, ← h3]
        rw [e1] at e
        have hl2 : (R ++ [m]).length = k + 1 := by simp [hlen]
        show World.ownsRow _ _ _ _ _ (R ++ [m]).length _
        rw [hl2]
        simpa [hlen] using e
      case measure => simp [intOf]; omega
    · obtain rfl : k = b.F.length := by omega
      rw [List.take_length] at HO
      obtain ⟨A5, c5, hv5, hr5, hn5⟩ := own_rdR HO.out
      subst hv5
      have HR5 := Lib.hid hr5; clear hr5 HO
      have HN5 := Lib.hid hn5; clear hn5
      have hB5 := hB2.trans (hB.mono hB2.size)
      have HZ5 := Lib.hid (HBZ2.out.below hB (by omega))
      have HBD5 := Lib.hid (HBD2.out.below hB hww)
      obtain ⟨w5, rfl⟩ : ∃ w5 : World, w5 = wr := ⟨_, rfl⟩
      have hsz5 : w2.heap.size < w5.heap.size := hsz
      go_wp2
      go_loopw [15, 17, 18, 19, 61] (fun u _ _ _ i wr => ∃ (k : Nat) (qs : List PT) (v : Value), v = u ∧ k ≤ ps.length ∧ i = .int .i64 k ∧ OwnQ wr w5.heap.size v qs ∧ AllQ w5.heap.size wr v qs ∧ qs.map (fun p => (p.o, p.t)) = (ps.take k).map (fun p => (mirO p.o, p.t)) ∧ Below w5.heap.size w5 wr) (fun _ _ _ _ i _ => ps.length - (intOf i).toNat)
      case atStart => exact ⟨0, [], _, rfl, Nat.zero_le _, rfl, World.ownsRow_nil _ _ _ _, ⟨by simp, by simp, by simp, by simp, by simp⟩, rfl, Below.refl _ _⟩
      case round =>
        clear hB hsz
        obtain ⟨k, qs, v, rfl, hk, rfl, hown, hall, hqs, hB⟩ := hrel
        have HO := Lib.hid hown; clear hown
        have HA := Lib.hid hall; clear hall
        have HQS := Lib.hid hqs
        have hlen : qs.length = k := by
          have := congrArg List.length hqs
          simp at this; omega
        clear hqs
        have hsB := hB.size
        by_cases hlt : k < ps.length
        · obtain ⟨q, hq⟩ := getElem?_of_lt hlt
          have hv := partsB_each HRL.out.hp (List.mem_of_getElem? hq)
          obtain ⟨bb, off, hA, hbb, d0, d1⟩ := ((HP.out.now hB5).flat.below hB) k q hq
          have HRQ := Lib.hid ((HP.out.now (hB5.trans (hB.mono hB5.size))).each q (List.mem_of_getElem? hq)).1
          subst hA
          have hbr : bb < wr.heap.size := by omega
          have HQ := Lib.hid (take_succ_of hq); clear hq
          have hmo : (mirrorS validB canonL q.o) = (mirO q.o, 0) := by unfold mirrorS; rw [if_pos hv]; rfl
          have HMO := Lib.hid hmo; clear hmo
          have hBr : Below wr.heap.size wr (wr.alloc (.cells #[.slice q.A q.o.length q.c, .bool q.t] 41)) := by (repeat (first | exact Below.refl _ _ | assumption | refine Below.alloc ?_ (by first | exact Nat.le_refl _ | exact Below.size (by assumption) | omega | (simp <;> omega)) _ | refine Below.setCell ?_ (by first | exact Nat.le_refl _ | exact Below.size (by assumption) | omega | (simp <;> omega)) _ | refine below_drewN ?_ _ | refine Below.drew ?_))
          have HBR := Lib.hid hBr; clear hBr
          go_wp2_with fail
          refine (Mirror_any q.A q.c q.o _ (HRQ.out.now HBR.out)).mono ?_
          rintro e w6 ⟨v6, rfl, hown6, hb6⟩
          rw [HMO.out] at hown6 ⊢
          dsimp only at hown6 ⊢
          obtain ⟨A6, c6, rfl, hr6, hc6, hn6⟩ := own_new2 hown6
          have hbr6 := HBR.out.trans (hb6.mono HBR.out.size)
          have hB6 := hB.trans (hbr6.mono hsB)
          have HO6 := Lib.hid (own_belowP HO.out hbr6)
          have hz6 : wr.heap.size < w6.heap.size := by have := hb6.size; simp at this; omega
          have b1 : w6.cell? ⟨wr.heap.size, 1, none⟩ = some (.bool q.t) := (hb6.cell (p := ⟨wr.heap.size, 1, none⟩) (by simp)).trans (by simp)
          have HA6 := Lib.hid (((HA.out.below hbr6).snoc (p := ⟨A6, c6, mirO q.o, q.t⟩) (C := wr.heap.size) hr6 hc6 (fun a ha => by have h := hn6 a ha; simp at h; omega) (by omega) (fun j hj => (HO.out.lt j hj).2)).below (w' := w6.alloc (.cells #[.slice A6 (mirO q.o).length c6, .bool q.t] 41)) (by (repeat (first | exact Below.refl _ _ | assumption | refine Below.alloc ?_ (by first | exact Nat.le_refl _ | exact Below.size (by assumption) | omega | (simp <;> omega)) _ | refine Below.setCell ?_ (by first | exact Nat.le_refl _ | exact Below.size (by assumption) | omega | (simp <;> omega)) _ | refine below_drewN ?_ _ | refine Below.drew ?_))))
          clear hown6 hr6 hn6 HA HO
          go_wp2_with (at_builtin; refine wpList_append_own_at _ rfl _ _ 25 rfl w5.heap.size 41 i2 (.agg #[.slice none 0 0, .bool false]) 2 32 Try.underlying25 HJ2.out hx1 hx2 hx3 rfl (by decide) _ _ _ rfl (HO6.out.alloc _) ⟨w6.heap.size, 0, none⟩ 1 1 [.slice A6 (mirO q.o).length c6, .bool q.t] rfl rfl (by intro j u hj; match j, hj with | 0, hj => (simp at hj; subst hj; simp [Addr.add]) | 1, hj => (simp at hj; subst hj; simp [Addr.add]) | j + 2, hj => simp at hj) (by intro u hu; simp at hu; rcases hu with rfl | rfl <;> rfl) (by unfold maxLen; omega) (by omega) (by simp; omega) ?_; intro v' w11 hown' hgrow _ hat; have hB11 := below_grown (w1 := w6.alloc (.cells #[.slice A6 (mirO q.o).length c6, .bool q.t] 41)) (hB6.alloc (by omega) _) hgrow (fun j hj => (HO6.out.lt j hj).1) (by simp; omega); have hall11 := HA6.out.grown hgrow hat; have HA11 := Lib.hid hall11; have own12 := ownQ_snoc (p := ⟨A6, c6, mirO q.o, q.t⟩) hown' rfl; have HO11 := Lib.hid own12; clear hown' own12 hall11 hgrow hat)
          go_wp2
          go_roundw
          case rel => exact ⟨k + 1, qs ++ [⟨A6, c6, mirO q.o, q.t⟩], _, rfl, by omega, by go_num, HO11.out, HA11.out, by rw [List.map_append, HQS.out, HQ.out, List.map_append]; rfl, hB11⟩
          case measure => simp [intOf]; omega
        · obtain rfl : k = ps.length := by omega
          have hqe := HQS.out
          rw [List.take_length] at hqe
          have HQE := Lib.hid hqe; clear hqe HQS
          obtain ⟨A7, c7, hv7, hr7, _, hn7⟩ := own_rdQ HO.out
          subst hv7
          have HR7 := Lib.hid hr7; clear hr7 HO
          have HN7 := Lib.hid hn7; clear hn7
          have hB7 := hB5.trans (hB.mono hB5.size)
          have HZ7 := Lib.hid (HZ5.out.below hB (by omega))
          have HBD7 := Lib.hid (HBD5.out.below hB (by omega))
          have HX7 := Lib.hid (HX.out.below hB (by omega))
          have HR57 := Lib.hid (HR5.out.now hB)
          have hsz7 : w5.heap.size ≤ wr.heap.size := hB.size
          obtain ⟨w7, rfl⟩ : ∃ w7 : World, w7 = wr := ⟨_, rfl⟩
          go_wp2
          go_loopw [20, 22, 81] (fun u _ i wr => ∃ (k : Nat) (v : Value), v = u ∧ k ≤ L.length ∧ i = .int .i64 k ∧ OwnP wr w7.heap.size v ((L.take k).map (mirL b.W)) ∧ Below w7.heap.size w7 wr) (fun _ _ i _ => L.length - (intOf i).toNat)
          case atStart => exact ⟨0, _, rfl, Nat.zero_le _, rfl, World.ownsRow_nil _ _ _ _, Below.refl _ _⟩
          case round =>
            clear hB hlt hk hlen hsB
            obtain ⟨k, v, rfl, hk, rfl, hown, hB⟩ := hrel
            have HO := Lib.hid hown; clear hown
            have hsB := hB.size
            have hwr0 : w.heap.size < wr.heap.size := by omega
            by_cases hlt : k < L.length
            · obtain ⟨q, hq⟩ := getElem?_of_lt hlt
              obtain ⟨bb, off, hA, hbb, d0, d1, d2, d3⟩ := ((HL.out.now hB7).below hB) k q hq
              subst hA
              have hbr : bb < wr.heap.size := by omega
              have HQ := Lib.hid (take_succ_of hq); clear hq
              obtain ⟨k0, k1, k2, k3⟩ := HBD7.out.below hB (by omega)
              have hwm : wrap64 (b.W - q.X) = (mirL b.W q).X := rfl
              have hmr : (mirL b.W q).part = q.part ∧ (mirL b.W q).Y = q.Y ∧ (mirL b.W q).t = q.t := ⟨rfl, rfl, rfl⟩
              obtain ⟨m, hm⟩ : ∃ m, mirL b.W q = m := ⟨_, rfl⟩
              have hsn : (L.take (k + 1)).map (mirL b.W) = (L.take k).map (mirL b.W) ++ [m] := by rw [HQ.out, List.map_append, ← hm]; rfl
              rw [hm] at hwm hmr
              have HSN := Lib.hid hsn; clear hsn hm HQ
              obtain ⟨R, hR⟩ : ∃ R, (L.take k).map (mirL b.W) = R := ⟨_, rfl⟩
              have hlen : R.length = k := by rw [← hR]; simp; omega
              have hsn := HSN.out
              have hown := HO.out
              rw [hR] at hsn hown
              have HSN2 := Lib.hid hsn
              have HO2 := Lib.hid (own_belowP hown (w' := wr.alloc (.cells #[.int .i64 q.part, .int .i64 m.X, .int .i64 q.Y, .bool q.t] 52)) (by (repeat (first | exact Below.refl _ _ | assumption | refine Below.alloc ?_ (by first | exact Nat.le_refl _ | exact Below.size (by assumption) | omega | (simp <;> omega)) _ | refine Below.setCell ?_ (by first | exact Nat.le_refl _ | exact Below.size (by assumption) | omega | (simp <;> omega)) _ | refine below_drewN ?_ _ | refine Below.drew ?_))))
              clear hsn hown hR HSN HO
              go_wp2_with (at_builtin; refine wpList_append_own _ rfl _ _ 26 rfl w7.heap.size 52 i3 (.agg #[.int .i64 0, .int .i64 0, .int .i64 0, .bool false]) 4 32 Try.underlying26 HJ3.out hu1 hu2 hu3 rfl (by decide) _ _ _ rfl (HO2.out.alloc _) ⟨wr.heap.size + 1, 0, none⟩ 1 1 [.int .i64 q.part, .int .i64 m.X, .int .i64 q.Y, .bool q.t] rfl rfl (by intro j u hj; match j, hj with | 0, hj => (simp at hj; subst hj; simp [Addr.add]) | 1, hj => (simp at hj; subst hj; simp [Addr.add]) | 2, hj => (simp at hj; subst hj; simp [Addr.add]) | 3, hj => (simp at hj; subst hj; simp [Addr.add]) | j + 4, hj => simp at hj) (by intro u hu; simp at hu; rcases hu with rfl | rfl | rfl | rfl <;> rfl) (by unfold maxLen; omega) (by omega) (by simp; omega) ?_; intro v' w11 hown' hgrow _; have hB11 := below_grown (w1 := (wr.alloc (.cells #[.int .i64 q.part, .int .i64 m.X, .int .i64 q.Y, .bool q.t] 52)).alloc (.cells #[.int .i64 q.part, .int .i64 m.X, .int .i64 q.Y, .bool q.t] 52)) ((hB.alloc (by omega) _).alloc (by simp; omega) _) hgrow (fun j hj => (HO2.out.lt j hj).1) (by simp; omega); have own12 := ownP_snoc (p := ⟨q.part, m.X, q.Y, q.t⟩) hown' rfl; have HOW := Lib.hid own12; clear own12 hown' hgrow)
              go_wp2
              go_roundw
              case rel =>
                refine ⟨k + 1, _, rfl, by omega, by go_num, ?_, hB11⟩
                rw [HSN2.out]
                have e := HOW.out
                have e1 : (⟨q.part, m.X, q.Y, q.t⟩ : PL) = m := by obtain ⟨h1, h2, h3⟩ := hmr; rw [← h1, ← h2, ← h3]
                rw [e1] at e
                exact e
              case measure => simp [intOf]; omega
            · obtain rfl : k = L.length := by omega
              rw [List.take_length] at HO
              obtain ⟨A8, c8, hv8, hr8, hc8, hn8⟩ := own_rdP2 HO.out
              subst hv8
              have HR8 := Lib.hid hr8; clear hr8 HO
              have hB8 := hB7.trans (hB.mono hB7.size)
              have HZ8 := Lib.hid (HZ7.out.below hB (by omega))
              have HX8 := Lib.hid (HX7.out.below hB (by omega))
              have HR58 := Lib.hid (HR57.out.now hB)
              have HR78 := Lib.hid (HR7.out.now hB)
              have HA8 := Lib.hid (HA.out.below hB)
              obtain ⟨z0, z1, z2, z3⟩ := HZ8.out.c
              obtain ⟨g0, g1, g2, g3⟩ := HZ8.out.f
              obtain ⟨x0, x1, x2, x3⟩ := HX8.out.c
              have hwa : w.heap.size + 1 < wr.heap.size := by omega
              have hwb : w2.heap.size < wr.heap.size := by omega
              go_wp2
              obtain ⟨r0, r1, r2, r3⟩ := Bx.rd HZ8.out (.int .i64 b.W) (.int .i64 b.H) (.int .i64 b.G) (.slice A5 b.F.length c5)
              refine bodyPost_ret (v := .tuple #[.agg #[.int .i64 b.W, .int .i64 b.H, .int .i64 b.G, .slice A5 b.F.length c5], .slice A7 qs.length c7, .slice A8 (L.map (mirL b.W)).length c8, .int .i64 0]) (by simp [results, Try.results8, go_sem, r0, r1, r2, r3]) rfl ?_
              have hg := put4_grown (w := wr) (B := w.heap.size + 1) (x := .int .i64 b.W) (y := .int .i64 b.H) (z := .int .i64 b.G) (u := .slice A5 b.F.length c5)
              exact RetMir.yes HN2.out (by (repeat (first | exact Below.refl _ _ | assumption | refine Below.alloc ?_ (by first | exact Nat.le_refl _ | exact Below.size (by assumption) | omega | (simp <;> omega)) _ | refine Below.setCell ?_ (by first | exact Nat.le_refl _ | exact Below.size (by assumption) | omega | (simp <;> omega)) _ | refine below_drewN ?_ _ | refine Below.drew ?_))) (by simp [mirB]) (by simp) HQE.out (by simpa using hc8) (rdR_grown HR58.out hg (fun a ha => by have := HN5.out a ha; simp; omega)) (HA8.out.rd HR78.out HN7.out hg (by omega)) (rdL_grown HR8.out hg (fun a ha => by have := hn8 a ha; simp; omega))
end Go.Proofs.Ytohlinbcbfgdfaa

namespace Go.Proofs.Ytohlinbcbfgdfaa
open Go.RowKit Go.Shelf

set_option maxRecDepth 100000 in
set_option maxHeartbeats 4000000 in
theorem nMirror2_any (b : BD) (A A2 A3 : Option Addr) (c c2 c3 : Nat) (ps : List PT) (L : List PL) (w : World) (hm0 : ps.length ≤ Go.maxLen) (hc3 : L.length ≤ c3) (hF : RdR w w.heap.size A b.F) (hp : RdPP w w.heap.size A2 ps) (hl : RdL w w.heap.size A3 L) :
    Calls Try.prog 9 #[bdv b A c, .slice A2 ps.length c2, .slice A3 L.length c3] w (RetMir b ps L w) := by
  have HF := Lib.hid hF; clear hF
  have HP := Lib.hid hp; clear hp
  have HL := Lib.hid hl; clear hl
  obtain ⟨w0, hw0⟩ : ∃ w0, (w.alloc (.cells #[.int .i64 b.W, .int .i64 b.H, .int .i64 b.G, .slice A b.F.length c] 24)).alloc (.cells #[.int .i64 0, .int .i64 0, .int .i64 0, .slice none 0 0] 24) = w0 := ⟨_, rfl⟩
  have hB0 : Below w.heap.size w w0 := by rw [← hw0]; (repeat (first | exact Below.refl _ _ | assumption | refine Below.alloc ?_ (by first | exact Nat.le_refl _ | exact Below.size (by assumption) | omega | (simp <;> omega)) _ | refine Below.setCell ?_ (by first | exact Nat.le_refl _ | exact Below.size (by assumption) | omega | (simp <;> omega)) _ | refine below_drewN ?_ _ | refine Below.drew ?_))
  have hz0 : w0.heap.size = w.heap.size + 2 := by rw [← hw0]; simp
  have hbd : BdAt w0 w.heap.size b A c := by rw [← hw0]; exact (BdAt.new w b A c).below (C := w.heap.size + 1) (by (repeat (first | exact Below.refl _ _ | assumption | refine Below.alloc ?_ (by first | exact Nat.le_refl _ | exact Below.size (by assumption) | omega | (simp <;> omega)) _ | refine Below.setCell ?_ (by first | exact Nat.le_refl _ | exact Below.size (by assumption) | omega | (simp <;> omega)) _ | refine below_drewN ?_ _ | refine Below.drew ?_))) (by omega)
  have hbz : Bx w0 (w.heap.size + 1) zeroB (.slice none 0 0) := by
    rw [← hw0]
    have := Bx.new (w.alloc (.cells #[.int .i64 b.W, .int .i64 b.H, .int .i64 b.G, .slice A b.F.length c] 24)) zeroB (.slice none 0 0)
    rwa [World.size_alloc] at this
  have HBD := Lib.hid hbd
  have HBZ := Lib.hid hbz
  obtain ⟨k0, k1, k2, k3⟩ := hbd
  clear hbz
  have hok := fun h => checkS_ok (b := b) (ps := ps) (L := L) h
  obtain ⟨⟨n, f⟩, hn⟩ : ∃ r, checkS b ps L = r := ⟨_, rfl⟩
  have hn2 : (checkS b ps L).2 = f := by rw [hn]
  rw [hn2] at hok
  have HN := Lib.hid hn; clear hn
  have HN2 := Lib.hid hn2; clear hn2
  have HOK := Lib.hid hok; clear hok
  go_enter Try.func9, Try.ntmps9
  go_wp2_with fail
  clear hw0
  refine (Check2_any b A A2 A3 c c2 c3 ps L _ hm0 hc3 (HF.out.now hB0) (HP.out.now hB0) (HL.out.now hB0)).mono ?_
  rintro e w2 ⟨rfl, hb2⟩
  rw [HN.out]
  have hB2 := hB0.trans (hb2.mono hB0.size)
  have hs2 := hb2.size
  clear k0 k1 k2 k3
  have HBD2 := Lib.hid (HBD.out.below hb2 (by omega))
  have HBZ2 := Lib.hid (HBZ.out.below hb2 (by omega))
  obtain ⟨k0, k1, k2, k3⟩ := HBD2.out
  have hww : w.heap.size < w2.heap.size := by omega
  have hww1 : w.heap.size + 1 < w2.heap.size := by omega
  by_cases hf : f = 0
  case neg =>
    obtain ⟨z0, z1, z2, z3⟩ := HBZ2.out.c
    obtain ⟨g0, g1, g2, g3⟩ := HBZ2.out.f
    go_wp2
    obtain ⟨r0, r1, r2, r3⟩ := Bx.rd HBZ2.out (.int .i64 0) (.int .i64 0) (.int .i64 0) (.slice none 0 0); refine bodyPost_ret (v := .tuple #[bdv zeroB none 0, .slice none 0 0, .slice none 0 0, .int .i64 f]) (by simp [results, Try.results9, go_sem, r0, r1, r2, r3, zeroB]) rfl ?_
    exact RetMir.no hf HN2.out (by (repeat (first | exact Below.refl _ _ | assumption | refine Below.alloc ?_ (by first | exact Nat.le_refl _ | exact Below.size (by assumption) | omega | (simp <;> omega)) _ | refine Below.setCell ?_ (by first | exact Nat.le_refl _ | exact Below.size (by assumption) | omega | (simp <;> omega)) _ | refine below_drewN ?_ _ | refine Below.drew ?_)))
  subst hf
  have HRL := Lib.hid (HOK.out rfl)
  have hlL := HRL.out.hl
  have hps := partsB_len HRL.out.hp
  obtain ⟨_, _, _, _, _, _, f10⟩ := boardB_facts HRL.out.hb
  obtain ⟨i1, hi1, hy1, hy2, hy3⟩ := info_partsR Try.infoRect
  have HJ1 := Lib.hid hi1; clear hi1
  obtain ⟨i2, hi2, hx1, hx2, hx3⟩ := info_partsQ Try.infoPart
  have HJ2 := Lib.hid hi2; clear hi2
  obtain ⟨i3, hi3, hu1, hu2, hu3⟩ := info_partsP Try.infoPlace
  have HJ3 := Lib.hid hi3; clear hi3
  have HBX0 := Lib.hid (Bx.new w2 b (.slice none 0 0))
  go_wp2
  go_loopw [14, 37] (fun _ i wr => ∃ (k : Nat) (v : Value), k ≤ b.F.length ∧ i = .int .i64 k ∧ Bx wr w2.heap.size b v ∧ OwnR wr (w2.heap.size + 1) v ((b.F.take k).map (mirR b.W)) ∧ w2.heap.size < wr.heap.size ∧ Below w2.heap.size w2 wr) (fun _ i _ => b.F.length - (intOf i).toNat)
  case atStart => exact ⟨0, _, Nat.zero_le _, rfl, HBX0.out, World.ownsRow_nil _ _ _ _, by simp, by (repeat (first | exact Below.refl _ _ | assumption | refine Below.alloc ?_ (by first | exact Nat.le_refl _ | exact Below.size (by assumption) | omega | (simp <;> omega)) _ | refine Below.setCell ?_ (by first | exact Nat.le_refl _ | exact Below.size (by assumption) | omega | (simp <;> omega)) _ | refine below_drewN ?_ _ | refine Below.drew ?_))⟩
  case round =>
    obtain ⟨k, v, hk, rfl, hbx, hown, hsz, hB⟩ := hrel
    have HX := Lib.hid hbx; clear hbx
    have HO := Lib.hid hown; clear hown
    by_cases hlt : k < b.F.length
    · obtain ⟨r, hr⟩ := getElem?_of_lt hlt
      obtain ⟨bb, off, hA, hbb, d0, d1, d2, d3⟩ := ((HF.out.now hB2).below hB) k r hr
      subst hA
      have hbr : bb < wr.heap.size := by have := hB.size; omega
      have HQ := Lib.hid (take_succ_of hr); clear hr
      have hwr0 : w.heap.size < wr.heap.size := by omega
      obtain ⟨k0, k1, k2, k3⟩ := HBD2.out.below hB hww
      obtain ⟨x0, x1, x2, x3⟩ := HX.out.c
      have hwm : wrap64 (wrap64 (b.W - r.X) - r.W) = (mirR b.W r).X := rfl
      have hmr : (mirR b.W r).Y = r.Y ∧ (mirR b.W r).W = r.W ∧ (mirR b.W r).H = r.H := ⟨rfl, rfl, rfl⟩
      obtain ⟨m, hm⟩ : ∃ m, mirR b.W r = m := ⟨_, rfl⟩
      have hsn : (b.F.take (k + 1)).map (mirR b.W) = (b.F.take k).map (mirR b.W) ++ [m] := by rw [HQ.out, List.map_append, ← hm]; rfl
      rw [hm] at hwm hmr
      have HSN := Lib.hid hsn; clear hsn hm HQ
      obtain ⟨R, hR⟩ : ∃ R, (b.F.take k).map (mirR b.W) = R := ⟨_, rfl⟩
      have hlen : R.length = k := by rw [← hR]; simp; omega
      have hsn := HSN.out
      have hown := HO.out
      rw [hR] at hsn hown
      have HSN2 := Lib.hid hsn
      have HO2 := Lib.hid (own_belowP hown (w' := wr.alloc (.cells #[.int .i64 m.X, .int .i64 r.Y, .int .i64 r.W, .int .i64 r.H] 61)) (by (repeat (first | exact Below.refl _ _ | assumption | refine Below.alloc ?_ (by first | exact Nat.le_refl _ | exact Below.size (by assumption) | omega | (simp <;> omega)) _ | refine Below.setCell ?_ (by first | exact Nat.le_refl _ | exact Below.size (by assumption) | omega | (simp <;> omega)) _ | refine below_drewN ?_ _ | refine Below.drew ?_))))
      have HX2 := Lib.hid (HX.out.below (C := wr.heap.size) (w' := (wr.alloc (.cells #[.int .i64 m.X, .int .i64 r.Y, .int .i64 r.W, .int .i64 r.H] 61)).alloc (.cells #[.int .i64 m.X, .int .i64 r.Y, .int .i64 r.W, .int .i64 r.H] 61)) (by (repeat (first | exact Below.refl _ _ | assumption | refine Below.alloc ?_ (by first | exact Nat.le_refl _ | exact Below.size (by assumption) | omega | (simp <;> omega)) _ | refine Below.setCell ?_ (by first | exact Nat.le_refl _ | exact Below.size (by assumption) | omega | (simp <;> omega)) _ | refine below_drewN ?_ _ | refine Below.drew ?_))) hsz)
      clear hsn hown hR HSN HO
      go_wp2_with (at_builtin; refine wpList_append_own _ rfl _ _ 22 rfl (w2.heap.size + 1) 61 i1 (.agg #[.int .i64 0, .int .i64 0, .int .i64 0, .int .i64 0]) 4 32 Try.underlying22 HJ1.out hy1 hy2 hy3 rfl (by decide) _ _ _ rfl (HO2.out.alloc _) ⟨wr.heap.size + 1, 0, none⟩ 1 1 [.int .i64 m.X, .int .i64 r.Y, .int .i64 r.W, .int .i64 r.H] rfl rfl (by intro j u hj; match j, hj with | 0, hj => (simp at hj; subst hj; simp [Addr.add]) | 1, hj => (simp at hj; subst hj; simp [Addr.add]) | 2, hj => (simp at hj; subst hj; simp [Addr.add]) | 3, hj => (simp at hj; subst hj; simp [Addr.add]) | j + 4, hj => simp at hj) (by intro u hu; simp at hu; rcases hu with rfl | rfl | rfl | rfl <;> rfl) (by unfold maxLen; omega) (by omega) (by simp; omega) ?_; intro v' w11 hown' hgrow _; have hB11 := below_grown (w1 := (wr.alloc (.cells #[.int .i64 m.X, .int .i64 r.Y, .int .i64 r.W, .int .i64 r.H] 61)).alloc (.cells #[.int .i64 m.X, .int .i64 r.Y, .int .i64 r.W, .int .i64 r.H] 61)) ((hB.alloc (by omega) _).alloc (by simp; omega) _) hgrow (fun j hj => by have := (HO2.out.lt j hj).1; omega) (by simp; omega); have hne11 : some w2.heap.size ≠ v.ownBlock := (fun e => by have := (HO2.out.lt _ e.symm).1; omega); have HX11 := Lib.hid (HX2.out.grown hgrow hne11); have own12 := ownR_snoc (p := ⟨m.X, r.Y, r.W, r.H⟩) hown' rfl; obtain ⟨Av, cv, hvv, _⟩ := own_rdR own12; subst hvv; have HOW := Lib.hid own12; have hsz11 := hgrow.size; simp only [World.size_alloc] at hsz11; clear own12 hown' hgrow; obtain ⟨g0, g1, g2, g3⟩ := HX11.out.f; obtain ⟨y0, y1, y2, y3⟩ := HX11.out.c)
      go_wp2
      go_roundw
      case rel =>
        refine ⟨k + 1, _, by omega, by go_num, HX11.out.set _, ?_, by simp [World.setCell]; omega, set_below hB11 _ (Nat.le_refl _) _⟩
        rw [HSN2.out]
        have e := own_set HOW.out ⟨w2.heap.size, 3, none⟩ rfl (Nat.lt_succ_self _) (.slice Av (k + 1) cv)
        have e1 : (⟨m.X, r.Y, r.W, r.H⟩ : RC) = m := by obtain ⟨h1, h2, h3⟩ := hmr; rw [← h1, ← h2, ← h3]
        rw [e1] at e
        have hl2 : (R ++ [m]).length = k + 1 := by simp [hlen]
        show World.ownsRow _ _ _ _ _ (R ++ [m]).length _
        rw [hl2]
        simpa [hlen] using e
      case measure => simp [intOf]; omega
    · obtain rfl : k = b.F.length := by omega
      rw [List.take_length] at HO
      obtain ⟨A5, c5, hv5, hr5, hn5⟩ := own_rdR HO.out
      subst hv5
      have HR5 := Lib.hid hr5; clear hr5 HO
      have HN5 := Lib.hid hn5; clear hn5
      have hB5 := hB2.trans (hB.mono hB2.size)
      have HZ5 := Lib.hid (HBZ2.out.below hB (by omega))
      have HBD5 := Lib.hid (HBD2.out.below hB hww)
      obtain ⟨w5, rfl⟩ : ∃ w5 : World, w5 = wr := ⟨_, rfl⟩
      have hsz5 : w2.heap.size < w5.heap.size := hsz
      go_wp2
      go_loopw [15, 17, 59] (fun u _ i wr => ∃ (k : Nat) (qs : List PT) (v : Value), v = u ∧ k ≤ ps.length ∧ i = .int .i64 k ∧ OwnQ wr w5.heap.size v qs ∧ AllQ w5.heap.size wr v qs ∧ qs.map (fun p => (p.o, p.t)) = (ps.take k).map (fun p => (mirO p.o, p.t)) ∧ Below w5.heap.size w5 wr) (fun _ _ i _ => ps.length - (intOf i).toNat)
      case atStart => exact ⟨0, [], _, rfl, Nat.zero_le _, rfl, World.ownsRow_nil _ _ _ _, ⟨by simp, by simp, by simp, by simp, by simp⟩, rfl, Below.refl _ _⟩
      case round =>
        clear hB hsz
        obtain ⟨k, qs, v, rfl, hk, rfl, hown, hall, hqs, hB⟩ := hrel
        have HO := Lib.hid hown; clear hown
        have HA := Lib.hid hall; clear hall
        have HQS := Lib.hid hqs
        have hlen : qs.length = k := by
          have := congrArg List.length hqs
          simp at this; omega
        clear hqs
        have hsB := hB.size
        by_cases hlt : k < ps.length
        · obtain ⟨q, hq⟩ := getElem?_of_lt hlt
          have hv := partsB_each HRL.out.hp (List.mem_of_getElem? hq)
          obtain ⟨bb, off, hA, hbb, d0, d1⟩ := ((HP.out.now hB5).flat.below hB) k q hq
          have HRQ := Lib.hid ((HP.out.now (hB5.trans (hB.mono hB5.size))).each q (List.mem_of_getElem? hq)).1
          subst hA
          have hbr : bb < wr.heap.size := by omega
          have HQ := Lib.hid (take_succ_of hq); clear hq
          have hmo : (mirrorS validRB turnL q.o) = (mirO q.o, 0) := by rw [← mirrorS_eq]; unfold mirrorS; rw [if_pos hv]; rfl
          have HMO := Lib.hid hmo; clear hmo
          have hBr : Below wr.heap.size wr (wr.alloc (.cells #[.slice q.A q.o.length q.c, .bool q.t] 41)) := by (repeat (first | exact Below.refl _ _ | assumption | refine Below.alloc ?_ (by first | exact Nat.le_refl _ | exact Below.size (by assumption) | omega | (simp <;> omega)) _ | refine Below.setCell ?_ (by first | exact Nat.le_refl _ | exact Below.size (by assumption) | omega | (simp <;> omega)) _ | refine below_drewN ?_ _ | refine Below.drew ?_))
          have HBR := Lib.hid hBr; clear hBr
          go_wp2_with fail
          refine (Mirror2_any q.A q.c q.o _ (HRQ.out.now HBR.out)).mono ?_
          rintro e w6 ⟨v6, rfl, hown6, hb6⟩
          rw [HMO.out] at hown6 ⊢
          dsimp only at hown6 ⊢
          obtain ⟨A6, c6, rfl, hr6, hc6, hn6⟩ := own_new2 hown6
          have hbr6 := HBR.out.trans (hb6.mono HBR.out.size)
          have hz6 : wr.heap.size < w6.heap.size := by have := hb6.size; simp at this; omega
          have HQX := Lib.hid ((Qx.new wr (.slice q.A q.o.length q.c) q.t).below hb6 (by simp))
          obtain ⟨b0, b1, b2, b3⟩ := HQX.out.c
          obtain ⟨w7, hw7⟩ : ∃ w7, w6.setCell ⟨wr.heap.size, 0, none⟩ (.slice A6 (mirO q.o).length c6) = w7 := ⟨_, rfl⟩
          have hbr7 : Below wr.heap.size wr w7 := hw7 ▸ set_below hbr6 _ (Nat.le_refl _) _
          have hz7 : wr.heap.size < w7.heap.size := by rw [← hw7]; simpa [World.setCell] using hz6
          have hr7 : Rd w7 w7.heap.size A6 (mirO q.o) := by
            rw [← hw7]
            exact rd_grown hr6 (set_grown _ _ _) (fun a ha => by have h := hn6 a ha; simp at h ⊢; omega)
          have HQX7 := Lib.hid (show Qx w7 wr.heap.size (.slice A6 (mirO q.o).length c6) q.t by rw [← hw7]; exact HQX.out.set _)
          have hB7 := hB.trans (hbr7.mono hsB)
          have HO7 := Lib.hid (own_belowP HO.out hbr7)
          have hn7 : ∀ a, A6 = some a → wr.heap.size ≤ a.block ∧ a.block < w7.heap.size := fun a ha => by
            have h := hn6 a ha
            rw [← hw7]
            simp [World.setCell] at h ⊢; omega
          have HA7 := Lib.hid (((HA.out.below hbr7).snoc (p := ⟨A6, c6, mirO q.o, q.t⟩) (C := wr.heap.size) hr7 hc6 hn7 (by omega) (fun j hj => (HO.out.lt j hj).2)).below (w' := w7.alloc (.cells #[.slice A6 (mirO q.o).length c6, .bool q.t] 41)) (by (repeat (first | exact Below.refl _ _ | assumption | refine Below.alloc ?_ (by first | exact Nat.le_refl _ | exact Below.size (by assumption) | omega | (simp <;> omega)) _ | refine Below.setCell ?_ (by first | exact Nat.le_refl _ | exact Below.size (by assumption) | omega | (simp <;> omega)) _ | refine below_drewN ?_ _ | refine Below.drew ?_))))
          have HW7 := Lib.hid hw7; clear hw7
          clear hown6 hr6 hr7 hn6 hn7 HA HO
          go_upto_region 17 with fail
          rw [HW7.out]
          clear HW7 b0 b1 b2 b3
          obtain ⟨b0, b1, b2, b3⟩ := HQX7.out.c
          go_wp2_with (at_builtin; refine wpList_append_own_at _ rfl _ _ 25 rfl w5.heap.size 41 i2 (.agg #[.slice none 0 0, .bool false]) 2 32 Try.underlying25 HJ2.out hx1 hx2 hx3 rfl (by decide) _ _ _ rfl (HO7.out.alloc _) ⟨w7.heap.size, 0, none⟩ 1 1 [.slice A6 (mirO q.o).length c6, .bool q.t] rfl rfl (by intro j u hj; match j, hj with | 0, hj => (simp at hj; subst hj; simp [Addr.add]) | 1, hj => (simp at hj; subst hj; simp [Addr.add]) | j + 2, hj => simp at hj) (by intro u hu; simp at hu; rcases hu with rfl | rfl <;> rfl) (by unfold maxLen; omega) (by omega) (by simp; omega) ?_; intro v' w11 hown' hgrow _ hat; have hB11 := below_grown (w1 := w7.alloc (.cells #[.slice A6 (mirO q.o).length c6, .bool q.t] 41)) (hB7.alloc (by omega) _) hgrow (fun j hj => (HO7.out.lt j hj).1) (by simp; omega); have hall11 := HA7.out.grown hgrow hat; have HA11 := Lib.hid hall11; have own12 := ownQ_snoc (p := ⟨A6, c6, mirO q.o, q.t⟩) hown' rfl; have HO11 := Lib.hid own12; clear hown' own12 hall11 hgrow hat)
          go_wp2
          go_roundw
          case rel => exact ⟨k + 1, qs ++ [⟨A6, c6, mirO q.o, q.t⟩], _, rfl, by omega, by go_num, HO11.out, HA11.out, by rw [List.map_append, HQS.out, HQ.out, List.map_append]; rfl, hB11⟩
          case measure => simp [intOf]; omega
        · obtain rfl : k = ps.length := by omega
          have hqe := HQS.out
          rw [List.take_length] at hqe
          have HQE := Lib.hid hqe; clear hqe HQS
          obtain ⟨A7, c7, hv7, hr7, _, hn7⟩ := own_rdQ HO.out
          subst hv7
          have HR7 := Lib.hid hr7; clear hr7 HO
          have HN7 := Lib.hid hn7; clear hn7
          have hB7 := hB5.trans (hB.mono hB5.size)
          have HZ7 := Lib.hid (HZ5.out.below hB (by omega))
          have HBD7 := Lib.hid (HBD5.out.below hB (by omega))
          have HX7 := Lib.hid (HX.out.below hB (by omega))
          have HR57 := Lib.hid (HR5.out.now hB)
          have hsz7 : w5.heap.size ≤ wr.heap.size := hB.size
          obtain ⟨w7, rfl⟩ : ∃ w7 : World, w7 = wr := ⟨_, rfl⟩
          go_wp2
          go_loopw [18, 20, 77] (fun u _ i wr => ∃ (k : Nat) (v : Value), v = u ∧ k ≤ L.length ∧ i = .int .i64 k ∧ OwnP wr w7.heap.size v ((L.take k).map (mirL b.W)) ∧ Below w7.heap.size w7 wr) (fun _ _ i _ => L.length - (intOf i).toNat)
          case atStart => exact ⟨0, _, rfl, Nat.zero_le _, rfl, World.ownsRow_nil _ _ _ _, Below.refl _ _⟩
          case round =>
            clear hB hlt hk hlen hsB
            obtain ⟨k, v, rfl, hk, rfl, hown, hB⟩ := hrel
            have HO := Lib.hid hown; clear hown
            have hsB := hB.size
            have hwr0 : w.heap.size < wr.heap.size := by omega
            by_cases hlt : k < L.length
            · obtain ⟨q, hq⟩ := getElem?_of_lt hlt
              obtain ⟨bb, off, hA, hbb, d0, d1, d2, d3⟩ := ((HL.out.now hB7).below hB) k q hq
              subst hA
              have hbr : bb < wr.heap.size := by omega
              have HQ := Lib.hid (take_succ_of hq); clear hq
              obtain ⟨k0, k1, k2, k3⟩ := HBD7.out.below hB (by omega)
              have hwm : wrap64 (b.W - q.X) = (mirL b.W q).X := rfl
              have hmr : (mirL b.W q).part = q.part ∧ (mirL b.W q).Y = q.Y ∧ (mirL b.W q).t = q.t := ⟨rfl, rfl, rfl⟩
              obtain ⟨m, hm⟩ : ∃ m, mirL b.W q = m := ⟨_, rfl⟩
              have hsn : (L.take (k + 1)).map (mirL b.W) = (L.take k).map (mirL b.W) ++ [m] := by rw [HQ.out, List.map_append, ← hm]; rfl
              rw [hm] at hwm hmr
              have HSN := Lib.hid hsn; clear hsn hm HQ
              obtain ⟨R, hR⟩ : ∃ R, (L.take k).map (mirL b.W) = R := ⟨_, rfl⟩
              have hlen : R.length = k := by rw [← hR]; simp; omega
              have hsn := HSN.out
              have hown := HO.out
              rw [hR] at hsn hown
              have HSN2 := Lib.hid hsn
              have HO2 := Lib.hid (own_belowP hown (w' := wr.alloc (.cells #[.int .i64 q.part, .int .i64 m.X, .int .i64 q.Y, .bool q.t] 52)) (by (repeat (first | exact Below.refl _ _ | assumption | refine Below.alloc ?_ (by first | exact Nat.le_refl _ | exact Below.size (by assumption) | omega | (simp <;> omega)) _ | refine Below.setCell ?_ (by first | exact Nat.le_refl _ | exact Below.size (by assumption) | omega | (simp <;> omega)) _ | refine below_drewN ?_ _ | refine Below.drew ?_))))
              clear hsn hown hR HSN HO
              go_wp2_with (at_builtin; refine wpList_append_own _ rfl _ _ 26 rfl w7.heap.size 52 i3 (.agg #[.int .i64 0, .int .i64 0, .int .i64 0, .bool false]) 4 32 Try.underlying26 HJ3.out hu1 hu2 hu3 rfl (by decide) _ _ _ rfl (HO2.out.alloc _) ⟨wr.heap.size + 1, 0, none⟩ 1 1 [.int .i64 q.part, .int .i64 m.X, .int .i64 q.Y, .bool q.t] rfl rfl (by intro j u hj; match j, hj with | 0, hj => (simp at hj; subst hj; simp [Addr.add]) | 1, hj => (simp at hj; subst hj; simp [Addr.add]) | 2, hj => (simp at hj; subst hj; simp [Addr.add]) | 3, hj => (simp at hj; subst hj; simp [Addr.add]) | j + 4, hj => simp at hj) (by intro u hu; simp at hu; rcases hu with rfl | rfl | rfl | rfl <;> rfl) (by unfold maxLen; omega) (by omega) (by simp; omega) ?_; intro v' w11 hown' hgrow _; have hB11 := below_grown (w1 := (wr.alloc (.cells #[.int .i64 q.part, .int .i64 m.X, .int .i64 q.Y, .bool q.t] 52)).alloc (.cells #[.int .i64 q.part, .int .i64 m.X, .int .i64 q.Y, .bool q.t] 52)) ((hB.alloc (by omega) _).alloc (by simp; omega) _) hgrow (fun j hj => (HO2.out.lt j hj).1) (by simp; omega); have own12 := ownP_snoc (p := ⟨q.part, m.X, q.Y, q.t⟩) hown' rfl; have HOW := Lib.hid own12; clear own12 hown' hgrow)
              go_wp2
              go_roundw
              case rel =>
                refine ⟨k + 1, _, rfl, by omega, by go_num, ?_, hB11⟩
                rw [HSN2.out]
                have e := HOW.out
                have e1 : (⟨q.part, m.X, q.Y, q.t⟩ : PL) = m := by obtain ⟨h1, h2, h3⟩ := hmr; rw [← h1, ← h2, ← h3]
                rw [e1] at e
                exact e
              case measure => simp [intOf]; omega
            · obtain rfl : k = L.length := by omega
              rw [List.take_length] at HO
              obtain ⟨A8, c8, hv8, hr8, hc8, hn8⟩ := own_rdP2 HO.out
              subst hv8
              have HR8 := Lib.hid hr8; clear hr8 HO
              have hB8 := hB7.trans (hB.mono hB7.size)
              have HZ8 := Lib.hid (HZ7.out.below hB (by omega))
              have HX8 := Lib.hid (HX7.out.below hB (by omega))
              have HR58 := Lib.hid (HR57.out.now hB)
              have HR78 := Lib.hid (HR7.out.now hB)
              have HA8 := Lib.hid (HA.out.below hB)
              obtain ⟨z0, z1, z2, z3⟩ := HZ8.out.c
              obtain ⟨g0, g1, g2, g3⟩ := HZ8.out.f
              obtain ⟨x0, x1, x2, x3⟩ := HX8.out.c
              have hwa : w.heap.size + 1 < wr.heap.size := by omega
              have hwb : w2.heap.size < wr.heap.size := by omega
              go_wp2
              obtain ⟨r0, r1, r2, r3⟩ := Bx.rd HZ8.out (.int .i64 b.W) (.int .i64 b.H) (.int .i64 b.G) (.slice A5 b.F.length c5)
              refine bodyPost_ret (v := .tuple #[.agg #[.int .i64 b.W, .int .i64 b.H, .int .i64 b.G, .slice A5 b.F.length c5], .slice A7 qs.length c7, .slice A8 (L.map (mirL b.W)).length c8, .int .i64 0]) (by simp [results, Try.results9, go_sem, r0, r1, r2, r3]) rfl ?_
              have hg := put4_grown (w := wr) (B := w.heap.size + 1) (x := .int .i64 b.W) (y := .int .i64 b.H) (z := .int .i64 b.G) (u := .slice A5 b.F.length c5)
              exact RetMir.yes HN2.out (by (repeat (first | exact Below.refl _ _ | assumption | refine Below.alloc ?_ (by first | exact Nat.le_refl _ | exact Below.size (by assumption) | omega | (simp <;> omega)) _ | refine Below.setCell ?_ (by first | exact Nat.le_refl _ | exact Below.size (by assumption) | omega | (simp <;> omega)) _ | refine below_drewN ?_ _ | refine Below.drew ?_))) (by simp [mirB]) (by simp) HQE.out (by simpa using hc8) (rdR_grown HR58.out hg (fun a ha => by have := HN5.out a ha; simp; omega)) (HA8.out.rd HR78.out HN7.out hg (by omega)) (rdL_grown HR8.out hg (fun a ha => by have := hn8 a ha; simp; omega))
end Go.Proofs.Ytohlinbcbfgdfaa

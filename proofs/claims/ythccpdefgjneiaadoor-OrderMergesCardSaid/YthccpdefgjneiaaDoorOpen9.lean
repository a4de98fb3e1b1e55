/- Arguments opened: price lists, rates, lines; a market, a form, what is asked, a price, a pair of numbers. Printed by genopen9.py. -/
import Derived.Test.YthccpdefgjneiaaDoorOpen8
import Derived.Test.YthccpdefgjneiaaDoorOM2
namespace Go.Proofs.YthccpdefgjneiaaDoor
open Go.ChangeShapes Go.WideShapes Go.ChangeAt Go.RowKit Go.Deep

theorem choose_lt8 {α : Type} [Inhabited α] {n : Nat} {p : Nat → α → Prop} (h : ∀ i, i < n → ∃ x, p i x) : ∃ f : Nat → α, ∀ i, i < n → p i (f i) := by
  have H : ∀ i : Nat, ∃ x, i < n → p i x := fun i => by
    by_cases hi : i < n
    · obtain ⟨x, hx⟩ := h i hi
      exact ⟨x, fun _ => hx⟩
    · exact ⟨default, fun h => absurd h hi⟩
  obtain ⟨f, hf⟩ := Classical.axiomOfChoice H
  exact ⟨f, fun i hi => hf i hi⟩
theorem okWide_array8 {P : Program} {w : World} {r : Reach} {base : Nat} {t : TypeId} {v : Value} {n : Nat} {e : TypeId} (ht : P.underlying t = some (.array n e)) (h : Value.okWide P w r base t v) : ∃ cs, v = .agg cs ∧ cs.size = P.cellsOf t := by
  simp only [Value.okWide, ht] at h
  obtain ⟨cs, h1, h2, _⟩ := h
  exact ⟨cs, h1, h2⟩
section
variable {H : Type} {enc : TypeId × Value → H} {w : World} {base : Nat} {spare : Nat → Bool} {held : Bool}
theorem plain_cell {a : Addr} {v : Value} (h : w.cell? (a.add 0) = some v) : ∃ b off, a = ⟨b, off, none⟩ := by
  obtain ⟨b, off, sp⟩ := a
  cases sp with
  | none => exact ⟨b, off, rfl⟩
  | some q => simp [Addr.add, World.cell?] at h; split at h <;> simp at h
/-- A slice whose elements read as values of a type of this text. -/
theorem open_rows8 {α : Type} [Inhabited α] {t e : TypeId} {size fuel : Nat} {cs : List Value} {x : DataW H × List MemPlace} (val : α → List Value) (Q : α → Prop) (ht : Tryd.prog.underlying t = some (.slice e)) (hsz : Tryd.prog.cellsOf e = size)
    (one : ∀ (cs : List Value) (n : Nat) (y : DataW H × List MemPlace), cs.length = size → DataW.trod enc Tryd.prog w base spare held n e cs = some y → ∃ p : α, cs = val p ∧ Q p)
    (h : DataW.trod enc Tryd.prog w base spare held fuel t cs = some x) :
    ∃ (A : Option Addr) (l : List α) (c : Nat), cs = [.slice A l.length c] ∧ l.length ≤ c ∧ c ≤ Go.maxLen ∧ ∀ i p, l[i]? = some p → Q p ∧ ∃ a, A = some a ∧ ∀ j v, (val p)[j]? = some v → w.cell? (a.add (i * size + j)) = some v := by
  rcases open_slice ht h with ⟨h0, _⟩ | ⟨a, len, cap, m, fl, D, Pl, hcs, hb, hl, hm, hmm, hx, hi⟩
  · exact ⟨none, [], 0, h0, Nat.le_refl _, Nat.zero_le _, fun i p hp => by simp at hp⟩
  · have hlm : len ≤ m := by rw [hmm]; split <;> omega
    obtain ⟨f, hf⟩ := choose_lt8 (α := α) (n := len) (p := fun i p => Q p ∧ ∀ j v, (val p)[j]? = some v → w.cell? (a.add (i * size + j)) = some v) (fun i hlt => by
      obtain ⟨cs', hcells, htr⟩ := hi i (by omega)
      rw [hsz] at hcells
      obtain ⟨_, hlen, hat⟩ := World.cells?_some hcells
      obtain ⟨p, rfl, hQ⟩ := one cs' fl _ hlen htr
      refine ⟨p, hQ, fun j v hj => ?_⟩
      have hjl : j < (val p).length := (List.getElem?_eq_some_iff.1 hj).1
      have := hat j (by omega)
      rw [add_add, hj] at this
      exact this)
    refine ⟨some a, (List.range len).map f, cap, by rw [hcs]; simp, by simpa using hl, hm, fun i p hp => ?_⟩
    have hlt : i < len := by
      have := (List.getElem?_eq_some_iff.1 hp).1; simpa using this
    obtain rfl : f i = p := by simpa [hlt] using hp
    exact ⟨(hf i hlt).1, a, rfl, (hf i hlt).2⟩
instance : Inhabited ST := ⟨⟨0, 0⟩⟩
instance : Inhabited RT := ⟨⟨⟨#[]⟩, 0, 0, 0⟩⟩
instance : Inhabited QT := ⟨⟨⟨#[]⟩, 0, none, 0, []⟩⟩
instance : Inhabited GT := ⟨⟨⟨#[]⟩, 0, 0, 0⟩⟩

set_option maxRecDepth 100000 in
theorem one8S {cs : List Value} {n : Nat} {y : DataW H × List MemPlace} (hl : cs.length = 2) (htr : DataW.trod enc Tryd.prog w base spare held n 95 cs = some y) : ∃ p : ST, cs = [.int .i64 p.n, .int .i64 p.c] ∧ True := by
  match cs, hl with
  | [u0, u1], _ =>
    obtain ⟨ys, n, _, _, _, hyl, hf⟩ := DataW.trod_struct Tryd.underlying95 htr
    have hyl2 : ys.length = 2 := hyl
    have ci : Tryd.prog.cellsOf 3 = 1 := by kernel_rfl
    have f0 := (hf 0 _ rfl).trans (List.getElem?_eq_getElem (by omega))
    have f1 := (hf 1 _ rfl).trans (List.getElem?_eq_getElem (by omega))
    simp only [List.getElem_toArray, List.getElem_cons_zero, List.getElem_cons_succ, ci] at f0 f1
    obtain ⟨x0, e0, _, wf0⟩ := DataW.trod_int Tryd.underlying3 f0
    obtain ⟨x1, e1, _, wf1⟩ := DataW.trod_int Tryd.underlying3 f1
    simp at e0 e1
    subst e0 e1
    exact ⟨⟨x0, x1⟩, rfl, trivial⟩
theorem cells8S {fuel : Nat} {cs : List Value} {x : DataW H × List MemPlace} (h : DataW.trod enc Tryd.prog w base spare held fuel 52 cs = some x) : ∃ (A : Option Addr) (l : List ST) (c : Nat), cs = [.slice A l.length c] ∧ (RdT2 w w.heap.size A l) ∧ l.length ≤ c ∧ c ≤ Go.maxLen := by
  obtain ⟨A, l, c, e, h1, h2, h3⟩ := open_rows8 (α := ST) (fun p => [.int .i64 p.n, .int .i64 p.c]) (fun p => True) Tryd.underlying52 (show Tryd.prog.cellsOf 95 = 2 by kernel_rfl) (fun cs n y hl htr => one8S hl htr) h
  refine ⟨A, l, c, e, fun i p hp => by
    obtain ⟨q, hq⟩ := getElem?_of_lt (show 0 < l.length by have := (List.getElem?_eq_some_iff.1 hp).1; omega)
    obtain ⟨_, a, rfl, ha0⟩ := h3 0 q hq
    obtain ⟨b, off, rfl⟩ := plain_cell (by have := ha0 0 _ rfl; rwa [Nat.zero_mul] at this)
    obtain ⟨_, a, ha, hc⟩ := h3 i p hp
    obtain rfl : _ = a := by simpa using ha
    have c0 := hc 0 _ rfl
    have c1 := hc 1 _ rfl
    rw [add_none] at c0 c1
    exact ⟨b, off, rfl, World.block_lt_of_cell? w _ c0, c0, by rw [Nat.add_assoc]; exact c1⟩, h1, h2⟩
set_option maxRecDepth 100000 in
theorem one8T {cs : List Value} {n : Nat} {y : DataW H × List MemPlace} (hl : cs.length = 4) (htr : DataW.trod enc Tryd.prog w base spare held n 70 cs = some y) : ∃ p : RT, cs = [.string p.c, .int .i64 p.d, .int .i64 p.n, .int .i64 p.m] ∧ OkK (keyT p) := by
  match cs, hl with
  | [u0, u1, u2, u3], _ =>
    obtain ⟨ys, n, _, _, _, hyl, hf⟩ := DataW.trod_struct Tryd.underlying70 htr
    have hyl2 : ys.length = 4 := hyl
    have ci : Tryd.prog.cellsOf 3 = 1 := by kernel_rfl
    have cs : Tryd.prog.cellsOf 9 = 1 := by kernel_rfl
    have f0 := (hf 0 _ rfl).trans (List.getElem?_eq_getElem (by omega))
    have f1 := (hf 1 _ rfl).trans (List.getElem?_eq_getElem (by omega))
    have f2 := (hf 2 _ rfl).trans (List.getElem?_eq_getElem (by omega))
    have f3 := (hf 3 _ rfl).trans (List.getElem?_eq_getElem (by omega))
    simp only [List.getElem_toArray, List.getElem_cons_zero, List.getElem_cons_succ, ci, cs] at f0 f1 f2 f3
    obtain ⟨x0, e0, _, wf0⟩ := DataW.trod_string Tryd.underlying9 f0
    obtain ⟨x1, e1, _, wf1⟩ := DataW.trod_int Tryd.underlying3 f1
    obtain ⟨x2, e2, _, wf2⟩ := DataW.trod_int Tryd.underlying3 f2
    obtain ⟨x3, e3, _, wf3⟩ := DataW.trod_int Tryd.underlying3 f3
    simp at e0 e1 e2 e3
    subst e0 e1 e2 e3
    exact ⟨⟨x0, x1, x2, x3⟩, rfl, ⟨wf0, wf1⟩⟩
theorem cells8T {fuel : Nat} {cs : List Value} {x : DataW H × List MemPlace} (h : DataW.trod enc Tryd.prog w base spare held fuel 23 cs = some x) : ∃ (A : Option Addr) (l : List RT) (c : Nat), cs = [.slice A l.length c] ∧ (RdT w w.heap.size A l ∧ ∀ p ∈ l, OkK (keyT p)) ∧ l.length ≤ c ∧ c ≤ Go.maxLen := by
  obtain ⟨A, l, c, e, h1, h2, h3⟩ := open_rows8 (α := RT) (fun p => [.string p.c, .int .i64 p.d, .int .i64 p.n, .int .i64 p.m]) (fun p => OkK (keyT p)) Tryd.underlying23 (show Tryd.prog.cellsOf 70 = 4 by kernel_rfl) (fun cs n y hl htr => one8T hl htr) h
  refine ⟨A, l, c, e, ⟨fun i p hp => by
    obtain ⟨q, hq⟩ := getElem?_of_lt (show 0 < l.length by have := (List.getElem?_eq_some_iff.1 hp).1; omega)
    obtain ⟨_, a, rfl, ha0⟩ := h3 0 q hq
    obtain ⟨b, off, rfl⟩ := plain_cell (by have := ha0 0 _ rfl; rwa [Nat.zero_mul] at this)
    obtain ⟨_, a, ha, hc⟩ := h3 i p hp
    obtain rfl : _ = a := by simpa using ha
    have c0 := hc 0 _ rfl
    have c1 := hc 1 _ rfl
    have c2 := hc 2 _ rfl
    have c3 := hc 3 _ rfl
    rw [add_none] at c0 c1 c2 c3
    exact ⟨b, off, rfl, World.block_lt_of_cell? w _ c0, c0, by rw [Nat.add_assoc]; exact c1, by rw [Nat.add_assoc]; exact c2, by rw [Nat.add_assoc]; exact c3⟩, fun p hp => by
    obtain ⟨i, hi⟩ := List.getElem?_of_mem hp
    exact (h3 i p hi).1⟩, h1, h2⟩
set_option maxRecDepth 100000 in
theorem one8Q {cs : List Value} {n : Nat} {y : DataW H × List MemPlace} (hl : cs.length = 3) (htr : DataW.trod enc Tryd.prog w base spare held n 54 cs = some y) : ∃ p : QT, cs = [.string p.m, .int .i64 p.d, .slice p.A p.st.length p.cp] ∧ (OkK (keyQ p) ∧ RdT2 w w.heap.size p.A p.st ∧ p.st.length ≤ maxLen) := by
  match cs, hl with
  | [u0, u1, u2], _ =>
    obtain ⟨ys, n, _, _, _, hyl, hf⟩ := DataW.trod_struct Tryd.underlying54 htr
    have hyl2 : ys.length = 3 := hyl
    have ci : Tryd.prog.cellsOf 3 = 1 := by kernel_rfl
    have cl : Tryd.prog.cellsOf 52 = 1 := by kernel_rfl
    have cs : Tryd.prog.cellsOf 9 = 1 := by kernel_rfl
    have f0 := (hf 0 _ rfl).trans (List.getElem?_eq_getElem (by omega))
    have f1 := (hf 1 _ rfl).trans (List.getElem?_eq_getElem (by omega))
    have f2 := (hf 2 _ rfl).trans (List.getElem?_eq_getElem (by omega))
    simp only [List.getElem_toArray, List.getElem_cons_zero, List.getElem_cons_succ, ci, cl, cs] at f0 f1 f2
    obtain ⟨x0, e0, _, wf0⟩ := DataW.trod_string Tryd.underlying9 f0
    obtain ⟨x1, e1, _, wf1⟩ := DataW.trod_int Tryd.underlying3 f1
    obtain ⟨A2, x2, k2, e2, hr2, hlc2, hmx2⟩ := cells8S f2
    simp at e0 e1 e2
    subst e0 e1 e2
    exact ⟨⟨x0, x1, A2, k2, x2⟩, rfl, ⟨⟨wf0, wf1⟩, hr2, Nat.le_trans hlc2 hmx2⟩⟩
theorem cells8Q {fuel : Nat} {cs : List Value} {x : DataW H × List MemPlace} (h : DataW.trod enc Tryd.prog w base spare held fuel 22 cs = some x) : ∃ (A : Option Addr) (l : List QT) (c : Nat), cs = [.slice A l.length c] ∧ (RdQ w w.heap.size A l ∧ ∀ p ∈ l, (OkK (keyQ p) ∧ RdT2 w w.heap.size p.A p.st ∧ p.st.length ≤ maxLen)) ∧ l.length ≤ c ∧ c ≤ Go.maxLen := by
  obtain ⟨A, l, c, e, h1, h2, h3⟩ := open_rows8 (α := QT) (fun p => [.string p.m, .int .i64 p.d, .slice p.A p.st.length p.cp]) (fun p => (OkK (keyQ p) ∧ RdT2 w w.heap.size p.A p.st ∧ p.st.length ≤ maxLen)) Tryd.underlying22 (show Tryd.prog.cellsOf 54 = 3 by kernel_rfl) (fun cs n y hl htr => one8Q hl htr) h
  refine ⟨A, l, c, e, ⟨fun i p hp => by
    obtain ⟨q, hq⟩ := getElem?_of_lt (show 0 < l.length by have := (List.getElem?_eq_some_iff.1 hp).1; omega)
    obtain ⟨_, a, rfl, ha0⟩ := h3 0 q hq
    obtain ⟨b, off, rfl⟩ := plain_cell (by have := ha0 0 _ rfl; rwa [Nat.zero_mul] at this)
    obtain ⟨_, a, ha, hc⟩ := h3 i p hp
    obtain rfl : _ = a := by simpa using ha
    have c0 := hc 0 _ rfl
    have c1 := hc 1 _ rfl
    have c2 := hc 2 _ rfl
    rw [add_none] at c0 c1 c2
    exact ⟨b, off, rfl, World.block_lt_of_cell? w _ c0, c0, by rw [Nat.add_assoc]; exact c1, by rw [Nat.add_assoc]; exact c2⟩, fun p hp => by
    obtain ⟨i, hi⟩ := List.getElem?_of_mem hp
    exact (h3 i p hi).1⟩, h1, h2⟩

structure MarketAt (w : World) (lp : List QT) (Ap : Option Addr) (lr : List RT) (Ar : Option Addr) : Prop where
  rQ : RdQ w w.heap.size Ap lp
  rT : RdT w w.heap.size Ar lr
  okQ : ∀ p ∈ lp, OkK (keyQ p) ∧ RdT2 w w.heap.size p.A p.st ∧ p.st.length ≤ maxLen
  okT : ∀ r ∈ lr, OkK (keyT r)
  mP : lp.length ≤ maxLen
  mR : lr.length ≤ maxLen
set_option maxRecDepth 100000 in
theorem open_market {v : Value} {d : DataW H} {ps : List MemPlace} {r : Reach} {b0 : Nat} (hv : Value.okWide Tryd.prog w r b0 25 v) (h : DataW.Trod enc Tryd.prog w base spare held 25 v d ps) :
    ∃ (Ap : Option Addr) (lp : List QT) (cp : Nat) (Ar : Option Addr) (lr : List RT) (cr : Nat), v = .agg #[.slice Ap lp.length cp, .slice Ar lr.length cr] ∧ MarketAt w lp Ap lr Ar := by
  obtain ⟨cs, rfl, hcs⟩ := okWide_struct Tryd.underlying25 hv
  have h2 : Tryd.prog.cellsOf 25 = 2 := by kernel_rfl
  rw [h2] at hcs
  obtain ⟨fuel, htr⟩ := h
  obtain ⟨cl⟩ := cs
  match cl, hcs with
  | [u0, u1], _ =>
    obtain ⟨ys, n, _, _, _, hyl, hf⟩ := DataW.trod_struct Tryd.underlying25 htr
    have hyl2 : ys.length = 2 := hyl
    have cp : Tryd.prog.cellsOf 22 = 1 := by kernel_rfl
    have cq : Tryd.prog.cellsOf 23 = 1 := by kernel_rfl
    have f0 := (hf 0 _ rfl).trans (List.getElem?_eq_getElem (by omega))
    have f1 := (hf 1 _ rfl).trans (List.getElem?_eq_getElem (by omega))
    simp only [List.getElem_toArray, List.getElem_cons_zero, List.getElem_cons_succ, cp, cq] at f0 f1
    obtain ⟨Ap, lp, c0, e0, ⟨hP, hP3⟩, hP1, hP2⟩ := cells8Q f0
    obtain ⟨Ar, lr, c1, e1, ⟨hR, hR3⟩, hR1, hR2⟩ := cells8T f1
    simp [Value.cells] at e0 e1
    subst e0 e1
    exact ⟨Ap, lp, c0, Ar, lr, c1, rfl, hP, hR, hP3, hR3, Nat.le_trans hP1 hP2, Nat.le_trans hR1 hR2⟩
set_option maxRecDepth 100000 in
theorem open_pair8 {v : Value} {d : DataW H} {ps : List MemPlace} {r : Reach} {b0 : Nat} (hv : Value.okWide Tryd.prog w r b0 26 v) (h : DataW.Trod enc Tryd.prog w base spare held 26 v d ps) :
    ∃ a b : Int, v = .agg #[.int .i64 a, .int .i64 b] := by
  obtain ⟨cs, rfl, hcs⟩ := okWide_array8 Tryd.underlying26 hv
  have h2 : Tryd.prog.cellsOf 26 = 2 := by kernel_rfl
  rw [h2] at hcs
  obtain ⟨fuel, htr⟩ := h
  obtain ⟨cl⟩ := cs
  match cl, hcs with
  | [u0, u1], _ =>
    obtain ⟨xs, m, _, _, _, hl, hf⟩ := DataW.trod_array Tryd.underlying26 htr
    have c1 : Tryd.prog.cellsOf 3 = 1 := by kernel_rfl
    have f0 := (hf 0 (by omega)).trans (List.getElem?_eq_getElem (by omega))
    have f1 := (hf 1 (by omega)).trans (List.getElem?_eq_getElem (by omega))
    rw [c1] at f0 f1
    obtain ⟨x0, e0, _, _⟩ := DataW.trod_int Tryd.underlying3 f0
    obtain ⟨x1, e1, _, _⟩ := DataW.trod_int Tryd.underlying3 f1
    simp [Value.cells] at e0 e1
    subst e0 e1
    exact ⟨x0, x1, rfl⟩
end
end Go.Proofs.YthccpdefgjneiaaDoor

/- Arguments opened: a form, what is asked, a price. Printed by genopen9.py. -/
import Derived.Test.YthccpdefgjneiaaDoorOpen9
import Derived.Test.YthccpdefgjneiaaDoorOP3
import Derived.Test.YthccpdefgjneiaaDoorOP5
namespace Go.Proofs.YthccpdefgjneiaaDoor
open Go.ChangeShapes Go.WideShapes Go.ChangeAt Go.RowKit Go.Deep
section
variable {H : Type} {enc : TypeId × Value → H} {w : World} {base : Nat} {spare : Nat → Bool} {held : Bool}
set_option maxRecDepth 100000 in
theorem one8G {cs : List Value} {n : Nat} {y : DataW H × List MemPlace} (hl : cs.length = 4) (htr : DataW.trod enc Tryd.prog w base spare held n 64 cs = some y) : ∃ p : GT, cs = [.string p.m, .int .i64 p.c, .int .i64 p.z, .int .i64 p.n] ∧ (p.m.size ≤ maxLen) := by
  match cs, hl with
  | [u0, u1, u2, u3], _ =>
    obtain ⟨ys, n, _, _, _, hyl, hf⟩ := DataW.trod_struct Tryd.underlying64 htr
    have hyl2 : ys.length = 4 := hyl
    have ci : Tryd.prog.cellsOf 3 = 1 := by kernel_rfl
    have cs : Tryd.prog.cellsOf 9 = 1 := by kernel_rfl
    have f0 := (hf 0 _ rfl).trans (List.getElem?_eq_getElem (by omega))
    have f1 := (hf 1 _ rfl).trans (List.getElem?_eq_getElem (by omega))
    have f2 := (hf 2 _ rfl).trans (List.getElem?_eq_getElem (by omega))
    have f3 := (hf 3 _ rfl).trans (List.getElem?_eq_getElem (by omega))
    simp only [List.getElem_toArray, List.getElem_cons_zero, List.getElem_cons_succ, ci, cs] at f0 f1 f2 f3
    obtain ⟨x0, e0, _, wf0⟩ := DataW.trod_string Tryd.underlying9 f0
    obtain ⟨x1, e1, _, wf1⟩ := DataW.trod_int Tryd.underlying3 f1
    obtain ⟨x2, e2, _, wf2⟩ := DataW.trod_int Tryd.underlying3 f2
    obtain ⟨x3, e3, _, wf3⟩ := DataW.trod_int Tryd.underlying3 f3
    simp at e0 e1 e2 e3
    subst e0 e1 e2 e3
    exact ⟨⟨x0, x1, x2, x3⟩, rfl, wf0⟩
theorem cells8G {fuel : Nat} {cs : List Value} {x : DataW H × List MemPlace} (h : DataW.trod enc Tryd.prog w base spare held fuel 28 cs = some x) : ∃ (A : Option Addr) (l : List GT) (c : Nat), cs = [.slice A l.length c] ∧ (RdG w w.heap.size A l ∧ ∀ p ∈ l, (p.m.size ≤ maxLen)) ∧ l.length ≤ c ∧ c ≤ Go.maxLen := by
  obtain ⟨A, l, c, e, h1, h2, h3⟩ := open_rows8 (α := GT) (fun p => [.string p.m, .int .i64 p.c, .int .i64 p.z, .int .i64 p.n]) (fun p => (p.m.size ≤ maxLen)) Tryd.underlying28 (show Tryd.prog.cellsOf 64 = 4 by kernel_rfl) (fun cs n y hl htr => one8G hl htr) h
  refine ⟨A, l, c, e, ⟨fun i p hp => by
    obtain ⟨q, hq⟩ := getElem?_of_lt (show 0 < l.length by have := (List.getElem?_eq_some_iff.1 hp).1; omega)
    obtain ⟨_, a, rfl, ha0⟩ := h3 0 q hq
    obtain ⟨b, off, rfl⟩ := plain_cell (by have := ha0 0 _ rfl; rwa [Nat.zero_mul] at this)
    obtain ⟨_, a, ha, hc⟩ := h3 i p hp
    obtain rfl : _ = a := by simpa using ha
    have c0 := hc 0 _ rfl
    have c1 := hc 1 _ rfl
    have c2 := hc 2 _ rfl
    have c3 := hc 3 _ rfl
    rw [add_none] at c0 c1 c2 c3
    exact ⟨b, off, rfl, World.block_lt_of_cell? w _ c0, c0, by rw [Nat.add_assoc]; exact c1, by rw [Nat.add_assoc]; exact c2, by rw [Nat.add_assoc]; exact c3⟩, fun p hp => by
    obtain ⟨i, hi⟩ := List.getElem?_of_mem hp
    exact (h3 i p hi).1⟩, h1, h2⟩
set_option maxRecDepth 100000 in
theorem one8F {cs : List Value} {n : Nat} {y : DataW H × List MemPlace} (hl : cs.length = 4) (htr : DataW.trod enc Tryd.prog w base spare held n 30 cs = some y) : ∃ p : FT, cs = [.string p.cu, .int .i64 p.d, .string p.cr, .slice p.A p.ls.length p.cp] ∧ OkF w p := by
  match cs, hl with
  | [u0, u1, u2, u3], _ =>
    obtain ⟨ys, n, _, _, _, hyl, hf⟩ := DataW.trod_struct Tryd.underlying30 htr
    have hyl2 : ys.length = 4 := hyl
    have cg : Tryd.prog.cellsOf 28 = 1 := by kernel_rfl
    have ci : Tryd.prog.cellsOf 3 = 1 := by kernel_rfl
    have cs : Tryd.prog.cellsOf 9 = 1 := by kernel_rfl
    have f0 := (hf 0 _ rfl).trans (List.getElem?_eq_getElem (by omega))
    have f1 := (hf 1 _ rfl).trans (List.getElem?_eq_getElem (by omega))
    have f2 := (hf 2 _ rfl).trans (List.getElem?_eq_getElem (by omega))
    have f3 := (hf 3 _ rfl).trans (List.getElem?_eq_getElem (by omega))
    simp only [List.getElem_toArray, List.getElem_cons_zero, List.getElem_cons_succ, cg, ci, cs] at f0 f1 f2 f3
    obtain ⟨x0, e0, _, wf0⟩ := DataW.trod_string Tryd.underlying9 f0
    obtain ⟨x1, e1, _, wf1⟩ := DataW.trod_int Tryd.underlying3 f1
    obtain ⟨x2, e2, _, wf2⟩ := DataW.trod_string Tryd.underlying9 f2
    obtain ⟨A3, x3, k3, e3, ⟨hr3, hgs3⟩, hlc3, hmx3⟩ := cells8G f3
    simp at e0 e1 e2 e3
    subst e0 e1 e2 e3
    exact ⟨⟨x0, x1, x2, A3, k3, x3⟩, rfl, ⟨by unfold maxLen at wf0; exact wf0, by unfold maxLen at wf2; exact wf2, fun g hg => by have := hgs3 g hg; unfold maxLen at this; exact this, Nat.le_trans hlc3 hmx3, hr3⟩⟩
set_option maxRecDepth 100000 in
theorem open_form {v : Value} {d : DataW H} {ps : List MemPlace} {r : Reach} {b0 : Nat} (hv : Value.okWide Tryd.prog w r b0 30 v) (h : DataW.Trod enc Tryd.prog w base spare held 30 v d ps) : ∃ p : FT, v = valF p ∧ OkF w p := by
  obtain ⟨cs, rfl, hcs⟩ := okWide_struct Tryd.underlying30 hv
  have h2 : Tryd.prog.cellsOf 30 = 4 := by kernel_rfl
  rw [h2] at hcs
  obtain ⟨fuel, htr⟩ := h
  obtain ⟨cl⟩ := cs
  obtain ⟨p, hp, hQ⟩ := one8F (cs := cl) (by simpa using hcs) htr
  exact ⟨p, by rw [hp], hQ⟩
set_option maxRecDepth 100000 in
theorem open_price {v : Value} {d : DataW H} {ps : List MemPlace} {r : Reach} {b0 : Nat} (hv : Value.okWide Tryd.prog w r b0 54 v) (h : DataW.Trod enc Tryd.prog w base spare held 54 v d ps) : ∃ p : QT, v = valQ p ∧ (OkK (keyQ p) ∧ RdT2 w w.heap.size p.A p.st ∧ p.st.length ≤ maxLen) := by
  obtain ⟨cs, rfl, hcs⟩ := okWide_struct Tryd.underlying54 hv
  have h2 : Tryd.prog.cellsOf 54 = 3 := by kernel_rfl
  rw [h2] at hcs
  obtain ⟨fuel, htr⟩ := h
  obtain ⟨cl⟩ := cs
  obtain ⟨p, hp, hQ⟩ := one8Q (cs := cl) (by simpa using hcs) htr
  exact ⟨p, by rw [hp], hQ⟩
/-- What is asked. -/
structure KT where
  m : ByteArray
  d : Int
  n : Int
abbrev valK8 (p : KT) : Value := .agg #[.string p.m, .int .i64 p.d, .int .i64 p.n]
set_option maxRecDepth 100000 in
theorem one8K {cs : List Value} {n : Nat} {y : DataW H × List MemPlace} (hl : cs.length = 3) (htr : DataW.trod enc Tryd.prog w base spare held n 51 cs = some y) : ∃ p : KT, cs = [.string p.m, .int .i64 p.d, .int .i64 p.n] ∧ (p.m.size ≤ maxLen ∧ (-9223372036854775808 ≤ p.d ∧ p.d ≤ 9223372036854775807) ∧ -9223372036854775808 ≤ p.n ∧ p.n ≤ 9223372036854775807) := by
  match cs, hl with
  | [u0, u1, u2], _ =>
    obtain ⟨ys, n, _, _, _, hyl, hf⟩ := DataW.trod_struct Tryd.underlying51 htr
    have hyl2 : ys.length = 3 := hyl
    have ci : Tryd.prog.cellsOf 3 = 1 := by kernel_rfl
    have cs : Tryd.prog.cellsOf 9 = 1 := by kernel_rfl
    have f0 := (hf 0 _ rfl).trans (List.getElem?_eq_getElem (by omega))
    have f1 := (hf 1 _ rfl).trans (List.getElem?_eq_getElem (by omega))
    have f2 := (hf 2 _ rfl).trans (List.getElem?_eq_getElem (by omega))
    simp only [List.getElem_toArray, List.getElem_cons_zero, List.getElem_cons_succ, ci, cs] at f0 f1 f2
    obtain ⟨x0, e0, _, wf0⟩ := DataW.trod_string Tryd.underlying9 f0
    obtain ⟨x1, e1, _, wf1⟩ := DataW.trod_int Tryd.underlying3 f1
    obtain ⟨x2, e2, _, wf2⟩ := DataW.trod_int Tryd.underlying3 f2
    simp at e0 e1 e2
    subst e0 e1 e2
    exact ⟨⟨x0, x1, x2⟩, rfl, ⟨wf0, wf_i64' wf1, wf_i64' wf2⟩⟩
set_option maxRecDepth 100000 in
theorem open_asked {v : Value} {d : DataW H} {ps : List MemPlace} {r : Reach} {b0 : Nat} (hv : Value.okWide Tryd.prog w r b0 51 v) (h : DataW.Trod enc Tryd.prog w base spare held 51 v d ps) : ∃ p : KT, v = valK8 p ∧ (p.m.size ≤ maxLen ∧ (-9223372036854775808 ≤ p.d ∧ p.d ≤ 9223372036854775807) ∧ -9223372036854775808 ≤ p.n ∧ p.n ≤ 9223372036854775807) := by
  obtain ⟨cs, rfl, hcs⟩ := okWide_struct Tryd.underlying51 hv
  have h2 : Tryd.prog.cellsOf 51 = 3 := by kernel_rfl
  rw [h2] at hcs
  obtain ⟨fuel, htr⟩ := h
  obtain ⟨cl⟩ := cs
  obtain ⟨p, hp, hQ⟩ := one8K (cs := cl) (by simpa using hcs) htr
  exact ⟨p, by rw [hp], hQ⟩
/-- A slice whose elements read as values of a type of this text. -/
theorem open_rows8n {α : Type} [Inhabited α] {t e : TypeId} {size fuel : Nat} {cs : List Value} {x : DataW H × List MemPlace} (val : α → List Value) (Q : α → Prop) (ht : Tryd.prog.underlying t = some (.slice e)) (hsz : Tryd.prog.cellsOf e = size)
    (one : ∀ (cs : List Value) (n : Nat) (y : DataW H × List MemPlace), cs.length = size → DataW.trod enc Tryd.prog w base spare held n e cs = some y → ∃ p : α, cs = val p ∧ Q p)
    (h : DataW.trod enc Tryd.prog w base spare held fuel t cs = some x) :
    ∃ (A : Option Addr) (l : List α) (c : Nat), cs = [.slice A l.length c] ∧ l.length ≤ c ∧ c ≤ Go.maxLen ∧ (A = none → c = 0) ∧ ∀ i p, l[i]? = some p → Q p ∧ ∃ a, A = some a ∧ ∀ j v, (val p)[j]? = some v → w.cell? (a.add (i * size + j)) = some v := by
  rcases open_slice ht h with ⟨h0, _⟩ | ⟨a, len, cap, m, fl, D, Pl, hcs, hb, hl, hm, hmm, hx, hi⟩
  · exact ⟨none, [], 0, h0, Nat.le_refl _, Nat.zero_le _, fun _ => rfl, fun i p hp => by simp at hp⟩
  · have hlm : len ≤ m := by rw [hmm]; split <;> omega
    obtain ⟨f, hf⟩ := choose_lt8 (α := α) (n := len) (p := fun i p => Q p ∧ ∀ j v, (val p)[j]? = some v → w.cell? (a.add (i * size + j)) = some v) (fun i hlt => by
      obtain ⟨cs', hcells, htr⟩ := hi i (by omega)
      rw [hsz] at hcells
      obtain ⟨_, hlen, hat⟩ := World.cells?_some hcells
      obtain ⟨p, rfl, hQ⟩ := one cs' fl _ hlen htr
      refine ⟨p, hQ, fun j v hj => ?_⟩
      have hjl : j < (val p).length := (List.getElem?_eq_some_iff.1 hj).1
      have := hat j (by omega)
      rw [add_add, hj] at this
      exact this)
    refine ⟨some a, (List.range len).map f, cap, by rw [hcs]; simp, by simpa using hl, hm, (fun h => by cases h), fun i p hp => ?_⟩
    have hlt : i < len := by
      have := (List.getElem?_eq_some_iff.1 hp).1; simpa using this
    obtain rfl : f i = p := by simpa [hlt] using hp
    exact ⟨(hf i hlt).1, a, rfl, (hf i hlt).2⟩
theorem cells8Qn {fuel : Nat} {cs : List Value} {x : DataW H × List MemPlace} (h : DataW.trod enc Tryd.prog w base spare held fuel 22 cs = some x) : ∃ (A : Option Addr) (l : List QT) (c : Nat), cs = [.slice A l.length c] ∧ (RdQ w w.heap.size A l ∧ ∀ p ∈ l, (OkK (keyQ p) ∧ RdT2 w w.heap.size p.A p.st ∧ p.st.length ≤ maxLen)) ∧ l.length ≤ c ∧ c ≤ Go.maxLen ∧ (A = none → c = 0) := by
  obtain ⟨A, l, c, e, h1, h2, h4, h3⟩ := open_rows8n (α := QT) (fun p => [.string p.m, .int .i64 p.d, .slice p.A p.st.length p.cp]) (fun p => (OkK (keyQ p) ∧ RdT2 w w.heap.size p.A p.st ∧ p.st.length ≤ maxLen)) Tryd.underlying22 (show Tryd.prog.cellsOf 54 = 3 by kernel_rfl) (fun cs n y hl htr => one8Q hl htr) h
  refine ⟨A, l, c, e, ⟨fun i p hp => by
    obtain ⟨q, hq⟩ := getElem?_of_lt (show 0 < l.length by have := (List.getElem?_eq_some_iff.1 hp).1; omega)
    obtain ⟨_, a, rfl, ha0⟩ := h3 0 q hq
    obtain ⟨b, off, rfl⟩ := plain_cell (by have := ha0 0 _ rfl; rwa [Nat.zero_mul] at this)
    obtain ⟨_, a, ha, hc⟩ := h3 i p hp
    obtain rfl : _ = a := by simpa using ha
    have c0 := hc 0 _ rfl
    have c1 := hc 1 _ rfl
    have c2 := hc 2 _ rfl
    rw [add_none] at c0 c1 c2
    exact ⟨b, off, rfl, World.block_lt_of_cell? w _ c0, c0, by rw [Nat.add_assoc]; exact c1, by rw [Nat.add_assoc]; exact c2⟩, fun p hp => by
    obtain ⟨i, hi⟩ := List.getElem?_of_mem hp
    exact (h3 i p hi).1⟩, h1, h2, h4⟩
set_option maxRecDepth 100000 in
theorem open_marketN {v : Value} {d : DataW H} {ps : List MemPlace} {r : Reach} {b0 : Nat} (hv : Value.okWide Tryd.prog w r b0 25 v) (h : DataW.Trod enc Tryd.prog w base spare held 25 v d ps) :
    ∃ (Ap : Option Addr) (lp : List QT) (cp : Nat) (Ar : Option Addr) (lr : List RT) (cr : Nat), v = .agg #[.slice Ap lp.length cp, .slice Ar lr.length cr] ∧ MarketAt w lp Ap lr Ar ∧ (Ap = none → cp = 0) := by
  obtain ⟨cs, rfl, hcs⟩ := okWide_struct Tryd.underlying25 hv
  have h2 : Tryd.prog.cellsOf 25 = 2 := by kernel_rfl
  rw [h2] at hcs
  obtain ⟨fuel, htr⟩ := h
  obtain ⟨cl⟩ := cs
  match cl, hcs with
  | [u0, u1], _ =>
    obtain ⟨ys, n, _, _, _, hyl, hf⟩ := DataW.trod_struct Tryd.underlying25 htr
    have hyl2 : ys.length = 2 := hyl
    have cp : Tryd.prog.cellsOf 22 = 1 := by kernel_rfl
    have cq : Tryd.prog.cellsOf 23 = 1 := by kernel_rfl
    have f0 := (hf 0 _ rfl).trans (List.getElem?_eq_getElem (by omega))
    have f1 := (hf 1 _ rfl).trans (List.getElem?_eq_getElem (by omega))
    simp only [List.getElem_toArray, List.getElem_cons_zero, List.getElem_cons_succ, cp, cq] at f0 f1
    obtain ⟨Ap, lp, c0, e0, ⟨hP, hP3⟩, hP1, hP2, hP4⟩ := cells8Qn f0
    obtain ⟨Ar, lr, c1, e1, ⟨hR, hR3⟩, hR1, hR2⟩ := cells8T f1
    simp [Value.cells] at e0 e1
    subst e0 e1
    exact ⟨Ap, lp, c0, Ar, lr, c1, rfl, ⟨hP, hR, hP3, hR3, Nat.le_trans hP1 hP2, Nat.le_trans hR1 hR2⟩, hP4⟩
end
end Go.Proofs.YthccpdefgjneiaaDoor

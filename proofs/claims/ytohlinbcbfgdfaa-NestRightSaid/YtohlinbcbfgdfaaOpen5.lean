/- Arguments opened: lists of rectangles, parts and places; a board with parts and a layout. -/
import Derived.Test.YtohlinbcbfgdfaaOpen4
import Derived.Test.YtohlinbcbfgdfaaNW7
namespace Go.Proofs.Ytohlinbcbfgdfaa
open Go.ChangeShapes Go.WideShapes Go.ChangeAt Go.RowKit Go.Deep

section
variable {H : Type} {enc : TypeId × Value → H} {w : World} {base : Nat} {spare : Nat → Bool} {held : Bool}

theorem plain_int {a : Addr} {k : IntKind} {n : Int} (hk : k = .i64) (h : w.cell? (a.add 0) = some (.int k n)) : ∃ b off, a = ⟨b, off, none⟩ := by
  subst hk
  obtain ⟨b, off, sp⟩ := a
  cases sp with
  | none => exact ⟨b, off, rfl⟩
  | some q => simp [Addr.add, World.cell?] at h; split at h <;> simp at h
theorem plain_slice {a : Addr} {A : Option Addr} {n c : Nat} (h : w.cell? (a.add 0) = some (.slice A n c)) : ∃ b off, a = ⟨b, off, none⟩ := by
  obtain ⟨b, off, sp⟩ := a
  cases sp with
  | none => exact ⟨b, off, rfl⟩
  | some q => simp [Addr.add, World.cell?] at h; split at h <;> simp at h

/-- A slice whose elements read as values of a type of this text. -/
theorem open_rows {α : Type} [Inhabited α] {t e : TypeId} {size fuel : Nat} {cs : List Value} {x : DataW H × List MemPlace} (val : α → List Value) (Q : α → Prop) (ht : Try.prog.underlying t = some (.slice e)) (hsz : Try.prog.cellsOf e = size)
    (one : ∀ (cs : List Value) (n : Nat) (y : DataW H × List MemPlace), cs.length = size → DataW.trod enc Try.prog w base spare held n e cs = some y → ∃ p : α, cs = val p ∧ Q p)
    (h : DataW.trod enc Try.prog w base spare held fuel t cs = some x) :
    ∃ (A : Option Addr) (l : List α) (c : Nat), cs = [.slice A l.length c] ∧ l.length ≤ c ∧ c ≤ Go.maxLen ∧ ∀ i p, l[i]? = some p → Q p ∧ ∃ a, A = some a ∧ ∀ j v, (val p)[j]? = some v → w.cell? (a.add (i * size + j)) = some v := by
  rcases open_slice ht h with ⟨h0, _⟩ | ⟨a, len, cap, m, fl, D, Pl, hcs, hb, hl, hm, hmm, hx, hi⟩
  · exact ⟨none, [], 0, h0, Nat.le_refl _, Nat.zero_le _, fun i p hp => by simp at hp⟩
  · have hlm : len ≤ m := by rw [hmm]; split <;> omega
    obtain ⟨f, hf⟩ := choose_lt (α := α) (n := len) (p := fun i p => Q p ∧ ∀ j v, (val p)[j]? = some v → w.cell? (a.add (i * size + j)) = some v) (fun i hlt => by
      obtain ⟨cs', hcells, htr⟩ := hi i (by omega)
      rw [hsz] at hcells
      obtain ⟨_, hlen, hat⟩ := World.cells?_some hcells
      obtain ⟨p, rfl, hQ⟩ := one cs' fl _ hlen htr
      refine ⟨p, hQ, fun j v hj => ?_⟩
      have hjl : j < (val p).length := (List.getElem?_eq_some_iff.1 hj).1
      have := hat j (by omega)
      rw [add_add, hj] at this
      exact this)
    refine ⟨some a, (List.range len).map f, cap, by rw [hcs]; simp, by simpa using hl, hm, fun i p hp => ?_⟩
    have hlt : i < len := by
      have := (List.getElem?_eq_some_iff.1 hp).1; simpa using this
    obtain rfl : f i = p := by simpa [hlt] using hp
    exact ⟨(hf i hlt).1, a, rfl, (hf i hlt).2⟩

instance : Inhabited XY := ⟨⟨0, 0⟩⟩
instance : Inhabited RC := ⟨⟨0, 0, 0, 0⟩⟩
instance : Inhabited PL := ⟨⟨0, 0, 0, false⟩⟩
instance : Inhabited PT := ⟨⟨none, 0, [], false⟩⟩

set_option maxRecDepth 100000 in
theorem one_xy {cs : List Value} {n : Nat} {y : DataW H × List MemPlace} (hl : cs.length = 2) (htr : DataW.trod enc Try.prog w base spare held n 55 cs = some y) : ∃ p : XY, cs = [.int .i64 p.X, .int .i64 p.Y] := by
  match cs, hl with
  | [u, v], _ =>
    obtain ⟨ys, n, _, _, _, hyl, hf⟩ := DataW.trod_struct Try.underlying55 htr
    have hyl2 : ys.length = 2 := hyl
    have c3 : Try.prog.cellsOf 3 = 1 := by kernel_rfl
    have f0 := (hf 0 _ rfl).trans (List.getElem?_eq_getElem (by omega))
    have f1 := (hf 1 _ rfl).trans (List.getElem?_eq_getElem (by omega))
    simp only [List.getElem_toArray, List.getElem_cons_zero, List.getElem_cons_succ, c3] at f0 f1
    obtain ⟨x0, e0, _, _⟩ := DataW.trod_int Try.underlying3 f0
    obtain ⟨x1, e1, _, _⟩ := DataW.trod_int Try.underlying3 f1
    simp at e0 e1
    subst e0 e1
    exact ⟨⟨x0, x1⟩, rfl⟩
set_option maxRecDepth 100000 in
theorem one_rc {cs : List Value} {n : Nat} {y : DataW H × List MemPlace} (hl : cs.length = 4) (htr : DataW.trod enc Try.prog w base spare held n 61 cs = some y) : ∃ p : RC, cs = [.int .i64 p.X, .int .i64 p.Y, .int .i64 p.W, .int .i64 p.H] := by
  match cs, hl with
  | [u, v, s, q], _ =>
    obtain ⟨ys, n, _, _, _, hyl, hf⟩ := DataW.trod_struct Try.underlying61 htr
    have hyl2 : ys.length = 4 := hyl
    have c3 : Try.prog.cellsOf 3 = 1 := by kernel_rfl
    have f0 := (hf 0 _ rfl).trans (List.getElem?_eq_getElem (by omega))
    have f1 := (hf 1 _ rfl).trans (List.getElem?_eq_getElem (by omega))
    have f2 := (hf 2 _ rfl).trans (List.getElem?_eq_getElem (by omega))
    have f3 := (hf 3 _ rfl).trans (List.getElem?_eq_getElem (by omega))
    simp only [List.getElem_toArray, List.getElem_cons_zero, List.getElem_cons_succ, c3] at f0 f1 f2 f3
    obtain ⟨x0, e0, _, _⟩ := DataW.trod_int Try.underlying3 f0
    obtain ⟨x1, e1, _, _⟩ := DataW.trod_int Try.underlying3 f1
    obtain ⟨x2, e2, _, _⟩ := DataW.trod_int Try.underlying3 f2
    obtain ⟨x3, e3, _, _⟩ := DataW.trod_int Try.underlying3 f3
    simp at e0 e1 e2 e3
    subst e0 e1 e2 e3
    exact ⟨⟨x0, x1, x2, x3⟩, rfl⟩
set_option maxRecDepth 100000 in
theorem one_pl {cs : List Value} {n : Nat} {y : DataW H × List MemPlace} (hl : cs.length = 4) (htr : DataW.trod enc Try.prog w base spare held n 52 cs = some y) : ∃ p : PL, cs = [.int .i64 p.part, .int .i64 p.X, .int .i64 p.Y, .bool p.t] := by
  match cs, hl with
  | [u, v, s, q], _ =>
    obtain ⟨ys, n, _, _, _, hyl, hf⟩ := DataW.trod_struct Try.underlying52 htr
    have hyl2 : ys.length = 4 := hyl
    have c3 : Try.prog.cellsOf 3 = 1 := by kernel_rfl
    have c4 : Try.prog.cellsOf 4 = 1 := by kernel_rfl
    have f0 := (hf 0 _ rfl).trans (List.getElem?_eq_getElem (by omega))
    have f1 := (hf 1 _ rfl).trans (List.getElem?_eq_getElem (by omega))
    have f2 := (hf 2 _ rfl).trans (List.getElem?_eq_getElem (by omega))
    have f3 := (hf 3 _ rfl).trans (List.getElem?_eq_getElem (by omega))
    simp only [List.getElem_toArray, List.getElem_cons_zero, List.getElem_cons_succ, c3, c4] at f0 f1 f2 f3
    obtain ⟨x0, e0, _, _⟩ := DataW.trod_int Try.underlying3 f0
    obtain ⟨x1, e1, _, _⟩ := DataW.trod_int Try.underlying3 f1
    obtain ⟨x2, e2, _, _⟩ := DataW.trod_int Try.underlying3 f2
    obtain ⟨x3, e3, _⟩ := DataW.trod_bool Try.underlying4 f3
    simp at e0 e1 e2 e3
    subst e0 e1 e2 e3
    exact ⟨⟨x0, x1, x2, x3⟩, rfl⟩
theorem cells_xys {fuel : Nat} {cs : List Value} {x : DataW H × List MemPlace} (h : DataW.trod enc Try.prog w base spare held fuel 39 cs = some x) : ∃ (A : Option Addr) (l : List XY) (c : Nat), cs = [.slice A l.length c] ∧ Rd w w.heap.size A l ∧ l.length ≤ c ∧ c ≤ Go.maxLen := by
  obtain ⟨A, l, c, e, h1, h2, h3⟩ := open_rows (α := XY) (fun p => [.int .i64 p.X, .int .i64 p.Y]) (fun _ => True) Try.underlying39 (show Try.prog.cellsOf 55 = 2 by kernel_rfl) (fun cs n y hl htr => by obtain ⟨p, e⟩ := one_xy hl htr; exact ⟨p, e, trivial⟩) h
  refine ⟨A, l, c, e, fun i p hp => ?_, h1, h2⟩
  obtain ⟨q, hq⟩ := getElem?_of_lt (show 0 < l.length by have := (List.getElem?_eq_some_iff.1 hp).1; omega)
  obtain ⟨_, a, rfl, ha0⟩ := h3 0 q hq
  obtain ⟨b, off, rfl⟩ := plain_int rfl (ha0 0 _ rfl)
  obtain ⟨_, a, ha, hc⟩ := h3 i p hp
  obtain rfl : _ = a := by simpa using ha
  have c0 := hc 0 _ rfl
  have c1 := hc 1 _ rfl
  rw [add_none] at c0 c1
  exact ⟨b, off, rfl, World.block_lt_of_cell? w _ c0, c0, by rw [Nat.add_assoc]; exact c1⟩
theorem cells_rcs {fuel : Nat} {cs : List Value} {x : DataW H × List MemPlace} (h : DataW.trod enc Try.prog w base spare held fuel 22 cs = some x) : ∃ (A : Option Addr) (l : List RC) (c : Nat), cs = [.slice A l.length c] ∧ RdR w w.heap.size A l ∧ l.length ≤ c ∧ c ≤ Go.maxLen := by
  obtain ⟨A, l, c, e, h1, h2, h3⟩ := open_rows (α := RC) (fun p => [.int .i64 p.X, .int .i64 p.Y, .int .i64 p.W, .int .i64 p.H]) (fun _ => True) Try.underlying22 (show Try.prog.cellsOf 61 = 4 by kernel_rfl) (fun cs n y hl htr => by obtain ⟨p, e⟩ := one_rc hl htr; exact ⟨p, e, trivial⟩) h
  refine ⟨A, l, c, e, fun i p hp => ?_, h1, h2⟩
  obtain ⟨q, hq⟩ := getElem?_of_lt (show 0 < l.length by have := (List.getElem?_eq_some_iff.1 hp).1; omega)
  obtain ⟨_, a, rfl, ha0⟩ := h3 0 q hq
  obtain ⟨b, off, rfl⟩ := plain_int rfl (ha0 0 _ rfl)
  obtain ⟨_, a, ha, hc⟩ := h3 i p hp
  obtain rfl : _ = a := by simpa using ha
  have c0 := hc 0 _ rfl
  have c1 := hc 1 _ rfl
  have c2 := hc 2 _ rfl
  have c3 := hc 3 _ rfl
  rw [add_none] at c0 c1 c2 c3
  exact ⟨b, off, rfl, World.block_lt_of_cell? w _ c0, c0, by rw [Nat.add_assoc]; exact c1, by rw [Nat.add_assoc]; exact c2, by rw [Nat.add_assoc]; exact c3⟩
theorem cells_pls {fuel : Nat} {cs : List Value} {x : DataW H × List MemPlace} (h : DataW.trod enc Try.prog w base spare held fuel 26 cs = some x) : ∃ (A : Option Addr) (l : List PL) (c : Nat), cs = [.slice A l.length c] ∧ RdL w w.heap.size A l ∧ l.length ≤ c ∧ c ≤ Go.maxLen := by
  obtain ⟨A, l, c, e, h1, h2, h3⟩ := open_rows (α := PL) (fun p => [.int .i64 p.part, .int .i64 p.X, .int .i64 p.Y, .bool p.t]) (fun _ => True) Try.underlying26 (show Try.prog.cellsOf 52 = 4 by kernel_rfl) (fun cs n y hl htr => by obtain ⟨p, e⟩ := one_pl hl htr; exact ⟨p, e, trivial⟩) h
  refine ⟨A, l, c, e, fun i p hp => ?_, h1, h2⟩
  obtain ⟨q, hq⟩ := getElem?_of_lt (show 0 < l.length by have := (List.getElem?_eq_some_iff.1 hp).1; omega)
  obtain ⟨_, a, rfl, ha0⟩ := h3 0 q hq
  obtain ⟨b, off, rfl⟩ := plain_int rfl (ha0 0 _ rfl)
  obtain ⟨_, a, ha, hc⟩ := h3 i p hp
  obtain rfl : _ = a := by simpa using ha
  have c0 := hc 0 _ rfl
  have c1 := hc 1 _ rfl
  have c2 := hc 2 _ rfl
  have c3 := hc 3 _ rfl
  rw [add_none] at c0 c1 c2 c3
  exact ⟨b, off, rfl, World.block_lt_of_cell? w _ c0, c0, by rw [Nat.add_assoc]; exact c1, by rw [Nat.add_assoc]; exact c2, by rw [Nat.add_assoc]; exact c3⟩
set_option maxRecDepth 100000 in
theorem one_pt {cs : List Value} {n : Nat} {y : DataW H × List MemPlace} (hl : cs.length = 2) (htr : DataW.trod enc Try.prog w base spare held n 41 cs = some y) : ∃ p : PT, cs = [.slice p.A p.o.length p.c, .bool p.t] ∧ (Rd w w.heap.size p.A p.o ∧ p.o.length ≤ p.c) := by
  match cs, hl with
  | [u, v], _ =>
    obtain ⟨ys, n, _, _, _, hyl, hf⟩ := DataW.trod_struct Try.underlying41 htr
    have hyl2 : ys.length = 2 := hyl
    have c3 : Try.prog.cellsOf 39 = 1 := by kernel_rfl
    have c4 : Try.prog.cellsOf 4 = 1 := by kernel_rfl
    have f0 := (hf 0 _ rfl).trans (List.getElem?_eq_getElem (by omega))
    have f1 := (hf 1 _ rfl).trans (List.getElem?_eq_getElem (by omega))
    simp only [List.getElem_toArray, List.getElem_cons_zero, List.getElem_cons_succ, c3, c4] at f0 f1
    obtain ⟨A, l, c, e0, hr, hlc, _⟩ := cells_xys f0
    obtain ⟨x1, e1, _⟩ := DataW.trod_bool Try.underlying4 f1
    simp at e0 e1
    subst e0 e1
    exact ⟨⟨A, c, l, x1⟩, rfl, hr, hlc⟩
theorem cells_pts {fuel : Nat} {cs : List Value} {x : DataW H × List MemPlace} (h : DataW.trod enc Try.prog w base spare held fuel 25 cs = some x) : ∃ (A : Option Addr) (l : List PT) (c : Nat), cs = [.slice A l.length c] ∧ RdPP w w.heap.size A l ∧ l.length ≤ c ∧ c ≤ Go.maxLen := by
  obtain ⟨A, l, c, e, h1, h2, h3⟩ := open_rows (α := PT) (fun p => [.slice p.A p.o.length p.c, .bool p.t]) (fun p => Rd w w.heap.size p.A p.o ∧ p.o.length ≤ p.c) Try.underlying25 (show Try.prog.cellsOf 41 = 2 by kernel_rfl) (fun cs n y hl htr => one_pt hl htr) h
  refine ⟨A, l, c, e, ⟨fun i p hp => ?_, fun p hp => ?_⟩, h1, h2⟩
  · obtain ⟨q, hq⟩ := getElem?_of_lt (show 0 < l.length by have := (List.getElem?_eq_some_iff.1 hp).1; omega)
    obtain ⟨_, a, rfl, ha0⟩ := h3 0 q hq
    obtain ⟨b, off, rfl⟩ := plain_slice (ha0 0 _ rfl)
    obtain ⟨_, a, ha, hc⟩ := h3 i p hp
    obtain rfl : _ = a := by simpa using ha
    have c0 := hc 0 _ rfl
    have c1 := hc 1 _ rfl
    rw [add_none] at c0 c1
    exact ⟨b, off, rfl, World.block_lt_of_cell? w _ c0, c0, by rw [Nat.add_assoc]; exact c1⟩
  · obtain ⟨i, hi⟩ := List.getElem?_of_mem hp
    exact (h3 i p hi).1

/-- A board with parts and a layout, as it came in. -/
abbrev deskv (b : BD) (A : Option Addr) (c : Nat) (A2 : Option Addr) (n2 c2 : Nat) (A3 : Option Addr) (n3 c3 : Nat) : Value := .agg #[.int .i64 b.W, .int .i64 b.H, .int .i64 b.G, .slice A b.F.length c, .slice A2 n2 c2, .slice A3 n3 c3]
structure DeskAt (w : World) (b : BD) (A : Option Addr) (ps : List PT) (A2 : Option Addr) (L : List PL) (A3 : Option Addr) (c3 : Nat) : Prop where
  rF : RdR w w.heap.size A b.F
  rP : RdPP w w.heap.size A2 ps
  rL : RdL w w.heap.size A3 L
  hF : b.F.length ≤ Go.maxLen
  hP : ps.length ≤ Go.maxLen
  hL : L.length ≤ Go.maxLen
  cL : L.length ≤ c3
set_option maxRecDepth 100000 in
theorem open_desk {v : Value} {d : DataW H} {ps : List MemPlace} {r : Reach} {b0 : Nat} (hv : Value.okWide Try.prog w r b0 28 v) (h : DataW.Trod enc Try.prog w base spare held 28 v d ps) :
    ∃ (b : BD) (A : Option Addr) (c : Nat) (A2 : Option Addr) (qs : List PT) (c2 : Nat) (A3 : Option Addr) (L : List PL) (c3 : Nat), v = deskv b A c A2 qs.length c2 A3 L.length c3 ∧ DeskAt w b A qs A2 L A3 c3 := by
  obtain ⟨cs, rfl, hcs⟩ := okWide_struct Try.underlying28 hv
  have h2 : Try.prog.cellsOf 28 = 6 := by kernel_rfl
  rw [h2] at hcs
  obtain ⟨fuel, htr⟩ := h
  obtain ⟨cl⟩ := cs
  match cl, hcs with
  | [u0, u1, u2, u3, u4, u5], _ =>
    obtain ⟨ys, n, _, _, _, hyl, hf⟩ := DataW.trod_struct Try.underlying28 htr
    have hyl2 : ys.length = 3 := hyl
    have c4 : Try.prog.cellsOf 24 = 4 := by kernel_rfl
    have cp : Try.prog.cellsOf 25 = 1 := by kernel_rfl
    have cq : Try.prog.cellsOf 26 = 1 := by kernel_rfl
    have f0 := (hf 0 _ rfl).trans (List.getElem?_eq_getElem (by omega))
    have f1 := (hf 1 _ rfl).trans (List.getElem?_eq_getElem (by omega))
    have f2 := (hf 2 _ rfl).trans (List.getElem?_eq_getElem (by omega))
    simp only [List.getElem_toArray, List.getElem_cons_zero, List.getElem_cons_succ, c4, cp, cq] at f0 f1 f2
    obtain ⟨zs, m, _, _, _, hzl, hg⟩ := DataW.trod_struct Try.underlying24 f0
    have hzl2 : zs.length = 4 := hzl
    have c3 : Try.prog.cellsOf 3 = 1 := by kernel_rfl
    have cr : Try.prog.cellsOf 22 = 1 := by kernel_rfl
    have g0 := (hg 0 _ rfl).trans (List.getElem?_eq_getElem (by omega))
    have g1 := (hg 1 _ rfl).trans (List.getElem?_eq_getElem (by omega))
    have g2 := (hg 2 _ rfl).trans (List.getElem?_eq_getElem (by omega))
    have g3 := (hg 3 _ rfl).trans (List.getElem?_eq_getElem (by omega))
    simp only [List.getElem_toArray, List.getElem_cons_zero, List.getElem_cons_succ, c3, cr] at g0 g1 g2 g3
    obtain ⟨x0, e0, _, _⟩ := DataW.trod_int Try.underlying3 g0
    obtain ⟨x1, e1, _, _⟩ := DataW.trod_int Try.underlying3 g1
    obtain ⟨x2, e2, _, _⟩ := DataW.trod_int Try.underlying3 g2
    obtain ⟨A, F, c, e3, hF, hF1, hF2⟩ := cells_rcs g3
    obtain ⟨A2, qs, c2, e4, hP, hP1, hP2⟩ := cells_pts f1
    obtain ⟨A3, L, c3, e5, hL, hL1, hL2⟩ := cells_pls f2
    simp [Value.cells] at e0 e1 e2 e3 e4 e5
    subst e0 e1 e2 e3 e4 e5
    exact ⟨⟨x0, x1, x2, F⟩, A, c, A2, qs, c2, A3, L, c3, rfl, hF, hP, hL, by simpa using Nat.le_trans hF1 hF2, Nat.le_trans hP1 hP2, Nat.le_trans hL1 hL2, hL1⟩

set_option maxRecDepth 100000 in
/-- A place that came in. -/
theorem open_pl {v : Value} {d : DataW H} {ps : List MemPlace} {r : Reach} {b0 : Nat} (hv : Value.okWide Try.prog w r b0 52 v) (h : DataW.Trod enc Try.prog w base spare held 52 v d ps) : ∃ p : PL, v = valL p := by
  obtain ⟨cs, rfl, hcs⟩ := okWide_struct Try.underlying52 hv
  have h2 : Try.prog.cellsOf 52 = 4 := by kernel_rfl
  rw [h2] at hcs
  obtain ⟨fuel, htr⟩ := h
  obtain ⟨cl⟩ := cs
  obtain ⟨p, hp⟩ := one_pl (cs := cl) (by simpa using hcs) (by simpa [Value.cells] using htr)
  subst hp
  exact ⟨p, rfl⟩
end
end Go.Proofs.Ytohlinbcbfgdfaa

/- The law NestLaid: the walk. -/
import Derived.Test.YtohlinbcbfgdfaaMathNM
import Derived.Test.YtohlinbcbfgdfaaNW17b
import Derived.Deep.Upon
import Derived.Lib.AppendZeros
namespace Go.Proofs.Ytohlinbcbfgdfaa
open Go.RowKit Go.Shelf

theorem laid_nums {b : BD} {ps : List PT} {part : Int} (h : (rowsS b ps part).2 = 0) : (boundS b ps part).2 = 0 ∧ ((rowsS b ps part).1.length : Int) ≤ (boundS b ps part).1 ∧ (checkS b ps (rowsS b ps part).1).2 = 0 := by
  cases hok : okPart b ps part
  · rw [rowsS_no hok] at h
    unfold badErr at h
    cases hv : boardB b && partsB ps <;> rw [hv] at h <;> simp at h
  · have hb2 : boundS b ps part = ((2 * b.W * b.H).tdiv (areaW (((ps[part.toNat]?).map (·.o)).getD [])), 0) := by unfold boundS; rw [hok]; rfl
    obtain ⟨k, pt, rfl, hk, h1, h2, h3⟩ := okPart_get hok
    have e : (((ps[(k : Int).toNat]?).map (·.o)).getD []) = pt.o := by rw [show (k : Int).toNat = k from rfl, hk]; rfl
    rw [e] at hb2
    rw [rowsS_yes hk h1 h2] at h ⊢
    rw [hb2]
    exact ⟨rfl, rows_bound h1 h3 h, rows_right h1 h2 hk⟩
theorem free_err {b : BD} {ps : List PT} {L : List PL} {p : PL} (h : (freeS b ps L p).2 ≠ 0) : (freeS b ps L p).1 = false := by
  unfold freeS at h ⊢
  by_cases hc : (checkS b ps L).2 = 0
  · rw [if_pos hc] at h; exact absurd rfl h
  · rw [if_neg hc]
theorem free_ok {b : BD} {ps : List PT} {L : List PL} {p : PL} (h : (freeS b ps L p).2 = 0) : L.length ≤ 200 ∧ ((checkS b ps (L ++ [p])).2 = 0 ↔ (freeS b ps L p).1 = true) := by
  unfold freeS at h ⊢
  by_cases hc : (checkS b ps L).2 = 0
  · rw [if_pos hc]
    exact ⟨(checkS_ok hc).hl, check_append hc⟩
  · rw [if_neg hc] at h; exact absurd h hc
theorem step_append_nil {P : Program} (w : World) {ops : Array Oper} {o : Oper} {a : Act} {K : Act → World → Prop} {Q : Exit → Act → World → Prop} {E : Prop} (hgd : o.guard = none) (s x : Operand) (t : TypeId)
    (ho : o.op = .call { callee := .builtin .append, args := #[s, x], argTypes := #[t, t] }) (e : TypeId) (i : TypeInfo) (ht : P.underlying t = some (.slice e)) (hi : P.info? e = some i)
    (base : Option Addr) (sLen sCap : Nat) (hle : sLen ≤ sCap) (hs : a.eval s = .slice base sLen sCap) (c : Nat) (hx : a.eval x = .slice none 0 c) (h : K (a.put o.dst (.slice base sLen sCap)) w) :
    if Region.wanted o (yielded ops a.tmps) = true then Oper.wp P o a w K Q else E := by
  have hw : Region.wanted o (yielded ops a.tmps) = true := by simp [Region.wanted, hgd]
  rw [if_pos hw]
  exact Lib.wp_append_run w s x t t ho _ _ hs hx _ _ (run_append_nothing w t t o.type e i ht hi base sLen sCap hle _ (Src.ofNil w ht c)) h
theorem own_built (w : World) (B : Nat) (h : B ≤ w.heap.size) : (w.alloc (.cells #[] 52)).ownsRow B 52 4 (.slice (some ⟨w.heap.size, 0, none⟩) 0 0) 0 [] :=
  ⟨rfl, .inr ⟨w.heap.size, 0, #[], rfl, h, heap_alloc_new w _, Nat.le_refl _, Nat.zero_le _, rfl, rfl⟩⟩
theorem own_built2 (w : World) (o : Obj) : ((w.alloc o).alloc (.cells #[] 52)).ownsRow w.heap.size 52 4 (.slice (some ⟨w.heap.size + 1, 0, none⟩) 0 0) 0 [] := by
  have := own_built (w.alloc o) w.heap.size (by simp)
  rwa [World.size_alloc] at this
theorem PlAt.drew {w : World} {B : Nat} {p : PL} (h : PlAt w B p) : PlAt w.drew B p := ⟨h.c0, h.c1, h.c2, h.c3⟩
theorem pl_kept {w w' : World} {row : Option Nat} {B : Nat} {p : PL} (hg : w.grownBy w' row) (h : PlAt w B p) (hne : row ≠ some B) : PlAt w' B p :=
  ⟨hg.cell h.c0 (fun e => hne e.symm), hg.cell h.c1 (fun e => hne e.symm), hg.cell h.c2 (fun e => hne e.symm), hg.cell h.c3 (fun e => hne e.symm)⟩
abbrev plObj (p : PL) : Obj := .cells #[.int .i64 p.part, .int .i64 p.X, .int .i64 p.Y, .bool p.t] 52
theorem pl_new1d (w : World) (p : PL) : PlAt ((w.alloc (.cells #[] 52)).drew.alloc (plObj p)) (w.heap.size + 1) p := by
  have := PlAt.new (w.alloc (.cells #[] 52)).drew p
  rwa [show (w.alloc (.cells #[] 52)).drew.heap.size = w.heap.size + 1 from World.size_alloc _ _] at this
theorem pl_new1 (w : World) (p : PL) : PlAt ((w.alloc (.cells #[] 52)).alloc (plObj p)).drew (w.heap.size + 1) p := by
  have := PlAt.new (w.alloc (.cells #[] 52)) p
  rw [World.size_alloc] at this
  exact this.drew
theorem pl_new2 (w : World) (p : PL) : PlAt ((w.alloc (plObj p)).alloc (.cells #[] 52)).drew w.heap.size p :=
  ((PlAt.new w p).below (C := w.heap.size + 1) (by (repeat (first | exact Below.refl _ _ | assumption | refine Below.alloc ?_ (by first | exact Nat.le_refl _ | exact Below.size (by assumption) | omega | (simp <;> omega)) _ | refine Below.setCell ?_ (by first | exact Nat.le_refl _ | exact Below.size (by assumption) | omega | (simp <;> omega)) _ | refine below_drewN ?_ _ | refine Below.drew ?_))) (by omega)).drew
theorem pl_new2d (w : World) (p : PL) : PlAt ((w.alloc (plObj p)).drew.alloc (.cells #[] 52)) w.heap.size p :=
  ((PlAt.new w p).drew).below (C := w.heap.size + 1) (by (repeat (first | exact Below.refl _ _ | assumption | refine Below.alloc ?_ (by first | exact Nat.le_refl _ | exact Below.size (by assumption) | omega | (simp <;> omega)) _ | refine Below.setCell ?_ (by first | exact Nat.le_refl _ | exact Below.size (by assumption) | omega | (simp <;> omega)) _ | refine below_drewN ?_ _ | refine Below.drew ?_))) (by omega)
theorem ne1 (w : World) : (some w.heap.size : Option Nat) ≠ some (w.heap.size + 1) := by simp
theorem ne2 (w : World) : (some (w.heap.size + 1) : Option Nat) ≠ some w.heap.size := by simp
theorem pl_cells {w : World} {B : Nat} {p : PL} (h : PlAt w B p) : ∀ j u, [Value.int .i64 p.part, .int .i64 p.X, .int .i64 p.Y, .bool p.t][j]? = some u → w.cell? ((⟨B, 0, none⟩ : Addr).add j) = some u := by
  intro j u hj
  rw [add_none, Nat.zero_add]
  match j, hj with
  | 0, hj => obtain rfl := Option.some.inj hj; exact h.c0
  | 1, hj => obtain rfl := Option.some.inj hj; exact h.c1
  | 2, hj => obtain rfl := Option.some.inj hj; exact h.c2
  | 3, hj => obtain rfl := Option.some.inj hj; exact h.c3
  | j + 4, hj => simp at hj
theorem rdl_cells {w : World} {B b off : Nat} {l : List PL} (h : RdL w B (some ⟨b, off, none⟩) l) : ∀ j u, (flatP l)[j]? = some u → w.cell? ((⟨b, off, none⟩ : Addr).add j) = some u := by
  intro j u hj
  have hjl : j < (flatP l).length := (List.getElem?_eq_some_iff.1 hj).1
  rw [flatP_length] at hjl
  obtain ⟨p, hp⟩ := getElem?_of_lt (show j / 4 < l.length by omega)
  obtain ⟨b', off', hA, hb, c0, c1, c2, c3⟩ := h (j / 4) p hp
  obtain ⟨rfl, rfl⟩ : b = b' ∧ off = off' := by simpa using hA
  obtain ⟨f0, f1, f2, f3⟩ := flatP_get hp
  rw [add_none]
  have hm := Nat.mod_lt j (show 0 < 4 by omega)
  have hd := Nat.div_add_mod j 4
  generalize j / 4 = q at *
  generalize hr : j % 4 = r at *
  obtain rfl : j = q * 4 + r := by omega
  match r, hm with
  | 0, _ => rw [Nat.add_zero] at hj ⊢; rw [f0] at hj; obtain rfl := Option.some.inj hj; exact c0
  | 1, _ => rw [f1] at hj; obtain rfl := Option.some.inj hj; rw [← Nat.add_assoc]; exact c1
  | 2, _ => rw [f2] at hj; obtain rfl := Option.some.inj hj; rw [← Nat.add_assoc]; exact c2
  | 3, _ => rw [f3] at hj; obtain rfl := Option.some.inj hj; rw [← Nat.add_assoc]; exact c3


end Go.Proofs.Ytohlinbcbfgdfaa

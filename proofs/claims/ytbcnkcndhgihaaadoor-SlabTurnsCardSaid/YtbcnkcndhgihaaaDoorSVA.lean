/- Blocks: nine numbers in memory, and words for the iterator over cells. Blocks: the iterator over cells: its contract; the program's Volumes: the walks. Blocks: the program's Volumes: the walk. Blocks: what was taken: the program's walk. -/
import Derived.Test.YtbcnkcndhgihaaaDoorMathVV
import Derived.Test.YtbcnkcndhgihaaaDoorRoundX
import Derived.RangeFuncNested
import Derived.RangeFuncBound
import Derived.RangeFuncCalls
import Derived.RangeFuncLeaves
import Derived.Shelf.RegionOpen
import Derived.OwnWalkIn
import Derived.TacticsInMore
import Derived.LoopNIn
import Derived.LoopIn
import Derived.Laws.Tables
import Derived.Test.YtbcnkcndhgihaaaDoorSB
namespace Go.Proofs.YtbcnkcndhgihaaaDoor
open Go.RowKit
set_option linter.unusedSimpArgs false

abbrev val9 (f : Int → Int) : Value := .agg #[.int .i64 (f 0), .int .i64 (f 1), .int .i64 (f 2), .int .i64 (f 3), .int .i64 (f 4), .int .i64 (f 5), .int .i64 (f 6), .int .i64 (f 7), .int .i64 (f 8)]
/-- Nine numbers lie in a block of their own. -/
def V9 (w : World) (k : Nat) (f : Int → Int) : Prop := w.heap[k]? = some (.cells #[.int .i64 (f 0), .int .i64 (f 1), .int .i64 (f 2), .int .i64 (f 3), .int .i64 (f 4), .int .i64 (f 5), .int .i64 (f 6), .int .i64 (f 7), .int .i64 (f 8)] 47 (0, 0))
theorem lt9 {j : Nat} (h : j < 9) : j = 0 ∨ j = 1 ∨ j = 2 ∨ j = 3 ∨ j = 4 ∨ j = 5 ∨ j = 6 ∨ j = 7 ∨ j = 8 := by omega
theorem V9.lt {w : World} {k : Nat} {f : Int → Int} (h : V9 w k f) : k < w.heap.size := (Array.getElem?_eq_some_iff.1 h).1
theorem V9.at {w : World} {k : Nat} {f : Int → Int} (h : V9 w k f) {j : Nat} (hj : j < 9) : w.cell? ⟨k, j, none⟩ = some (.int .i64 (f j)) ∧ w.frozen? ⟨k, j, none⟩ = false := by
  unfold V9 at h
  rcases lt9 hj with rfl | rfl | rfl | rfl | rfl | rfl | rfl | rfl | rfl <;> exact ⟨by simp [World.cell?, h], by simp [World.frozen?, h]⟩
theorem V9.c {w : World} {k : Nat} {f : Int → Int} (h : V9 w k f) : w.cell? ⟨k, 0, none⟩ = some (.int .i64 (f 0)) ∧ w.cell? ⟨k, 1, none⟩ = some (.int .i64 (f 1)) ∧ w.cell? ⟨k, 2, none⟩ = some (.int .i64 (f 2)) ∧ w.cell? ⟨k, 3, none⟩ = some (.int .i64 (f 3)) ∧ w.cell? ⟨k, 4, none⟩ = some (.int .i64 (f 4)) ∧ w.cell? ⟨k, 5, none⟩ = some (.int .i64 (f 5)) ∧ w.cell? ⟨k, 6, none⟩ = some (.int .i64 (f 6)) ∧ w.cell? ⟨k, 7, none⟩ = some (.int .i64 (f 7)) ∧ w.cell? ⟨k, 8, none⟩ = some (.int .i64 (f 8)) :=
  ⟨(h.at (j := 0) (by omega)).1, (h.at (j := 1) (by omega)).1, (h.at (j := 2) (by omega)).1, (h.at (j := 3) (by omega)).1, (h.at (j := 4) (by omega)).1, (h.at (j := 5) (by omega)).1, (h.at (j := 6) (by omega)).1, (h.at (j := 7) (by omega)).1, (h.at (j := 8) (by omega)).1⟩
theorem V9.below {w w' : World} {k B : Nat} {f : Int → Int} (h : V9 w k f) (hb : Below B w w') (hk : k < B) : V9 w' k f := (hb.block k hk).trans h
theorem V9.new (w : World) (f : Int → Int) : V9 (w.alloc (.cells #[.int .i64 (f 0), .int .i64 (f 1), .int .i64 (f 2), .int .i64 (f 3), .int .i64 (f 4), .int .i64 (f 5), .int .i64 (f 6), .int .i64 (f 7), .int .i64 (f 8)] 47)) w.heap.size f := heap_alloc_new w _
theorem V9.new0 (w : World) : V9 (w.alloc (.cells #[.int .i64 0, .int .i64 0, .int .i64 0, .int .i64 0, .int .i64 0, .int .i64 0, .int .i64 0, .int .i64 0, .int .i64 0] 47)) w.heap.size (fun _ => 0) := heap_alloc_new w _
theorem grownBy_setCell9 (W : World) (b i : Nat) (v : Value) : W.grownBy (W.setCell ⟨b, i, none⟩ v) (some b) :=
  ⟨rfl, rfl, rfl, (KeepsWalks.setCell W _ v).size, fun k _ hk => Below.heap_setCell _ _ _ k (fun e => hk (by rw [e]))⟩
def upd (f : Int → Int) (j : Int) (v : Int) : Int → Int := fun i => if i = j then v else f i
theorem V9.set {w : World} {k : Nat} {f : Int → Int} (h : V9 w k f) {j : Nat} (hj : j < 9) (v : Int) : V9 (w.setCell ⟨k, j, none⟩ (.int .i64 v)) k (upd f j v) := by
  unfold V9 at h ⊢
  rcases lt9 hj with rfl | rfl | rfl | rfl | rfl | rfl | rfl | rfl | rfl <;> simp [World.setCell, Array.getElem?_modify, h, upd]
theorem V9.eqf {w : World} {k : Nat} {f g : Int → Int} (h : V9 w k f) (hg : ∀ j : Nat, j < 9 → f j = g j) : V9 w k g := by
  have h0 : f 0 = g 0 := hg 0 (by omega); have h1 : f 1 = g 1 := hg 1 (by omega); have h2 : f 2 = g 2 := hg 2 (by omega); have h3 : f 3 = g 3 := hg 3 (by omega); have h4 : f 4 = g 4 := hg 4 (by omega); have h5 : f 5 = g 5 := hg 5 (by omega); have h6 : f 6 = g 6 := hg 6 (by omega); have h7 : f 7 = g 7 := hg 7 (by omega); have h8 : f 8 = g 8 := hg 8 (by omega)
  unfold V9 at h ⊢
  rw [h, h0, h1, h2, h3, h4, h5, h6, h7, h8]
theorem V9.own {β : Type} (k : Nat) (f : β → Int → Int) : Own (fun s W => V9 W k (f s)) := fun s X Y row hs hg hrow => by
  have hlt := (Array.getElem?_eq_some_iff.1 hs).1
  refine (hg.block k hlt fun e => ?_).trans hs
  obtain ⟨o, ho, hc⟩ := hrow k e.symm
  rw [show X.heap[k]? = _ from hs] at ho; cases ho; cases hc
theorem val9_eq {f g : Int → Int} (hg : ∀ j : Nat, j < 9 → f j = g j) : val9 f = val9 g := by
  have h0 : f 0 = g 0 := hg 0 (by omega); have h1 : f 1 = g 1 := hg 1 (by omega); have h2 : f 2 = g 2 := hg 2 (by omega); have h3 : f 3 = g 3 := hg 3 (by omega); have h4 : f 4 = g 4 := hg 4 (by omega); have h5 : f 5 = g 5 := hg 5 (by omega); have h6 : f 6 = g 6 := hg 6 (by omega); have h7 : f 7 = g 7 := hg 7 (by omega); have h8 : f 8 = g 8 := hg 8 (by omega)
  show Value.agg _ = Value.agg _
  rw [h0, h1, h2, h3, h4, h5, h6, h7, h8]
theorem eq9 (f : Int → Int) (w : World) : (binOp .eql 47 (val9 f) (val9 f)).run Tryd.prog w = .ok (.bool true) w := by
  have hj0 : (Tryd.prog.info? 3).isSome = true := by kernel_rfl
  obtain ⟨j, hj⟩ := Option.isSome_iff_exists.1 hj0
  have hc : Tryd.prog.cellsOf 3 = 1 := by kernel_rfl
  have u3 := Tryd.underlying3
  have a3 := Tryd.isAgg3
  have z3 := Tryd.sizeOf3
  rw [run_eql_struct, show (10000 : Nat) = 9999 + 1 from rfl, run_equalIn_array w 9999 _ _ Tryd.underlying47 hj, hc, show List.range 9 = [0, 1, 2, 3, 4, 5, 6, 7, 8] from rfl]
  simp only [Op.eqItems]
  go_simp
theorem ne9 (f : Int → Int) (w : World) : (binOp .neq 47 (val9 f) (val9 f)).run Tryd.prog w = .ok (.bool false) w := by
  have hj0 : (Tryd.prog.info? 3).isSome = true := by kernel_rfl
  obtain ⟨j, hj⟩ := Option.isSome_iff_exists.1 hj0
  have hc : Tryd.prog.cellsOf 3 = 1 := by kernel_rfl
  have u3 := Tryd.underlying3
  have a3 := Tryd.isAgg3
  have z3 := Tryd.sizeOf3
  rw [run_neq_struct, show (10000 : Nat) = 9999 + 1 from rfl, run_equalIn_array w 9999 _ _ Tryd.underlying47 hj, hc, show List.range 9 = [0, 1, 2, 3, 4, 5, 6, 7, 8] from rfl]
  simp only [Op.eqItems]
  go_simp

/-- The numbers below k, as numbers below N. -/
def finTo (N k : Nat) : List (Fin N) := (List.range k).filterMap fun i => if h : i < N then some ⟨i, h⟩ else none
theorem finTo_succ {N k : Nat} (h : k < N) : finTo N (k + 1) = finTo N k ++ [⟨k, h⟩] := by
  unfold finTo
  rw [List.range_succ, List.filterMap_append]
  simp [h]
theorem finTo_len {N : Nat} : ∀ {k : Nat}, k ≤ N → (finTo N k).length = k
  | 0, _ => rfl
  | k + 1, h => by rw [finTo_succ (by omega), List.length_append, finTo_len (by omega)]; rfl
/-- What a round of the loop keeps: what lay below n₀, and the block of the extents. -/
def KpC (n₀ Bs : Nat) (W W' : World) : Prop := Below n₀ W W' ∧ W'.heap[Bs]? = W.heap[Bs]?
theorem KpC.trans {n₀ Bs : Nat} {A B C : World} (h : KpC n₀ Bs A B) (k : KpC n₀ Bs B C) : KpC n₀ Bs A C := ⟨h.1.trans k.1, k.2.trans h.2⟩
theorem KpC.refl (n₀ Bs : Nat) (A : World) : KpC n₀ Bs A A := ⟨Below.refl _ _, rfl⟩
theorem KpC.book {n₀ Bs : Nat} {w : World} (hn : n₀ ≤ w.heap.size) (hBs : Bs < w.heap.size) (W : World) (l : Nat) (o o' : Obj) (hl : w.heap.size ≤ l) (h : W.heap[l]? = some o) (h1 : o.isCells = false) (h2 : o.isWalk = false) : KpC n₀ Bs W (W.putObj l o') :=
  ⟨belowK_b hn W l o o' hl h h1 h2, World.putObj_heap_other (by omega)⟩
theorem KpC.of_below {n₀ Bs C : Nat} {A B : World} (h : Below C A B) (hn : n₀ ≤ C) (hB : Bs < C) : KpC n₀ Bs A B := ⟨h.mono hn, h.block Bs hB⟩
theorem CX.own {β : Type} (k : Nat) (t : β → T3) : Own (fun s W => CX W k (t s)) := fun s X Y row hs hg hrow => by
  have hlt := (Array.getElem?_eq_some_iff.1 hs).1
  refine (hg.block k hlt fun e => ?_).trans hs
  obtain ⟨o, ho, hc⟩ := hrow k e.symm
  rw [show X.heap[k]? = _ from hs] at ho; cases ho; cases hc
theorem keepsFrom_below {W W' : World} (B : Nat) (hb : Below W.heap.size W W') : KeepsFrom B W W' :=
  ⟨hb.size, fun k _ _ hk _ => (hb.block k (Array.getElem?_eq_some_iff.1 hk).1).trans hk⟩
/-- The nine cells, stored. -/
def put9 (w : World) (k : Nat) (g : Int → Int) : World := w.setRow k #[.int .i64 (g 0), .int .i64 (g 1), .int .i64 (g 2), .int .i64 (g 3), .int .i64 (g 4), .int .i64 (g 5), .int .i64 (g 6), .int .i64 (g 7), .int .i64 (g 8)]
theorem V9.put {w : World} {k : Nat} {f : Int → Int} (h : V9 w k f) (g : Int → Int) : V9 (put9 w k g) k g := setRow_heap w k _ _ _ _ h
theorem put9_below {w : World} {k C : Nat} (g : Int → Int) (h : C ≤ k) : Below C w (put9 w k g) :=
  ⟨rfl, rfl, rfl, Nat.le_of_eq (setRow_size w k _).symm, fun i hi => setRow_other w k i _ (by omega)⟩
theorem run_put9 {w : World} {k : Nat} {f : Int → Int} (h : V9 w k f) (g : Int → Int) : (Instr.storeAt 47 (.pointer (some ⟨k, 0, none⟩)) (.agg #[.int .i64 (g 0), .int .i64 (g 1), .int .i64 (g 2), .int .i64 (g 3), .int .i64 (g 4), .int .i64 (g 5), .int .i64 (g 6), .int .i64 (g 7), .int .i64 (g 8)])).run Tryd.prog w = .ok () (put9 w k g) := by
  have h2 : (storeVar 47 ⟨k, 0, none⟩ (.agg #[.int .i64 (g 0), .int .i64 (g 1), .int .i64 (g 2), .int .i64 (g 3), .int .i64 (g 4), .int .i64 (g 5), .int .i64 (g 6), .int .i64 (g 7), .int .i64 (g 8)])).run Tryd.prog w = .ok () (put9 w k g) := run_storeVar_row w k 47 47 _ _ h (by kernel_rfl) rfl (by simp [Value.oneCell'])
  simpa [Instr.storeAt, Instr.sureAddr, Sem.run_bind, Sem.run_pure] using h2
theorem exec_store9 {o : Oper} {a : Act} {w : World} {k : Nat} {f : Int → Int} (g : Int → Int) (x y : Operand) (h : V9 w k f) (ho : o.op = .store 47 x y) (hx : a.eval x = .pointer (some ⟨k, 0, none⟩)) (hy : a.eval y = val9 g) : (execOp a.eval o).run Tryd.prog w = .ok .skip (put9 w k g) := by
  unfold execOp
  rw [ho]
  have h2 := run_put9 h g
  simp [hx, hy, Sem.run_bind, h2]
theorem wpList_store9 {ops : Array Oper} {rest : List Oper} {o : Oper} {a : Act} {Q : Exit → Act → World → Prop} {w : World} {k : Nat} {f : Int → Int} (g : Int → Int) (x y : Operand) (h : V9 w k f) (hgd : o.guard = none) (ho : o.op = .store 47 x y) (hx : a.eval x = .pointer (some ⟨k, 0, none⟩)) (hy : a.eval y = val9 g)
    (hn : wpList Tryd.prog ops Q rest (a.put o.dst undef) (put9 w k g)) : wpList Tryd.prog ops Q (o :: rest) a w := by
  unfold wpList
  have hr := exec_store9 g x y h ho hx hy
  rw [if_pos (by simp [Region.wanted, hgd])]
  left
  unfold Oper.wp
  rw [hr]
  exact hn
theorem at_store9 {P : Program} {ops : Array Oper} {rest : List Oper} {a : Act} {Q : Exit → Act → World → Prop} {w : World} {o1 o3 o4 o5 o6} {t : TypeId} {x y : Operand} (h : wpList P ops Q (Oper.mk o1 (.store t x y) o3 o4 o5 o6 :: rest) a w) : wpList P ops Q (Oper.mk o1 (.store t x y) o3 o4 o5 o6 :: rest) a w := h

theorem wpListIn_store9 {n : Nat} {ops : Array Oper} {rest : List Oper} {o : Oper} {a : Act} {Q : Exit → Act → World → Prop} {w : World} {k : Nat} {f : Int → Int} (g : Int → Int) (x y : Operand) (h : V9 w k f) (hgd : o.guard = none) (ho : o.op = .store 47 x y) (hx : a.eval x = .pointer (some ⟨k, 0, none⟩)) (hy : a.eval y = val9 g)
    (hn : wpListIn Fence.wide n Tryd.prog ops Q rest (a.put o.dst undef) (put9 w k g)) : wpListIn Fence.wide n Tryd.prog ops Q (o :: rest) a w := by
  unfold wpListIn
  have hr := exec_store9 g x y h ho hx hy
  rw [if_pos (by simp [Region.wanted, hgd])]
  unfold Oper.wpIn
  refine ⟨fun _ _ => trivial, ?_⟩
  rw [show Fence.wide.round = none from rfl, Oper.semAt_none, hr]
  exact hn
theorem atIn_store9 {F : Fence} {n : Nat} {P : Program} {ops : Array Oper} {rest : List Oper} {a : Act} {Q : Exit → Act → World → Prop} {w : World} {o1 o3 o4 o5 o6} {t : TypeId} {x y : Operand} (h : wpListIn F n P ops Q (Oper.mk o1 (.store t x y) o3 o4 o5 o6 :: rest) a w) : wpListIn F n P ops Q (Oper.mk o1 (.store t x y) o3 o4 o5 o6 :: rest) a w := h
/-- Counts of the cells that have come. -/
def cntL (s : Sh) {N : Nat} (pre : List (Fin N)) (j : Int) : Nat := pre.foldl (fun (n : Nat) (i : Fin N) => n + ind s j (cellN s.ext i)) 0
theorem cntL_snoc (s : Sh) {N : Nat} (pre : List (Fin N)) (x : Fin N) (j : Int) : cntL s (pre ++ [x]) j = cntL s pre j + ind s j (cellN s.ext x) := by
  unfold cntL; rw [List.foldl_append]; rfl
theorem cntL_fin (s : Sh) {N : Nat} : ∀ {k : Nat}, k ≤ N → ∀ j, cntL s (finTo N k) j = cntS s k j
  | 0, _, _ => rfl
  | k + 1, h, j => by rw [finTo_succ (by omega), cntL_snoc, cntL_fin s (by omega)]; rfl
theorem ind_le (s : Sh) (j : Int) (c : T3) : ind s j c ≤ 1 := by unfold ind; split <;> omega
theorem cntL_le (s : Sh) {N : Nat} (j : Int) : ∀ (n : Nat) (pre : List (Fin N)), pre.length = n → cntL s pre j ≤ n
  | 0, pre, h => by rw [List.length_eq_zero_iff.1 h]; exact Nat.le_refl _
  | n + 1, pre, h => by
    obtain ⟨l, x, rfl⟩ : ∃ l x, pre = l ++ [x] := ⟨pre.dropLast, pre.getLast (by intro e; rw [e] at h; cases h), (List.dropLast_concat_getLast _).symm⟩
    rw [cntL_snoc]
    have h1 := cntL_le s j n l (by simpa using h)
    have h2 := ind_le s j (cellN s.ext x)
    omega
/-- One more cell. -/
theorem upd_cnt {s : Sh} {c : T3} {i : Nat} (f g : Int → Nat) (h : s.at c = 97 + (i : Int)) (hg : ∀ j, g j = f j + ind s j c) : upd (fun j => (f j : Int)) i ((f i : Int) + 1) = fun j => (g j : Int) := by
  funext j
  unfold upd
  rw [hg]
  unfold ind
  rw [h]
  by_cases hj : j = (i : Int)
  · subst hj
    rw [if_pos rfl, if_pos rfl]; rfl
  · rw [if_neg hj, if_neg (by omega)]; rfl
def volB (b : BT) : (Int → Int) × Int := match formS b with
  | .error x => (fun _ => 0, x)
  | .ok s => (fun j => (vol s j : Int), 0)
def overB (b : BT) : Bool := (List.range 9).any fun k => decide (1099511627776 < takS b (k : Int))
def sheetsB (b : BT) : (Int → Int) × Int := match formS b with
  | .error x => (fun _ => 0, x)
  | .ok _ => if overB b then (fun _ => 0, 4) else (fun j => takS b j, 0)
end Go.Proofs.YtbcnkcndhgihaaaDoor

namespace Go.Proofs.YtbcnkcndhgihaaaDoor
open Go.RowKit Go.Shelf
attribute [local go_sem] Oper.semAt_some
set_option linter.unusedSimpArgs false

/-- What a round leaves: it goes on, or it has said 'no more'. -/
def CellQ {N : Nat} (n₀ Bs : Nat) (W : World) (J Jx : List (Fin N) → World → Prop) (pre : List (Fin N)) (b : Bool) (W' : World) : Prop :=
  (b = true ∧ J pre W' ∧ KpC n₀ Bs W W') ∨ (b = false ∧ Jx pre W')
theorem lt_cells {a b c x y z : Nat} (hx : x < a) (hy : y < b) (hz : z < c) : (z * b + y) * a + x < a * b * c := by
  have h1 : z * b + y + 1 ≤ c * b := by
    have : (z + 1) * b ≤ c * b := Nat.mul_le_mul_right b hz
    rw [Nat.succ_mul] at this; omega
  have h2 : (z * b + y + 1) * a ≤ c * b * a := Nat.mul_le_mul_right a h1
  rw [Nat.succ_mul] at h2
  have h3 : c * b * a = a * b * c := by rw [Nat.mul_comm c b, Nat.mul_comm (b * c) a, Nat.mul_assoc]
  omega
theorem le_row {a b c y z : Nat} (hy : y ≤ b) (hz : z < c) : (z * b + y) * a ≤ a * b * c := by
  have h1 : z * b + y ≤ c * b := by
    have : (z + 1) * b ≤ c * b := Nat.mul_le_mul_right b hz
    rw [Nat.succ_mul] at this; omega
  have h2 : (z * b + y) * a ≤ c * b * a := Nat.mul_le_mul_right a h1
  have h3 : c * b * a = a * b * c := by rw [Nat.mul_comm c b, Nat.mul_comm (b * c) a, Nat.mul_assoc]
  omega
set_option maxRecDepth 100000 in
set_option maxHeartbeats 4000000 in
theorem cells_in (n : Nat) (hn : 1 ≤ n) (l Bs n₀ a b c : Nat) (ha : a ≤ 200) (hb : b ≤ 200) (hc : c ≤ 200) (J Jx : List (Fin (a * b * c)) → World → Prop)
    (hY : ∀ pre (x : Fin (a * b * c)) W, J pre W → pre.length < a * b * c → YieldAt Fence.wide (n - 1) Tryd.prog l #[val3 (cellN ⟨a, b, c⟩ x)] W fun e W' =>
      (e = .returned (.bool true) ∧ J (pre ++ [x]) W' ∧ KpC n₀ Bs W W') ∨ (e = .returned (.bool false) ∧ Jx (pre ++ [x]) W'))
    (W : World) (hBs : CX W Bs ⟨a, b, c⟩) (h0 : J [] W) :
    CallsIn Fence.wide n Tryd.prog 86 #[.func (.yield l) #[] #[], .pointer (some ⟨Bs, 0, none⟩)] W fun e W' => (∃ v, e = .returned v) ∧
      ((∃ ys, ys = finTo (a * b * c) (a * b * c) ∧ J ys W') ∨ (∃ pre, (∃ k, k < a * b * c ∧ pre = finTo (a * b * c) (k + 1)) ∧ Jx pre W')) := by
  have HK : Hid (∀ W', KpC n₀ Bs W W' → CX W' Bs ⟨a, b, c⟩) := fun W' h => h.2.trans hBs
  have HN0 : Hid (J (finTo (a * b * c) 0) W) := h0
  clear h0
  refine callsIn_of_wp Tryd.func86 rfl trivial ?_ rfl
  simp only [Tryd.ntmps86, List.size_toArray, List.length_cons, List.length_nil, Nat.reduceAdd, Nat.reduceSub, Array.replicate_succ, Array.replicate_zero, List.push_toArray, List.append_toArray, List.nil_append, List.cons_append]
  obtain ⟨x0, x1, x2, _⟩ := hBs.c
  dsimp only at x0 x1 x2
  gi_wp2
  gi_loopw [8] (fun i wr => ∃ z : Nat, z ≤ c ∧ i = .int .i64 z ∧ J (finTo (a * b * c) (z * b * a)) wr ∧ KpC n₀ Bs W wr) (fun i _ => c - (intOf i).toNat)
  case atStart => exact ⟨0, Nat.zero_le _, rfl, by rw [Nat.zero_mul, Nat.zero_mul]; exact HN0.out, KpC.refl _ _ _⟩
  case round =>
    obtain ⟨z, hz, rfl, hJz, hKz⟩ := hrel
    have HJZ := Lib.hid hJz
    clear hJz
    by_cases hz1 : z < c
    · obtain ⟨y0, y1, y2, _⟩ := (HK.out wr hKz).c
      dsimp only at y0 y1 y2
      gi_wp2
      obtain ⟨wz, hwz⟩ : ∃ wz : World, wz = wr := ⟨_, rfl⟩
      rw [← hwz] at HJZ hKz y0 y1 y2 ⊢
      clear hwz
      gi_loopw [13] (fun i wr => ∃ y : Nat, y ≤ b ∧ i = .int .i64 y ∧ J (finTo (a * b * c) ((z * b + y) * a)) wr ∧ KpC n₀ Bs W wr) (fun i _ => b - (intOf i).toNat)
      case atStart => exact ⟨0, Nat.zero_le _, rfl, by rw [Nat.add_zero]; exact HJZ.out, hKz⟩
      case round =>
        obtain ⟨y, hy, rfl, hJy, hKy⟩ := hrel
        have HJY := Lib.hid hJy
        clear hJy
        by_cases hy1 : y < b
        · obtain ⟨q0, q1, q2, _⟩ := (HK.out wr hKy).c
          dsimp only at q0 q1 q2
          gi_wp2
          obtain ⟨wy, hwy⟩ : ∃ wy : World, wy = wr := ⟨_, rfl⟩
          rw [← hwy] at HJY hKy q0 q1 q2 ⊢
          clear hwy
          gi_loopw [18] (fun i wr => ∃ x : Nat, x ≤ a ∧ i = .int .i64 x ∧ J (finTo (a * b * c) ((z * b + y) * a + x)) wr ∧ KpC n₀ Bs W wr) (fun i _ => a - (intOf i).toNat)
          case atStart => exact ⟨0, Nat.zero_le _, rfl, by rw [Nat.add_zero]; exact HJY.out, hKy⟩
          case round =>
            obtain ⟨x, hx, rfl, hJx, hKx⟩ := hrel
            by_cases hx1 : x < a
            · have hlt := lt_cells hx1 hy1 hz1
              have hYk := hY _ ⟨(z * b + y) * a + x, hlt⟩ wr hJx (by rw [finTo_len (by omega)]; exact hlt)
              dsimp only at hYk
              rw [cellN_at c hx1 hy1, ← finTo_succ hlt] at hYk
              have HLT := Lib.hid hlt
              clear hJx hlt
              obtain ⟨fn, tmps, assign, body, hy, hR⟩ := hYk
              have hR2 := hR.mono (R' := fun e W' => ∃ bb : Bool, e = .returned (.bool bb) ∧ CellQ n₀ Bs wr J Jx (finTo (a * b * c) ((z * b + y) * a + x + 1)) bb W')
                (fun e W' h => by rcases h with ⟨he, h1, h2⟩ | ⟨he, h1⟩; exact ⟨true, he, .inl ⟨rfl, h1, h2⟩⟩; exact ⟨false, he, .inr ⟨rfl, h1⟩⟩)
              clear hR
              gi_wp2_with fail
              refine hR2.mono ?_
              rintro e W3 ⟨bb, rfl, h3⟩
              rcases h3 with ⟨rfl, hJ3, hk3⟩ | ⟨rfl, hJx3⟩
              · have HJ3 := Lib.hid hJ3
                clear hJ3
                gi_wp2
                go_roundw
                case rel => exact ⟨x + 1, by omega, by go_num, HJ3.out, hKx.trans hk3⟩
                case measure => simp [intOf]; omega
              · have HJ3 := Lib.hid hJx3
                clear hJx3
                gi_wp2
                refine bodyPost_ret (results_none rfl _ _ _) rfl ?_
                exact ⟨⟨_, rfl⟩, .inr ⟨_, ⟨_, HLT.out, rfl⟩, HJ3.out⟩⟩
            · obtain rfl : x = a := by omega
              have HJX : Hid (J (finTo (x * b * c) ((z * b + (y + 1)) * x)) wr) := by
                show J _ _
                rw [← Nat.add_assoc, Nat.succ_mul]; exact hJx
              clear hJx
              gi_wp2
              go_roundw
              case rel => exact ⟨y + 1, by omega, by go_num, HJX.out, hKx⟩
              case measure => simp [intOf]; omega
        · obtain rfl : y = b := by omega
          have HJY2 : Hid (J (finTo (a * y * c) ((z + 1) * y * a)) wr) := by
            show J _ _
            rw [Nat.succ_mul]; exact HJY.out
          clear HJY
          gi_wp2
          go_roundw
          case rel => exact ⟨z + 1, by omega, by go_num, HJY2.out, hKy⟩
          case measure => simp [intOf]; omega
    · obtain rfl : z = c := by omega
      have HJ2 : Hid (J (finTo (a * b * z) (a * b * z)) wr) := by
        show J _ _
        have e : a * b * z = z * b * a := by rw [Nat.mul_comm (a * b), Nat.mul_comm a b, ← Nat.mul_assoc]
        have h := HJZ.out
        rw [← e] at h
        exact h
      clear HJZ
      gi_wp2
      go_end0
      exact ⟨⟨_, rfl⟩, .inl ⟨_, rfl, HJ2.out⟩⟩
theorem cells_any' (e : T3) (w : World) :
    Calls Tryd.prog 63 #[val3 e] w fun r w' => r = .returned (.func (.func 86) #[] #[.pointer (some ⟨w.heap.size, 0, none⟩)]) ∧ w' = w.alloc (.cells #[.int .i64 e.x, .int .i64 e.y, .int .i64 e.z] 22) := by
  go_enter Tryd.func63, Tryd.ntmps63
  go_wp2
  go_ret
  exact ⟨rfl, rfl⟩
/-- Its contract as an iterator: all cells, in order; or the first ones. -/
theorem cells_stops (n : Nat) (hn : 1 ≤ n) (Bs n₀ a b c : Nat) (ha : a ≤ 200) (hb : b ≤ 200) (hc : c ≤ 200) (w : World) (hBs : CX w Bs ⟨a, b, c⟩) :
    SeqStopsK Fence.wide n Tryd.prog 86 #[.pointer (some ⟨Bs, 0, none⟩)] (fun x : Fin (a * b * c) => #[val3 (cellN ⟨a, b, c⟩ x)]) (KpC n₀ Bs) (fun ys => ys = finTo (a * b * c) (a * b * c))
      (fun pre => ∃ k, k < a * b * c ∧ pre = finTo (a * b * c) (k + 1)) (a * b * c) w := fun l J Jx W hW _ _ hY h0 =>
  have hlt := (Array.getElem?_eq_some_iff.1 hBs).1
  cells_in n hn l Bs n₀ a b c ha hb hc J Jx hY W (hBs.below hW hlt) h0
end Go.Proofs.YtbcnkcndhgihaaaDoor

namespace Go.Proofs.YtbcnkcndhgihaaaDoor
open Go.RowKit Go.Shelf
attribute [local go_sem] Oper.semAt_some
set_option linter.unusedSimpArgs false

/-- What form returns; behind an error, no shape. -/
def FormR2 (b : BT) (w : World) (e : Ending) (w' : World) : Prop := Below w.heap.size w w' ∧ ∃ v er, e = .returned (.tuple #[v, .int .i64 er]) ∧ (∀ s, formS b = .ok s → v = .iface s.ty (.agg s.ag) ∧ er = 0) ∧ (∀ x, formS b = .error x → v = .nilIface ∧ er = x)
theorem form2_er {b : BT} {er : Int} (h : formS b = .error er) : (∀ s, formS b = .ok s → Value.nilIface = .iface s.ty (.agg s.ag) ∧ er = 0) ∧ (∀ x, formS b = .error x → Value.nilIface = .nilIface ∧ er = x) := by
  refine ⟨fun s hs => ?_, fun x hx => ?_⟩
  · rw [h] at hs; cases hs
  · rw [h] at hx; injection hx with hx; exact ⟨rfl, hx⟩
theorem form2_ok {b : BT} {S : Sh} (h : formS b = .ok S) : (∀ s, formS b = .ok s → Value.iface S.ty (.agg S.ag) = .iface s.ty (.agg s.ag) ∧ (0 : Int) = 0) ∧ (∀ x, formS b = .error x → Value.iface S.ty (.agg S.ag) = .nilIface ∧ (0 : Int) = x) := by
  refine ⟨fun s hs => ?_, fun x hx => ?_⟩
  · rw [h] at hs; injection hs with hs; rw [hs]; exact ⟨rfl, rfl⟩
  · rw [h] at hx; cases hx
set_option maxRecDepth 100000 in
set_option maxHeartbeats 2000000 in
theorem form2_any (b : BT) (w : World) (hb : OkB w w.heap.size b) : Calls Tryd.prog 53 #[valB b] w (FormR2 b w) := by
  have HB := Lib.hid hb
  have HD := Lib.hid (fun w h => deep_any 16 16 b w rfl (by omega) h)
  have HW := Lib.hid (whole_any b)
  have HU := Lib.hid (fun w h => built_any b w h)
  clear hb
  cases hd : deepS 16 b
  case true =>
    have HS : Hid (formS b = .error 4) := by show _ = _; unfold formS; rw [if_pos hd]
    go_enter Tryd.func53, Tryd.ntmps53
    go_wp2_with fail
    refine (HD.out _ (HB.out.now (by (repeat (first | exact Below.refl _ _ | assumption | refine Below.alloc ?_ (by first | exact Nat.le_refl _ | exact Below.size (by assumption) | omega | (simp <;> omega)) _ | refine Below.setCell ?_ (by first | exact Nat.le_refl _ | exact Below.size (by assumption) | omega | (simp <;> omega)) _ | refine below_drewN ?_ _ | refine Below.drew ?_))))).mono ?_
    rintro e w2 ⟨rfl, hb2⟩
    rw [hd]
    have hB2 : Below w.heap.size w w2 := below_next (by (repeat (first | exact Below.refl _ _ | assumption | refine Below.alloc ?_ (by first | exact Nat.le_refl _ | exact Below.size (by assumption) | omega | (simp <;> omega)) _ | refine Below.setCell ?_ (by first | exact Nat.le_refl _ | exact Below.size (by assumption) | omega | (simp <;> omega)) _ | refine below_drewN ?_ _ | refine Below.drew ?_))) hb2
    go_wp2
    go_ret2
    exact ⟨hB2, _, _, rfl, form2_er HS.out⟩
  have HD0 := Lib.hid hd
  clear hd
  go_enter Tryd.func53, Tryd.ntmps53
  go_wp2_with fail
  refine (HD.out _ (HB.out.now (by (repeat (first | exact Below.refl _ _ | assumption | refine Below.alloc ?_ (by first | exact Nat.le_refl _ | exact Below.size (by assumption) | omega | (simp <;> omega)) _ | refine Below.setCell ?_ (by first | exact Nat.le_refl _ | exact Below.size (by assumption) | omega | (simp <;> omega)) _ | refine below_drewN ?_ _ | refine Below.drew ?_))))).mono ?_
  rintro e w2 ⟨rfl, hb2⟩
  have hB2 : Below w.heap.size w w2 := below_next (by (repeat (first | exact Below.refl _ _ | assumption | refine Below.alloc ?_ (by first | exact Nat.le_refl _ | exact Below.size (by assumption) | omega | (simp <;> omega)) _ | refine Below.setCell ?_ (by first | exact Nat.le_refl _ | exact Below.size (by assumption) | omega | (simp <;> omega)) _ | refine below_drewN ?_ _ | refine Below.drew ?_))) hb2
  have hX2 : BxB w2 w.heap.size b := (BxB.new w b 25).under hb2 (by simp)
  have hz2 : w.heap.size < w2.heap.size := by have := hb2.size; simp at this; omega
  rw [HD0.out]
  obtain ⟨f0, f1, f2, f3, f4, f5, f6⟩ := id hX2
  go_wp2_with fail
  clear f0 f1 f2 f3 f4 f5 f6
  refine (HW.out _ (HB.out.now (by (repeat (first | exact Below.refl _ _ | assumption | refine Below.alloc ?_ (by first | exact Nat.le_refl _ | exact Below.size (by assumption) | omega | (simp <;> omega)) _ | refine Below.setCell ?_ (by first | exact Nat.le_refl _ | exact Below.size (by assumption) | omega | (simp <;> omega)) _ | refine below_drewN ?_ _ | refine Below.drew ?_))))).mono ?_
  rintro e w3 ⟨rfl, hb3⟩
  have hX3 : BxB w3 w.heap.size b := hX2.under hb3 (by omega)
  have hB3 := below_next hB2 (hb3.mono (Nat.le_refl _))
  clear hb2 hb3 hX2
  cases hw : wholeS b
  · have HS : Hid (formS b = .error 20) := by show _ = _; unfold formS; rw [HD0.out, if_neg (by simp), hw]; rfl
    go_wp2
    go_ret2
    exact ⟨hB3, _, _, rfl, form2_er HS.out⟩
  have HS : Hid (formS b = builtS b) := by show _ = _; unfold formS; rw [HD0.out, if_neg (by simp), hw]; rfl
  have HW2 := Lib.hid hw
  clear hw
  obtain ⟨f0, f1, f2, f3, f4, f5, f6⟩ := id hX3
  go_wp2_with fail
  clear f0 f1 f2 f3 f4 f5 f6
  refine (HU.out _ HW2.out (HB.out.now (by (repeat (first | exact Below.refl _ _ | assumption | refine Below.alloc ?_ (by first | exact Nat.le_refl _ | exact Below.size (by assumption) | omega | (simp <;> omega)) _ | refine Below.setCell ?_ (by first | exact Nat.le_refl _ | exact Below.size (by assumption) | omega | (simp <;> omega)) _ | refine below_drewN ?_ _ | refine Below.drew ?_))))).mono ?_
  rintro e w4 ⟨hb4, v, er, rfl, hok, her⟩
  have hB4 := below_next hB3 hb4
  cases hd : builtS b with
  | error x =>
    have hx := built_err b HW2.out x hd
    obtain rfl := her x hd
    have HE := Lib.hid (HS.out.trans hd)
    have hne : (er != 0) = true := by simp; omega
    clear hd hok her hx hX3 hb4
    go_wp2
    go_ret2
    exact ⟨hB4, _, _, rfl, form2_er HE.out⟩
  | ok s =>
    obtain ⟨rfl, rfl⟩ := hok s hd
    have HE := Lib.hid (HS.out.trans hd)
    clear hd hok her hX3 hb4
    rw [s.val_eq]
    go_wp2
    go_ret2
    exact ⟨hB4, _, _, rfl, form2_ok HE.out⟩
set_option maxRecDepth 100000 in
set_option maxHeartbeats 4000000 in
theorem Volumes_err (b : BT) (w : World) (er2 : Int) (hf : formS b = .error er2) (hb : OkB w w.heap.size b) : Calls Tryd.prog 32 #[valB b] w (Ret (.tuple #[val9 (volB b).1, .int .i64 (volB b).2]) w) := by
  obtain ⟨wa, hwa⟩ : ∃ wa, ((w.alloc (.cells #[.int .i64 b.op, .int .i64 b.ax, .int .u8 b.co, .int .i64 b.n0, .int .i64 b.n1, .int .i64 b.n2, .slice b.A b.ps.length b.cp] 25)).alloc (.cells #[.int .i64 0, .int .i64 0, .int .i64 0, .int .i64 0, .int .i64 0, .int .i64 0, .int .i64 0, .int .i64 0, .int .i64 0] 47)).alloc (.cells #[.int .i64 0, .int .i64 0, .int .i64 0, .int .i64 0, .int .i64 0, .int .i64 0, .int .i64 0, .int .i64 0, .int .i64 0] 47) = wa := ⟨_, rfl⟩
  have hBa : Below w.heap.size w wa := by rw [← hwa]; (repeat (first | exact Below.refl _ _ | assumption | refine Below.alloc ?_ (by first | exact Nat.le_refl _ | exact Below.size (by assumption) | omega | (simp <;> omega)) _ | refine Below.setCell ?_ (by first | exact Nat.le_refl _ | exact Below.size (by assumption) | omega | (simp <;> omega)) _ | refine below_drewN ?_ _ | refine Below.drew ?_))
  have hza : wa.heap.size = w.heap.size + 3 := by rw [← hwa]; simp
  have hv1 : V9 wa (w.heap.size + 1) (fun _ => 0) := by
    have h := V9.new0 (w.alloc (.cells #[.int .i64 b.op, .int .i64 b.ax, .int .u8 b.co, .int .i64 b.n0, .int .i64 b.n1, .int .i64 b.n2, .slice b.A b.ps.length b.cp] 25))
    rw [World.size_alloc] at h
    rw [← hwa]
    exact h.below (B := w.heap.size + 2) (by (repeat (first | exact Below.refl _ _ | assumption | refine Below.alloc ?_ (by first | exact Nat.le_refl _ | exact Below.size (by assumption) | omega | (simp <;> omega)) _ | refine Below.setCell ?_ (by first | exact Nat.le_refl _ | exact Below.size (by assumption) | omega | (simp <;> omega)) _ | refine below_drewN ?_ _ | refine Below.drew ?_))) (by omega)
  have hv2 : V9 wa (w.heap.size + 2) (fun _ => 0) := by
    have h := V9.new0 ((w.alloc (.cells #[.int .i64 b.op, .int .i64 b.ax, .int .u8 b.co, .int .i64 b.n0, .int .i64 b.n1, .int .i64 b.n2, .slice b.A b.ps.length b.cp] 25)).alloc (.cells #[.int .i64 0, .int .i64 0, .int .i64 0, .int .i64 0, .int .i64 0, .int .i64 0, .int .i64 0, .int .i64 0, .int .i64 0] 47))
    rw [World.size_alloc, World.size_alloc] at h
    rw [← hwa]
    exact h
  have HFORM := Lib.hid (form2_any b wa (hb.now hBa))
  have HV1 := Lib.hid hv1; have HV2 := Lib.hid hv2
  clear hb hv1 hv2
  have HWA := Lib.hid hwa
  clear hwa
  have hx := form_err hf
  have HS : Hid (volB b = (fun _ => 0, er2)) := by show _ = _; unfold volB; rw [hf]
  have hne : (er2 != 0) = true := by simp; omega
  go_enter Tryd.func32, Tryd.ntmps32
  go_wp2_with fail
  rw [HWA.out]
  refine HFORM.out.mono ?_
  rintro e w2 ⟨hb2, v, er, rfl, hok, her⟩
  obtain ⟨rfl, rfl⟩ := her er2 hf
  have hs2 := hb2.size
  clear hf hx hok her
  have HX : Hid (V9 (w2.alloc (.cells #[.nilIface] 70)) (w.heap.size + 1) (fun _ => 0)) := HV1.out.below (B := wa.heap.size) (by (repeat (first | exact Below.refl _ _ | assumption | refine Below.alloc ?_ (by first | exact Nat.le_refl _ | exact Below.size (by assumption) | omega | (simp <;> omega)) _ | refine Below.setCell ?_ (by first | exact Nat.le_refl _ | exact Below.size (by assumption) | omega | (simp <;> omega)) _ | refine below_drewN ?_ _ | refine Below.drew ?_))) (by omega)
  have hy : V9 (w2.alloc (.cells #[.nilIface] 70)) (w.heap.size + 2) (fun _ => 0) := HV2.out.below (B := wa.heap.size) (by (repeat (first | exact Below.refl _ _ | assumption | refine Below.alloc ?_ (by first | exact Nat.le_refl _ | exact Below.size (by assumption) | omega | (simp <;> omega)) _ | refine Below.setCell ?_ (by first | exact Nat.le_refl _ | exact Below.size (by assumption) | omega | (simp <;> omega)) _ | refine below_drewN ?_ _ | refine Below.drew ?_))) (by omega)
  obtain ⟨y0, y1, y2, y3, y4, y5, y6, y7, y8⟩ := hy.c
  have hB2 := hBa.trans (hb2.mono hBa.size)
  go_wp2_with ((with_reducible refine at_store9 ?_); refine wpList_store9 (fun _ => 0) _ _ HX.out rfl rfl rfl rfl ?_)
  have hz := HX.out.put (fun _ => 0)
  obtain ⟨z0, z1, z2, z3, z4, z5, z6, z7, z8⟩ := hz.c
  refine bodyPost_ret (v := .tuple #[val9 (fun _ => 0), .int .i64 er]) (by simp [results, Tryd.results32, go_sem, z0, z1, z2, z3, z4, z5, z6, z7, z8]) rfl ?_
  exact Ret.mk (by rw [HS.out]) (Below.trans (b := w2.alloc (.cells #[.nilIface] 70)) (by (repeat (first | exact Below.refl _ _ | assumption | refine Below.alloc ?_ (by first | exact Nat.le_refl _ | exact Below.size (by assumption) | omega | (simp <;> omega)) _ | refine Below.setCell ?_ (by first | exact Nat.le_refl _ | exact Below.size (by assumption) | omega | (simp <;> omega)) _ | refine below_drewN ?_ _ | refine Below.drew ?_))) (put9_below _ (by omega)))
/-- Two rows of nine zeros behind a block's box. -/
theorem two9 (b : BT) (w : World) : V9 (((w.alloc (.cells #[.int .i64 b.op, .int .i64 b.ax, .int .u8 b.co, .int .i64 b.n0, .int .i64 b.n1, .int .i64 b.n2, .slice b.A b.ps.length b.cp] 25)).alloc (.cells #[.int .i64 0, .int .i64 0, .int .i64 0, .int .i64 0, .int .i64 0, .int .i64 0, .int .i64 0, .int .i64 0, .int .i64 0] 47)).alloc (.cells #[.int .i64 0, .int .i64 0, .int .i64 0, .int .i64 0, .int .i64 0, .int .i64 0, .int .i64 0, .int .i64 0, .int .i64 0] 47)) (w.heap.size + 1) (fun _ => 0) ∧ V9 (((w.alloc (.cells #[.int .i64 b.op, .int .i64 b.ax, .int .u8 b.co, .int .i64 b.n0, .int .i64 b.n1, .int .i64 b.n2, .slice b.A b.ps.length b.cp] 25)).alloc (.cells #[.int .i64 0, .int .i64 0, .int .i64 0, .int .i64 0, .int .i64 0, .int .i64 0, .int .i64 0, .int .i64 0, .int .i64 0] 47)).alloc (.cells #[.int .i64 0, .int .i64 0, .int .i64 0, .int .i64 0, .int .i64 0, .int .i64 0, .int .i64 0, .int .i64 0, .int .i64 0] 47)) (w.heap.size + 2) (fun _ => 0) := by
  constructor
  · have h := V9.new0 (w.alloc (.cells #[.int .i64 b.op, .int .i64 b.ax, .int .u8 b.co, .int .i64 b.n0, .int .i64 b.n1, .int .i64 b.n2, .slice b.A b.ps.length b.cp] 25))
    rw [World.size_alloc] at h
    exact h.below (B := w.heap.size + 2) (by (repeat (first | exact Below.refl _ _ | assumption | refine Below.alloc ?_ (by first | exact Nat.le_refl _ | exact Below.size (by assumption) | omega | (simp <;> omega)) _ | refine Below.setCell ?_ (by first | exact Nat.le_refl _ | exact Below.size (by assumption) | omega | (simp <;> omega)) _ | refine below_drewN ?_ _ | refine Below.drew ?_))) (by omega)
  · have h := V9.new0 ((w.alloc (.cells #[.int .i64 b.op, .int .i64 b.ax, .int .u8 b.co, .int .i64 b.n0, .int .i64 b.n1, .int .i64 b.n2, .slice b.A b.ps.length b.cp] 25)).alloc (.cells #[.int .i64 0, .int .i64 0, .int .i64 0, .int .i64 0, .int .i64 0, .int .i64 0, .int .i64 0, .int .i64 0, .int .i64 0] 47))
    rw [World.size_alloc, World.size_alloc] at h
    exact h
set_option maxRecDepth 100000 in
set_option maxHeartbeats 4000000 in
theorem Volumes_ok (b : BT) (S : Sh) (w : World) (hf : formS b = .ok S) (hb : OkB w w.heap.size b) : Calls Tryd.prog 32 #[valB b] w (Ret (.tuple #[val9 (volB b).1, .int .i64 (volB b).2]) w) := by
  obtain ⟨wa, hwa⟩ : ∃ wa, ((w.alloc (.cells #[.int .i64 b.op, .int .i64 b.ax, .int .u8 b.co, .int .i64 b.n0, .int .i64 b.n1, .int .i64 b.n2, .slice b.A b.ps.length b.cp] 25)).alloc (.cells #[.int .i64 0, .int .i64 0, .int .i64 0, .int .i64 0, .int .i64 0, .int .i64 0, .int .i64 0, .int .i64 0, .int .i64 0] 47)).alloc (.cells #[.int .i64 0, .int .i64 0, .int .i64 0, .int .i64 0, .int .i64 0, .int .i64 0, .int .i64 0, .int .i64 0, .int .i64 0] 47) = wa := ⟨_, rfl⟩
  have hBa : Below w.heap.size w wa := by rw [← hwa]; (repeat (first | exact Below.refl _ _ | assumption | refine Below.alloc ?_ (by first | exact Nat.le_refl _ | exact Below.size (by assumption) | omega | (simp <;> omega)) _ | refine Below.setCell ?_ (by first | exact Nat.le_refl _ | exact Below.size (by assumption) | omega | (simp <;> omega)) _ | refine below_drewN ?_ _ | refine Below.drew ?_))
  have hza : wa.heap.size = w.heap.size + 3 := by rw [← hwa]; simp
  have hv := two9 b w
  rw [hwa] at hv
  obtain ⟨hv1, hv2⟩ := hv
  have HFORM := Lib.hid (form_any b wa (hb.now hBa))
  have HV1 := Lib.hid hv1; have HV2 := Lib.hid hv2
  clear hb hv1 hv2
  have HWA := Lib.hid hwa
  clear hwa
  have hSok := form_ok hf
  obtain ⟨a1, b1, c1, he, ha0, hb0, hc0, ha2, hb2', hc2, h8⟩ := nat_ext hSok.ext
  have HS : Hid (volB b = (fun j => (vol S j : Int), 0)) := by show _ = _; unfold volB; rw [hf]
  have HCV : Hid (∀ j, cntS S (a1 * b1 * c1) j = vol S j) := fun j => by
    have := cnt_vol hSok.ext j
    rw [he, cellsN_nat] at this
    exact this
  have HAT : Hid (∀ (x : Fin (a1 * b1 * c1)) W, Calls Tryd.prog S.fa #[.agg S.ag, val3 (cellN ⟨a1, b1, c1⟩ x)] W (Ret (.int .u8 (S.at (cellN ⟨a1, b1, c1⟩ x))) W)) := fun x W => at_any S hSok _ W (by
    have := cellN_in hSok.ext (n := x.1) (by rw [he]; exact x.2)
    rw [he] at this
    rw [he]; exact this)
  have HCOL : Hid (∀ (x : Fin (a1 * b1 * c1)), 97 ≤ S.at (cellN ⟨a1, b1, c1⟩ x) ∧ S.at (cellN ⟨a1, b1, c1⟩ x) ≤ 105) := fun x => at_col S hSok _ (by
    have := cellN_in hSok.ext (n := x.1) (by rw [he]; exact x.2)
    rw [he] at this
    rw [he]; exact this)
  have HE := Lib.hid he
  have HOK := Lib.hid (fun (v : Value) (er : Int) (hok : ∀ s, formS b = .ok s → v = .iface s.ty (.agg s.ag) ∧ er = 0) => hok S hf)
  have hme := S.me
  rw [he] at hme
  have hma := S.ma
  have hea := S.ea
  clear hf hSok he
  have h1 : 1 ≤ 5 := by omega
  refine (callsIn_wide (n := 5)).1 ?_
  refine callsIn_of_wp_marks Tryd.func32 rfl trivial ?_ rfl
  simp only [Tryd.ntmps32, List.size_toArray, List.length_cons, List.length_nil, Nat.reduceAdd, Nat.reduceSub, Array.replicate_succ, Array.replicate_zero, List.push_toArray, List.append_toArray, List.nil_append, List.cons_append]
  gi_wp2_with fail
  rw [HWA.out]
  refine ⟨trivial, (callsIn_wide.2 HFORM.out).mono ?_⟩
  rintro e w2 ⟨hb2, v, er, rfl, hok, her⟩
  obtain ⟨rfl, rfl⟩ := HOK.out _ _ hok
  clear hok her
  have hB2 := hBa.trans (hb2.mono hBa.size)
  have hs2 := hb2.size
  gi_wp2_with fail
  refine ⟨trivial, (callsIn_wide.2 (ext_ret ⟨a1, b1, c1⟩ _)).mono ?_⟩
  rintro e w3 ⟨rfl, hb3⟩
  gi_wp2_with fail
  refine ⟨trivial, (callsIn_wide.2 (cells_any' ⟨a1, b1, c1⟩ _)).mono ?_⟩
  rintro e w4 ⟨rfl, rfl⟩
  dsimp only
  gi_wp2
  have hs3 := hb3.size
  rw [World.size_alloc] at hs3
  have bX := (Boxed.new w2 70 (.iface S.ty (.agg S.ag)))
  have bX3 : Boxed (w3.alloc (.cells #[.int .i64 a1, .int .i64 b1, .int .i64 c1] 22)) w2.heap.size 70 (.iface S.ty (.agg S.ag)) := Boxed.alloc ((hb3.block w2.heap.size (by simp)).trans bX) _
  have hx1 : CX (w3.alloc (.cells #[.int .i64 a1, .int .i64 b1, .int .i64 c1] 22)) w3.heap.size ⟨a1, b1, c1⟩ := CX.new w3 ⟨a1, b1, c1⟩
  have hb4 : Below wa.heap.size wa (w3.alloc (.cells #[.int .i64 a1, .int .i64 b1, .int .i64 c1] 22)) := Below.alloc (Below.trans (b := w2.alloc (.cells #[.iface S.ty (.agg S.ag)] 70)) (by (repeat (first | exact Below.refl _ _ | assumption | refine Below.alloc ?_ (by first | exact Nat.le_refl _ | exact Below.size (by assumption) | omega | (simp <;> omega)) _ | refine Below.setCell ?_ (by first | exact Nat.le_refl _ | exact Below.size (by assumption) | omega | (simp <;> omega)) _ | refine below_drewN ?_ _ | refine Below.drew ?_))) (hb3.mono (by simp; omega))) (by omega) _
  have vR := HV1.out.below hb4 (by omega)
  have vO := HV2.out.below hb4 (by omega)
  have hB4 := hBa.trans (hb4.mono hBa.size)
  obtain ⟨W0, hW0⟩ : ∃ W0, w3.alloc (.cells #[.int .i64 a1, .int .i64 b1, .int .i64 c1] 22) = W0 := ⟨_, rfl⟩
  have hsz : W0.heap.size = w3.heap.size + 1 := by rw [← hW0]; simp
  rw [hW0] at bX3 hx1 hb4 vR vO hB4 ⊢
  clear hW0 bX
  refine wpIn_rangeFunc_ownH (F := Fence.wide) rfl h1 (gf := 86) (lb := #[.pointer (some ⟨w3.heap.size, 0, none⟩)]) rfl trivial (enters_of Tryd.func86 (by kernel_rfl) rfl)
    (cells_stops (5 - 1) (by omega) w3.heap.size w.heap.size a1 b1 c1 ha2 hb2' hc2 W0 hx1) KpC.trans (KpC.book (by have := hB4.size; omega) (by omega)) (Below.refl _ _) (fun _ => rfl)
    (fun pre W => (((V9 W (w.heap.size + 2) (fun j => (cntL S pre j : Int)) ∧ V9 W (w.heap.size + 1) (fun _ => 0)) ∧ Boxed W w2.heap.size 70 (.iface S.ty (.agg S.ag))) ∧ CX W w3.heap.size ⟨a1, b1, c1⟩) ∧ Below w.heap.size w W)
    (fun _ _ _ => False)
    (OwnFrom.and (OwnFrom.and (OwnFrom.and (OwnFrom.and (Own.from (V9.own _ _) _) (Own.from (V9.own _ _) _)) (Own.from (boxed_own _ _ _) _)) (Own.from (CX.own _ _) _)) (ownFrom_below (Nat.le_refl _) (by have := hB4.size; omega)))
    (fun _ _ _ _ _ hs _ _ => hs)
    ⟨⟨⟨⟨vO, vR⟩, bX3⟩, hx1⟩, hB4⟩
    (fun x a' W => ∃ Ba, CX W Ba (cellN ⟨a1, b1, c1⟩ x) ∧ a' = { tmps := #[valB b, .pointer (some ⟨w.heap.size, 0, none⟩), .pointer (some ⟨w.heap.size + 1, 0, none⟩), .int .i64 0, .pointer (some ⟨w.heap.size + 1 + 1, 0, none⟩), .pointer (some ⟨w2.heap.size, 0, none⟩), .int .i64 0, .pointer (some ⟨Ba, 0, none⟩), .tuple #[.iface S.ty (.agg S.ag), .int .i64 0], valB b, .tuple #[.iface S.ty (.agg S.ag), .int .i64 0], .iface S.ty (.agg S.ag), .int .i64 0, .int .i64 0, .bool false, undef, undef, .iface S.ty (.agg S.ag), val3 ⟨a1, b1, c1⟩, .func (.func 86) #[] #[.pointer (some ⟨w3.heap.size, 0, none⟩)], val3 (cellN ⟨a1, b1, c1⟩ x), undef, undef, undef, undef, undef, undef, undef, undef, undef], defers := [] })
    (fun x a' _ X Y row hs hg hr => by obtain ⟨Ba, h1, h3⟩ := hs; exact ⟨Ba, CX.own Ba (fun (_ : Unit) => _) () _ _ _ h1 hg (fun r e => (hr r e).2), h3⟩)
    ?assign ?body ?done ?stop
  case assign =>
    rintro ll pre x W K ⟨⟨⟨⟨vO1, vR1⟩, bX1⟩, cX1⟩, hB1⟩ hK
    have hsW := hB1.size
    have hxlt := (Array.getElem?_eq_some_iff.1 cX1).1
    gi_wp2
    refine hK _ _ ((KeepsOthers.alloc _ _).from _) ⟨by (repeat (first | exact Below.refl _ _ | assumption | refine Below.alloc ?_ (by first | exact Nat.le_refl _ | exact Below.size (by assumption) | omega | (simp <;> omega)) _ | refine Below.setCell ?_ (by first | exact Nat.le_refl _ | exact Below.size (by assumption) | omega | (simp <;> omega)) _ | refine below_drewN ?_ _ | refine Below.drew ?_)), Below.heap_alloc _ _ _ hxlt⟩ ⟨⟨⟨⟨V9.own _ (fun (_ : Unit) => _) () _ _ none vO1 (World.grownBy_alloc _ _ _) (fun r e => by cases e), V9.own _ (fun (_ : Unit) => _) () _ _ none vR1 (World.grownBy_alloc _ _ _) (fun r e => by cases e)⟩, bX1.alloc _⟩, (Below.heap_alloc _ _ _ hxlt).trans cX1⟩, by (repeat (first | exact Below.refl _ _ | assumption | refine Below.alloc ?_ (by first | exact Nat.le_refl _ | exact Below.size (by assumption) | omega | (simp <;> omega)) _ | refine Below.setCell ?_ (by first | exact Nat.le_refl _ | exact Below.size (by assumption) | omega | (simp <;> omega)) _ | refine below_drewN ?_ _ | refine Below.drew ?_))⟩ ⟨W.heap.size, CX.new W _, rfl⟩
  case body =>
    rintro ll pre x a' W hl ⟨r, hr⟩ ⟨⟨⟨⟨vO1, vR1⟩, bX1⟩, cX1⟩, hB1⟩ ⟨Ba, hA, rfl⟩ hlt
    have HAX := Lib.hid (HAT.out x)
    have hcol := HCOL.out x
    have HSN := Lib.hid (fun j => cntL_snoc S pre x j)
    rw [HE.out] at HSN
    have hcl := cntL_le S (S.at (cellN ⟨a1, b1, c1⟩ x) - 97) _ pre rfl
    generalize cellN ⟨a1, b1, c1⟩ x = cc at *
    obtain ⟨i, hi⟩ : ∃ i : Nat, S.at cc = 97 + (i : Int) := ⟨(S.at cc - 97).toNat, by omega⟩
    have hi9 : i < 9 := by omega
    have e1 : IntKind.u8.wrap (97 + (i : Int) - 97) = i := by
      rw [show (97 : Int) + i - 97 = i by omega]
      exact IntWalk.u8_in _ (by omega)
    rw [show S.at cc - 97 = (i : Int) by omega] at hcl
    have HUP := Lib.hid (upd_cnt (f := fun j => cntL S pre j) (g := fun j => cntL S (pre ++ [x]) j) hi HSN.out)
    rw [hi] at HAX
    clear hcol hi
    obtain ⟨q0, q1, q2, _⟩ := hA.c
    have bXc := bX1.cell
    gi_wp2_with fail
    refine ⟨trivial, (CallsIn.inRound ll (callsIn_wide.2 (HAX.out _))).mono ?_⟩
    rintro e w5 ⟨rfl, hb5⟩
    have vO5 := vO1.below hb5 vO1.lt
    have vR5 := vR1.below hb5 vR1.lt
    obtain ⟨g1, g2⟩ := vO5.at hi9
    have e2 : wrap64 ((cntL S pre i : Int) + 1) = (cntL S pre i : Int) + 1 := w64b (by omega) (by omega)
    have HV5 := Lib.hid vO5
    clear vO5 q0 q1 q2 bXc
    gi_wp2
    have hBn := HV5.out.set hi9 ((cntL S pre i : Int) + 1)
    rw [HUP.out] at hBn
    have hg := grownBy_setCell9 w5 (w.heap.size + 1 + 1) i (.int .i64 ((cntL S pre i : Int) + 1))
    have hsx := hb5.size
    have hxlt := (Array.getElem?_eq_some_iff.1 cX1).1
    have hk : (w5.setCell ⟨w.heap.size + 1 + 1, i, none⟩ (.int .i64 ((cntL S pre i : Int) + 1))).heap[w3.heap.size]? = W.heap[w3.heap.size]? := (hg.block _ (by omega) (fun e => by injection e with e; omega)).trans (hb5.block _ hxlt)
    refine ⟨(keepsFrom_below _ hb5).trans ((KeepsOthers.setCell _ _ _).from _), ⟨(hb5.mono hB1.size).setCell (p := ⟨w.heap.size + 1 + 1, i, none⟩) (by simp; omega) _, hk⟩, ⟨⟨⟨⟨hBn, ?_⟩, ?_⟩, hk.trans cX1⟩, (hB1.trans (hb5.mono hB1.size)).setCell (p := ⟨w.heap.size + 1 + 1, i, none⟩) (by simp; omega) _⟩⟩
    · exact (hg.block _ vR5.lt (fun e => by injection e with e; omega)).trans vR5
    · exact (hg.block _ (Nat.lt_of_lt_of_le bX1.lt hsx) (fun e => by injection e with e; omega)).trans ((hb5.block _ bX1.lt).trans bX1)
  case done =>
    rintro D ys W hD rfl ⟨⟨⟨⟨vO1, vR1⟩, bX1⟩, cX1⟩, hB1⟩ hK
    obtain ⟨y0, y1, y2, y3, y4, y5, y6, y7, y8⟩ := vO1.c
    have HVR := Lib.hid vR1
    gi_wp2_with ((with_reducible refine atIn_store9 ?_); refine wpListIn_store9 (fun j => (cntL S _ j : Int)) _ _ HVR.out rfl rfl rfl rfl ?_)
    refine ⟨by simp, .inl ⟨_, _, rfl, run_takeDeferred ((setRow_other W (w.heap.size + 1) D _ (by omega)).trans hK), ?_⟩⟩
    have hz := V9.own _ (fun (_ : Unit) => _) () _ _ _ (HVR.out.put (fun j => (cntL S (finTo (a1 * b1 * c1) (a1 * b1 * c1)) j : Int))) (grownBy_putObj' _ D (.deferred none)) (fun r e => by cases e; exact ⟨_, (setRow_other W (w.heap.size + 1) D _ (by omega)).trans hK, rfl⟩)
    obtain ⟨z0, z1, z2, z3, z4, z5, z6, z7, z8⟩ := hz.c
    have hfin : (fun j : Int => (cntL S (finTo (a1 * b1 * c1) (a1 * b1 * c1)) j : Int)) = fun j => (vol S j : Int) := by
      funext j
      rw [cntL_fin S (Nat.le_refl _), HCV.out]
    refine ⟨.tuple #[val9 (fun j => (vol S j : Int)), .int .i64 0], ?_, Ret.mk (by rw [HS.out]) ?_⟩
    · rw [← hfin]
      simp [results, Tryd.f32, go_sem, z0, z1, z2, z3, z4, z5, z6, z7, z8]
    · exact (hB1.trans (put9_below _ (by omega))).trans (belowK_b (w := w) (Nat.le_refl _) _ D _ _ (by omega) ((setRow_other W (w.heap.size + 1) D _ (by omega)).trans hK) rfl rfl)
  case stop =>
    rintro D cc pre W _ _ h _
    exact h.elim
theorem Volumes_any (b : BT) (w : World) (hb : OkB w w.heap.size b) : Calls Tryd.prog 32 #[valB b] w (Ret (.tuple #[val9 (volB b).1, .int .i64 (volB b).2]) w) := by
  cases hf : formS b with
  | error e => exact Volumes_err b w e hf hb
  | ok S => exact Volumes_ok b S w hf hb
end Go.Proofs.YtbcnkcndhgihaaaDoor


/- Blocks: same of the program: the walk. A region that draws its order, in which two operations turn the world: one that lays a block, and one that stores behind it. Blocks: Equal and Mirrored of the program: the walks. -/
import Derived.Test.YtbcnkcndhgihaaaDoorSVA
import Derived.Test.YtbcnkcndhgihaaaDoorRoundX
namespace Go.Proofs.YtbcnkcndhgihaaaDoor
open Go.RowKit Go.Shelf
attribute [local go_sem] Oper.semAt_some
set_option linter.unusedSimpArgs false

set_option maxRecDepth 100000 in
set_option maxHeartbeats 4000000 in
theorem same_diff (S T : Sh) (w : World) (he : S.ext ≠ T.ext) : Calls Tryd.prog 61 #[.iface S.ty (.agg S.ag), .iface T.ty (.agg T.ag)] w (Ret (.bool (sameS S T)) w) := by
  have hmx : Tryd.prog.follows .mixedOrders = true := by kernel_rfl
  have HS : Hid (sameS S T = false) := same_ext he
  have hme := S.me
  have hmt := T.me
  have hne : ∀ W, (binOp .neq 22 (val3 S.ext) (val3 T.ext)).run Tryd.prog W = .ok (.bool true) W := fun W => by rw [run_ne3, decide_eq_false he]; rfl
  have HXS := Lib.hid (fun W => ext_ret S.ext W)
  have HXT := Lib.hid (fun W => ext_ret T.ext W)
  clear he
  go_enter Tryd.func61, Tryd.ntmps61
  go_wp2
  obtain ⟨wa, hwa⟩ : ∃ wa, ((w.alloc (.cells #[.iface S.ty (.agg S.ag)] 70)).alloc (.cells #[.iface T.ty (.agg T.ag)] 70)).alloc (.cells #[.bool false] 4) = wa := ⟨_, rfl⟩
  have hBa : Below w.heap.size w wa := by rw [← hwa]; (repeat (first | exact Below.refl _ _ | assumption | refine Below.alloc ?_ (by first | exact Nat.le_refl _ | exact Below.size (by assumption) | omega | (simp <;> omega)) _ | refine Below.setCell ?_ (by first | exact Nat.le_refl _ | exact Below.size (by assumption) | omega | (simp <;> omega)) _ | refine below_drewN ?_ _ | refine Below.drew ?_))
  have hza : wa.heap.size = w.heap.size + 3 := by rw [← hwa]; simp
  have b0 := ((Boxed.new w 70 (.iface S.ty (.agg S.ag))).alloc (.cells #[.iface T.ty (.agg T.ag)] 70)).alloc (.cells #[.bool false] 4)
  have b1 := (Boxed.new (w.alloc (.cells #[.iface S.ty (.agg S.ag)] 70)) 70 (.iface T.ty (.agg T.ag))).alloc (.cells #[.bool false] 4)
  have b2 := Boxed.new ((w.alloc (.cells #[.iface S.ty (.agg S.ag)] 70)).alloc (.cells #[.iface T.ty (.agg T.ag)] 70)) 4 (.bool false)
  simp only [World.size_alloc] at b1 b2
  rw [hwa] at b0 b1 b2
  have HF : Hid (∀ W, Below wa.heap.size wa W → W.cell? ⟨w.heap.size, 0, none⟩ = some (.iface S.ty (.agg S.ag)) ∧ W.cell? ⟨w.heap.size + 1, 0, none⟩ = some (.iface T.ty (.agg T.ag)) ∧ W.cell? ⟨w.heap.size + 1 + 1, 0, none⟩ = some (.bool false) ∧ W.frozen? ⟨w.heap.size + 1 + 1, 0, none⟩ = false) := fun W h =>
    ⟨(h.cell (p := ⟨w.heap.size, 0, none⟩) (by dsimp only; omega)).trans b0.cell, (h.cell (p := ⟨w.heap.size + 1, 0, none⟩) (by dsimp only; omega)).trans b1.cell, (h.cell (p := ⟨w.heap.size + 1 + 1, 0, none⟩) (by dsimp only; omega)).trans b2.cell, (h.frozen (p := ⟨w.heap.size + 1 + 1, 0, none⟩) (by dsimp only; omega)).trans b2.frozen⟩
  rw [hwa]
  clear hwa b0 b1 b2
  refine region_qw (fun W => Below wa.heap.size wa W) hmx (by kernel_rfl) (by (repeat (first | exact Below.refl _ _ | assumption | refine Below.alloc ?_ (by first | exact Nat.le_refl _ | exact Below.size (by assumption) | omega | (simp <;> omega)) _ | refine Below.setCell ?_ (by first | exact Nat.le_refl _ | exact Below.size (by assumption) | omega | (simp <;> omega)) _ | refine below_drewN ?_ _ | refine Below.drew ?_))) ?_
  (refine qw_read rfl (fun w' hC => by obtain ⟨f0, f1, _⟩ := HF.out w' hC; clear hC; go_simp; rfl) ?_; simp only [Act.put, List.setIfInBounds_toArray, List.set_cons_succ, List.set_cons_zero])
  (refine qw_call rfl (fun w' hC => by (go_simp; try rfl)) (fun w' hC => (HXS.out w').mono (fun e w2 hr => ⟨hr.1, hC.trans (hr.2.mono hC.size)⟩)) ?_; simp only [Act.put, List.setIfInBounds_toArray, List.set_cons_succ, List.set_cons_zero])
  (refine qw_read rfl (fun w' hC => by obtain ⟨f0, f1, _⟩ := HF.out w' hC; clear hC; go_simp; rfl) ?_; simp only [Act.put, List.setIfInBounds_toArray, List.set_cons_succ, List.set_cons_zero])
  (refine qw_call rfl (fun w' hC => by (go_simp; try rfl)) (fun w' hC => (HXT.out w').mono (fun e w2 hr => ⟨hr.1, hC.trans (hr.2.mono hC.size)⟩)) ?_; simp only [Act.put, List.setIfInBounds_toArray, List.set_cons_succ, List.set_cons_zero])
  (refine qw_read rfl (fun w' hC => by skip; clear hC; go_simp; rfl) ?_; simp only [Act.put, List.setIfInBounds_toArray, List.set_cons_succ, List.set_cons_zero])
  refine qw_nil ?_
  intro w9 hb9
  obtain ⟨f0, f1, f2, f3⟩ := HF.out w9 hb9
  have hs9 := hb9.size
  go_wp2
  have hz : (w9.setCell ⟨w.heap.size + 1 + 1, 0, none⟩ (.bool false)).cell? ⟨w.heap.size + 1 + 1, 0, none⟩ = some (.bool false) := World.cell?_setCell_same' w9 ⟨w.heap.size + 1 + 1, 0, none⟩ (.bool false) (by rw [f2]; rfl)
  refine bodyPost_ret (v := .bool false) (by simp [results, Tryd.results61, go_sem, hz]) rfl ?_
  exact Ret.mk (by rw [HS.out]) ((hBa.trans (hb9.mono hBa.size)).setCell (p := ⟨w.heap.size + 1 + 1, 0, none⟩) (by simp; omega) _)
theorem fin_mem {N k : Nat} (h : k < N) : (⟨k, h⟩ : Fin N) ∈ finTo N N := by
  unfold finTo
  rw [List.mem_filterMap]
  exact ⟨k, List.mem_range.2 h, by simp [h]⟩
set_option maxRecDepth 100000 in
set_option maxHeartbeats 4000000 in
theorem same_same (S T : Sh) (hS : S.Ok) (hT : T.Ok) (w : World) (heq : S.ext = T.ext) : Calls Tryd.prog 61 #[.iface S.ty (.agg S.ag), .iface T.ty (.agg T.ag)] w (Ret (.bool (sameS S T)) w) := by
  have hmx : Tryd.prog.follows .mixedOrders = true := by kernel_rfl
  obtain ⟨a1, b1, c1, he, ha0, hb0, hc0, ha2, hb2', hc2, h8⟩ := nat_ext hS.ext
  have HSA : Hid ((∀ k, k < a1 * b1 * c1 → S.at (cellN ⟨a1, b1, c1⟩ k) = T.at (cellN ⟨a1, b1, c1⟩ k)) → sameS S T = true) := fun h => same_all heq (by rw [he]; exact h)
  have HSN : Hid (∀ k, k < a1 * b1 * c1 → S.at (cellN ⟨a1, b1, c1⟩ k) ≠ T.at (cellN ⟨a1, b1, c1⟩ k) → sameS S T = false) := fun k hk h => same_not (k := k) (by rw [he]; exact hk) (by rw [he]; exact h)
  have hin : ∀ (x : Fin (a1 * b1 * c1)), InE ⟨a1, b1, c1⟩ (cellN ⟨a1, b1, c1⟩ x) := fun x => by
    have := cellN_in hS.ext (n := x.1) (by rw [he]; exact x.2)
    rw [he] at this
    exact this
  have HAS : Hid (∀ (x : Fin (a1 * b1 * c1)) W, Calls Tryd.prog S.fa #[.agg S.ag, val3 (cellN ⟨a1, b1, c1⟩ x)] W (Ret (.int .u8 (S.at (cellN ⟨a1, b1, c1⟩ x))) W)) := fun x W => at_any S hS _ W (by rw [he]; exact hin x)
  have HAT : Hid (∀ (x : Fin (a1 * b1 * c1)) W, Calls Tryd.prog T.fa #[.agg T.ag, val3 (cellN ⟨a1, b1, c1⟩ x)] W (Ret (.int .u8 (T.at (cellN ⟨a1, b1, c1⟩ x))) W)) := fun x W => at_any T hT _ W (by rw [← heq, he]; exact hin x)
  have hme := S.me
  have hmt := T.me
  rw [← heq] at hmt
  rw [he] at hme hmt
  have hma := S.ma
  have hea := S.ea
  have hmb := T.ma
  have heb := T.ea
  have hne : ∀ W, (binOp .neq 22 (val3 ⟨a1, b1, c1⟩) (val3 ⟨a1, b1, c1⟩)).run Tryd.prog W = .ok (.bool false) W := fun W => by rw [run_ne3]; simp
  have HX := Lib.hid (fun W => ext_ret ⟨a1, b1, c1⟩ W)
  clear he heq hS hT hin
  have h1 : 1 ≤ 5 := by omega
  refine (callsIn_wide (n := 5)).1 ?_
  refine callsIn_of_wp_marks Tryd.func61 rfl trivial ?_ rfl
  simp only [Tryd.ntmps61, List.size_toArray, List.length_cons, List.length_nil, Nat.reduceAdd, Nat.reduceSub, Array.replicate_succ, Array.replicate_zero, List.push_toArray, List.append_toArray, List.nil_append, List.cons_append]
  gi_wp2
  obtain ⟨wa, hwa⟩ : ∃ wa, ((w.alloc (.cells #[.iface S.ty (.agg S.ag)] 70)).alloc (.cells #[.iface T.ty (.agg T.ag)] 70)).alloc (.cells #[.bool false] 4) = wa := ⟨_, rfl⟩
  have hBa : Below w.heap.size w wa := by rw [← hwa]; (repeat (first | exact Below.refl _ _ | assumption | refine Below.alloc ?_ (by first | exact Nat.le_refl _ | exact Below.size (by assumption) | omega | (simp <;> omega)) _ | refine Below.setCell ?_ (by first | exact Nat.le_refl _ | exact Below.size (by assumption) | omega | (simp <;> omega)) _ | refine below_drewN ?_ _ | refine Below.drew ?_))
  have hza : wa.heap.size = w.heap.size + 3 := by rw [← hwa]; simp
  have b0 := ((Boxed.new w 70 (.iface S.ty (.agg S.ag))).alloc (.cells #[.iface T.ty (.agg T.ag)] 70)).alloc (.cells #[.bool false] 4)
  have b1' := (Boxed.new (w.alloc (.cells #[.iface S.ty (.agg S.ag)] 70)) 70 (.iface T.ty (.agg T.ag))).alloc (.cells #[.bool false] 4)
  have b2 := Boxed.new ((w.alloc (.cells #[.iface S.ty (.agg S.ag)] 70)).alloc (.cells #[.iface T.ty (.agg T.ag)] 70)) 4 (.bool false)
  simp only [World.size_alloc] at b1' b2
  rw [hwa] at b0 b1' b2
  have HF : Hid (∀ W, Below wa.heap.size wa W → Boxed W w.heap.size 70 (.iface S.ty (.agg S.ag)) ∧ Boxed W (w.heap.size + 1) 70 (.iface T.ty (.agg T.ag)) ∧ Boxed W (w.heap.size + 2) 4 (.bool false)) := fun W h =>
    ⟨(h.block _ (by omega)).trans b0, (h.block _ (by omega)).trans b1', (h.block _ (by omega)).trans b2⟩
  rw [hwa]
  clear hwa b0 b1' b2
  refine wpIn_wide.2 ?_
  refine region_qw (fun W => Below wa.heap.size wa W) hmx (by kernel_rfl) (by (repeat (first | exact Below.refl _ _ | assumption | refine Below.alloc ?_ (by first | exact Nat.le_refl _ | exact Below.size (by assumption) | omega | (simp <;> omega)) _ | refine Below.setCell ?_ (by first | exact Nat.le_refl _ | exact Below.size (by assumption) | omega | (simp <;> omega)) _ | refine below_drewN ?_ _ | refine Below.drew ?_))) ?_
  (refine qw_read rfl (fun w' hC => by obtain ⟨f0, f1, _⟩ := HF.out w' hC; have f0 := f0.cell; have f1 := f1.cell; clear hC; go_simp; rfl) ?_; simp only [Act.put, List.setIfInBounds_toArray, List.set_cons_succ, List.set_cons_zero])
  (refine qw_call rfl (fun w' hC => by (go_simp; try rfl)) (fun w' hC => (HX.out w').mono (fun e w2 hr => ⟨hr.1, hC.trans (hr.2.mono hC.size)⟩)) ?_; simp only [Act.put, List.setIfInBounds_toArray, List.set_cons_succ, List.set_cons_zero])
  (refine qw_read rfl (fun w' hC => by obtain ⟨f0, f1, _⟩ := HF.out w' hC; have f0 := f0.cell; have f1 := f1.cell; clear hC; go_simp; rfl) ?_; simp only [Act.put, List.setIfInBounds_toArray, List.set_cons_succ, List.set_cons_zero])
  (refine qw_call rfl (fun w' hC => by (go_simp; try rfl)) (fun w' hC => (HX.out w').mono (fun e w2 hr => ⟨hr.1, hC.trans (hr.2.mono hC.size)⟩)) ?_; simp only [Act.put, List.setIfInBounds_toArray, List.set_cons_succ, List.set_cons_zero])
  (refine qw_read rfl (fun w' hC => by skip; clear hC; go_simp; rfl) ?_; simp only [Act.put, List.setIfInBounds_toArray, List.set_cons_succ, List.set_cons_zero])
  refine qw_nil ?_
  intro w2 hb2
  obtain ⟨g0, g1, g2⟩ := HF.out w2 hb2
  have f0 := g0.cell
  have hB2 := hBa.trans (hb2.mono hBa.size)
  have hs2 := hb2.size
  gi_wp2_with fail
  refine ⟨trivial, (callsIn_wide.2 (HX.out _)).mono ?_⟩
  rintro e w3 ⟨rfl, hb3⟩
  gi_wp2_with fail
  refine ⟨trivial, (callsIn_wide.2 (cells_any' ⟨a1, b1, c1⟩ _)).mono ?_⟩
  rintro e w4 ⟨rfl, rfl⟩
  dsimp only
  gi_wp2
  have hs3 := hb3.size
  have hx1 : CX (w3.alloc (.cells #[.int .i64 a1, .int .i64 b1, .int .i64 c1] 22)) w3.heap.size ⟨a1, b1, c1⟩ := CX.new w3 ⟨a1, b1, c1⟩
  have hb4 : Below w2.heap.size w2 (w3.alloc (.cells #[.int .i64 a1, .int .i64 b1, .int .i64 c1] 22)) := by (repeat (first | exact Below.refl _ _ | assumption | refine Below.alloc ?_ (by first | exact Nat.le_refl _ | exact Below.size (by assumption) | omega | (simp <;> omega)) _ | refine Below.setCell ?_ (by first | exact Nat.le_refl _ | exact Below.size (by assumption) | omega | (simp <;> omega)) _ | refine below_drewN ?_ _ | refine Below.drew ?_))
  have k0 : Boxed (w3.alloc (.cells #[.int .i64 a1, .int .i64 b1, .int .i64 c1] 22)) w.heap.size 70 (.iface S.ty (.agg S.ag)) := (hb4.block _ (by omega)).trans g0
  have k1 : Boxed (w3.alloc (.cells #[.int .i64 a1, .int .i64 b1, .int .i64 c1] 22)) (w.heap.size + 1) 70 (.iface T.ty (.agg T.ag)) := (hb4.block _ (by omega)).trans g1
  have k2 : Boxed (w3.alloc (.cells #[.int .i64 a1, .int .i64 b1, .int .i64 c1] 22)) (w.heap.size + 2) 4 (.bool false) := (hb4.block _ (by omega)).trans g2
  have hB4 := hB2.trans (hb4.mono hB2.size)
  obtain ⟨W0, hW0⟩ : ∃ W0, w3.alloc (.cells #[.int .i64 a1, .int .i64 b1, .int .i64 c1] 22) = W0 := ⟨_, rfl⟩
  have hsz : W0.heap.size = w3.heap.size + 1 := by rw [← hW0]; simp
  rw [hW0] at hx1 hb4 k0 k1 k2 hB4 ⊢
  clear hW0 f0 g0 g1 g2
  refine wpIn_rangeFunc_ownH (F := Fence.wide) rfl h1 (gf := 86) (lb := #[.pointer (some ⟨w3.heap.size, 0, none⟩)]) rfl trivial (enters_of Tryd.func86 (by kernel_rfl) rfl)
    (cells_stops (5 - 1) (by omega) w3.heap.size w.heap.size a1 b1 c1 ha2 hb2' hc2 W0 hx1) KpC.trans (KpC.book (by have := hB4.size; omega) (by omega)) (Below.refl _ _) (fun _ => rfl)
    (fun pre W => (∀ x ∈ pre, S.at (cellN ⟨a1, b1, c1⟩ x.1) = T.at (cellN ⟨a1, b1, c1⟩ x.1)) ∧ (((Boxed W w.heap.size 70 (.iface S.ty (.agg S.ag)) ∧ Boxed W (w.heap.size + 1) 70 (.iface T.ty (.agg T.ag))) ∧ Boxed W (w.heap.size + 2) 4 (.bool false)) ∧ CX W w3.heap.size ⟨a1, b1, c1⟩) ∧ Below w.heap.size w W)
    (fun cc pre W => (cc = .ret ∧ ∃ pre0 x, pre = pre0 ++ [x] ∧ S.at (cellN ⟨a1, b1, c1⟩ x.1) ≠ T.at (cellN ⟨a1, b1, c1⟩ x.1)) ∧ Boxed W (w.heap.size + 2) 4 (.bool false) ∧ Below w.heap.size w W)
    (OwnFrom.and (ownFrom_pure _ _) (OwnFrom.and (OwnFrom.and (OwnFrom.and (OwnFrom.and (Own.from (boxed_own _ _ _) _) (Own.from (boxed_own _ _ _) _)) (Own.from (boxed_own _ _ _) _)) (Own.from (CX.own _ _) _)) (ownFrom_below (Nat.le_refl _) (by have := hB4.size; omega))))
    (fun cc => OwnFrom.and (ownFrom_pure _ _) (OwnFrom.and (Own.from (boxed_own _ _ _) _) (ownFrom_below (Nat.le_refl _) (by have := hB4.size; omega))))
    ⟨by simp, ⟨⟨⟨k0, k1⟩, k2⟩, hx1⟩, hB4⟩
    (fun x a' W => ∃ Ba, CX W Ba (cellN ⟨a1, b1, c1⟩ x) ∧ a' = { tmps := #[.iface S.ty (.agg S.ag), .iface T.ty (.agg T.ag), .pointer (some ⟨w.heap.size, 0, none⟩), .pointer (some ⟨w.heap.size + 1, 0, none⟩), .pointer (some ⟨w.heap.size + 1 + 1, 0, none⟩), .pointer (some ⟨Ba, 0, none⟩), .iface S.ty (.agg S.ag), val3 ⟨a1, b1, c1⟩, .iface T.ty (.agg T.ag), val3 ⟨a1, b1, c1⟩, .bool false, .iface S.ty (.agg S.ag), val3 ⟨a1, b1, c1⟩, .func (.func 86) #[] #[.pointer (some ⟨w3.heap.size, 0, none⟩)], val3 (cellN ⟨a1, b1, c1⟩ x), undef, undef, undef, undef, undef, undef, undef], defers := [] })
    (fun x a' _ X Y row hs hg hr => by obtain ⟨Ba, h1, h3⟩ := hs; exact ⟨Ba, CX.own Ba (fun (_ : Unit) => _) () _ _ _ h1 hg (fun r e => (hr r e).2), h3⟩)
    ?assign ?body ?done ?stop
  case assign =>
    rintro ll pre x W K ⟨hno, ⟨⟨⟨n0, n1⟩, n2⟩, cX1⟩, hB1⟩ hK
    have hsW := hB1.size
    have hxlt := (Array.getElem?_eq_some_iff.1 cX1).1
    gi_wp2
    refine hK _ _ ((KeepsOthers.alloc _ _).from _) ⟨by (repeat (first | exact Below.refl _ _ | assumption | refine Below.alloc ?_ (by first | exact Nat.le_refl _ | exact Below.size (by assumption) | omega | (simp <;> omega)) _ | refine Below.setCell ?_ (by first | exact Nat.le_refl _ | exact Below.size (by assumption) | omega | (simp <;> omega)) _ | refine below_drewN ?_ _ | refine Below.drew ?_)), Below.heap_alloc _ _ _ hxlt⟩ ⟨hno, ⟨⟨⟨n0.alloc _, n1.alloc _⟩, n2.alloc _⟩, (Below.heap_alloc _ _ _ hxlt).trans cX1⟩, by (repeat (first | exact Below.refl _ _ | assumption | refine Below.alloc ?_ (by first | exact Nat.le_refl _ | exact Below.size (by assumption) | omega | (simp <;> omega)) _ | refine Below.setCell ?_ (by first | exact Nat.le_refl _ | exact Below.size (by assumption) | omega | (simp <;> omega)) _ | refine below_drewN ?_ _ | refine Below.drew ?_))⟩ ⟨W.heap.size, CX.new W _, rfl⟩
  case body =>
    rintro ll pre x a' W hl ⟨r, hr⟩ ⟨hno, ⟨⟨⟨n0, n1⟩, n2⟩, cX1⟩, hB1⟩ ⟨Ba, hA, rfl⟩ hlt
    have HAX := Lib.hid (HAS.out x)
    have HAY := Lib.hid (HAT.out x)
    have HNO := Lib.hid hno
    obtain ⟨u, hu⟩ : ∃ u, S.at (cellN ⟨a1, b1, c1⟩ x) = u := ⟨_, rfl⟩
    obtain ⟨v, hv⟩ : ∃ v, T.at (cellN ⟨a1, b1, c1⟩ x) = v := ⟨_, rfl⟩
    rw [hu] at HAX
    rw [hv] at HAY
    have HUV : Hid (u = v → S.at (cellN ⟨a1, b1, c1⟩ x) = T.at (cellN ⟨a1, b1, c1⟩ x)) := fun h => by rw [hu, hv, h]
    have HUN : Hid (u ≠ v → S.at (cellN ⟨a1, b1, c1⟩ x) ≠ T.at (cellN ⟨a1, b1, c1⟩ x)) := fun h => by rw [hu, hv]; exact h
    clear hu hv hno
    generalize hcc : cellN ⟨a1, b1, c1⟩ x = cc at hA HAX HAY
    have HCC := Lib.hid hcc
    clear hcc
    obtain ⟨q0, q1, q2, _⟩ := hA.c
    have c0 := n0.cell
    have c1' := n1.cell
    have hbt := (Array.getElem?_eq_some_iff.1 hA).1
    have HW : Hid (∀ W', Below W.heap.size W W' → W'.cell? ⟨w.heap.size, 0, none⟩ = some (.iface S.ty (.agg S.ag)) ∧ W'.cell? ⟨w.heap.size + 1, 0, none⟩ = some (.iface T.ty (.agg T.ag)) ∧ W'.cell? ⟨Ba, 0, none⟩ = some (.int .i64 cc.x) ∧ W'.cell? ⟨Ba, 1, none⟩ = some (.int .i64 cc.y) ∧ W'.cell? ⟨Ba, 2, none⟩ = some (.int .i64 cc.z)) := fun W' hC => by
      obtain ⟨t0, t1, t2, _⟩ := (hA.below hC hbt).c
      exact ⟨Boxed.cell ((hC.block _ n0.lt).trans n0), Boxed.cell ((hC.block _ n1.lt).trans n1), t0, t1, t2⟩
    clear q0 q1 q2 c0 c1'
    gi_wp2
    refine region_class_in_round (fun w' => Below W.heap.size W w') hmx (by kernel_rfl) (by kernel_rfl) (by rintro ⟨a, w, h⟩; exact h) (by (repeat (first | exact Below.refl _ _ | assumption | refine Below.alloc ?_ (by first | exact Nat.le_refl _ | exact Below.size (by assumption) | omega | (simp <;> omega)) _ | refine Below.setCell ?_ (by first | exact Nat.le_refl _ | exact Below.size (by assumption) | omega | (simp <;> omega)) _ | refine below_drewN ?_ _ | refine Below.drew ?_))) ?_
    (refine quiet_read rfl (fun w' hC => by obtain ⟨f0, f1, f2, f3, f4⟩ := HW.out w' hC; clear hC; go_simp; rfl) ?_; simp only [Act.put, List.setIfInBounds_toArray, List.set_cons_succ, List.set_cons_zero])
    (refine quiet_read rfl (fun w' hC => by obtain ⟨f0, f1, f2, f3, f4⟩ := HW.out w' hC; clear hC; go_simp; rfl) ?_; simp only [Act.put, List.setIfInBounds_toArray, List.set_cons_succ, List.set_cons_zero])
    (refine quiet_call rfl (fun w' hC => by (go_simp; try rfl)) (fun w' hC => (HAX.out w').mono (fun e w2 hr => ⟨hr.1, hC.trans (hr.2.mono hC.size)⟩)) ?_; simp only [Act.put, List.setIfInBounds_toArray, List.set_cons_succ, List.set_cons_zero])
    (refine quiet_read rfl (fun w' hC => by obtain ⟨f0, f1, f2, f3, f4⟩ := HW.out w' hC; clear hC; go_simp; rfl) ?_; simp only [Act.put, List.setIfInBounds_toArray, List.set_cons_succ, List.set_cons_zero])
    (refine quiet_read rfl (fun w' hC => by obtain ⟨f0, f1, f2, f3, f4⟩ := HW.out w' hC; clear hC; go_simp; rfl) ?_; simp only [Act.put, List.setIfInBounds_toArray, List.set_cons_succ, List.set_cons_zero])
    (refine quiet_call rfl (fun w' hC => by (go_simp; try rfl)) (fun w' hC => (HAY.out w').mono (fun e w2 hr => ⟨hr.1, hC.trans (hr.2.mono hC.size)⟩)) ?_; simp only [Act.put, List.setIfInBounds_toArray, List.set_cons_succ, List.set_cons_zero])
    (refine quiet_read rfl (fun w' hC => by skip; clear hC; go_simp; rfl) ?_; simp only [Act.put, List.setIfInBounds_toArray, List.set_cons_succ, List.set_cons_zero])
    refine wpQuiet_nil ?_
    intro w5 hb5
    have m2 : Boxed w5 (w.heap.size + 2) 4 (.bool false) := (hb5.block _ n2.lt).trans n2
    have hB5 := hB1.trans (hb5.mono hB1.size)
    have k3 := m2.cell
    have l3 := m2.frozen
    have hxlt := (Array.getElem?_eq_some_iff.1 cX1).1
    by_cases huv : u = v
    · have HEQ := Lib.hid (HUV.out huv)
      have d1 : (u != v) = false := by simp [huv]
      clear huv
      gi_wp2
      refine ⟨keepsFrom_below _ hb5, ⟨hb5.mono hB1.size, hb5.block _ hxlt⟩, ?_, ⟨⟨⟨(hb5.block _ n0.lt).trans n0, (hb5.block _ n1.lt).trans n1⟩, m2⟩, (hb5.block _ hxlt).trans cX1⟩, hB5⟩
      intro y hy
      rcases List.mem_append.1 hy with hy | hy
      · exact HNO.out y hy
      · rw [List.mem_singleton.1 hy]; exact HEQ.out
    · have HEQ := Lib.hid (HUN.out huv)
      have d1 : (u != v) = true := by simp [huv]
      clear huv
      gi_wp2
      exact ⟨(keepsFrom_below _ hb5).trans ((KeepsOthers.setCell _ _ _).from _), ⟨rfl, pre, x, rfl, HEQ.out⟩, m2.set _, hB5.setCell (p := ⟨w.heap.size + 1 + 1, 0, none⟩) (by simp; omega) _⟩
  case done =>
    rintro D ys W hD rfl ⟨hno, ⟨⟨⟨n0, n1⟩, n2⟩, cX1⟩, hB1⟩ hK
    have HT := Lib.hid (HSA.out fun k hk => hno ⟨k, hk⟩ (fin_mem hk))
    have cR := n2.cell
    have fR := n2.frozen
    gi_wp2
    have hK' := (KeepsOthers.setCell W ⟨w.heap.size + 1 + 1, 0, none⟩ (.bool true)).same D _ hK rfl
    refine ⟨by simp, .inl ⟨_, _, rfl, run_takeDeferred hK', ?_⟩⟩
    have hc5 := cell_kept (World.cell?_setCell_same' W ⟨w.heap.size + 1 + 1, 0, none⟩ (.bool true) (by rw [cR]; rfl)) (grownBy_putObj' _ D (.deferred none)) (fun r e => by cases e; exact ⟨_, hK', rfl⟩)
    refine ⟨.bool true, by simp [results, Tryd.f61, go_sem, hc5], Ret.mk (by rw [HT.out]) ((hB1.setCell (p := ⟨w.heap.size + 1 + 1, 0, none⟩) (by simp; omega) _).trans (belowK_b (w := w) (Nat.le_refl _) _ D _ _ (by omega) hK' rfl rfl))⟩
  case stop =>
    rintro D cc pre W hD ⟨k, hk, rfl⟩ ⟨⟨rfl, pre0, x, hp0, hx⟩, n2, hB1⟩ hK
    gi_wp2
    refine ⟨by simp, .inl ⟨_, _, rfl, run_takeDeferred hK, ?_⟩⟩
    have hc5 := cell_kept n2.cell (grownBy_putObj' _ D (.deferred none)) (fun r e => by cases e; exact ⟨_, hK, rfl⟩)
    rw [finTo_succ hk] at hp0
    obtain ⟨_, hp1⟩ := List.append_inj' hp0 rfl
    obtain rfl : (⟨k, hk⟩ : Fin _) = x := by simpa using hp1
    refine ⟨.bool false, by simp [results, Tryd.f61, go_sem, hc5], Ret.mk (by rw [HSN.out k hk hx]) (hB1.trans (belowK_b (w := w) (Nat.le_refl _) W D _ _ (by omega) hK rfl rfl))⟩
theorem sameSh_any (S T : Sh) (hS : S.Ok) (hT : T.Ok) (w : World) : Calls Tryd.prog 61 #[.iface S.ty (.agg S.ag), .iface T.ty (.agg T.ag)] w (Ret (.bool (sameS S T)) w) := by
  by_cases h : S.ext = T.ext
  · exact same_same S T hS hT w h
  · exact same_diff S T w h
end Go.Proofs.YtbcnkcndhgihaaaDoor

namespace Go.Proofs.YtbcnkcndhgihaaaDoor
open Go

def TwoC (w0 w1 w2 : World) (k1 k2 : Nat) (ls : Array Bool) (w' : World) : Prop :=
  (ls.getD k1 false = false ∧ ls.getD k2 false = false ∧ w' = w0) ∨ (ls.getD k1 false = true ∧ ls.getD k2 false = false ∧ w' = w1) ∨ (ls.getD k1 false = true ∧ ls.getD k2 false = true ∧ w' = w2)
theorem TwoC.or {w0 w1 w2 w' : World} {k1 k2 : Nat} {ls : Array Bool} (h : TwoC w0 w1 w2 k1 k2 ls w') : w' = w0 ∨ w' = w1 ∨ w' = w2 := by
  rcases h with h | h | h
  · exact .inl h.2.2
  · exact .inr (.inl h.2.2)
  · exact .inr (.inr h.2.2)
theorem TwoC.other {w0 w1 w2 w' : World} {k1 k2 i : Nat} {ls : Array Bool} (h : TwoC w0 w1 w2 k1 k2 ls w') (h1 : i ≠ k1) (h2 : i ≠ k2) : TwoC w0 w1 w2 k1 k2 (ls.setIfInBounds i true) w' := by
  unfold TwoC
  rw [getD_set_ne false h1, getD_set_ne false h2]
  exact h
theorem getD_repl {n k : Nat} : (Array.replicate n false).getD k false = false := by
  rw [Array.getD_eq_getD_getElem?, Array.getElem?_replicate]
  split <;> rfl
theorem getD_self {ls : Array Bool} {k : Nat} (hr : ls.getD k true = false) : (ls.setIfInBounds k true).getD k false = true := by
  have hk : k < ls.size := by
    rcases Nat.lt_or_ge k ls.size with h | h
    · exact h
    · rw [Array.getD_eq_getD_getElem?, Array.getElem?_eq_none h] at hr
      cases hr
  rw [Array.getD_eq_getD_getElem?, Array.getElem?_setIfInBounds]
  simp [hk]
theorem TwoC.start {w0 w1 w2 : World} {k1 k2 n : Nat} : TwoC w0 w1 w2 k1 k2 (Array.replicate n false) w0 := .inl ⟨getD_repl, getD_repl, rfl⟩
theorem TwoC.first {w0 w1 w2 w' : World} {k1 k2 : Nat} {ls : Array Bool} (h : TwoC w0 w1 w2 k1 k2 ls w') (hne : k1 ≠ k2) (hr : ls.getD k1 true = false) : w' = w0 ∧ TwoC w0 w1 w2 k1 k2 (ls.setIfInBounds k1 true) w1 := by
  have h0 := getD_both hr
  rcases h with h | h | h
  · exact ⟨h.2.2, .inr (.inl ⟨getD_self hr, by rw [getD_set_ne false hne]; exact h.2.1, rfl⟩)⟩
  · rw [h0] at h; cases h.1
  · rw [h0] at h; cases h.1
theorem TwoC.second {w0 w1 w2 w' : World} {k1 k2 : Nat} {ls : Array Bool} (h : TwoC w0 w1 w2 k1 k2 ls w') (hne : k1 ≠ k2) (hr : ls.getD k2 true = false) (hd : ls.getD k1 false = true) : w' = w1 ∧ TwoC w0 w1 w2 k1 k2 (ls.setIfInBounds k2 true) w2 := by
  have h0 := getD_both hr
  rcases h with h | h | h
  · rw [hd] at h; cases h.1
  · exact ⟨h.2.2, .inr (.inr ⟨by rw [getD_set_ne false (Ne.symm hne)]; exact hd, getD_self hr, rfl⟩)⟩
  · rw [h0] at h; cases h.2.1
section
variable {P : Program} {ops : Array Oper} {md : Region.Mode} {w0 w1 w2 : World} {k1 k2 i : Nat} {o : Oper} {rest : List Oper} {a : Act} {Q : Act → Prop}
theorem t_read {v : Value} (hw : Region.wanted o (yielded ops a.tmps) = true) (h1 : i ≠ k1) (h2 : i ≠ k2) (hrun : ∀ w', w' = w0 ∨ w' = w1 ∨ w' = w2 → (execOp a.eval o).run P w' = .ok (.value v) w')
    (hn : wpL P ops md (TwoC w0 w1 w2 k1 k2) Q (i + 1) rest (a.put o.dst v)) : wpL P ops md (TwoC w0 w1 w2 k1 k2) Q i (o :: rest) a :=
  ⟨v, .inl ⟨hw, fun ls w' _ hC => by rw [hrun w' hC.or]; exact ⟨hC.other h1 h2, rfl⟩⟩, hn⟩
theorem t_lay {v : Value} (hw : Region.wanted o (yielded ops a.tmps) = true) (hne : k1 ≠ k2) (hrun : (execOp a.eval o).run P w0 = .ok (.value v) w1)
    (hn : wpL P ops md (TwoC w0 w1 w2 k1 k2) Q (k1 + 1) rest (a.put o.dst v)) : wpL P ops md (TwoC w0 w1 w2 k1 k2) Q k1 (o :: rest) a :=
  ⟨v, .inl ⟨hw, fun ls w' hr hC => by
    obtain ⟨rfl, h2⟩ := hC.first hne (mem_ready.1 hr).1
    rw [hrun]
    exact ⟨h2, rfl⟩⟩, hn⟩
theorem t_put (hw : Region.wanted o (yielded ops a.tmps) = true) (hne : k1 ≠ k2) (ho : ops[k2]? = some o) (hdep : o.after.any (fun e => Region.binds md e && decide (e.on = k1)) = true) (hrun : (execOp a.eval o).run P w1 = .ok .skip w2)
    (hn : wpL P ops md (TwoC w0 w1 w2 k1 k2) Q (k2 + 1) rest (a.put o.dst undef)) : wpL P ops md (TwoC w0 w1 w2 k1 k2) Q k2 (o :: rest) a :=
  ⟨undef, .inl ⟨hw, fun ls w' hr hC => by
    obtain ⟨hun, oj, hoj, hall⟩ := mem_ready.1 hr
    obtain rfl : oj = o := Option.some.inj (hoj.symm.trans ho)
    obtain ⟨e, he, hb⟩ := Array.any_eq_true'.1 hdep
    rw [Bool.and_eq_true] at hb
    have hd := hall e he hb.1
    rw [of_decide_eq_true hb.2] at hd
    obtain ⟨rfl, h2⟩ := hC.second hne hun hd
    rw [hrun]
    exact ⟨h2, rfl⟩⟩, hn⟩
end
theorem region_two {P : Program} {id : Nat} {Q : Exit → Act → World → Prop} {a : Act} {w : World} {l : List Oper} (k1 k2 : Nat) (w1 w2 : World) (hm : P.follows .mixedOrders = true) (hB : Region.lexB .any l.toArray = true) (hk : (finL 0 l.length (Array.replicate l.length false)).getD k2 false = true)
    (h : wpL P l.toArray .any (TwoC w.drew w1 w2 k1 k2) (fun a' => Q .normal a' w2) 0 l a) : (Code.region id l.toArray true).wp P Q a w := by
  refine region_any (TwoC w.drew w1 w2 k1 k2) hm hB TwoC.start ?_
  have mono : ∀ (l' : List Oper) (n : Nat) (a : Act), wpL P l.toArray .any (TwoC w.drew w1 w2 k1 k2) (fun a' => Q .normal a' w2) n l' a → wpL P l.toArray .any (TwoC w.drew w1 w2 k1 k2) (fun a' => ∀ w', TwoC w.drew w1 w2 k1 k2 (finL 0 l.length (Array.replicate l.length false)) w' → Q .normal a' w') n l' a := by
    intro l'
    induction l' with
    | nil =>
      intro n a h w' hC
      rcases hC with hC | hC | hC
      · rw [hk] at hC; cases hC.2.1
      · rw [hk] at hC; cases hC.2.1
      · rw [hC.2.2]; exact h
    | cons o l' ih => intro n a ⟨v, hy, hn⟩; exact ⟨v, hy, ih _ _ hn⟩
  exact mono l 0 a h
end Go.Proofs.YtbcnkcndhgihaaaDoor

namespace Go.Proofs.YtbcnkcndhgihaaaDoor
open Go.RowKit
set_option linter.unusedSimpArgs false

set_option maxRecDepth 100000 in
set_option maxHeartbeats 4000000 in
theorem Equal_any (b c : BT) (w : World) (hb : OkB w w.heap.size b) (hc : OkB w w.heap.size c) : Calls Tryd.prog 27 #[valB b, valB c] w (Ret (.tuple #[.bool (equalB b c).1, .int .i64 (equalB b c).2]) w) := by
  obtain ⟨wa, hwa⟩ : ∃ wa, (w.alloc (.cells #[.int .i64 b.op, .int .i64 b.ax, .int .u8 b.co, .int .i64 b.n0, .int .i64 b.n1, .int .i64 b.n2, .slice b.A b.ps.length b.cp] 25)).alloc (.cells #[.int .i64 c.op, .int .i64 c.ax, .int .u8 c.co, .int .i64 c.n0, .int .i64 c.n1, .int .i64 c.n2, .slice c.A c.ps.length c.cp] 25) = wa := ⟨_, rfl⟩
  have hBa : Below w.heap.size w wa := by rw [← hwa]; (repeat (first | exact Below.refl _ _ | assumption | refine Below.alloc ?_ (by first | exact Nat.le_refl _ | exact Below.size (by assumption) | omega | (simp <;> omega)) _ | refine Below.setCell ?_ (by first | exact Nat.le_refl _ | exact Below.size (by assumption) | omega | (simp <;> omega)) _ | refine below_drewN ?_ _ | refine Below.drew ?_))
  have hza : wa.heap.size = w.heap.size + 2 := by rw [← hwa]; simp
  have hX1 : BxB wa w.heap.size b := (BxB.new w b 25).under (B := w.heap.size + 1) (by rw [← hwa]; (repeat (first | exact Below.refl _ _ | assumption | refine Below.alloc ?_ (by first | exact Nat.le_refl _ | exact Below.size (by assumption) | omega | (simp <;> omega)) _ | refine Below.setCell ?_ (by first | exact Nat.le_refl _ | exact Below.size (by assumption) | omega | (simp <;> omega)) _ | refine below_drewN ?_ _ | refine Below.drew ?_))) (by omega)
  have hX2 : BxB wa (w.heap.size + 1) c := by
    have h := BxB.new (w.alloc (.cells #[.int .i64 b.op, .int .i64 b.ax, .int .u8 b.co, .int .i64 b.n0, .int .i64 b.n1, .int .i64 b.n2, .slice b.A b.ps.length b.cp] 25)) c 25
    rw [World.size_alloc, hwa] at h
    exact h
  have HX2 : Hid (∀ W, Below wa.heap.size wa W → BxB W (w.heap.size + 1) c) := fun W h => hX2.under h (by omega)
  have HF1 := Lib.hid (form_any b wa (hb.now hBa))
  have HF2 := Lib.hid (fun W (hB : Below w.heap.size w W) => form_any c W (hc.now hB))
  have HWA := Lib.hid hwa
  clear hb hc hwa hX2
  obtain ⟨f0, f1, f2, f3, f4, f5, f6⟩ := hX1
  go_enter Tryd.func27, Tryd.ntmps27
  go_wp2_with fail
  rw [HWA.out]
  refine HF1.out.mono ?_
  rintro e w2 ⟨hb2, v, er, rfl, hok, her⟩
  have hB2 := hBa.trans (hb2.mono hBa.size)
  clear f0 f1 f2 f3 f4 f5 f6
  cases hf : formS b with
  | error er2 =>
    obtain rfl := her er2 hf
    have hx := form_err hf
    have HS : Hid (equalB b c = (false, er)) := by show _ = _; unfold equalB; rw [hf]
    have hne : (er != 0) = true := by simp; omega
    clear hf hx hok her
    go_wp2
    go_ret2
    exact Ret.mk (by rw [HS.out]; rfl) hB2
  | ok S =>
    obtain ⟨rfl, rfl⟩ := hok S hf
    have HOK1 := Lib.hid (form_ok hf)
    have HFB := Lib.hid hf
    clear hf hok her
    obtain ⟨f0, f1, f2, f3, f4, f5, f6⟩ := HX2.out w2 hb2
    go_wp2_with fail
    refine (HF2.out _ hB2).mono ?_
    rintro e w3 ⟨hb3, v2, er, rfl, hok, her⟩
    have hB3 := hB2.trans (hb3.mono hB2.size)
    clear f0 f1 f2 f3 f4 f5 f6
    cases hf : formS c with
    | error er2 =>
      obtain rfl := her er2 hf
      have hx := form_err hf
      have HS : Hid (equalB b c = (false, er)) := by show _ = _; unfold equalB; rw [HFB.out, hf]
      have hne : (er != 0) = true := by simp; omega
      clear hf hx hok her
      go_wp2
      go_ret2
      exact Ret.mk (by rw [HS.out]; rfl) hB3
    | ok T =>
      obtain ⟨rfl, rfl⟩ := hok T hf
      have HS : Hid (equalB b c = (sameS S T, 0)) := by show _ = _; unfold equalB; rw [HFB.out, hf]
      have HSM := Lib.hid (fun W => sameSh_any S T HOK1.out (form_ok hf) W)
      clear hf hok her
      go_wp2_with fail
      refine (HSM.out _).mono ?_
      rintro e w4 ⟨rfl, hb4⟩
      have hB4 := hB3.trans (hb4.mono hB3.size)
      go_wp2
      go_ret2
      exact Ret.mk (by rw [HS.out]; rfl) hB4
set_option maxRecDepth 100000 in
set_option maxHeartbeats 4000000 in
theorem Mirrored_any (b : BT) (ax : Int) (w : World) (hb : OkB w w.heap.size b) : Calls Tryd.prog 29 #[valB b, .int .i64 ax] w (Ret (.tuple #[.bool (mirrB b ax).1, .int .i64 (mirrB b ax).2]) w) := by
  have HFORM := Lib.hid (form_any b _ (hb.now (w' := w.alloc (.cells #[.int .i64 b.op, .int .i64 b.ax, .int .u8 b.co, .int .i64 b.n0, .int .i64 b.n1, .int .i64 b.n2, .slice b.A b.ps.length b.cp] 25)) (by (repeat (first | exact Below.refl _ _ | assumption | refine Below.alloc ?_ (by first | exact Nat.le_refl _ | exact Below.size (by assumption) | omega | (simp <;> omega)) _ | refine Below.setCell ?_ (by first | exact Nat.le_refl _ | exact Below.size (by assumption) | omega | (simp <;> omega)) _ | refine below_drewN ?_ _ | refine Below.drew ?_)))))
  clear hb
  go_enter Tryd.func29, Tryd.ntmps29
  go_wp2_with fail
  refine HFORM.out.mono ?_
  rintro e w2 ⟨hb2, v, er, rfl, hok, her⟩
  have hB2 : Below w.heap.size w w2 := below_next (by (repeat (first | exact Below.refl _ _ | assumption | refine Below.alloc ?_ (by first | exact Nat.le_refl _ | exact Below.size (by assumption) | omega | (simp <;> omega)) _ | refine Below.setCell ?_ (by first | exact Nat.le_refl _ | exact Below.size (by assumption) | omega | (simp <;> omega)) _ | refine below_drewN ?_ _ | refine Below.drew ?_))) hb2
  cases hf : formS b with
  | error er2 =>
    obtain rfl := her er2 hf
    have hx := form_err hf
    have HS : Hid (mirrB b ax = (false, er)) := by show _ = _; unfold mirrB; rw [hf]
    have hne : (er != 0) = true := by simp; omega
    clear hf hx hok her
    go_wp2
    go_ret2
    exact Ret.mk (by rw [HS.out]; rfl) hB2
  | ok S =>
    obtain ⟨rfl, rfl⟩ := hok S hf
    have hS := form_ok hf
    have HSP : Hid (mirrB b ax = if 0 ≤ ax ∧ ax ≤ 2 then (sameS S (.flip S.ext ax S), 0) else (false, 2)) := by show _ = _; unfold mirrB; rw [hf]
    clear hf hok her
    by_cases hax : 0 ≤ ax ∧ ax ≤ 2
    · have hbt : btw 0 ax 2 = true := by unfold btw; simp; omega
      have HS := Lib.hid (HSP.out.trans (if_pos hax))
      have hTok : (Sh.flip S.ext ax S).Ok := ⟨hS.ext, (by unfold Ax; omega), hS, rfl⟩
      have HSM := Lib.hid (fun W => sameSh_any S (.flip S.ext ax S) hS hTok W)
      have HV : Hid (Value.iface (Sh.flip S.ext ax S).ty (.agg (Sh.flip S.ext ax S).ag) = .iface 84 (.agg #[.int .i64 S.ext.x, .int .i64 S.ext.y, .int .i64 S.ext.z, .int .i64 ax, .iface S.ty (.agg S.ag)])) := by
        show _ = _
        rw [← Sh.val_eq, flip_val]
      rw [HV.out] at HSM
      have hme := S.me
      have HX := Lib.hid (fun W => ext_ret S.ext W)
      obtain ⟨t, ht⟩ : ∃ t, S.ext = t := ⟨_, rfl⟩
      rw [ht] at hme HX HSM HS
      obtain ⟨t1, t2, t3⟩ := t
      clear hTok hS hax ht
      go_wp2_with fail
      refine (between_any _ _ _ _).mono ?_
      rintro e w9 ⟨rfl, hw9⟩
      subst hw9
      rw [hbt]
      go_wp2_with fail
      refine (HX.out _).mono ?_
      rintro e w3 ⟨rfl, hb3⟩
      have hB3 := hB2.trans (hb3.mono hB2.size)
      go_wp2_with fail
      refine (HSM.out _).mono ?_
      rintro e w4 ⟨rfl, hb4⟩
      have hB4 := hB3.trans (hb4.mono hB3.size)
      go_wp2
      go_ret2
      exact Ret.mk (by rw [HS.out]; rfl) hB4
    · have hbt : btw 0 ax 2 = false := by unfold btw; simp; omega
      have HS := Lib.hid (HSP.out.trans (if_neg hax))
      clear hax hS
      go_wp2_with fail
      refine (between_any _ _ _ _).mono ?_
      rintro e w9 ⟨rfl, hw9⟩
      subst hw9
      rw [hbt]
      go_wp2
      go_ret2
      exact Ret.mk (by rw [HS.out]; rfl) hB2
end Go.Proofs.YtbcnkcndhgihaaaDoor

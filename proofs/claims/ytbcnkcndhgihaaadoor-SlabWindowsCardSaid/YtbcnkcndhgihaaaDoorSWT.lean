/- Blocks: the colour of a cell of a turn and of a stack: the walks; every shape. -/
import Derived.Test.YtbcnkcndhgihaaaDoorSW3
namespace Go.Proofs.YtbcnkcndhgihaaaDoor
open Go.RowKit
set_option linter.unusedSimpArgs false

set_option maxRecDepth 100000 in
set_option maxHeartbeats 1000000 in
theorem turn_any (n : T3) (a : Int) (p : Sh) (hok : (Sh.turn n a p).Ok) (ih : AtC p) : AtC (.turn n a p) := by
  intro c w hc
  obtain ⟨_, ha, hp, h1⟩ := hok
  have hi := in_turn ha h1 hc
  have hb := hp.ext
  have HIH := Lib.hid (fun w => ih _ w hi)
  have hv := p.val_eq
  have hm := p.ma
  have he := p.ea
  have hx := p.me
  obtain ⟨t, ht⟩ : ∃ t, p.ext = t := ⟨_, rfl⟩
  rw [ht] at hx hb
  obtain ⟨t1, t2, t3⟩ := t
  have i0 := ix0 t1 t2 t3
  have i1 := ix1 t1 t2 t3
  have i2 := ix2 t1 t2 t3
  have hat : ∀ c, (Sh.turn n a p).at c = p.at (turnC a p.ext c) := fun c => rfl
  rw [ht] at HIH hat hi
  have HAT := Lib.hid hat
  clear ih h1 hp hat hc
  obtain ⟨x, y, z⟩ := c
  rcases ha with rfl | rfl | rfl
  · have hw : wrap64 (t3 - 1) = t3 - 1 := by
      unfold ExtOk at hb
      dsimp only at hb
      exact w64b (by omega) (by omega)
    have hw2 : wrap64 (t3 - 1 - y) = t3 - 1 - y := by
      unfold ExtOk at hb
      unfold InE turnC at hi
      simp at hb hi
      exact w64b (by omega) (by omega)
    clear hi hb
    show Calls Tryd.prog 165 #[.agg #[.int .i64 n.x, .int .i64 n.y, .int .i64 n.z, .int .i64 0, p.val], val3 ⟨x, y, z⟩] w _
    go_enter Tryd.func165, Tryd.ntmps165
    rw [hv]
    go_wp2_with fail
    obtain ⟨wa, hwa⟩ : ∃ wa, (w.alloc (.cells #[.int .i64 n.x, .int .i64 n.y, .int .i64 n.z, .int .i64 0, .iface p.ty (.agg p.ag)] 121)).alloc (.cells #[.int .i64 x, .int .i64 y, .int .i64 z] 22) = wa := ⟨_, rfl⟩
    have hBa : Below w.heap.size w wa := by rw [← hwa]; (repeat (first | exact Below.refl _ _ | assumption | refine Below.alloc ?_ (by first | exact Nat.le_refl _ | exact Below.size (by assumption) | omega | (simp <;> omega)) _ | refine Below.setCell ?_ (by first | exact Nat.le_refl _ | exact Below.size (by assumption) | omega | (simp <;> omega)) _ | refine below_drewN ?_ _ | refine Below.drew ?_))
    have hX := CX.new (w.alloc (.cells #[.int .i64 n.x, .int .i64 n.y, .int .i64 n.z, .int .i64 0, .iface p.ty (.agg p.ag)] 121)) ⟨x, y, z⟩
    rw [hwa] at hX
    have HX : Hid (∀ w', Below wa.heap.size wa w' → CX w' (w.heap.size + 1) ⟨x, y, z⟩) := fun w' hb => by
      have := hX.below hb (by rw [← hwa]; simp)
      simpa using this
    have HC : Hid (∀ w', Below wa.heap.size wa w' → w'.cell? ⟨w.heap.size, 3, none⟩ = some (.int .i64 0) ∧ w'.cell? ⟨w.heap.size, 4, none⟩ = some (.iface p.ty (.agg p.ag)) ∧ w'.cell? ⟨w.heap.size + 1, 0, none⟩ = some (.int .i64 x) ∧ w'.cell? ⟨w.heap.size + 1, 1, none⟩ = some (.int .i64 y) ∧ w'.cell? ⟨w.heap.size + 1, 2, none⟩ = some (.int .i64 z) ∧ w'.frozen? ⟨w.heap.size + 1, 0, none⟩ = false ∧ w'.frozen? ⟨w.heap.size + 1, 1, none⟩ = false ∧ w'.frozen? ⟨w.heap.size + 1, 2, none⟩ = false) := by
      intro w' hb
      refine ⟨(hb.cell (by rw [← hwa]; simp; omega)).trans ?_, (hb.cell (by rw [← hwa]; simp; omega)).trans ?_, (HX.out w' hb).c⟩ <;> (rw [← hwa]; simp)
    rw [hwa]
    clear hwa hX
    refine (ext_ret ⟨t1, t2, t3⟩ _).mono ?_
    rintro e w9 ⟨rfl, hb9⟩
    have hB9 := hBa.trans (hb9.mono hBa.size)
    obtain ⟨f0, f1, f2, f3, f4, f5, f6, f7⟩ := HC.out w9 hb9
    have hs8 : w.heap.size < w9.heap.size := World.block_lt_of_cell? w9 _ f0
    have hs9 : w.heap.size + 1 < w9.heap.size := World.block_lt_of_cell? w9 _ f2
    go_wp2_with fail
    refine (HIH.out _).mono ?_
    rintro e w2 ⟨rfl, hb2⟩
    go_wp2
    go_ret
    exact Ret.mk (by rw [HAT.out]; rfl) (below_next (by (repeat (first | exact Below.refl _ _ | assumption | refine Below.alloc ?_ (by first | exact Nat.le_refl _ | exact Below.size (by assumption) | omega | (simp <;> omega)) _ | refine Below.setCell ?_ (by first | exact Nat.le_refl _ | exact Below.size (by assumption) | omega | (simp <;> omega)) _ | refine below_drewN ?_ _ | refine Below.drew ?_))) hb2)
  · have hw : wrap64 (t1 - 1) = t1 - 1 := by
      unfold ExtOk at hb
      dsimp only at hb
      exact w64b (by omega) (by omega)
    have hw2 : wrap64 (t1 - 1 - z) = t1 - 1 - z := by
      unfold ExtOk at hb
      unfold InE turnC at hi
      simp at hb hi
      exact w64b (by omega) (by omega)
    clear hi hb
    show Calls Tryd.prog 165 #[.agg #[.int .i64 n.x, .int .i64 n.y, .int .i64 n.z, .int .i64 1, p.val], val3 ⟨x, y, z⟩] w _
    go_enter Tryd.func165, Tryd.ntmps165
    rw [hv]
    go_wp2_with fail
    obtain ⟨wa, hwa⟩ : ∃ wa, (w.alloc (.cells #[.int .i64 n.x, .int .i64 n.y, .int .i64 n.z, .int .i64 1, .iface p.ty (.agg p.ag)] 121)).alloc (.cells #[.int .i64 x, .int .i64 y, .int .i64 z] 22) = wa := ⟨_, rfl⟩
    have hBa : Below w.heap.size w wa := by rw [← hwa]; (repeat (first | exact Below.refl _ _ | assumption | refine Below.alloc ?_ (by first | exact Nat.le_refl _ | exact Below.size (by assumption) | omega | (simp <;> omega)) _ | refine Below.setCell ?_ (by first | exact Nat.le_refl _ | exact Below.size (by assumption) | omega | (simp <;> omega)) _ | refine below_drewN ?_ _ | refine Below.drew ?_))
    have hX := CX.new (w.alloc (.cells #[.int .i64 n.x, .int .i64 n.y, .int .i64 n.z, .int .i64 1, .iface p.ty (.agg p.ag)] 121)) ⟨x, y, z⟩
    rw [hwa] at hX
    have HX : Hid (∀ w', Below wa.heap.size wa w' → CX w' (w.heap.size + 1) ⟨x, y, z⟩) := fun w' hb => by
      have := hX.below hb (by rw [← hwa]; simp)
      simpa using this
    have HC : Hid (∀ w', Below wa.heap.size wa w' → w'.cell? ⟨w.heap.size, 3, none⟩ = some (.int .i64 1) ∧ w'.cell? ⟨w.heap.size, 4, none⟩ = some (.iface p.ty (.agg p.ag)) ∧ w'.cell? ⟨w.heap.size + 1, 0, none⟩ = some (.int .i64 x) ∧ w'.cell? ⟨w.heap.size + 1, 1, none⟩ = some (.int .i64 y) ∧ w'.cell? ⟨w.heap.size + 1, 2, none⟩ = some (.int .i64 z) ∧ w'.frozen? ⟨w.heap.size + 1, 0, none⟩ = false ∧ w'.frozen? ⟨w.heap.size + 1, 1, none⟩ = false ∧ w'.frozen? ⟨w.heap.size + 1, 2, none⟩ = false) := by
      intro w' hb
      refine ⟨(hb.cell (by rw [← hwa]; simp; omega)).trans ?_, (hb.cell (by rw [← hwa]; simp; omega)).trans ?_, (HX.out w' hb).c⟩ <;> (rw [← hwa]; simp)
    rw [hwa]
    clear hwa hX
    refine (ext_ret ⟨t1, t2, t3⟩ _).mono ?_
    rintro e w9 ⟨rfl, hb9⟩
    have hB9 := hBa.trans (hb9.mono hBa.size)
    obtain ⟨f0, f1, f2, f3, f4, f5, f6, f7⟩ := HC.out w9 hb9
    have hs8 : w.heap.size < w9.heap.size := World.block_lt_of_cell? w9 _ f0
    have hs9 : w.heap.size + 1 < w9.heap.size := World.block_lt_of_cell? w9 _ f2
    go_wp2_with fail
    refine (HIH.out _).mono ?_
    rintro e w2 ⟨rfl, hb2⟩
    go_wp2
    go_ret
    exact Ret.mk (by rw [HAT.out]; rfl) (below_next (by (repeat (first | exact Below.refl _ _ | assumption | refine Below.alloc ?_ (by first | exact Nat.le_refl _ | exact Below.size (by assumption) | omega | (simp <;> omega)) _ | refine Below.setCell ?_ (by first | exact Nat.le_refl _ | exact Below.size (by assumption) | omega | (simp <;> omega)) _ | refine below_drewN ?_ _ | refine Below.drew ?_))) hb2)
  · have hw : wrap64 (t2 - 1) = t2 - 1 := by
      unfold ExtOk at hb
      dsimp only at hb
      exact w64b (by omega) (by omega)
    have hw2 : wrap64 (t2 - 1 - x) = t2 - 1 - x := by
      unfold ExtOk at hb
      unfold InE turnC at hi
      simp at hb hi
      exact w64b (by omega) (by omega)
    clear hi hb
    show Calls Tryd.prog 165 #[.agg #[.int .i64 n.x, .int .i64 n.y, .int .i64 n.z, .int .i64 2, p.val], val3 ⟨x, y, z⟩] w _
    go_enter Tryd.func165, Tryd.ntmps165
    rw [hv]
    go_wp2_with fail
    obtain ⟨wa, hwa⟩ : ∃ wa, (w.alloc (.cells #[.int .i64 n.x, .int .i64 n.y, .int .i64 n.z, .int .i64 2, .iface p.ty (.agg p.ag)] 121)).alloc (.cells #[.int .i64 x, .int .i64 y, .int .i64 z] 22) = wa := ⟨_, rfl⟩
    have hBa : Below w.heap.size w wa := by rw [← hwa]; (repeat (first | exact Below.refl _ _ | assumption | refine Below.alloc ?_ (by first | exact Nat.le_refl _ | exact Below.size (by assumption) | omega | (simp <;> omega)) _ | refine Below.setCell ?_ (by first | exact Nat.le_refl _ | exact Below.size (by assumption) | omega | (simp <;> omega)) _ | refine below_drewN ?_ _ | refine Below.drew ?_))
    have hX := CX.new (w.alloc (.cells #[.int .i64 n.x, .int .i64 n.y, .int .i64 n.z, .int .i64 2, .iface p.ty (.agg p.ag)] 121)) ⟨x, y, z⟩
    rw [hwa] at hX
    have HX : Hid (∀ w', Below wa.heap.size wa w' → CX w' (w.heap.size + 1) ⟨x, y, z⟩) := fun w' hb => by
      have := hX.below hb (by rw [← hwa]; simp)
      simpa using this
    have HC : Hid (∀ w', Below wa.heap.size wa w' → w'.cell? ⟨w.heap.size, 3, none⟩ = some (.int .i64 2) ∧ w'.cell? ⟨w.heap.size, 4, none⟩ = some (.iface p.ty (.agg p.ag)) ∧ w'.cell? ⟨w.heap.size + 1, 0, none⟩ = some (.int .i64 x) ∧ w'.cell? ⟨w.heap.size + 1, 1, none⟩ = some (.int .i64 y) ∧ w'.cell? ⟨w.heap.size + 1, 2, none⟩ = some (.int .i64 z) ∧ w'.frozen? ⟨w.heap.size + 1, 0, none⟩ = false ∧ w'.frozen? ⟨w.heap.size + 1, 1, none⟩ = false ∧ w'.frozen? ⟨w.heap.size + 1, 2, none⟩ = false) := by
      intro w' hb
      refine ⟨(hb.cell (by rw [← hwa]; simp; omega)).trans ?_, (hb.cell (by rw [← hwa]; simp; omega)).trans ?_, (HX.out w' hb).c⟩ <;> (rw [← hwa]; simp)
    rw [hwa]
    clear hwa hX
    refine (ext_ret ⟨t1, t2, t3⟩ _).mono ?_
    rintro e w9 ⟨rfl, hb9⟩
    have hB9 := hBa.trans (hb9.mono hBa.size)
    obtain ⟨f0, f1, f2, f3, f4, f5, f6, f7⟩ := HC.out w9 hb9
    have hs8 : w.heap.size < w9.heap.size := World.block_lt_of_cell? w9 _ f0
    have hs9 : w.heap.size + 1 < w9.heap.size := World.block_lt_of_cell? w9 _ f2
    go_wp2_with fail
    refine (HIH.out _).mono ?_
    rintro e w2 ⟨rfl, hb2⟩
    go_wp2
    go_ret
    exact Ret.mk (by rw [HAT.out]; rfl) (below_next (by (repeat (first | exact Below.refl _ _ | assumption | refine Below.alloc ?_ (by first | exact Nat.le_refl _ | exact Below.size (by assumption) | omega | (simp <;> omega)) _ | refine Below.setCell ?_ (by first | exact Nat.le_refl _ | exact Below.size (by assumption) | omega | (simp <;> omega)) _ | refine below_drewN ?_ _ | refine Below.drew ?_))) hb2)
set_option maxRecDepth 100000 in
set_option maxHeartbeats 1000000 in
theorem stack_any (n : T3) (a : Int) (p q : Sh) (hok : (Sh.stack n a p q).Ok) (ih : AtC p) (ih2 : AtC q) : AtC (.stack n a p q) := by
  intro c w hc
  obtain ⟨_, ha, hp, hq, h1, h2⟩ := hok
  obtain ⟨hi, hi2⟩ := in_stack ha h1 h2 hc
  have hb := hp.ext
  have hbq := hq.ext
  have HIH := Lib.hid (fun h w => ih _ w (hi h))
  have HIJ := Lib.hid (fun h w => ih2 _ w (hi2 h))
  have hv := p.val_eq
  have hv2 := q.val_eq
  have hm := p.ma
  have he := p.ea
  have hm2 := q.ma
  have he2 := q.ea
  have hx := p.me
  obtain ⟨t, ht⟩ : ∃ t, p.ext = t := ⟨_, rfl⟩
  rw [ht] at hx hb
  obtain ⟨t1, t2, t3⟩ := t
  have i0 := ix0 t1 t2 t3
  have i1 := ix1 t1 t2 t3
  have i2 := ix2 t1 t2 t3
  have hat : ∀ c, (Sh.stack n a p q).at c = if c.get a < p.ext.get a then p.at c else q.at (c.set a (c.get a - p.ext.get a)) := fun c => rfl
  rw [ht] at HIH HIJ hat hi hi2
  have HAT := Lib.hid hat
  clear ih ih2 h1 h2 hp hq hat hc
  obtain ⟨x, y, z⟩ := c
  have hmx : Tryd.prog.follows .mixedOrders = true := by kernel_rfl
  rcases ha with rfl | rfl | rfl
  · by_cases hlt : x < t1
    · have HF := Lib.hid (HIH.out hlt)
      have HA : Hid ((Sh.stack n 0 p q).at ⟨x, y, z⟩ = p.at ⟨x, y, z⟩) := (HAT.out _).trans (if_pos hlt)
      clear hi hi2 hb hbq HIH HIJ HAT
      show Calls Tryd.prog 164 #[.agg #[.int .i64 n.x, .int .i64 n.y, .int .i64 n.z, .int .i64 0, p.val, q.val], val3 ⟨x, y, z⟩] w _
      go_enter Tryd.func164, Tryd.ntmps164
      rw [hv, hv2]
      go_wp2
      obtain ⟨wa, hwa⟩ : ∃ wa, (w.alloc (.cells #[.int .i64 n.x, .int .i64 n.y, .int .i64 n.z, .int .i64 0, .iface p.ty (.agg p.ag), .iface q.ty (.agg q.ag)] 120)).alloc (.cells #[.int .i64 x, .int .i64 y, .int .i64 z] 22) = wa := ⟨_, rfl⟩
      have hBa : Below w.heap.size w wa := by rw [← hwa]; (repeat (first | exact Below.refl _ _ | assumption | refine Below.alloc ?_ (by first | exact Nat.le_refl _ | exact Below.size (by assumption) | omega | (simp <;> omega)) _ | refine Below.setCell ?_ (by first | exact Nat.le_refl _ | exact Below.size (by assumption) | omega | (simp <;> omega)) _ | refine below_drewN ?_ _ | refine Below.drew ?_))
      have hX := CX.new (w.alloc (.cells #[.int .i64 n.x, .int .i64 n.y, .int .i64 n.z, .int .i64 0, .iface p.ty (.agg p.ag), .iface q.ty (.agg q.ag)] 120)) ⟨x, y, z⟩
      rw [hwa] at hX
      have HX : Hid (∀ w', Below wa.heap.size wa w' → CX w' (w.heap.size + 1) ⟨x, y, z⟩) := fun w' hb => by
        have := hX.below hb (by rw [← hwa]; simp)
        simpa using this
      have HC : Hid (∀ w', Below wa.heap.size wa w' → w'.cell? ⟨w.heap.size, 3, none⟩ = some (.int .i64 0) ∧ w'.cell? ⟨w.heap.size, 4, none⟩ = some (.iface p.ty (.agg p.ag)) ∧ w'.cell? ⟨w.heap.size, 5, none⟩ = some (.iface q.ty (.agg q.ag)) ∧ w'.cell? ⟨w.heap.size + 1, 0, none⟩ = some (.int .i64 x) ∧ w'.cell? ⟨w.heap.size + 1, 1, none⟩ = some (.int .i64 y) ∧ w'.cell? ⟨w.heap.size + 1, 2, none⟩ = some (.int .i64 z) ∧ w'.frozen? ⟨w.heap.size + 1, 0, none⟩ = false ∧ w'.frozen? ⟨w.heap.size + 1, 1, none⟩ = false ∧ w'.frozen? ⟨w.heap.size + 1, 2, none⟩ = false) := by
        intro w' hb
        refine ⟨(hb.cell (by rw [← hwa]; simp; omega)).trans ?_, (hb.cell (by rw [← hwa]; simp; omega)).trans ?_, (hb.cell (by rw [← hwa]; simp; omega)).trans ?_, (HX.out w' hb).c⟩ <;> (rw [← hwa]; simp)
      rw [hwa]
      clear hwa hX
      refine region_qw (fun w' => Below wa.heap.size wa w') hmx (by kernel_rfl) (by (repeat (first | exact Below.refl _ _ | assumption | refine Below.alloc ?_ (by first | exact Nat.le_refl _ | exact Below.size (by assumption) | omega | (simp <;> omega)) _ | refine Below.setCell ?_ (by first | exact Nat.le_refl _ | exact Below.size (by assumption) | omega | (simp <;> omega)) _ | refine below_drewN ?_ _ | refine Below.drew ?_))) ?_
      repeat (first | (refine qw_read rfl (fun w' hC => by obtain ⟨f0, f1, f2, f3, f4, f5, f6, f7, f8⟩ := HC.out w' hC; clear hC; go_simp; rfl) ?_; simp only [Act.put, List.setIfInBounds_toArray, List.set_cons_succ, List.set_cons_zero]) | (refine qw_pass (by first | (simp [Region.wanted, yielded]; done) | (simp [Region.wanted, yielded]; intro h; cases h)) ?_; simp only [Act.put, List.setIfInBounds_toArray, List.set_cons_succ, List.set_cons_zero]))
      (refine qw_call rfl (fun w' hC => by (go_simp; try rfl)) (fun w' hC => (ext_ret ⟨t1, t2, t3⟩ w').mono (fun e w2 hr => ⟨hr.1, hC.trans (hr.2.mono hC.size)⟩)) ?_; simp only [Act.put, List.setIfInBounds_toArray, List.set_cons_succ, List.set_cons_zero])
      repeat (first | (refine qw_read rfl (fun w' hC => by obtain ⟨f0, f1, f2, f3, f4, f5, f6, f7, f8⟩ := HC.out w' hC; clear hC; go_simp; rfl) ?_; simp only [Act.put, List.setIfInBounds_toArray, List.set_cons_succ, List.set_cons_zero]) | (refine qw_pass (by first | (simp [Region.wanted, yielded]; done) | (simp [Region.wanted, yielded]; intro h; cases h)) ?_; simp only [Act.put, List.setIfInBounds_toArray, List.set_cons_succ, List.set_cons_zero]))
      refine qw_nil ?_
      intro w9 hb9
      have hB9 := hBa.trans (hb9.mono hBa.size)
      obtain ⟨f0, f1, f2, f3, f4, f5, f6, f7, f8⟩ := HC.out w9 hb9
      have hs8 : w.heap.size < w9.heap.size := World.block_lt_of_cell? w9 _ f0
      have hs9 : w.heap.size + 1 < w9.heap.size := World.block_lt_of_cell? w9 _ f3
      go_wp2_with fail
      refine (HF.out _).mono ?_
      rintro e w2 ⟨rfl, hb2⟩
      go_wp2
      go_ret
      exact Ret.mk (by rw [HA.out]; rfl) (below_next (by (repeat (first | exact Below.refl _ _ | assumption | refine Below.alloc ?_ (by first | exact Nat.le_refl _ | exact Below.size (by assumption) | omega | (simp <;> omega)) _ | refine Below.setCell ?_ (by first | exact Nat.le_refl _ | exact Below.size (by assumption) | omega | (simp <;> omega)) _ | refine below_drewN ?_ _ | refine Below.drew ?_))) hb2)
    · have HF := Lib.hid (HIJ.out hlt)
      have HA : Hid ((Sh.stack n 0 p q).at ⟨x, y, z⟩ = q.at (T3.set ⟨x, y, z⟩ 0 (x - t1))) := (HAT.out _).trans (if_neg hlt)
      have hw : wrap64 (x - t1) = x - t1 := by
        have h := hi2 hlt
        unfold ExtOk at hb hbq
        unfold InE T3.set T3.get at h
        simp at hb h
        exact w64b (by omega) (by omega)
      clear hi hi2 hb hbq HIH HIJ HAT
      show Calls Tryd.prog 164 #[.agg #[.int .i64 n.x, .int .i64 n.y, .int .i64 n.z, .int .i64 0, p.val, q.val], val3 ⟨x, y, z⟩] w _
      go_enter Tryd.func164, Tryd.ntmps164
      rw [hv, hv2]
      go_wp2
      obtain ⟨wa, hwa⟩ : ∃ wa, (w.alloc (.cells #[.int .i64 n.x, .int .i64 n.y, .int .i64 n.z, .int .i64 0, .iface p.ty (.agg p.ag), .iface q.ty (.agg q.ag)] 120)).alloc (.cells #[.int .i64 x, .int .i64 y, .int .i64 z] 22) = wa := ⟨_, rfl⟩
      have hBa : Below w.heap.size w wa := by rw [← hwa]; (repeat (first | exact Below.refl _ _ | assumption | refine Below.alloc ?_ (by first | exact Nat.le_refl _ | exact Below.size (by assumption) | omega | (simp <;> omega)) _ | refine Below.setCell ?_ (by first | exact Nat.le_refl _ | exact Below.size (by assumption) | omega | (simp <;> omega)) _ | refine below_drewN ?_ _ | refine Below.drew ?_))
      have hX := CX.new (w.alloc (.cells #[.int .i64 n.x, .int .i64 n.y, .int .i64 n.z, .int .i64 0, .iface p.ty (.agg p.ag), .iface q.ty (.agg q.ag)] 120)) ⟨x, y, z⟩
      rw [hwa] at hX
      have HX : Hid (∀ w', Below wa.heap.size wa w' → CX w' (w.heap.size + 1) ⟨x, y, z⟩) := fun w' hb => by
        have := hX.below hb (by rw [← hwa]; simp)
        simpa using this
      have HC : Hid (∀ w', Below wa.heap.size wa w' → w'.cell? ⟨w.heap.size, 3, none⟩ = some (.int .i64 0) ∧ w'.cell? ⟨w.heap.size, 4, none⟩ = some (.iface p.ty (.agg p.ag)) ∧ w'.cell? ⟨w.heap.size, 5, none⟩ = some (.iface q.ty (.agg q.ag)) ∧ w'.cell? ⟨w.heap.size + 1, 0, none⟩ = some (.int .i64 x) ∧ w'.cell? ⟨w.heap.size + 1, 1, none⟩ = some (.int .i64 y) ∧ w'.cell? ⟨w.heap.size + 1, 2, none⟩ = some (.int .i64 z) ∧ w'.frozen? ⟨w.heap.size + 1, 0, none⟩ = false ∧ w'.frozen? ⟨w.heap.size + 1, 1, none⟩ = false ∧ w'.frozen? ⟨w.heap.size + 1, 2, none⟩ = false) := by
        intro w' hb
        refine ⟨(hb.cell (by rw [← hwa]; simp; omega)).trans ?_, (hb.cell (by rw [← hwa]; simp; omega)).trans ?_, (hb.cell (by rw [← hwa]; simp; omega)).trans ?_, (HX.out w' hb).c⟩ <;> (rw [← hwa]; simp)
      rw [hwa]
      clear hwa hX
      refine region_qw (fun w' => Below wa.heap.size wa w') hmx (by kernel_rfl) (by (repeat (first | exact Below.refl _ _ | assumption | refine Below.alloc ?_ (by first | exact Nat.le_refl _ | exact Below.size (by assumption) | omega | (simp <;> omega)) _ | refine Below.setCell ?_ (by first | exact Nat.le_refl _ | exact Below.size (by assumption) | omega | (simp <;> omega)) _ | refine below_drewN ?_ _ | refine Below.drew ?_))) ?_
      repeat (first | (refine qw_read rfl (fun w' hC => by obtain ⟨f0, f1, f2, f3, f4, f5, f6, f7, f8⟩ := HC.out w' hC; clear hC; go_simp; rfl) ?_; simp only [Act.put, List.setIfInBounds_toArray, List.set_cons_succ, List.set_cons_zero]) | (refine qw_pass (by first | (simp [Region.wanted, yielded]; done) | (simp [Region.wanted, yielded]; intro h; cases h)) ?_; simp only [Act.put, List.setIfInBounds_toArray, List.set_cons_succ, List.set_cons_zero]))
      (refine qw_call rfl (fun w' hC => by (go_simp; try rfl)) (fun w' hC => (ext_ret ⟨t1, t2, t3⟩ w').mono (fun e w2 hr => ⟨hr.1, hC.trans (hr.2.mono hC.size)⟩)) ?_; simp only [Act.put, List.setIfInBounds_toArray, List.set_cons_succ, List.set_cons_zero])
      repeat (first | (refine qw_read rfl (fun w' hC => by obtain ⟨f0, f1, f2, f3, f4, f5, f6, f7, f8⟩ := HC.out w' hC; clear hC; go_simp; rfl) ?_; simp only [Act.put, List.setIfInBounds_toArray, List.set_cons_succ, List.set_cons_zero]) | (refine qw_pass (by first | (simp [Region.wanted, yielded]; done) | (simp [Region.wanted, yielded]; intro h; cases h)) ?_; simp only [Act.put, List.setIfInBounds_toArray, List.set_cons_succ, List.set_cons_zero]))
      refine qw_nil ?_
      intro w9 hb9
      have hB9 := hBa.trans (hb9.mono hBa.size)
      obtain ⟨f0, f1, f2, f3, f4, f5, f6, f7, f8⟩ := HC.out w9 hb9
      have hs8 : w.heap.size < w9.heap.size := World.block_lt_of_cell? w9 _ f0
      have hs9 : w.heap.size + 1 < w9.heap.size := World.block_lt_of_cell? w9 _ f3
      go_wp2_with fail
      refine (HF.out _).mono ?_
      rintro e w2 ⟨rfl, hb2⟩
      go_wp2
      go_ret
      exact Ret.mk (by rw [HA.out]; rfl) (below_next (by (repeat (first | exact Below.refl _ _ | assumption | refine Below.alloc ?_ (by first | exact Nat.le_refl _ | exact Below.size (by assumption) | omega | (simp <;> omega)) _ | refine Below.setCell ?_ (by first | exact Nat.le_refl _ | exact Below.size (by assumption) | omega | (simp <;> omega)) _ | refine below_drewN ?_ _ | refine Below.drew ?_))) hb2)
  · by_cases hlt : y < t2
    · have HF := Lib.hid (HIH.out hlt)
      have HA : Hid ((Sh.stack n 1 p q).at ⟨x, y, z⟩ = p.at ⟨x, y, z⟩) := (HAT.out _).trans (if_pos hlt)
      clear hi hi2 hb hbq HIH HIJ HAT
      show Calls Tryd.prog 164 #[.agg #[.int .i64 n.x, .int .i64 n.y, .int .i64 n.z, .int .i64 1, p.val, q.val], val3 ⟨x, y, z⟩] w _
      go_enter Tryd.func164, Tryd.ntmps164
      rw [hv, hv2]
      go_wp2
      obtain ⟨wa, hwa⟩ : ∃ wa, (w.alloc (.cells #[.int .i64 n.x, .int .i64 n.y, .int .i64 n.z, .int .i64 1, .iface p.ty (.agg p.ag), .iface q.ty (.agg q.ag)] 120)).alloc (.cells #[.int .i64 x, .int .i64 y, .int .i64 z] 22) = wa := ⟨_, rfl⟩
      have hBa : Below w.heap.size w wa := by rw [← hwa]; (repeat (first | exact Below.refl _ _ | assumption | refine Below.alloc ?_ (by first | exact Nat.le_refl _ | exact Below.size (by assumption) | omega | (simp <;> omega)) _ | refine Below.setCell ?_ (by first | exact Nat.le_refl _ | exact Below.size (by assumption) | omega | (simp <;> omega)) _ | refine below_drewN ?_ _ | refine Below.drew ?_))
      have hX := CX.new (w.alloc (.cells #[.int .i64 n.x, .int .i64 n.y, .int .i64 n.z, .int .i64 1, .iface p.ty (.agg p.ag), .iface q.ty (.agg q.ag)] 120)) ⟨x, y, z⟩
      rw [hwa] at hX
      have HX : Hid (∀ w', Below wa.heap.size wa w' → CX w' (w.heap.size + 1) ⟨x, y, z⟩) := fun w' hb => by
        have := hX.below hb (by rw [← hwa]; simp)
        simpa using this
      have HC : Hid (∀ w', Below wa.heap.size wa w' → w'.cell? ⟨w.heap.size, 3, none⟩ = some (.int .i64 1) ∧ w'.cell? ⟨w.heap.size, 4, none⟩ = some (.iface p.ty (.agg p.ag)) ∧ w'.cell? ⟨w.heap.size, 5, none⟩ = some (.iface q.ty (.agg q.ag)) ∧ w'.cell? ⟨w.heap.size + 1, 0, none⟩ = some (.int .i64 x) ∧ w'.cell? ⟨w.heap.size + 1, 1, none⟩ = some (.int .i64 y) ∧ w'.cell? ⟨w.heap.size + 1, 2, none⟩ = some (.int .i64 z) ∧ w'.frozen? ⟨w.heap.size + 1, 0, none⟩ = false ∧ w'.frozen? ⟨w.heap.size + 1, 1, none⟩ = false ∧ w'.frozen? ⟨w.heap.size + 1, 2, none⟩ = false) := by
        intro w' hb
        refine ⟨(hb.cell (by rw [← hwa]; simp; omega)).trans ?_, (hb.cell (by rw [← hwa]; simp; omega)).trans ?_, (hb.cell (by rw [← hwa]; simp; omega)).trans ?_, (HX.out w' hb).c⟩ <;> (rw [← hwa]; simp)
      rw [hwa]
      clear hwa hX
      refine region_qw (fun w' => Below wa.heap.size wa w') hmx (by kernel_rfl) (by (repeat (first | exact Below.refl _ _ | assumption | refine Below.alloc ?_ (by first | exact Nat.le_refl _ | exact Below.size (by assumption) | omega | (simp <;> omega)) _ | refine Below.setCell ?_ (by first | exact Nat.le_refl _ | exact Below.size (by assumption) | omega | (simp <;> omega)) _ | refine below_drewN ?_ _ | refine Below.drew ?_))) ?_
      repeat (first | (refine qw_read rfl (fun w' hC => by obtain ⟨f0, f1, f2, f3, f4, f5, f6, f7, f8⟩ := HC.out w' hC; clear hC; go_simp; rfl) ?_; simp only [Act.put, List.setIfInBounds_toArray, List.set_cons_succ, List.set_cons_zero]) | (refine qw_pass (by first | (simp [Region.wanted, yielded]; done) | (simp [Region.wanted, yielded]; intro h; cases h)) ?_; simp only [Act.put, List.setIfInBounds_toArray, List.set_cons_succ, List.set_cons_zero]))
      (refine qw_call rfl (fun w' hC => by (go_simp; try rfl)) (fun w' hC => (ext_ret ⟨t1, t2, t3⟩ w').mono (fun e w2 hr => ⟨hr.1, hC.trans (hr.2.mono hC.size)⟩)) ?_; simp only [Act.put, List.setIfInBounds_toArray, List.set_cons_succ, List.set_cons_zero])
      repeat (first | (refine qw_read rfl (fun w' hC => by obtain ⟨f0, f1, f2, f3, f4, f5, f6, f7, f8⟩ := HC.out w' hC; clear hC; go_simp; rfl) ?_; simp only [Act.put, List.setIfInBounds_toArray, List.set_cons_succ, List.set_cons_zero]) | (refine qw_pass (by first | (simp [Region.wanted, yielded]; done) | (simp [Region.wanted, yielded]; intro h; cases h)) ?_; simp only [Act.put, List.setIfInBounds_toArray, List.set_cons_succ, List.set_cons_zero]))
      refine qw_nil ?_
      intro w9 hb9
      have hB9 := hBa.trans (hb9.mono hBa.size)
      obtain ⟨f0, f1, f2, f3, f4, f5, f6, f7, f8⟩ := HC.out w9 hb9
      have hs8 : w.heap.size < w9.heap.size := World.block_lt_of_cell? w9 _ f0
      have hs9 : w.heap.size + 1 < w9.heap.size := World.block_lt_of_cell? w9 _ f3
      go_wp2_with fail
      refine (HF.out _).mono ?_
      rintro e w2 ⟨rfl, hb2⟩
      go_wp2
      go_ret
      exact Ret.mk (by rw [HA.out]; rfl) (below_next (by (repeat (first | exact Below.refl _ _ | assumption | refine Below.alloc ?_ (by first | exact Nat.le_refl _ | exact Below.size (by assumption) | omega | (simp <;> omega)) _ | refine Below.setCell ?_ (by first | exact Nat.le_refl _ | exact Below.size (by assumption) | omega | (simp <;> omega)) _ | refine below_drewN ?_ _ | refine Below.drew ?_))) hb2)
    · have HF := Lib.hid (HIJ.out hlt)
      have HA : Hid ((Sh.stack n 1 p q).at ⟨x, y, z⟩ = q.at (T3.set ⟨x, y, z⟩ 1 (y - t2))) := (HAT.out _).trans (if_neg hlt)
      have hw : wrap64 (y - t2) = y - t2 := by
        have h := hi2 hlt
        unfold ExtOk at hb hbq
        unfold InE T3.set T3.get at h
        simp at hb h
        exact w64b (by omega) (by omega)
      clear hi hi2 hb hbq HIH HIJ HAT
      show Calls Tryd.prog 164 #[.agg #[.int .i64 n.x, .int .i64 n.y, .int .i64 n.z, .int .i64 1, p.val, q.val], val3 ⟨x, y, z⟩] w _
      go_enter Tryd.func164, Tryd.ntmps164
      rw [hv, hv2]
      go_wp2
      obtain ⟨wa, hwa⟩ : ∃ wa, (w.alloc (.cells #[.int .i64 n.x, .int .i64 n.y, .int .i64 n.z, .int .i64 1, .iface p.ty (.agg p.ag), .iface q.ty (.agg q.ag)] 120)).alloc (.cells #[.int .i64 x, .int .i64 y, .int .i64 z] 22) = wa := ⟨_, rfl⟩
      have hBa : Below w.heap.size w wa := by rw [← hwa]; (repeat (first | exact Below.refl _ _ | assumption | refine Below.alloc ?_ (by first | exact Nat.le_refl _ | exact Below.size (by assumption) | omega | (simp <;> omega)) _ | refine Below.setCell ?_ (by first | exact Nat.le_refl _ | exact Below.size (by assumption) | omega | (simp <;> omega)) _ | refine below_drewN ?_ _ | refine Below.drew ?_))
      have hX := CX.new (w.alloc (.cells #[.int .i64 n.x, .int .i64 n.y, .int .i64 n.z, .int .i64 1, .iface p.ty (.agg p.ag), .iface q.ty (.agg q.ag)] 120)) ⟨x, y, z⟩
      rw [hwa] at hX
      have HX : Hid (∀ w', Below wa.heap.size wa w' → CX w' (w.heap.size + 1) ⟨x, y, z⟩) := fun w' hb => by
        have := hX.below hb (by rw [← hwa]; simp)
        simpa using this
      have HC : Hid (∀ w', Below wa.heap.size wa w' → w'.cell? ⟨w.heap.size, 3, none⟩ = some (.int .i64 1) ∧ w'.cell? ⟨w.heap.size, 4, none⟩ = some (.iface p.ty (.agg p.ag)) ∧ w'.cell? ⟨w.heap.size, 5, none⟩ = some (.iface q.ty (.agg q.ag)) ∧ w'.cell? ⟨w.heap.size + 1, 0, none⟩ = some (.int .i64 x) ∧ w'.cell? ⟨w.heap.size + 1, 1, none⟩ = some (.int .i64 y) ∧ w'.cell? ⟨w.heap.size + 1, 2, none⟩ = some (.int .i64 z) ∧ w'.frozen? ⟨w.heap.size + 1, 0, none⟩ = false ∧ w'.frozen? ⟨w.heap.size + 1, 1, none⟩ = false ∧ w'.frozen? ⟨w.heap.size + 1, 2, none⟩ = false) := by
        intro w' hb
        refine ⟨(hb.cell (by rw [← hwa]; simp; omega)).trans ?_, (hb.cell (by rw [← hwa]; simp; omega)).trans ?_, (hb.cell (by rw [← hwa]; simp; omega)).trans ?_, (HX.out w' hb).c⟩ <;> (rw [← hwa]; simp)
      rw [hwa]
      clear hwa hX
      refine region_qw (fun w' => Below wa.heap.size wa w') hmx (by kernel_rfl) (by (repeat (first | exact Below.refl _ _ | assumption | refine Below.alloc ?_ (by first | exact Nat.le_refl _ | exact Below.size (by assumption) | omega | (simp <;> omega)) _ | refine Below.setCell ?_ (by first | exact Nat.le_refl _ | exact Below.size (by assumption) | omega | (simp <;> omega)) _ | refine below_drewN ?_ _ | refine Below.drew ?_))) ?_
      repeat (first | (refine qw_read rfl (fun w' hC => by obtain ⟨f0, f1, f2, f3, f4, f5, f6, f7, f8⟩ := HC.out w' hC; clear hC; go_simp; rfl) ?_; simp only [Act.put, List.setIfInBounds_toArray, List.set_cons_succ, List.set_cons_zero]) | (refine qw_pass (by first | (simp [Region.wanted, yielded]; done) | (simp [Region.wanted, yielded]; intro h; cases h)) ?_; simp only [Act.put, List.setIfInBounds_toArray, List.set_cons_succ, List.set_cons_zero]))
      (refine qw_call rfl (fun w' hC => by (go_simp; try rfl)) (fun w' hC => (ext_ret ⟨t1, t2, t3⟩ w').mono (fun e w2 hr => ⟨hr.1, hC.trans (hr.2.mono hC.size)⟩)) ?_; simp only [Act.put, List.setIfInBounds_toArray, List.set_cons_succ, List.set_cons_zero])
      repeat (first | (refine qw_read rfl (fun w' hC => by obtain ⟨f0, f1, f2, f3, f4, f5, f6, f7, f8⟩ := HC.out w' hC; clear hC; go_simp; rfl) ?_; simp only [Act.put, List.setIfInBounds_toArray, List.set_cons_succ, List.set_cons_zero]) | (refine qw_pass (by first | (simp [Region.wanted, yielded]; done) | (simp [Region.wanted, yielded]; intro h; cases h)) ?_; simp only [Act.put, List.setIfInBounds_toArray, List.set_cons_succ, List.set_cons_zero]))
      refine qw_nil ?_
      intro w9 hb9
      have hB9 := hBa.trans (hb9.mono hBa.size)
      obtain ⟨f0, f1, f2, f3, f4, f5, f6, f7, f8⟩ := HC.out w9 hb9
      have hs8 : w.heap.size < w9.heap.size := World.block_lt_of_cell? w9 _ f0
      have hs9 : w.heap.size + 1 < w9.heap.size := World.block_lt_of_cell? w9 _ f3
      go_wp2_with fail
      refine (HF.out _).mono ?_
      rintro e w2 ⟨rfl, hb2⟩
      go_wp2
      go_ret
      exact Ret.mk (by rw [HA.out]; rfl) (below_next (by (repeat (first | exact Below.refl _ _ | assumption | refine Below.alloc ?_ (by first | exact Nat.le_refl _ | exact Below.size (by assumption) | omega | (simp <;> omega)) _ | refine Below.setCell ?_ (by first | exact Nat.le_refl _ | exact Below.size (by assumption) | omega | (simp <;> omega)) _ | refine below_drewN ?_ _ | refine Below.drew ?_))) hb2)
  · by_cases hlt : z < t3
    · have HF := Lib.hid (HIH.out hlt)
      have HA : Hid ((Sh.stack n 2 p q).at ⟨x, y, z⟩ = p.at ⟨x, y, z⟩) := (HAT.out _).trans (if_pos hlt)
      clear hi hi2 hb hbq HIH HIJ HAT
      show Calls Tryd.prog 164 #[.agg #[.int .i64 n.x, .int .i64 n.y, .int .i64 n.z, .int .i64 2, p.val, q.val], val3 ⟨x, y, z⟩] w _
      go_enter Tryd.func164, Tryd.ntmps164
      rw [hv, hv2]
      go_wp2
      obtain ⟨wa, hwa⟩ : ∃ wa, (w.alloc (.cells #[.int .i64 n.x, .int .i64 n.y, .int .i64 n.z, .int .i64 2, .iface p.ty (.agg p.ag), .iface q.ty (.agg q.ag)] 120)).alloc (.cells #[.int .i64 x, .int .i64 y, .int .i64 z] 22) = wa := ⟨_, rfl⟩
      have hBa : Below w.heap.size w wa := by rw [← hwa]; (repeat (first | exact Below.refl _ _ | assumption | refine Below.alloc ?_ (by first | exact Nat.le_refl _ | exact Below.size (by assumption) | omega | (simp <;> omega)) _ | refine Below.setCell ?_ (by first | exact Nat.le_refl _ | exact Below.size (by assumption) | omega | (simp <;> omega)) _ | refine below_drewN ?_ _ | refine Below.drew ?_))
      have hX := CX.new (w.alloc (.cells #[.int .i64 n.x, .int .i64 n.y, .int .i64 n.z, .int .i64 2, .iface p.ty (.agg p.ag), .iface q.ty (.agg q.ag)] 120)) ⟨x, y, z⟩
      rw [hwa] at hX
      have HX : Hid (∀ w', Below wa.heap.size wa w' → CX w' (w.heap.size + 1) ⟨x, y, z⟩) := fun w' hb => by
        have := hX.below hb (by rw [← hwa]; simp)
        simpa using this
      have HC : Hid (∀ w', Below wa.heap.size wa w' → w'.cell? ⟨w.heap.size, 3, none⟩ = some (.int .i64 2) ∧ w'.cell? ⟨w.heap.size, 4, none⟩ = some (.iface p.ty (.agg p.ag)) ∧ w'.cell? ⟨w.heap.size, 5, none⟩ = some (.iface q.ty (.agg q.ag)) ∧ w'.cell? ⟨w.heap.size + 1, 0, none⟩ = some (.int .i64 x) ∧ w'.cell? ⟨w.heap.size + 1, 1, none⟩ = some (.int .i64 y) ∧ w'.cell? ⟨w.heap.size + 1, 2, none⟩ = some (.int .i64 z) ∧ w'.frozen? ⟨w.heap.size + 1, 0, none⟩ = false ∧ w'.frozen? ⟨w.heap.size + 1, 1, none⟩ = false ∧ w'.frozen? ⟨w.heap.size + 1, 2, none⟩ = false) := by
        intro w' hb
        refine ⟨(hb.cell (by rw [← hwa]; simp; omega)).trans ?_, (hb.cell (by rw [← hwa]; simp; omega)).trans ?_, (hb.cell (by rw [← hwa]; simp; omega)).trans ?_, (HX.out w' hb).c⟩ <;> (rw [← hwa]; simp)
      rw [hwa]
      clear hwa hX
      refine region_qw (fun w' => Below wa.heap.size wa w') hmx (by kernel_rfl) (by (repeat (first | exact Below.refl _ _ | assumption | refine Below.alloc ?_ (by first | exact Nat.le_refl _ | exact Below.size (by assumption) | omega | (simp <;> omega)) _ | refine Below.setCell ?_ (by first | exact Nat.le_refl _ | exact Below.size (by assumption) | omega | (simp <;> omega)) _ | refine below_drewN ?_ _ | refine Below.drew ?_))) ?_
      repeat (first | (refine qw_read rfl (fun w' hC => by obtain ⟨f0, f1, f2, f3, f4, f5, f6, f7, f8⟩ := HC.out w' hC; clear hC; go_simp; rfl) ?_; simp only [Act.put, List.setIfInBounds_toArray, List.set_cons_succ, List.set_cons_zero]) | (refine qw_pass (by first | (simp [Region.wanted, yielded]; done) | (simp [Region.wanted, yielded]; intro h; cases h)) ?_; simp only [Act.put, List.setIfInBounds_toArray, List.set_cons_succ, List.set_cons_zero]))
      (refine qw_call rfl (fun w' hC => by (go_simp; try rfl)) (fun w' hC => (ext_ret ⟨t1, t2, t3⟩ w').mono (fun e w2 hr => ⟨hr.1, hC.trans (hr.2.mono hC.size)⟩)) ?_; simp only [Act.put, List.setIfInBounds_toArray, List.set_cons_succ, List.set_cons_zero])
      repeat (first | (refine qw_read rfl (fun w' hC => by obtain ⟨f0, f1, f2, f3, f4, f5, f6, f7, f8⟩ := HC.out w' hC; clear hC; go_simp; rfl) ?_; simp only [Act.put, List.setIfInBounds_toArray, List.set_cons_succ, List.set_cons_zero]) | (refine qw_pass (by first | (simp [Region.wanted, yielded]; done) | (simp [Region.wanted, yielded]; intro h; cases h)) ?_; simp only [Act.put, List.setIfInBounds_toArray, List.set_cons_succ, List.set_cons_zero]))
      refine qw_nil ?_
      intro w9 hb9
      have hB9 := hBa.trans (hb9.mono hBa.size)
      obtain ⟨f0, f1, f2, f3, f4, f5, f6, f7, f8⟩ := HC.out w9 hb9
      have hs8 : w.heap.size < w9.heap.size := World.block_lt_of_cell? w9 _ f0
      have hs9 : w.heap.size + 1 < w9.heap.size := World.block_lt_of_cell? w9 _ f3
      go_wp2_with fail
      refine (HF.out _).mono ?_
      rintro e w2 ⟨rfl, hb2⟩
      go_wp2
      go_ret
      exact Ret.mk (by rw [HA.out]; rfl) (below_next (by (repeat (first | exact Below.refl _ _ | assumption | refine Below.alloc ?_ (by first | exact Nat.le_refl _ | exact Below.size (by assumption) | omega | (simp <;> omega)) _ | refine Below.setCell ?_ (by first | exact Nat.le_refl _ | exact Below.size (by assumption) | omega | (simp <;> omega)) _ | refine below_drewN ?_ _ | refine Below.drew ?_))) hb2)
    · have HF := Lib.hid (HIJ.out hlt)
      have HA : Hid ((Sh.stack n 2 p q).at ⟨x, y, z⟩ = q.at (T3.set ⟨x, y, z⟩ 2 (z - t3))) := (HAT.out _).trans (if_neg hlt)
      have hw : wrap64 (z - t3) = z - t3 := by
        have h := hi2 hlt
        unfold ExtOk at hb hbq
        unfold InE T3.set T3.get at h
        simp at hb h
        exact w64b (by omega) (by omega)
      clear hi hi2 hb hbq HIH HIJ HAT
      show Calls Tryd.prog 164 #[.agg #[.int .i64 n.x, .int .i64 n.y, .int .i64 n.z, .int .i64 2, p.val, q.val], val3 ⟨x, y, z⟩] w _
      go_enter Tryd.func164, Tryd.ntmps164
      rw [hv, hv2]
      go_wp2
      obtain ⟨wa, hwa⟩ : ∃ wa, (w.alloc (.cells #[.int .i64 n.x, .int .i64 n.y, .int .i64 n.z, .int .i64 2, .iface p.ty (.agg p.ag), .iface q.ty (.agg q.ag)] 120)).alloc (.cells #[.int .i64 x, .int .i64 y, .int .i64 z] 22) = wa := ⟨_, rfl⟩
      have hBa : Below w.heap.size w wa := by rw [← hwa]; (repeat (first | exact Below.refl _ _ | assumption | refine Below.alloc ?_ (by first | exact Nat.le_refl _ | exact Below.size (by assumption) | omega | (simp <;> omega)) _ | refine Below.setCell ?_ (by first | exact Nat.le_refl _ | exact Below.size (by assumption) | omega | (simp <;> omega)) _ | refine below_drewN ?_ _ | refine Below.drew ?_))
      have hX := CX.new (w.alloc (.cells #[.int .i64 n.x, .int .i64 n.y, .int .i64 n.z, .int .i64 2, .iface p.ty (.agg p.ag), .iface q.ty (.agg q.ag)] 120)) ⟨x, y, z⟩
      rw [hwa] at hX
      have HX : Hid (∀ w', Below wa.heap.size wa w' → CX w' (w.heap.size + 1) ⟨x, y, z⟩) := fun w' hb => by
        have := hX.below hb (by rw [← hwa]; simp)
        simpa using this
      have HC : Hid (∀ w', Below wa.heap.size wa w' → w'.cell? ⟨w.heap.size, 3, none⟩ = some (.int .i64 2) ∧ w'.cell? ⟨w.heap.size, 4, none⟩ = some (.iface p.ty (.agg p.ag)) ∧ w'.cell? ⟨w.heap.size, 5, none⟩ = some (.iface q.ty (.agg q.ag)) ∧ w'.cell? ⟨w.heap.size + 1, 0, none⟩ = some (.int .i64 x) ∧ w'.cell? ⟨w.heap.size + 1, 1, none⟩ = some (.int .i64 y) ∧ w'.cell? ⟨w.heap.size + 1, 2, none⟩ = some (.int .i64 z) ∧ w'.frozen? ⟨w.heap.size + 1, 0, none⟩ = false ∧ w'.frozen? ⟨w.heap.size + 1, 1, none⟩ = false ∧ w'.frozen? ⟨w.heap.size + 1, 2, none⟩ = false) := by
        intro w' hb
        refine ⟨(hb.cell (by rw [← hwa]; simp; omega)).trans ?_, (hb.cell (by rw [← hwa]; simp; omega)).trans ?_, (hb.cell (by rw [← hwa]; simp; omega)).trans ?_, (HX.out w' hb).c⟩ <;> (rw [← hwa]; simp)
      rw [hwa]
      clear hwa hX
      refine region_qw (fun w' => Below wa.heap.size wa w') hmx (by kernel_rfl) (by (repeat (first | exact Below.refl _ _ | assumption | refine Below.alloc ?_ (by first | exact Nat.le_refl _ | exact Below.size (by assumption) | omega | (simp <;> omega)) _ | refine Below.setCell ?_ (by first | exact Nat.le_refl _ | exact Below.size (by assumption) | omega | (simp <;> omega)) _ | refine below_drewN ?_ _ | refine Below.drew ?_))) ?_
      repeat (first | (refine qw_read rfl (fun w' hC => by obtain ⟨f0, f1, f2, f3, f4, f5, f6, f7, f8⟩ := HC.out w' hC; clear hC; go_simp; rfl) ?_; simp only [Act.put, List.setIfInBounds_toArray, List.set_cons_succ, List.set_cons_zero]) | (refine qw_pass (by first | (simp [Region.wanted, yielded]; done) | (simp [Region.wanted, yielded]; intro h; cases h)) ?_; simp only [Act.put, List.setIfInBounds_toArray, List.set_cons_succ, List.set_cons_zero]))
      (refine qw_call rfl (fun w' hC => by (go_simp; try rfl)) (fun w' hC => (ext_ret ⟨t1, t2, t3⟩ w').mono (fun e w2 hr => ⟨hr.1, hC.trans (hr.2.mono hC.size)⟩)) ?_; simp only [Act.put, List.setIfInBounds_toArray, List.set_cons_succ, List.set_cons_zero])
      repeat (first | (refine qw_read rfl (fun w' hC => by obtain ⟨f0, f1, f2, f3, f4, f5, f6, f7, f8⟩ := HC.out w' hC; clear hC; go_simp; rfl) ?_; simp only [Act.put, List.setIfInBounds_toArray, List.set_cons_succ, List.set_cons_zero]) | (refine qw_pass (by first | (simp [Region.wanted, yielded]; done) | (simp [Region.wanted, yielded]; intro h; cases h)) ?_; simp only [Act.put, List.setIfInBounds_toArray, List.set_cons_succ, List.set_cons_zero]))
      refine qw_nil ?_
      intro w9 hb9
      have hB9 := hBa.trans (hb9.mono hBa.size)
      obtain ⟨f0, f1, f2, f3, f4, f5, f6, f7, f8⟩ := HC.out w9 hb9
      have hs8 : w.heap.size < w9.heap.size := World.block_lt_of_cell? w9 _ f0
      have hs9 : w.heap.size + 1 < w9.heap.size := World.block_lt_of_cell? w9 _ f3
      go_wp2_with fail
      refine (HF.out _).mono ?_
      rintro e w2 ⟨rfl, hb2⟩
      go_wp2
      go_ret
      exact Ret.mk (by rw [HA.out]; rfl) (below_next (by (repeat (first | exact Below.refl _ _ | assumption | refine Below.alloc ?_ (by first | exact Nat.le_refl _ | exact Below.size (by assumption) | omega | (simp <;> omega)) _ | refine Below.setCell ?_ (by first | exact Nat.le_refl _ | exact Below.size (by assumption) | omega | (simp <;> omega)) _ | refine below_drewN ?_ _ | refine Below.drew ?_))) hb2)
/-- Every shape's colours. -/
theorem at_any : ∀ s : Sh, s.Ok → AtC s
  | .solid n k, _ => solid_any n k
  | .stack n a p q, h => stack_any n a p q h (at_any p h.2.2.1) (at_any q h.2.2.2.1)
  | .turn n a p, h => turn_any n a p h (at_any p h.2.2.1)
  | .slice n a o p, h => slice_any n a o p h (at_any p h.2.2.1)
  | .flip n a p, h => flip_any n a p h (at_any p h.2.2.1)
  | .rep n a p, h => rep_any n a p h (at_any p h.2.2.1)
end Go.Proofs.YtbcnkcndhgihaaaDoor

/- Blocks: the colour of a cell of a shape: the walks. -/
import Derived.Test.YtbcnkcndhgihaaaDoorSW2
import Derived.RegionTactic
import Derived.Deep.RegionWith
import Derived.Test.YtbcnkcndhgihaaaDoorRoundX
namespace Go.Proofs.YtbcnkcndhgihaaaDoor
open Go.RowKit
set_option linter.unusedSimpArgs false

abbrev AtC (s : Sh) : Prop := ∀ (c : T3) (w : World), InE s.ext c → Calls Tryd.prog s.fa #[.agg s.ag, val3 c] w (Ret (.int .u8 (s.at c)) w)
set_option maxRecDepth 100000 in
theorem solid_any (n : T3) (k : Int) : AtC (.solid n k) := by
  intro c w _
  show Calls Tryd.prog 163 #[.agg #[.int .i64 n.x, .int .i64 n.y, .int .i64 n.z, .int .u8 k], val3 c] w (Ret (.int .u8 k) w)
  go_enter Tryd.func163, Tryd.ntmps163
  go_wp2
  go_ret
  exact Ret.mk rfl (by (repeat (first | exact Below.refl _ _ | assumption | refine Below.alloc ?_ (by first | exact Nat.le_refl _ | exact Below.size (by assumption) | omega | (simp <;> omega)) _ | refine Below.setCell ?_ (by first | exact Nat.le_refl _ | exact Below.size (by assumption) | omega | (simp <;> omega)) _ | refine below_drewN ?_ _ | refine Below.drew ?_)))
theorem below_next {w W w2 : World} (h1 : Below w.heap.size w W) (h2 : Below W.heap.size W w2) : Below w.heap.size w w2 := h1.trans (h2.mono h1.size)
/-- A cell's numbers in a box. -/
def CX (w : World) (k : Nat) (t : T3) : Prop := w.heap[k]? = some (.cells #[.int .i64 t.x, .int .i64 t.y, .int .i64 t.z] 22 (0, 0))
theorem CX.c {w : World} {k : Nat} {t : T3} (h : CX w k t) : w.cell? ⟨k, 0, none⟩ = some (.int .i64 t.x) ∧ w.cell? ⟨k, 1, none⟩ = some (.int .i64 t.y) ∧ w.cell? ⟨k, 2, none⟩ = some (.int .i64 t.z) ∧ w.frozen? ⟨k, 0, none⟩ = false ∧ w.frozen? ⟨k, 1, none⟩ = false ∧ w.frozen? ⟨k, 2, none⟩ = false := by
  unfold CX at h
  exact ⟨by simp [World.cell?, h], by simp [World.cell?, h], by simp [World.cell?, h], by simp [World.frozen?, h], by simp [World.frozen?, h], by simp [World.frozen?, h]⟩
theorem CX.below {w w' : World} {k B : Nat} {t : T3} (h : CX w k t) (hb : Below B w w') (hk : k < B) : CX w' k t := (hb.block k hk).trans h
theorem CX.new (w : World) (t : T3) : CX (w.alloc (.cells #[.int .i64 t.x, .int .i64 t.y, .int .i64 t.z] 22)) w.heap.size t := heap_alloc_new w _
theorem CX.set0 {w : World} {k : Nat} {t : T3} (h : CX w k t) (v : Int) : CX (w.setCell ⟨k, 0, none⟩ (.int .i64 v)) k ⟨v, t.y, t.z⟩ := by
  unfold CX at h ⊢
  simp [World.setCell, Array.getElem?_modify, h]
theorem CX.set1 {w : World} {k : Nat} {t : T3} (h : CX w k t) (v : Int) : CX (w.setCell ⟨k, 1, none⟩ (.int .i64 v)) k ⟨t.x, v, t.z⟩ := by
  unfold CX at h ⊢
  simp [World.setCell, Array.getElem?_modify, h]
theorem CX.set2 {w : World} {k : Nat} {t : T3} (h : CX w k t) (v : Int) : CX (w.setCell ⟨k, 2, none⟩ (.int .i64 v)) k ⟨t.x, t.y, v⟩ := by
  unfold CX at h ⊢
  simp [World.setCell, Array.getElem?_modify, h]
theorem ext_bd {p : Sh} (h : p.Ok) : p.ext.x ≤ 200 ∧ p.ext.y ≤ 200 ∧ p.ext.z ≤ 200 := by
  have := h.ext
  unfold ExtOk at this
  omega
theorem ext_ret (n : T3) (w : World) : Calls Tryd.prog 161 #[val3 n] w (Ret (val3 n) w) := by
  refine (extents_any n w).mono ?_
  rintro e w' ⟨rfl, rfl⟩
  exact Ret.mk rfl (by (repeat (first | exact Below.refl _ _ | assumption | refine Below.alloc ?_ (by first | exact Nat.le_refl _ | exact Below.size (by assumption) | omega | (simp <;> omega)) _ | refine Below.setCell ?_ (by first | exact Nat.le_refl _ | exact Below.size (by assumption) | omega | (simp <;> omega)) _ | refine below_drewN ?_ _ | refine Below.drew ?_)))
set_option maxRecDepth 100000 in
set_option maxHeartbeats 1000000 in
theorem slice_any (n : T3) (a o : Int) (p : Sh) (hok : (Sh.slice n a o p).Ok) (ih : AtC p) : AtC (.slice n a o p) := by
  intro c w hc
  obtain ⟨_, ha, hp, ho, h1, h2⟩ := hok
  have hi := in_slice ha ho h1 h2 hc
  have hb := ext_bd hp
  have HIH := Lib.hid (fun w => ih _ w hi)
  have hv := p.val_eq
  have hm := p.ma
  have he := p.ea
  clear ih h1 h2 hp
  obtain ⟨x, y, z⟩ := c
  rcases ha with rfl | rfl | rfl
  · have hw : wrap64 (x + o) = x + o := by
      unfold InE T3.set T3.get at hi
      simp at hi
      exact w64b (by omega) (by omega)
    clear hi hc hb
    show Calls Tryd.prog 166 #[.agg #[.int .i64 n.x, .int .i64 n.y, .int .i64 n.z, .int .i64 0, .int .i64 o, p.val], val3 ⟨x, y, z⟩] w _
    go_enter Tryd.func166, Tryd.ntmps166
    rw [hv]
    go_wp2
    go_region
    go_wp2_with fail
    refine (HIH.out _).mono ?_
    rintro e w2 ⟨rfl, hb2⟩
    go_wp2
    go_ret
    exact Ret.mk rfl (below_next (by (repeat (first | exact Below.refl _ _ | assumption | refine Below.alloc ?_ (by first | exact Nat.le_refl _ | exact Below.size (by assumption) | omega | (simp <;> omega)) _ | refine Below.setCell ?_ (by first | exact Nat.le_refl _ | exact Below.size (by assumption) | omega | (simp <;> omega)) _ | refine below_drewN ?_ _ | refine Below.drew ?_))) hb2)
  · have hw : wrap64 (y + o) = y + o := by
      unfold InE T3.set T3.get at hi
      simp at hi
      exact w64b (by omega) (by omega)
    clear hi hc hb
    show Calls Tryd.prog 166 #[.agg #[.int .i64 n.x, .int .i64 n.y, .int .i64 n.z, .int .i64 1, .int .i64 o, p.val], val3 ⟨x, y, z⟩] w _
    go_enter Tryd.func166, Tryd.ntmps166
    rw [hv]
    go_wp2
    go_region
    go_wp2_with fail
    refine (HIH.out _).mono ?_
    rintro e w2 ⟨rfl, hb2⟩
    go_wp2
    go_ret
    exact Ret.mk rfl (below_next (by (repeat (first | exact Below.refl _ _ | assumption | refine Below.alloc ?_ (by first | exact Nat.le_refl _ | exact Below.size (by assumption) | omega | (simp <;> omega)) _ | refine Below.setCell ?_ (by first | exact Nat.le_refl _ | exact Below.size (by assumption) | omega | (simp <;> omega)) _ | refine below_drewN ?_ _ | refine Below.drew ?_))) hb2)
  · have hw : wrap64 (z + o) = z + o := by
      unfold InE T3.set T3.get at hi
      simp at hi
      exact w64b (by omega) (by omega)
    clear hi hc hb
    show Calls Tryd.prog 166 #[.agg #[.int .i64 n.x, .int .i64 n.y, .int .i64 n.z, .int .i64 2, .int .i64 o, p.val], val3 ⟨x, y, z⟩] w _
    go_enter Tryd.func166, Tryd.ntmps166
    rw [hv]
    go_wp2
    go_region
    go_wp2_with fail
    refine (HIH.out _).mono ?_
    rintro e w2 ⟨rfl, hb2⟩
    go_wp2
    go_ret
    exact Ret.mk rfl (below_next (by (repeat (first | exact Below.refl _ _ | assumption | refine Below.alloc ?_ (by first | exact Nat.le_refl _ | exact Below.size (by assumption) | omega | (simp <;> omega)) _ | refine Below.setCell ?_ (by first | exact Nat.le_refl _ | exact Below.size (by assumption) | omega | (simp <;> omega)) _ | refine below_drewN ?_ _ | refine Below.drew ?_))) hb2)
set_option maxRecDepth 100000 in
set_option maxHeartbeats 1000000 in
theorem flip_any (n : T3) (a : Int) (p : Sh) (hok : (Sh.flip n a p).Ok) (ih : AtC p) : AtC (.flip n a p) := by
  intro c w hc
  obtain ⟨hn, ha, hp, h1⟩ := hok
  subst h1
  have hi := in_flip ha hc
  have HIH := Lib.hid (fun w => ih _ w hi)
  have hv := p.val_eq
  have hm := p.ma
  have he := p.ea
  obtain ⟨n, hN⟩ : ∃ n, p.ext = n := ⟨_, rfl⟩
  have hc2 : InE n c := hN ▸ hc
  rw [hN] at hn HIH hi ⊢
  clear ih hp hc
  obtain ⟨x, y, z⟩ := c
  obtain ⟨n1, n2, n3⟩ := n
  rcases ha with rfl | rfl | rfl
  · have hw : wrap64 (n1 - 1) = n1 - 1 := by
      unfold ExtOk at hn
      dsimp only at hn
      exact w64b (by omega) (by omega)
    have hw2 : wrap64 (n1 - 1 - x) = n1 - 1 - x := by
      unfold ExtOk at hn
      unfold InE at hc2
      dsimp only at hn hc2
      exact w64b (by omega) (by omega)
    clear hi hn hc2
    show Calls Tryd.prog 162 #[.agg #[.int .i64 n1, .int .i64 n2, .int .i64 n3, .int .i64 0, p.val], val3 ⟨x, y, z⟩] w _
    go_enter Tryd.func162, Tryd.ntmps162
    rw [hv]
    go_wp2
    go_region
    go_wp2_with fail
    refine (HIH.out _).mono ?_
    rintro e w2 ⟨rfl, hb2⟩
    go_wp2
    go_ret
    exact Ret.mk rfl (below_next (by (repeat (first | exact Below.refl _ _ | assumption | refine Below.alloc ?_ (by first | exact Nat.le_refl _ | exact Below.size (by assumption) | omega | (simp <;> omega)) _ | refine Below.setCell ?_ (by first | exact Nat.le_refl _ | exact Below.size (by assumption) | omega | (simp <;> omega)) _ | refine below_drewN ?_ _ | refine Below.drew ?_))) hb2)
  · have hw : wrap64 (n2 - 1) = n2 - 1 := by
      unfold ExtOk at hn
      dsimp only at hn
      exact w64b (by omega) (by omega)
    have hw2 : wrap64 (n2 - 1 - y) = n2 - 1 - y := by
      unfold ExtOk at hn
      unfold InE at hc2
      dsimp only at hn hc2
      exact w64b (by omega) (by omega)
    clear hi hn hc2
    show Calls Tryd.prog 162 #[.agg #[.int .i64 n1, .int .i64 n2, .int .i64 n3, .int .i64 1, p.val], val3 ⟨x, y, z⟩] w _
    go_enter Tryd.func162, Tryd.ntmps162
    rw [hv]
    go_wp2
    go_region
    go_wp2_with fail
    refine (HIH.out _).mono ?_
    rintro e w2 ⟨rfl, hb2⟩
    go_wp2
    go_ret
    exact Ret.mk rfl (below_next (by (repeat (first | exact Below.refl _ _ | assumption | refine Below.alloc ?_ (by first | exact Nat.le_refl _ | exact Below.size (by assumption) | omega | (simp <;> omega)) _ | refine Below.setCell ?_ (by first | exact Nat.le_refl _ | exact Below.size (by assumption) | omega | (simp <;> omega)) _ | refine below_drewN ?_ _ | refine Below.drew ?_))) hb2)
  · have hw : wrap64 (n3 - 1) = n3 - 1 := by
      unfold ExtOk at hn
      dsimp only at hn
      exact w64b (by omega) (by omega)
    have hw2 : wrap64 (n3 - 1 - z) = n3 - 1 - z := by
      unfold ExtOk at hn
      unfold InE at hc2
      dsimp only at hn hc2
      exact w64b (by omega) (by omega)
    clear hi hn hc2
    show Calls Tryd.prog 162 #[.agg #[.int .i64 n1, .int .i64 n2, .int .i64 n3, .int .i64 2, p.val], val3 ⟨x, y, z⟩] w _
    go_enter Tryd.func162, Tryd.ntmps162
    rw [hv]
    go_wp2
    go_region
    go_wp2_with fail
    refine (HIH.out _).mono ?_
    rintro e w2 ⟨rfl, hb2⟩
    go_wp2
    go_ret
    exact Ret.mk rfl (below_next (by (repeat (first | exact Below.refl _ _ | assumption | refine Below.alloc ?_ (by first | exact Nat.le_refl _ | exact Below.size (by assumption) | omega | (simp <;> omega)) _ | refine Below.setCell ?_ (by first | exact Nat.le_refl _ | exact Below.size (by assumption) | omega | (simp <;> omega)) _ | refine below_drewN ?_ _ | refine Below.drew ?_))) hb2)
set_option maxRecDepth 100000 in
set_option maxHeartbeats 1000000 in
theorem rep_any (n : T3) (a : Int) (p : Sh) (hok : (Sh.rep n a p).Ok) (ih : AtC p) : AtC (.rep n a p) := by
  intro c w hc
  obtain ⟨_, ha, hp, k, hk1, hk2, h2⟩ := hok
  have hi := in_rep ha hp.ext h2 hc
  have hb := hp.ext
  have HIH := Lib.hid (fun w => ih _ w hi)
  have hv := p.val_eq
  have hm := p.ma
  have he := p.ea
  have hx := p.me
  obtain ⟨t, ht⟩ : ∃ t, p.ext = t := ⟨_, rfl⟩
  rw [ht] at hx hb
  obtain ⟨t1, t2, t3⟩ := t
  have i0 := ix0 t1 t2 t3
  have i1 := ix1 t1 t2 t3
  have i2 := ix2 t1 t2 t3
  have hat : ∀ c, (Sh.rep n a p).at c = p.at (c.set a (c.get a % p.ext.get a)) := fun c => rfl
  rw [ht] at HIH hat
  have HAT := Lib.hid hat
  clear ih h2 hp hi hat
  obtain ⟨x, y, z⟩ := c
  have hmx : Tryd.prog.follows .mixedOrders = true := by kernel_rfl
  rcases ha with rfl | rfl | rfl
  · have hw : x.tmod t1 = x % t1 := by
      unfold InE at hc
      exact tmod_pos hc.1.1
    have h0 : (t1 == 0) = false := by
      unfold ExtOk at hb
      simp at hb ⊢
      omega
    have hne : t1 ≠ 0 := by simpa using h0
    clear hc hb hk1 hk2
    show Calls Tryd.prog 167 #[.agg #[.int .i64 n.x, .int .i64 n.y, .int .i64 n.z, .int .i64 0, p.val], val3 ⟨x, y, z⟩] w _
    go_enter Tryd.func167, Tryd.ntmps167
    rw [hv]
    go_wp2
    obtain ⟨wa, hwa⟩ : ∃ wa, (w.alloc (.cells #[.int .i64 n.x, .int .i64 n.y, .int .i64 n.z, .int .i64 0, .iface p.ty (.agg p.ag)] 124)).alloc (.cells #[.int .i64 x, .int .i64 y, .int .i64 z] 22) = wa := ⟨_, rfl⟩
    have hBa : Below w.heap.size w wa := by rw [← hwa]; (repeat (first | exact Below.refl _ _ | assumption | refine Below.alloc ?_ (by first | exact Nat.le_refl _ | exact Below.size (by assumption) | omega | (simp <;> omega)) _ | refine Below.setCell ?_ (by first | exact Nat.le_refl _ | exact Below.size (by assumption) | omega | (simp <;> omega)) _ | refine below_drewN ?_ _ | refine Below.drew ?_))
    have hX := CX.new (w.alloc (.cells #[.int .i64 n.x, .int .i64 n.y, .int .i64 n.z, .int .i64 0, .iface p.ty (.agg p.ag)] 124)) ⟨x, y, z⟩
    rw [hwa] at hX
    have HX : Hid (∀ w', Below wa.heap.size wa w' → CX w' (w.heap.size + 1) ⟨x, y, z⟩) := fun w' hb => by
      have := hX.below hb (by rw [← hwa]; simp)
      simpa using this
    have HC : Hid (∀ w', Below wa.heap.size wa w' → w'.cell? ⟨w.heap.size, 3, none⟩ = some (.int .i64 0) ∧ w'.cell? ⟨w.heap.size, 4, none⟩ = some (.iface p.ty (.agg p.ag)) ∧ w'.cell? ⟨w.heap.size + 1, 0, none⟩ = some (.int .i64 x) ∧ w'.cell? ⟨w.heap.size + 1, 1, none⟩ = some (.int .i64 y) ∧ w'.cell? ⟨w.heap.size + 1, 2, none⟩ = some (.int .i64 z) ∧ w'.frozen? ⟨w.heap.size + 1, 0, none⟩ = false ∧ w'.frozen? ⟨w.heap.size + 1, 1, none⟩ = false ∧ w'.frozen? ⟨w.heap.size + 1, 2, none⟩ = false) := by
      intro w' hb
      refine ⟨(hb.cell (by rw [← hwa]; simp; omega)).trans ?_, (hb.cell (by rw [← hwa]; simp; omega)).trans ?_, (HX.out w' hb).c⟩ <;> (rw [← hwa]; simp)
    rw [hwa]
    clear hwa hX
    refine region_tail 12 (fun w' => Below wa.heap.size wa w') hmx (by kernel_rfl) (by (repeat (first | exact Below.refl _ _ | assumption | refine Below.alloc ?_ (by first | exact Nat.le_refl _ | exact Below.size (by assumption) | omega | (simp <;> omega)) _ | refine Below.setCell ?_ (by first | exact Nat.le_refl _ | exact Below.size (by assumption) | omega | (simp <;> omega)) _ | refine below_drewN ?_ _ | refine Below.drew ?_))) ?_
    simp only [List.take_succ_cons, List.take_zero, List.drop_succ_cons, List.drop_zero]
    repeat (first | (refine qw_read rfl (fun w' hC => by obtain ⟨f0, f1, f2, f3, f4, f5, f6, f7⟩ := HC.out w' hC; clear hC; go_simp; rfl) ?_; simp only [Act.put, List.setIfInBounds_toArray, List.set_cons_succ, List.set_cons_zero]) | (refine qw_pass (by first | (simp [Region.wanted, yielded]; done) | (simp [Region.wanted, yielded]; intro h; cases h)) ?_; simp only [Act.put, List.setIfInBounds_toArray, List.set_cons_succ, List.set_cons_zero]))
    (refine qw_call rfl (fun w' hC => by (go_simp; try rfl)) (fun w' hC => (ext_ret ⟨t1, t2, t3⟩ w').mono (fun e w2 hr => ⟨hr.1, hC.trans (hr.2.mono hC.size)⟩)) ?_; simp only [Act.put, List.setIfInBounds_toArray, List.set_cons_succ, List.set_cons_zero])
    repeat (first | (refine qw_read rfl (fun w' hC => by obtain ⟨f0, f1, f2, f3, f4, f5, f6, f7⟩ := HC.out w' hC; clear hC; go_simp; rfl) ?_; simp only [Act.put, List.setIfInBounds_toArray, List.set_cons_succ, List.set_cons_zero]) | (refine qw_pass (by first | (simp [Region.wanted, yielded]; done) | (simp [Region.wanted, yielded]; intro h; cases h)) ?_; simp only [Act.put, List.setIfInBounds_toArray, List.set_cons_succ, List.set_cons_zero]))
    refine qw_nil ?_
    intro w9 hb9
    have hB9 := hBa.trans (hb9.mono hBa.size)
    obtain ⟨f0, f1, f2, f3, f4, f5, f6, f7⟩ := HC.out w9 hb9
    have hs9 : w.heap.size < w9.heap.size := by have := hBa.size; have := hb9.size; have := World.block_lt_of_cell? w9 _ f0; exact this
    clear hw h0 hne
    go_wp2_with fail
    refine (HIH.out _).mono ?_
    rintro e w2 ⟨rfl, hb2⟩
    go_wp2
    go_ret
    exact Ret.mk (by rw [HAT.out]; rfl) (below_next (by (repeat (first | exact Below.refl _ _ | assumption | refine Below.alloc ?_ (by first | exact Nat.le_refl _ | exact Below.size (by assumption) | omega | (simp <;> omega)) _ | refine Below.setCell ?_ (by first | exact Nat.le_refl _ | exact Below.size (by assumption) | omega | (simp <;> omega)) _ | refine below_drewN ?_ _ | refine Below.drew ?_))) hb2)
  · have hw : y.tmod t2 = y % t2 := by
      unfold InE at hc
      exact tmod_pos hc.2.1.1
    have h0 : (t2 == 0) = false := by
      unfold ExtOk at hb
      simp at hb ⊢
      omega
    have hne : t2 ≠ 0 := by simpa using h0
    clear hc hb hk1 hk2
    show Calls Tryd.prog 167 #[.agg #[.int .i64 n.x, .int .i64 n.y, .int .i64 n.z, .int .i64 1, p.val], val3 ⟨x, y, z⟩] w _
    go_enter Tryd.func167, Tryd.ntmps167
    rw [hv]
    go_wp2
    obtain ⟨wa, hwa⟩ : ∃ wa, (w.alloc (.cells #[.int .i64 n.x, .int .i64 n.y, .int .i64 n.z, .int .i64 1, .iface p.ty (.agg p.ag)] 124)).alloc (.cells #[.int .i64 x, .int .i64 y, .int .i64 z] 22) = wa := ⟨_, rfl⟩
    have hBa : Below w.heap.size w wa := by rw [← hwa]; (repeat (first | exact Below.refl _ _ | assumption | refine Below.alloc ?_ (by first | exact Nat.le_refl _ | exact Below.size (by assumption) | omega | (simp <;> omega)) _ | refine Below.setCell ?_ (by first | exact Nat.le_refl _ | exact Below.size (by assumption) | omega | (simp <;> omega)) _ | refine below_drewN ?_ _ | refine Below.drew ?_))
    have hX := CX.new (w.alloc (.cells #[.int .i64 n.x, .int .i64 n.y, .int .i64 n.z, .int .i64 1, .iface p.ty (.agg p.ag)] 124)) ⟨x, y, z⟩
    rw [hwa] at hX
    have HX : Hid (∀ w', Below wa.heap.size wa w' → CX w' (w.heap.size + 1) ⟨x, y, z⟩) := fun w' hb => by
      have := hX.below hb (by rw [← hwa]; simp)
      simpa using this
    have HC : Hid (∀ w', Below wa.heap.size wa w' → w'.cell? ⟨w.heap.size, 3, none⟩ = some (.int .i64 1) ∧ w'.cell? ⟨w.heap.size, 4, none⟩ = some (.iface p.ty (.agg p.ag)) ∧ w'.cell? ⟨w.heap.size + 1, 0, none⟩ = some (.int .i64 x) ∧ w'.cell? ⟨w.heap.size + 1, 1, none⟩ = some (.int .i64 y) ∧ w'.cell? ⟨w.heap.size + 1, 2, none⟩ = some (.int .i64 z) ∧ w'.frozen? ⟨w.heap.size + 1, 0, none⟩ = false ∧ w'.frozen? ⟨w.heap.size + 1, 1, none⟩ = false ∧ w'.frozen? ⟨w.heap.size + 1, 2, none⟩ = false) := by
      intro w' hb
      refine ⟨(hb.cell (by rw [← hwa]; simp; omega)).trans ?_, (hb.cell (by rw [← hwa]; simp; omega)).trans ?_, (HX.out w' hb).c⟩ <;> (rw [← hwa]; simp)
    rw [hwa]
    clear hwa hX
    refine region_tail 12 (fun w' => Below wa.heap.size wa w') hmx (by kernel_rfl) (by (repeat (first | exact Below.refl _ _ | assumption | refine Below.alloc ?_ (by first | exact Nat.le_refl _ | exact Below.size (by assumption) | omega | (simp <;> omega)) _ | refine Below.setCell ?_ (by first | exact Nat.le_refl _ | exact Below.size (by assumption) | omega | (simp <;> omega)) _ | refine below_drewN ?_ _ | refine Below.drew ?_))) ?_
    simp only [List.take_succ_cons, List.take_zero, List.drop_succ_cons, List.drop_zero]
    repeat (first | (refine qw_read rfl (fun w' hC => by obtain ⟨f0, f1, f2, f3, f4, f5, f6, f7⟩ := HC.out w' hC; clear hC; go_simp; rfl) ?_; simp only [Act.put, List.setIfInBounds_toArray, List.set_cons_succ, List.set_cons_zero]) | (refine qw_pass (by first | (simp [Region.wanted, yielded]; done) | (simp [Region.wanted, yielded]; intro h; cases h)) ?_; simp only [Act.put, List.setIfInBounds_toArray, List.set_cons_succ, List.set_cons_zero]))
    (refine qw_call rfl (fun w' hC => by (go_simp; try rfl)) (fun w' hC => (ext_ret ⟨t1, t2, t3⟩ w').mono (fun e w2 hr => ⟨hr.1, hC.trans (hr.2.mono hC.size)⟩)) ?_; simp only [Act.put, List.setIfInBounds_toArray, List.set_cons_succ, List.set_cons_zero])
    repeat (first | (refine qw_read rfl (fun w' hC => by obtain ⟨f0, f1, f2, f3, f4, f5, f6, f7⟩ := HC.out w' hC; clear hC; go_simp; rfl) ?_; simp only [Act.put, List.setIfInBounds_toArray, List.set_cons_succ, List.set_cons_zero]) | (refine qw_pass (by first | (simp [Region.wanted, yielded]; done) | (simp [Region.wanted, yielded]; intro h; cases h)) ?_; simp only [Act.put, List.setIfInBounds_toArray, List.set_cons_succ, List.set_cons_zero]))
    refine qw_nil ?_
    intro w9 hb9
    have hB9 := hBa.trans (hb9.mono hBa.size)
    obtain ⟨f0, f1, f2, f3, f4, f5, f6, f7⟩ := HC.out w9 hb9
    have hs9 : w.heap.size < w9.heap.size := by have := hBa.size; have := hb9.size; have := World.block_lt_of_cell? w9 _ f0; exact this
    clear hw h0 hne
    go_wp2_with fail
    refine (HIH.out _).mono ?_
    rintro e w2 ⟨rfl, hb2⟩
    go_wp2
    go_ret
    exact Ret.mk (by rw [HAT.out]; rfl) (below_next (by (repeat (first | exact Below.refl _ _ | assumption | refine Below.alloc ?_ (by first | exact Nat.le_refl _ | exact Below.size (by assumption) | omega | (simp <;> omega)) _ | refine Below.setCell ?_ (by first | exact Nat.le_refl _ | exact Below.size (by assumption) | omega | (simp <;> omega)) _ | refine below_drewN ?_ _ | refine Below.drew ?_))) hb2)
  · have hw : z.tmod t3 = z % t3 := by
      unfold InE at hc
      exact tmod_pos hc.2.2.1
    have h0 : (t3 == 0) = false := by
      unfold ExtOk at hb
      simp at hb ⊢
      omega
    have hne : t3 ≠ 0 := by simpa using h0
    clear hc hb hk1 hk2
    show Calls Tryd.prog 167 #[.agg #[.int .i64 n.x, .int .i64 n.y, .int .i64 n.z, .int .i64 2, p.val], val3 ⟨x, y, z⟩] w _
    go_enter Tryd.func167, Tryd.ntmps167
    rw [hv]
    go_wp2
    obtain ⟨wa, hwa⟩ : ∃ wa, (w.alloc (.cells #[.int .i64 n.x, .int .i64 n.y, .int .i64 n.z, .int .i64 2, .iface p.ty (.agg p.ag)] 124)).alloc (.cells #[.int .i64 x, .int .i64 y, .int .i64 z] 22) = wa := ⟨_, rfl⟩
    have hBa : Below w.heap.size w wa := by rw [← hwa]; (repeat (first | exact Below.refl _ _ | assumption | refine Below.alloc ?_ (by first | exact Nat.le_refl _ | exact Below.size (by assumption) | omega | (simp <;> omega)) _ | refine Below.setCell ?_ (by first | exact Nat.le_refl _ | exact Below.size (by assumption) | omega | (simp <;> omega)) _ | refine below_drewN ?_ _ | refine Below.drew ?_))
    have hX := CX.new (w.alloc (.cells #[.int .i64 n.x, .int .i64 n.y, .int .i64 n.z, .int .i64 2, .iface p.ty (.agg p.ag)] 124)) ⟨x, y, z⟩
    rw [hwa] at hX
    have HX : Hid (∀ w', Below wa.heap.size wa w' → CX w' (w.heap.size + 1) ⟨x, y, z⟩) := fun w' hb => by
      have := hX.below hb (by rw [← hwa]; simp)
      simpa using this
    have HC : Hid (∀ w', Below wa.heap.size wa w' → w'.cell? ⟨w.heap.size, 3, none⟩ = some (.int .i64 2) ∧ w'.cell? ⟨w.heap.size, 4, none⟩ = some (.iface p.ty (.agg p.ag)) ∧ w'.cell? ⟨w.heap.size + 1, 0, none⟩ = some (.int .i64 x) ∧ w'.cell? ⟨w.heap.size + 1, 1, none⟩ = some (.int .i64 y) ∧ w'.cell? ⟨w.heap.size + 1, 2, none⟩ = some (.int .i64 z) ∧ w'.frozen? ⟨w.heap.size + 1, 0, none⟩ = false ∧ w'.frozen? ⟨w.heap.size + 1, 1, none⟩ = false ∧ w'.frozen? ⟨w.heap.size + 1, 2, none⟩ = false) := by
      intro w' hb
      refine ⟨(hb.cell (by rw [← hwa]; simp; omega)).trans ?_, (hb.cell (by rw [← hwa]; simp; omega)).trans ?_, (HX.out w' hb).c⟩ <;> (rw [← hwa]; simp)
    rw [hwa]
    clear hwa hX
    refine region_tail 12 (fun w' => Below wa.heap.size wa w') hmx (by kernel_rfl) (by (repeat (first | exact Below.refl _ _ | assumption | refine Below.alloc ?_ (by first | exact Nat.le_refl _ | exact Below.size (by assumption) | omega | (simp <;> omega)) _ | refine Below.setCell ?_ (by first | exact Nat.le_refl _ | exact Below.size (by assumption) | omega | (simp <;> omega)) _ | refine below_drewN ?_ _ | refine Below.drew ?_))) ?_
    simp only [List.take_succ_cons, List.take_zero, List.drop_succ_cons, List.drop_zero]
    repeat (first | (refine qw_read rfl (fun w' hC => by obtain ⟨f0, f1, f2, f3, f4, f5, f6, f7⟩ := HC.out w' hC; clear hC; go_simp; rfl) ?_; simp only [Act.put, List.setIfInBounds_toArray, List.set_cons_succ, List.set_cons_zero]) | (refine qw_pass (by first | (simp [Region.wanted, yielded]; done) | (simp [Region.wanted, yielded]; intro h; cases h)) ?_; simp only [Act.put, List.setIfInBounds_toArray, List.set_cons_succ, List.set_cons_zero]))
    (refine qw_call rfl (fun w' hC => by (go_simp; try rfl)) (fun w' hC => (ext_ret ⟨t1, t2, t3⟩ w').mono (fun e w2 hr => ⟨hr.1, hC.trans (hr.2.mono hC.size)⟩)) ?_; simp only [Act.put, List.setIfInBounds_toArray, List.set_cons_succ, List.set_cons_zero])
    repeat (first | (refine qw_read rfl (fun w' hC => by obtain ⟨f0, f1, f2, f3, f4, f5, f6, f7⟩ := HC.out w' hC; clear hC; go_simp; rfl) ?_; simp only [Act.put, List.setIfInBounds_toArray, List.set_cons_succ, List.set_cons_zero]) | (refine qw_pass (by first | (simp [Region.wanted, yielded]; done) | (simp [Region.wanted, yielded]; intro h; cases h)) ?_; simp only [Act.put, List.setIfInBounds_toArray, List.set_cons_succ, List.set_cons_zero]))
    refine qw_nil ?_
    intro w9 hb9
    have hB9 := hBa.trans (hb9.mono hBa.size)
    obtain ⟨f0, f1, f2, f3, f4, f5, f6, f7⟩ := HC.out w9 hb9
    have hs9 : w.heap.size < w9.heap.size := by have := hBa.size; have := hb9.size; have := World.block_lt_of_cell? w9 _ f0; exact this
    clear hw h0 hne
    go_wp2_with fail
    refine (HIH.out _).mono ?_
    rintro e w2 ⟨rfl, hb2⟩
    go_wp2
    go_ret
    exact Ret.mk (by rw [HAT.out]; rfl) (below_next (by (repeat (first | exact Below.refl _ _ | assumption | refine Below.alloc ?_ (by first | exact Nat.le_refl _ | exact Below.size (by assumption) | omega | (simp <;> omega)) _ | refine Below.setCell ?_ (by first | exact Nat.le_refl _ | exact Below.size (by assumption) | omega | (simp <;> omega)) _ | refine below_drewN ?_ _ | refine Below.drew ?_))) hb2)
end Go.Proofs.YtbcnkcndhgihaaaDoor

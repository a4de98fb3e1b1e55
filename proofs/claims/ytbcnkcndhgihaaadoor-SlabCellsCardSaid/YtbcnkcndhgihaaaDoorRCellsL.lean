/- Blocks: the law of the cells: the walk. SlabCells holds for every input: the colour of a cell, a layer, and the cells above each other, for at most 40 blocks and 400 cells. No condition of ours; the listed variables of the library are tied to its text by the card. -/
import Derived.Test.YtbcnkcndhgihaaaDoorCPC
import Derived.Test.YtbcnkcndhgihaaaDoorCards
import Derived.Test.YtbcnkcndhgihaaaDoorOpenS
namespace Go.Proofs.YtbcnkcndhgihaaaDoor
open Go.RowKit
set_option linter.unusedSimpArgs false

theorem layerB_len (b : BT) (a n : Int) : (layerB b a n).1.length ≤ 1000000 := by
  unfold layerB
  cases hf : formS b with
  | error e => simp
  | ok S =>
    have h := (form_ok hf).ext
    unfold ExtOk at h
    dsimp only
    split
    · unfold layerS
      dsimp only
      rw [lay_len]
      unfold axQ T3.get
      split
      · omega
      · split <;> omega
    · simp
set_option maxRecDepth 100000 in
set_option maxHeartbeats 4000000 in
theorem cells_any (b : BT) (c : T3) (a : Int) (hc : -9223372036854775808 ≤ c.x ∧ c.x ≤ 9223372036854775807) (w : World) (hb : OkB w w.heap.size b) : Calls Tryd.prog 4 #[valB b, val3 c, .int .i64 a] w (Ret (.bool true) w) := by
  obtain ⟨x, y, z⟩ := c
  dsimp only at hc
  obtain ⟨wa, hwa⟩ : ∃ wa, (w.alloc (.cells #[.int .i64 b.op, .int .i64 b.ax, .int .u8 b.co, .int .i64 b.n0, .int .i64 b.n1, .int .i64 b.n2, .slice b.A b.ps.length b.cp] 25)).alloc (.cells #[.int .i64 x, .int .i64 y, .int .i64 z] 22) = wa := ⟨_, rfl⟩
  have hBa : Below w.heap.size w wa := by rw [← hwa]; (repeat (first | exact Below.refl _ _ | assumption | refine Below.alloc ?_ (by first | exact Nat.le_refl _ | exact Below.size (by assumption) | omega | (simp <;> omega)) _ | refine Below.setCell ?_ (by first | exact Nat.le_refl _ | exact Below.size (by assumption) | omega | (simp <;> omega)) _ | refine below_drewN ?_ _ | refine Below.drew ?_))
  have hza : wa.heap.size = w.heap.size + 2 := by rw [← hwa]; simp
  have HXA : Hid (∀ W, Below wa.heap.size wa W → BxB W w.heap.size b ∧ CX W (w.heap.size + 1) ⟨x, y, z⟩) := by
    intro W hW
    have h1 := bx_two b w ⟨x, y, z⟩
    have h2 := CX.new (w.alloc (.cells #[.int .i64 b.op, .int .i64 b.ax, .int .u8 b.co, .int .i64 b.n0, .int .i64 b.n1, .int .i64 b.n2, .slice b.A b.ps.length b.cp] 25)) ⟨x, y, z⟩
    rw [hwa] at h2
    rw [World.size_alloc] at h2
    dsimp only at h1
    rw [hwa] at h1
    exact ⟨h1.under hW (by omega), h2.below hW (by omega)⟩
  have HU := Lib.hid (fun W (hB : Below w.heap.size w W) => Bushy_any 40 (by omega) b W (hb.now hB))
  have HG := Lib.hid (fun W (hB : Below w.heap.size w W) => Large_any b 400 W (hb.now hB))
  have H1 := Lib.hid (fun W (hB : Below w.heap.size w W) => At_any b ⟨x, y, z⟩ W (hb.now hB))
  have H2 := Lib.hid (fun W (hB : Below w.heap.size w W) => refAt_any b ⟨x, y, z⟩ W (hb.now hB))
  have H3 := Lib.hid (fun W (hB : Below w.heap.size w W) => Layer_any b a x hc W (hb.now hB))
  have H4 := Lib.hid (fun W (hB : Below w.heap.size w W) => refLayer_any b a x W (hb.now hB))
  have H5 := Lib.hid (fun W (hB : Below w.heap.size w W) => Depth_any b x y W (hb.now hB))
  have H6 := Lib.hid (fun W (hB : Below w.heap.size w W) => refDepth_any b x y W (hb.now hB))
  have HLL := Lib.hid (layerB_len b a x)
  have HSANE := Lib.hid (fun w => sane_any w)
  clear hb
  have HWA := Lib.hid hwa
  clear hwa
  obtain ⟨⟨f0, f1, f2, f3, f4, f5, f6⟩, hX⟩ := HXA.out wa (Below.refl _ _)
  rw [← HWA.out] at f0 f1 f2 f3 f4 f5 f6
  clear hX
  have hlt0 : w.heap.size + 1 < wa.heap.size := by omega
  generalize bushyS b 40 = bu at HU
  generalize largeB b 400 = la at HG
  generalize atB b ⟨x, y, z⟩ = p at H1 H2
  generalize layerB b a x = l at H3 H4 HLL
  generalize depthB b x y = d at H5 H6
  obtain ⟨p1, p2⟩ := p
  obtain ⟨l1, l2⟩ := l
  obtain ⟨d1, d2⟩ := d
  dsimp only at H1 H2 H3 H4 H5 H6 HLL
  cases bu
  · go_enter Tryd.func4, Tryd.ntmps4
    go_wp2_with fail
    rw [HWA.out]
    refine (HU.out _ hBa).mono ?_
    rintro e w2 ⟨rfl, hb2⟩
    clear f0 f1 f2 f3 f4 f5 f6
    obtain ⟨⟨f0, f1, f2, f3, f4, f5, f6⟩, _⟩ := HXA.out w2 hb2
    have hB2 := hBa.trans (hb2.mono hBa.size)
    go_wp2_with fail
    refine (HG.out _ hB2).mono ?_
    rintro e w3 ⟨rfl, hb3⟩
    have hba3 := hb2.trans (hb3.mono hb2.size)
    have hB3 := hBa.trans (hba3.mono hBa.size)
    clear f0 f1 f2 f3 f4 f5 f6
    cases la
    · obtain ⟨⟨f0, f1, f2, f3, f4, f5, f6⟩, hX⟩ := HXA.out w3 hba3
      obtain ⟨x0, x1, x2, _⟩ := hX.c
      go_wp2_with fail
      refine (H1.out _ hB3).mono ?_
      rintro e w4 ⟨rfl, hb4⟩
      have hba4 := hba3.trans (hb4.mono hba3.size)
      have hB4 := hBa.trans (hba4.mono hBa.size)
      clear f0 f1 f2 f3 f4 f5 f6 x0 x1 x2 hX
      obtain ⟨⟨f0, f1, f2, f3, f4, f5, f6⟩, hX⟩ := HXA.out w4 hba4
      obtain ⟨x0, x1, x2, _⟩ := hX.c
      go_wp2_with fail
      refine (H2.out _ hB4).mono ?_
      rintro e w5 ⟨rfl, hb5⟩
      have hba5 := hba4.trans (hb5.mono hba4.size)
      have hB5 := hBa.trans (hba5.mono hBa.size)
      clear f0 f1 f2 f3 f4 f5 f6 x0 x1 x2 hX
      obtain ⟨⟨f0, f1, f2, f3, f4, f5, f6⟩, hX⟩ := HXA.out w5 hba5
      obtain ⟨x0, x1, x2, _⟩ := hX.c
      go_wp2_with fail
      refine (H3.out _ hB5).mono ?_
      rintro e w6 ⟨A1, c1, rfl, hr1, hc1, hb6⟩
      have HR1 := Lib.hid hr1
      have hba6 := hba5.trans (hb6.mono hba5.size)
      have hB6 := hBa.trans (hba6.mono hBa.size)
      clear f0 f1 f2 f3 f4 f5 f6 x0 x1 x2 hX hr1
      obtain ⟨⟨f0, f1, f2, f3, f4, f5, f6⟩, hX⟩ := HXA.out w6 hba6
      obtain ⟨x0, x1, x2, _⟩ := hX.c
      go_wp2_with fail
      refine (H4.out _ hB6).mono ?_
      rintro e w7 ⟨A2, c2, rfl, hr2, hc2, hb7⟩
      have HR2 := Lib.hid hr2
      have hba7 := hba6.trans (hb7.mono hba6.size)
      have hB7 := hBa.trans (hba7.mono hBa.size)
      clear f0 f1 f2 f3 f4 f5 f6 x0 x1 x2 hX hr2
      obtain ⟨⟨f0, f1, f2, f3, f4, f5, f6⟩, hX⟩ := HXA.out w7 hba7
      obtain ⟨x0, x1, x2, _⟩ := hX.c
      go_wp2_with fail
      refine (H5.out _ hB7).mono ?_
      rintro e w8 ⟨rfl, hb8⟩
      have hba8 := hba7.trans (hb8.mono hba7.size)
      have hB8 := hBa.trans (hba8.mono hBa.size)
      clear f0 f1 f2 f3 f4 f5 f6 x0 x1 x2 hX
      obtain ⟨⟨f0, f1, f2, f3, f4, f5, f6⟩, hX⟩ := HXA.out w8 hba8
      obtain ⟨x0, x1, x2, _⟩ := hX.c
      go_wp2_with fail
      refine (H6.out _ hB8).mono ?_
      rintro e w9 ⟨rfl, hb9⟩
      have hba9 := hba8.trans (hb9.mono hba8.size)
      have hB9 := hBa.trans (hba9.mono hBa.size)
      have HSM := Lib.hid (same_any A1 A2 c1 c2 l1 w9 (HR1.out.now (hb7.trans ((hb8.trans (hb9.mono hb8.size)).mono hb7.size))) (HR2.out.now (hb8.trans (hb9.mono hb8.size))) HLL.out)
      clear f0 f1 f2 f3 f4 f5 f6 x0 x1 x2 hX
      have heq : ∀ W, (binOp .eql 9 (.string d1) (.string d1)).run Tryd.prog W = .ok (.bool true) W := fun W => by
        have u3 := Tryd.underlying9
        go_simp
      go_wp2_with fail
      refine HSM.out.mono ?_
      rintro e w10 ⟨rfl, hb10⟩
      have hB10 := hB9.trans (hb10.mono hB9.size)
      go_wp2_with fail
      refine (HSANE.out _).mono ?_
      rintro e w11 ⟨rfl, hb11⟩
      have hB11 := hB10.trans (hb11.mono hB10.size)
      go_wp2
      go_ret
      exact Ret.mk rfl hB11
    · go_wp2_with fail
      refine (HSANE.out _).mono ?_
      rintro e w4 ⟨rfl, hb4⟩
      have hB4 := hB3.trans (hb4.mono hB3.size)
      go_wp2
      go_ret
      exact Ret.mk rfl hB4
  · go_enter Tryd.func4, Tryd.ntmps4
    go_wp2_with fail
    rw [HWA.out]
    refine (HU.out _ hBa).mono ?_
    rintro e w2 ⟨rfl, hb2⟩
    have hB2 := hBa.trans (hb2.mono hBa.size)
    clear f0 f1 f2 f3 f4 f5 f6
    go_wp2_with fail
    refine (HSANE.out _).mono ?_
    rintro e w4 ⟨rfl, hb4⟩
    have hB4 := hB2.trans (hb4.mono hB2.size)
    go_wp2
    go_ret
    exact Ret.mk rfl hB4
end Go.Proofs.YtbcnkcndhgihaaaDoor

namespace Go.Proofs.YtbcnkcndhgihaaaDoor
open Go.ChangeShapes Go.WideShapes Go.ChangeAt Go.RowKit Go.Deep

set_option maxHeartbeats 800000 in
set_option maxRecDepth 100000 in
theorem slabCells_lifted (os : Os) (started : os.Started) (H : Type) (enc : TypeId × Value → H) :
    ReturnsInHanded {} Tryd.checked os 4 .any (fun w args => (Rows.slabCellsSpec.pre enc Tryd.prog Tryd.f4 Rows.slabCellsRow.domain false w args ∧ laidMetH Tryd.prog laid8 w) ∧ sizedMet enc Tryd.prog Tryd.f4 (OpenSpec.ofChange Rows.slabCellsSpec) false w args)
      (Rows.slabCellsSpec.post enc Tryd.prog Tryd.f4 false true false false) := by
  refine returnsInHanded_of_change_and (C := Tryd.checked) (X := fun w _ => laidMetH Tryd.prog laid8 w) (fun _ _ _ hh h => h.of_heap hh) Tryd.own started (by kernel_rfl) Tryd.func4
    (ChangeSpec.witness_shaped (enc := enc) (C := Tryd.checked) (os := os) (X := fun w _ => laidMetH Tryd.prog laid8 w) false (World.laidAll Tryd.prog os laid8) #[.agg #[.int .i64 0, .int .i64 0, .int .u8 0, .int .i64 0, .int .i64 0, .int .i64 0, .slice none 0 0], .agg #[.int .i64 0, .int .i64 0, .int .i64 0], .int .i64 0] 8 (World.laidAll_os _ _ _)
      (World.shaped_of_ZipB (by kernel_rfl) (by kernel_rfl)) (by kernel_rfl) (by kernel_rfl) (by kernel_rfl)
      (by rw [MakeChecks.laidMetH_plain _ _ _ (by kernel_rfl)]; exact laidMet_laidAll _ (by kernel_rfl) (by kernel_rfl))) ?_
  intro W base args ds gs before hval0 hW _ _ _ _
  have hval : ∀ (j : Nat) t v, Tryd.f4.params[j]? = some t → args[j]? = some v → Value.okWide Tryd.prog W .any base t v := hval0
  have hW' := hW
  obtain ⟨p, q, hA0, hV, rfl, _, _⟩ := hW
  have hA : DataW.TrodAll enc Tryd.prog W 0 (fun _ => true) true Tryd.f4.params.toList args.toList ds p := hA0
  rw [Tryd.params4] at hA hval
  obtain ⟨v0, v1, v2, d0, d1, d2, p0, p1, p2, rfl, rfl, rfl, h0, h1, h2⟩ := trodAll_three hA
  obtain ⟨rfl, rfl⟩ := trodVars_none hV
  have hlt : ∀ y ∈ p0 ++ (p1 ++ p2), y.block < W.heap.size := fun y hy => by simpa using hW'.lt y (by simpa using hy)
  have k0 : ∀ W' : World, Below W.heap.size W W' → DataW.Trod enc Tryd.prog W' 0 (fun b => decide (b < W.heap.size)) true 25 v0 d0 p0 :=
    fun W' hn => Below.trod Tryd.laidOut (by kernel_rfl) (of_decide_eq_true (by kernel_rfl)) h0 hn (fun y hy => hlt y (by simp [hy]))
  have k1 : ∀ W' : World, Below W.heap.size W W' → DataW.Trod enc Tryd.prog W' 0 (fun b => decide (b < W.heap.size)) true 22 v1 d1 p1 :=
    fun W' hn => Below.trod Tryd.laidOut (by kernel_rfl) (of_decide_eq_true (by kernel_rfl)) h1 hn (fun y hy => hlt y (by simp [hy]))
  have k2 : ∀ W' : World, Below W.heap.size W W' → DataW.Trod enc Tryd.prog W' 0 (fun b => decide (b < W.heap.size)) true 3 v2 d2 p2 :=
    fun W' hn => Below.trod Tryd.laidOut (by kernel_rfl) (of_decide_eq_true (by kernel_rfl)) h2 hn (fun y hy => hlt y (by simp [hy]))
  obtain ⟨bl0, rfl, hbl0⟩ := open_block (hval 0 25 v0 rfl rfl) h0
  obtain ⟨x1, y1, z1, rfl, hx1⟩ := open_cell (hval 1 22 v1 rfl rfl) h1
  obtain ⟨n2, rfl, rfl, rfl, hn2⟩ := open_int Tryd.underlying3 (hval 2 3 v2 rfl rfl) h2
  clear hA0 hval0
  refine (cells_any bl0 ⟨x1, y1, z1⟩ n2 hx1 W hbl0).mono fun e W' ⟨he, hn⟩ => ?_
  subst he
  exact ⟨_, rfl, _, _, _, [], _, [], hW', trodAll_mk1 (shut_bool Tryd.underlying4 true), trodAll_mk3 (k0 _ hn) (k1 _ hn) (k2 _ hn), rfl, hn.frame _, fun h => by cases h⟩

theorem slabCells_row : Rows.SlabCellsSaid :=
  OpenClaim.holds_of_wide 4 Tryd.f4 rfl rfl rfl rfl rfl rfl rfl ⟨rfl, rfl, rfl, rfl, rfl⟩ rfl rfl rfl rfl rfl (by kernel_rfl) Tryd.func4 (by kernel_rfl)
    (of_decide_eq_true (by kernel_rfl)) (by unfold Func.isWrapper; rw [if_neg (of_decide_eq_false (by kernel_rfl))]; exact ⟨rfl, rfl⟩)
    (fun os started H enc _ => slabCells_lifted os started H enc)
/-- The tied card. -/
theorem slabCells_holds : Rows.SlabCellsCardSaid :=
  Claim7.holds_tied_plain_at .later [] [.data, .data, .data, .data, .sentinel, .sentinel, .pinned] true (true, Rows.slabCellsCard.stood.harness.2) true slabCells_row (fun _ h => by cases h) (by kernel_rfl) (fun _ h => by cases h) slabCells_row_tie rfl ⟨rfl, rfl⟩ (by kernel_rfl) rfl
    (fun f fn hf hfn => by
      obtain rfl : f = 4 := Option.some.inj ((show Tryd.prog.funcNamed Tryd.f4.name = some 4 by kernel_rfl).symm.trans hf) |>.symm
      obtain rfl : fn = Tryd.f4 := (Option.some.inj (Tryd.func4.symm.trans hfn)).symm
      exact ⟨by kernel_rfl, fun j t ht => by
        rw [Tryd.params4] at ht
        have hm : t ∈ [25, 22, 3] := by simpa using Array.mem_of_getElem? ht
        have hall : ([25, 22, 3].all fun u => !Tryd.prog.wantsStandIn u) = true := by kernel_rfl
        exact (show Tryd.prog.wantsStandIn t = false by simpa using List.all_eq_true.1 hall t hm)⟩)
    (by kernel_rfl)
end Go.Proofs.YtbcnkcndhgihaaaDoor

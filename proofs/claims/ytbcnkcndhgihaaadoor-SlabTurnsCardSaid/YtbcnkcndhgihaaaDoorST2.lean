/- Blocks: the law of the turns: the walk. Printed by genst2.py. -/
import Derived.Test.YtbcnkcndhgihaaaDoorST1
import Derived.Test.YtbcnkcndhgihaaaDoorSLG
import Derived.Test.YtbcnkcndhgihaaaDoorSane
import Derived.Deep.RegionHeld3
namespace Go.Proofs.YtbcnkcndhgihaaaDoor
open Go.RowKit
set_option linter.unusedSimpArgs false

theorem held_all {W : World} {k j : Nat} {b o : BT} (h : BxB W k b ∧ BxB W j o) : W.cell? ⟨k, 0, none⟩ = some (.int .i64 b.op) ∧ W.cell? ⟨k, 1, none⟩ = some (.int .i64 b.ax) ∧ W.cell? ⟨k, 2, none⟩ = some (.int .u8 b.co) ∧ W.cell? ⟨k, 3, none⟩ = some (.int .i64 b.n0) ∧ W.cell? ⟨k, 4, none⟩ = some (.int .i64 b.n1) ∧ W.cell? ⟨k, 5, none⟩ = some (.int .i64 b.n2) ∧ W.cell? ⟨k, 6, none⟩ = some (.slice b.A b.ps.length b.cp) ∧ W.cell? ⟨j, 0, none⟩ = some (.int .i64 o.op) ∧ W.cell? ⟨j, 1, none⟩ = some (.int .i64 o.ax) ∧ W.cell? ⟨j, 2, none⟩ = some (.int .u8 o.co) ∧ W.cell? ⟨j, 3, none⟩ = some (.int .i64 o.n0) ∧ W.cell? ⟨j, 4, none⟩ = some (.int .i64 o.n1) ∧ W.cell? ⟨j, 5, none⟩ = some (.int .i64 o.n2) ∧ W.cell? ⟨j, 6, none⟩ = some (.slice o.A o.ps.length o.cp) := by
  obtain ⟨⟨f0, f1, f2, f3, f4, f5, f6⟩, g0, g1, g2, g3, g4, g5, g6⟩ := h
  exact ⟨f0, f1, f2, f3, f4, f5, f6, g0, g1, g2, g3, g4, g5, g6⟩
/-- What the law says of its turns. -/
structure TurnsC (b o : BT) (ax : Int) (w0 : World) (B1 B2 : Nat) : Prop where
  hax : 0 ≤ ax ∧ ax ≤ 2
  hw : Wrp 3 ax 1 b o
  hb : ∀ W, Below w0.heap.size w0 W → OkB W W.heap.size b ∧ OkB W W.heap.size o
theorem TurnsC.t1 {b o : BT} {ax : Int} {w0 : World} {B1 B2 : Nat} (h : TurnsC b o ax w0 B1 B2) (W : World) (hB : Below w0.heap.size w0 W) : Calls Tryd.prog 31 #[valB b, .int .i64 3, .int .i64 ax, .int .i64 4] W (WrpR 3 ax 4 b W) :=
  turned_any b 3 ax 4 (by omega) (by omega) h.hax W (h.hb W hB).1
theorem TurnsC.t2 {b o : BT} {ax : Int} {w0 : World} {B1 B2 : Nat} (h : TurnsC b o ax w0 B1 B2) (W : World) (hB : Below w0.heap.size w0 W) : Calls Tryd.prog 31 #[valB b, .int .i64 5, .int .i64 ax, .int .i64 2] W (WrpR 5 ax 2 b W) :=
  turned_any b 5 ax 2 (by omega) (by omega) h.hax W (h.hb W hB).1
theorem TurnsC.t3 {b o : BT} {ax : Int} {w0 : World} {B1 B2 : Nat} (h : TurnsC b o ax w0 B1 B2) (W : World) (hB : Below w0.heap.size w0 W) : Calls Tryd.prog 31 #[valB o, .int .i64 3, .int .i64 ax, .int .i64 3] W (WrpR 3 ax 3 o W) :=
  turned_any o 3 ax 3 (by omega) (by omega) h.hax W (h.hb W hB).2
theorem TurnsC.e1 {b o q : BT} {ax : Int} {w0 : World} {B1 B2 : Nat} (h : TurnsC b o ax w0 B1 B2) (hq : Wrp 3 ax 4 b q) (W : World) (hB : Below w0.heap.size w0 W) (hk : OkB W W.heap.size q) : Calls Tryd.prog 33 #[valB q, valB b] W (Ret (.bool true) W) := by
  have := equal_any q b W hk (h.hb W hB).1
  rwa [wrp_turn4 (by have := h.hax; unfold Ax; omega) hq] at this
theorem TurnsC.e2 {b o q : BT} {ax : Int} {w0 : World} {B1 B2 : Nat} (h : TurnsC b o ax w0 B1 B2) (hq : Wrp 5 ax 2 b q) (W : World) (hB : Below w0.heap.size w0 W) (hk : OkB W W.heap.size q) : Calls Tryd.prog 33 #[valB q, valB b] W (Ret (.bool true) W) := by
  have := equal_any q b W hk (h.hb W hB).1
  rwa [wrp_flip2 (by have := h.hax; unfold Ax; omega) hq] at this
theorem TurnsC.e3 {b o q : BT} {ax : Int} {w0 : World} {B1 B2 : Nat} (h : TurnsC b o ax w0 B1 B2) (hq : Wrp 3 ax 3 o q) (W : World) (hB : Below w0.heap.size w0 W) (hk : OkB W W.heap.size q) : Calls Tryd.prog 33 #[valB q, valB b] W (Ret (.bool true) W) := by
  have := equal_any q b W hk (h.hb W hB).1
  rwa [wrp_turn4 (by have := h.hax; unfold Ax; omega) (wrp_add h.hw hq)] at this
set_option maxRecDepth 100000 in
set_option maxHeartbeats 16000000 in
theorem turns_any (b : BT) (ax : Int) (w : World) (hb : OkB w w.heap.size b) : Calls Tryd.prog 6 #[valB b, .int .i64 ax] w (Ret (.bool true) w) := by
  have hmx : Tryd.prog.follows .mixedOrders = true := by kernel_rfl
  obtain ⟨wa, hwa⟩ : ∃ wa, w.alloc (.cells #[.int .i64 b.op, .int .i64 b.ax, .int .u8 b.co, .int .i64 b.n0, .int .i64 b.n1, .int .i64 b.n2, .slice b.A b.ps.length b.cp] 25) = wa := ⟨_, rfl⟩
  have hBa : Below w.heap.size w wa := by rw [← hwa]; (repeat (first | exact Below.refl _ _ | assumption | refine Below.alloc ?_ (by first | exact Nat.le_refl _ | exact Below.size (by assumption) | omega | (simp <;> omega)) _ | refine Below.setCell ?_ (by first | exact Nat.le_refl _ | exact Below.size (by assumption) | omega | (simp <;> omega)) _ | refine below_drewN ?_ _ | refine Below.drew ?_))
  have hza : wa.heap.size = w.heap.size + 1 := by rw [← hwa]; simp
  have hp := BX.new w b
  rw [hwa] at hp
  have HXA : Hid (∀ W, Below wa.heap.size wa W → BX W w.heap.size b) := fun W h => hp.below h (by omega)
  have HU := Lib.hid (fun W (hB : Below w.heap.size w W) => Bushy_any 30 (by omega) b W (hb.now hB))
  have HG := Lib.hid (fun W (hB : Below w.heap.size w W) => Large_any b 300 W (hb.now hB))
  have HCH := Lib.hid (fun W (hB : Below w.heap.size w W) => refCheck_any b W (hb.now hB))
  have H1 := Lib.hid (fun W (hB : Below w.heap.size w W) => Volumes_any b W (hb.now hB))
  have HOB := Lib.hid (fun W (hB : Below w.heap.size w W) => hb.now hB)
  have HSANE := Lib.hid (fun w => sane_any w)
  have HWA := Lib.hid hwa
  clear hb hwa hp
  obtain ⟨f0, f1, f2, f3, f4, f5, f6⟩ := (HXA.out wa (Below.refl _ _)).c
  generalize bushyS b 30 = u1 at HU
  generalize largeB b 300 = l1 at HG
  go_enter Tryd.func6, Tryd.ntmps6
  go_wp2_with fail
  rw [HWA.out]
  refine (HU.out _ hBa).mono ?_
  rintro e w1 ⟨rfl, hb1⟩
  have hba1 := hb1
  have hB1 := hBa.trans (hba1.mono hBa.size)
  clear f0 f1 f2 f3 f4 f5 f6
  cases u1
  rotate_left
  · go_wp2_with fail
    refine (HSANE.out _).mono ?_
    rintro e ws ⟨rfl, hbs⟩
    have hBs := hB1.trans (hbs.mono hB1.size)
    go_wp2
    go_ret
    exact Ret.mk rfl hBs
  obtain ⟨f0, f1, f2, f3, f4, f5, f6⟩ := (HXA.out w1 hba1).c
  go_wp2_with fail
  refine (HG.out _ hB1).mono ?_
  rintro e w2 ⟨rfl, hb2⟩
  have hba2 := hba1.trans (hb2.mono hba1.size)
  have hB2 := hBa.trans (hba2.mono hBa.size)
  clear f0 f1 f2 f3 f4 f5 f6
  cases l1
  rotate_left
  · go_wp2_with fail
    refine (HSANE.out _).mono ?_
    rintro e ws ⟨rfl, hbs⟩
    have hBs := hB2.trans (hbs.mono hB2.size)
    go_wp2
    go_ret
    exact Ret.mk rfl hBs
  by_cases hx0 : ax < 0
  · have d1 : decide (ax < 0) = true := decide_eq_true hx0
    clear hx0
    go_wp2_with fail
    refine (HSANE.out _).mono ?_
    rintro e ws ⟨rfl, hbs⟩
    have hBs := hB2.trans (hbs.mono hB2.size)
    go_wp2
    go_ret
    exact Ret.mk rfl hBs
  by_cases hx2 : 2 < ax
  · have d1 : decide (ax < 0) = false := decide_eq_false hx0
    have d2 : decide (2 < ax) = true := decide_eq_true hx2
    clear hx0 hx2
    go_wp2_with fail
    refine (HSANE.out _).mono ?_
    rintro e ws ⟨rfl, hbs⟩
    have hBs := hB2.trans (hbs.mono hB2.size)
    go_wp2
    go_ret
    exact Ret.mk rfl hBs
  have d1 : decide (ax < 0) = false := decide_eq_false hx0
  have d2 : decide (2 < ax) = false := decide_eq_false hx2
  have HAX : Hid (0 ≤ ax ∧ ax ≤ 2) := ⟨by omega, by omega⟩
  clear hx0 hx2
  obtain ⟨f0, f1, f2, f3, f4, f5, f6⟩ := (HXA.out w2 hba2).c
  go_wp2_with fail
  refine (HCH.out _ hB2).mono ?_
  rintro e w3 ⟨rfl, hb3⟩
  have hba3 := hba2.trans (hb3.mono hba2.size)
  have hB3 := hBa.trans (hba3.mono hBa.size)
  clear f0 f1 f2 f3 f4 f5 f6 d1 d2
  cases hf : formS b with
  | error er =>
    have hx := form_err hf
    rw [check_err hf]
    have hne : (er != 0) = true := by simp; omega
    clear hf hx
    go_wp2_with fail
    refine (HSANE.out _).mono ?_
    rintro e ws ⟨rfl, hbs⟩
    have hBs := hB3.trans (hbs.mono hB3.size)
    go_wp2
    go_ret
    exact Ret.mk rfl hBs
  | ok S =>
    rw [check_ok hf]
    have hV : volB b = (fun j => (vol S j : Int), 0) := by unfold volB; rw [hf]
    rw [hV] at H1
    dsimp only at H1
    have HFB := Lib.hid hf
    clear hf hV
    obtain ⟨f0, f1, f2, f3, f4, f5, f6⟩ := (HXA.out w3 hba3).c
    go_wp2_with fail
    refine (turned_any b 3 ax 1 (by omega) (by omega) HAX.out _ (HOB.out _ hB3)).mono ?_
    rintro e w4 ⟨hb4, o, rfl, hw, hok⟩
    have HW := Lib.hid hw
    have hba4 := hba3.trans (hb4.mono hba3.size)
    have hB4 := hBa.trans (hba4.mono hBa.size)
    clear f0 f1 f2 f3 f4 f5 f6 hw
    have hl4 : Below w4.heap.size w4 (w4.alloc (.cells #[.int .i64 o.op, .int .i64 o.ax, .int .u8 o.co, .int .i64 o.n0, .int .i64 o.n1, .int .i64 o.n2, .slice o.A o.ps.length o.cp] 25)) := by (repeat (first | exact Below.refl _ _ | assumption | refine Below.alloc ?_ (by first | exact Nat.le_refl _ | exact Below.size (by assumption) | omega | (simp <;> omega)) _ | refine Below.setCell ?_ (by first | exact Nat.le_refl _ | exact Below.size (by assumption) | omega | (simp <;> omega)) _ | refine below_drewN ?_ _ | refine Below.drew ?_))
    have HOX : Hid (BX (w4.alloc (.cells #[.int .i64 o.op, .int .i64 o.ax, .int .u8 o.co, .int .i64 o.n0, .int .i64 o.n1, .int .i64 o.n2, .slice o.A o.ps.length o.cp] 25)) w4.heap.size o) := BX.new w4 o
    have HOO : Hid (OkB (w4.alloc (.cells #[.int .i64 o.op, .int .i64 o.ax, .int .u8 o.co, .int .i64 o.n0, .int .i64 o.n1, .int .i64 o.n2, .slice o.A o.ps.length o.cp] 25)) (w4.alloc (.cells #[.int .i64 o.op, .int .i64 o.ax, .int .u8 o.co, .int .i64 o.n0, .int .i64 o.n1, .int .i64 o.n2, .slice o.A o.ps.length o.cp] 25)).heap.size o) := hok.now hl4
    have hba5 := hba4.trans (hl4.mono hba4.size)
    have hB5 := hBa.trans (hba5.mono hBa.size)
    have hz5 : (w4.alloc (.cells #[.int .i64 o.op, .int .i64 o.ax, .int .u8 o.co, .int .i64 o.n0, .int .i64 o.n1, .int .i64 o.n2, .slice o.A o.ps.length o.cp] 25)).heap.size = w4.heap.size + 1 := by simp
    clear hok hl4
    obtain ⟨f0, f1, f2, f3, f4, f5, f6⟩ := (HXA.out _ hba5).c
    go_wp2_with fail
    refine (H1.out _ hB5).mono ?_
    generalize w4.alloc (.cells #[.int .i64 o.op, .int .i64 o.ax, .int .u8 o.co, .int .i64 o.n0, .int .i64 o.n1, .int .i64 o.n2, .slice o.A o.ps.length o.cp] 25) = w5 at *
    rintro e w6 ⟨rfl, hb6⟩
    have hl6 : Below w5.heap.size w5 (w6.alloc (.cells #[.int .i64 (vol S 0), .int .i64 (vol S 1), .int .i64 (vol S 2), .int .i64 (vol S 3), .int .i64 (vol S 4), .int .i64 (vol S 5), .int .i64 (vol S 6), .int .i64 (vol S 7), .int .i64 (vol S 8)] 47)) := by (repeat (first | exact Below.refl _ _ | assumption | refine Below.alloc ?_ (by first | exact Nat.le_refl _ | exact Below.size (by assumption) | omega | (simp <;> omega)) _ | refine Below.setCell ?_ (by first | exact Nat.le_refl _ | exact Below.size (by assumption) | omega | (simp <;> omega)) _ | refine below_drewN ?_ _ | refine Below.drew ?_))
    have hz6 := hb6.size
    have hba6 := hba5.trans (hl6.mono hba5.size)
    have hB6 := hBa.trans (hba6.mono hBa.size)
    have HV6 : Hid (V9 (w6.alloc (.cells #[.int .i64 (vol S 0), .int .i64 (vol S 1), .int .i64 (vol S 2), .int .i64 (vol S 3), .int .i64 (vol S 4), .int .i64 (vol S 5), .int .i64 (vol S 6), .int .i64 (vol S 7), .int .i64 (vol S 8)] 47)) w6.heap.size (fun j => (vol S j : Int))) := V9.new w6 (fun j => (vol S j : Int))
    clear f0 f1 f2 f3 f4 f5 f6
    obtain ⟨f0, f1, f2, f3, f4, f5, f6⟩ := (HOX.out.below hl6 HOX.out.lt).c
    go_wp2_with fail
    refine (Volumes_any o _ (HOO.out.now hl6)).mono ?_
    generalize hg6 : w6.alloc (.cells #[.int .i64 (vol S 0), .int .i64 (vol S 1), .int .i64 (vol S 2), .int .i64 (vol S 3), .int .i64 (vol S 4), .int .i64 (vol S 5), .int .i64 (vol S 6), .int .i64 (vol S 7), .int .i64 (vol S 8)] 47) = w7 at *
    have hz7 : w7.heap.size = w6.heap.size + 1 := by rw [← hg6]; simp
    clear hg6
    rintro e w8 ⟨rfl, hb8⟩
    have hz8 := hb8.size
    clear f0 f1 f2 f3 f4 f5 f6
    cases hg : formS o with
    | error er =>
      have hx := form_err hg
      have hV : volB o = (fun _ => 0, er) := by unfold volB; rw [hg]
      have hco := check_err hg
      have hne : (er == 0) = false := by simp; omega
      rw [hV]
      dsimp only
      clear hg hx hV
      have hl8 : Below w7.heap.size w7 (w8.alloc (.cells #[.int .i64 0, .int .i64 0, .int .i64 0, .int .i64 0, .int .i64 0, .int .i64 0, .int .i64 0, .int .i64 0, .int .i64 0] 47)) := by (repeat (first | exact Below.refl _ _ | assumption | refine Below.alloc ?_ (by first | exact Nat.le_refl _ | exact Below.size (by assumption) | omega | (simp <;> omega)) _ | refine Below.setCell ?_ (by first | exact Nat.le_refl _ | exact Below.size (by assumption) | omega | (simp <;> omega)) _ | refine below_drewN ?_ _ | refine Below.drew ?_))
      have hl9 := hl6.trans (hl8.mono hl6.size)
      have hba9 := hba6.trans (hl8.mono hba6.size)
      have hB9 := hBa.trans (hba9.mono hBa.size)
      have HV8 : Hid (V9 (w8.alloc (.cells #[.int .i64 0, .int .i64 0, .int .i64 0, .int .i64 0, .int .i64 0, .int .i64 0, .int .i64 0, .int .i64 0, .int .i64 0] 47)) w8.heap.size (fun _ => 0)) := V9.new w8 (fun _ => 0)
      have HV7 : Hid (V9 (w8.alloc (.cells #[.int .i64 0, .int .i64 0, .int .i64 0, .int .i64 0, .int .i64 0, .int .i64 0, .int .i64 0, .int .i64 0, .int .i64 0] 47)) w6.heap.size (fun j => (vol S j : Int))) := HV6.out.below hl8 (by omega)
      obtain ⟨f0, f1, f2, f3, f4, f5, f6⟩ := (HOX.out.below hl9 HOX.out.lt).c
      go_wp2_with fail
      refine (refCheck_any o _ (HOO.out.now hl9)).mono ?_
      rw [hco]
      generalize w8.alloc (.cells #[.int .i64 0, .int .i64 0, .int .i64 0, .int .i64 0, .int .i64 0, .int .i64 0, .int .i64 0, .int .i64 0, .int .i64 0] 47) = w9 at *
      rintro e wc ⟨rfl, hbc⟩
      clear f0 f1 f2 f3 f4 f5 f6
      have hlc := hl9.trans (hbc.mono hl9.size)
      have HKP : Hid (∀ w', Below wc.heap.size wc w' → BxB w' w.heap.size b ∧ BxB w' w4.heap.size o) := fun w' h =>
        ⟨(HXA.out w' (hba9.trans ((hbc.trans (h.mono hbc.size)).mono hba9.size))).c, (HOX.out.below (hlc.trans (h.mono hlc.size)) HOX.out.lt).c⟩
      have HTC : Hid (TurnsC b o ax wc w.heap.size w4.heap.size) := ⟨HAX.out, HW.out, fun W h => ⟨HOB.out W (hB9.trans ((hbc.trans (h.mono hbc.size)).mono hB9.size)), HOO.out.now (hlc.trans (h.mono hlc.size))⟩⟩
      have HT1 := HTC
      have HBW : Hid (∀ w', Below wc.heap.size wc w' → Below w.heap.size w w') := fun w' h => hB9.trans ((hbc.trans (h.mono hbc.size)).mono hB9.size)

      go_upto_region 8 with fail
      go_region_held3 (fun w' => w'.cell? ⟨w.heap.size, 0, none⟩ = some (.int .i64 b.op) ∧ w'.cell? ⟨w.heap.size, 1, none⟩ = some (.int .i64 b.ax) ∧ w'.cell? ⟨w.heap.size, 2, none⟩ = some (.int .u8 b.co) ∧ w'.cell? ⟨w.heap.size, 3, none⟩ = some (.int .i64 b.n0) ∧ w'.cell? ⟨w.heap.size, 4, none⟩ = some (.int .i64 b.n1) ∧ w'.cell? ⟨w.heap.size, 5, none⟩ = some (.int .i64 b.n2) ∧ w'.cell? ⟨w.heap.size, 6, none⟩ = some (.slice b.A b.ps.length b.cp) ∧ w'.cell? ⟨w4.heap.size, 0, none⟩ = some (.int .i64 o.op) ∧ w'.cell? ⟨w4.heap.size, 1, none⟩ = some (.int .i64 o.ax) ∧ w'.cell? ⟨w4.heap.size, 2, none⟩ = some (.int .u8 o.co) ∧ w'.cell? ⟨w4.heap.size, 3, none⟩ = some (.int .i64 o.n0) ∧ w'.cell? ⟨w4.heap.size, 4, none⟩ = some (.int .i64 o.n1) ∧ w'.cell? ⟨w4.heap.size, 5, none⟩ = some (.int .i64 o.n2) ∧ w'.cell? ⟨w4.heap.size, 6, none⟩ = some (.slice o.A o.ps.length o.cp)) (first | exact held_all (HKP.out _ hbc6) | exact held_all (HKP.out _ hbc5) | exact held_all (HKP.out _ hbc4) | exact held_all (HKP.out _ hbc3) | exact held_all (HKP.out _ hbc2) | exact held_all (HKP.out _ hbc1) | exact held_all (HKP.out _ (by (repeat (first | exact Below.refl _ _ | assumption | refine Below.alloc ?_ (by first | exact Nat.le_refl _ | exact Below.size (by assumption) | omega | (simp <;> omega)) _ | refine Below.setCell ?_ (by first | exact Nat.le_refl _ | exact Below.size (by assumption) | omega | (simp <;> omega)) _ | refine below_drewN ?_ _ | refine Below.drew ?_)))))
        (first
          | (have hg := HT1; clear hg; go_at_call 31; refine (HT1.out.t1 _ (by (repeat (first | exact Below.refl _ _ | assumption | refine Below.alloc ?_ (by first | exact Nat.le_refl _ | exact Below.size (by assumption) | omega | (simp <;> omega)) _ | refine Below.setCell ?_ (by first | exact Nat.le_refl _ | exact Below.size (by assumption) | omega | (simp <;> omega)) _ | refine below_drewN ?_ _ | refine Below.drew ?_)))).mono ?_; rintro e1 z1 ⟨hz1, o1, rfl, hw1, hk1⟩; have hbc1 : Below wc.heap.size wc z1 := below_next (by (repeat (first | exact Below.refl _ _ | assumption | refine Below.alloc ?_ (by first | exact Nat.le_refl _ | exact Below.size (by assumption) | omega | (simp <;> omega)) _ | refine Below.setCell ?_ (by first | exact Nat.le_refl _ | exact Below.size (by assumption) | omega | (simp <;> omega)) _ | refine below_drewN ?_ _ | refine Below.drew ?_))) hz1; have HE1 := Lib.hid (fun W (h : Below wc.heap.size wc W) (hh : Below z1.heap.size z1 W) => HTC.out.e1 hw1 W h (hk1.now hh)); clear HT1 hz1 hw1 hk1)
          | (have hg := HE1; clear hg; go_at_call 33; refine (HE1.out _ (by first | exact hbc1 | exact Below.drew hbc1) (by (repeat (first | exact Below.refl _ _ | assumption | refine Below.alloc ?_ (by first | exact Nat.le_refl _ | exact Below.size (by assumption) | omega | (simp <;> omega)) _ | refine Below.setCell ?_ (by first | exact Nat.le_refl _ | exact Below.size (by assumption) | omega | (simp <;> omega)) _ | refine below_drewN ?_ _ | refine Below.drew ?_)))).mono ?_; rintro e2 z2 ⟨rfl, hz2⟩; have hbc2 := hbc1.trans (hz2.mono hbc1.size); have HT2 := HTC; clear HE1 hz2)
          | (have hg := HT2; clear hg; go_at_call 31; refine (HT2.out.t2 _ hbc2).mono ?_; rintro e3 z3 ⟨hz3, o3, rfl, hw3, hk3⟩; have hbc3 := hbc2.trans (hz3.mono hbc2.size); have HE3 := Lib.hid (HTC.out.e2 hw3 z3 hbc3 hk3); clear HT2 hz3 hw3 hk3)
          | (have hg := HE3; clear hg; go_at_call 33; refine HE3.out.mono ?_; rintro e4 z4 ⟨rfl, hz4⟩; have hbc4 := hbc3.trans (hz4.mono hbc3.size); have HT3 := HTC; clear HE3 hz4)
          | (have hg := HT3; clear hg; go_at_call 31; refine (HT3.out.t3 _ hbc4).mono ?_; rintro e5 z5 ⟨hz5', o5, rfl, hw5, hk5⟩; have hbc5 := hbc4.trans (hz5'.mono hbc4.size); have HE5 := Lib.hid (HTC.out.e3 hw5 z5 hbc5 hk5); clear HT3 hz5' hw5 hk5)
          | (have hg := HE5; clear hg; go_at_call 33; refine HE5.out.mono ?_; rintro e6 z6 ⟨rfl, hz6'⟩; have hbc6 := hbc5.trans (hz6'.mono hbc5.size); have HSA := HSANE; clear HE5 hz6')
          | (have hg := HSA; clear hg; go_at_call 14; refine (HSA.out _).mono ?_; rintro e7 z7 ⟨rfl, hz7'⟩; have hbc7 := hbc6.trans (hz7'.mono hbc6.size); clear HSA hz7'))
      have hBz := HBW.out _ hbc7
      go_wp2
      go_ret
      exact Ret.mk rfl hBz
    | ok T =>
      have hV : volB o = (fun j => (vol S j : Int), 0) := by
        unfold volB
        rw [hg]
        simp only [wrp_vol HW.out HFB.out hg]
      have hco := check_ok hg
      have heq := ne9 (fun j => (vol S j : Int))
      rw [hV]
      dsimp only
      clear hg hV
      have hl8 : Below w7.heap.size w7 (w8.alloc (.cells #[.int .i64 (vol S 0), .int .i64 (vol S 1), .int .i64 (vol S 2), .int .i64 (vol S 3), .int .i64 (vol S 4), .int .i64 (vol S 5), .int .i64 (vol S 6), .int .i64 (vol S 7), .int .i64 (vol S 8)] 47)) := by (repeat (first | exact Below.refl _ _ | assumption | refine Below.alloc ?_ (by first | exact Nat.le_refl _ | exact Below.size (by assumption) | omega | (simp <;> omega)) _ | refine Below.setCell ?_ (by first | exact Nat.le_refl _ | exact Below.size (by assumption) | omega | (simp <;> omega)) _ | refine below_drewN ?_ _ | refine Below.drew ?_))
      have hl9 := hl6.trans (hl8.mono hl6.size)
      have hba9 := hba6.trans (hl8.mono hba6.size)
      have hB9 := hBa.trans (hba9.mono hBa.size)
      have HV8 : Hid (V9 (w8.alloc (.cells #[.int .i64 (vol S 0), .int .i64 (vol S 1), .int .i64 (vol S 2), .int .i64 (vol S 3), .int .i64 (vol S 4), .int .i64 (vol S 5), .int .i64 (vol S 6), .int .i64 (vol S 7), .int .i64 (vol S 8)] 47)) w8.heap.size (fun j => (vol S j : Int))) := V9.new w8 (fun j => (vol S j : Int))
      have HV7 : Hid (V9 (w8.alloc (.cells #[.int .i64 (vol S 0), .int .i64 (vol S 1), .int .i64 (vol S 2), .int .i64 (vol S 3), .int .i64 (vol S 4), .int .i64 (vol S 5), .int .i64 (vol S 6), .int .i64 (vol S 7), .int .i64 (vol S 8)] 47)) w6.heap.size (fun j => (vol S j : Int))) := HV6.out.below hl8 (by omega)
      obtain ⟨f0, f1, f2, f3, f4, f5, f6⟩ := (HOX.out.below hl9 HOX.out.lt).c
      go_wp2_with fail
      refine (refCheck_any o _ (HOO.out.now hl9)).mono ?_
      rw [hco]
      generalize w8.alloc (.cells #[.int .i64 (vol S 0), .int .i64 (vol S 1), .int .i64 (vol S 2), .int .i64 (vol S 3), .int .i64 (vol S 4), .int .i64 (vol S 5), .int .i64 (vol S 6), .int .i64 (vol S 7), .int .i64 (vol S 8)] 47) = w9 at *
      rintro e wc ⟨rfl, hbc⟩
      clear f0 f1 f2 f3 f4 f5 f6
      have hlc := hl9.trans (hbc.mono hl9.size)
      have HKP : Hid (∀ w', Below wc.heap.size wc w' → BxB w' w.heap.size b ∧ BxB w' w4.heap.size o) := fun w' h =>
        ⟨(HXA.out w' (hba9.trans ((hbc.trans (h.mono hbc.size)).mono hba9.size))).c, (HOX.out.below (hlc.trans (h.mono hlc.size)) HOX.out.lt).c⟩
      have HTC : Hid (TurnsC b o ax wc w.heap.size w4.heap.size) := ⟨HAX.out, HW.out, fun W h => ⟨HOB.out W (hB9.trans ((hbc.trans (h.mono hbc.size)).mono hB9.size)), HOO.out.now (hlc.trans (h.mono hlc.size))⟩⟩
      have HT1 := HTC
      have HBW : Hid (∀ w', Below wc.heap.size wc w' → Below w.heap.size w w') := fun w' h => hB9.trans ((hbc.trans (h.mono hbc.size)).mono hB9.size)
      obtain ⟨x0, x1, x2, x3, x4, x5, x6, x7, x8⟩ := (HV7.out.below hbc HV7.out.lt).c
      obtain ⟨y0, y1, y2, y3, y4, y5, y6, y7, y8⟩ := (HV8.out.below hbc HV8.out.lt).c
      go_upto_region 8 with fail
      go_region_held3 (fun w' => w'.cell? ⟨w.heap.size, 0, none⟩ = some (.int .i64 b.op) ∧ w'.cell? ⟨w.heap.size, 1, none⟩ = some (.int .i64 b.ax) ∧ w'.cell? ⟨w.heap.size, 2, none⟩ = some (.int .u8 b.co) ∧ w'.cell? ⟨w.heap.size, 3, none⟩ = some (.int .i64 b.n0) ∧ w'.cell? ⟨w.heap.size, 4, none⟩ = some (.int .i64 b.n1) ∧ w'.cell? ⟨w.heap.size, 5, none⟩ = some (.int .i64 b.n2) ∧ w'.cell? ⟨w.heap.size, 6, none⟩ = some (.slice b.A b.ps.length b.cp) ∧ w'.cell? ⟨w4.heap.size, 0, none⟩ = some (.int .i64 o.op) ∧ w'.cell? ⟨w4.heap.size, 1, none⟩ = some (.int .i64 o.ax) ∧ w'.cell? ⟨w4.heap.size, 2, none⟩ = some (.int .u8 o.co) ∧ w'.cell? ⟨w4.heap.size, 3, none⟩ = some (.int .i64 o.n0) ∧ w'.cell? ⟨w4.heap.size, 4, none⟩ = some (.int .i64 o.n1) ∧ w'.cell? ⟨w4.heap.size, 5, none⟩ = some (.int .i64 o.n2) ∧ w'.cell? ⟨w4.heap.size, 6, none⟩ = some (.slice o.A o.ps.length o.cp)) (first | exact held_all (HKP.out _ hbc6) | exact held_all (HKP.out _ hbc5) | exact held_all (HKP.out _ hbc4) | exact held_all (HKP.out _ hbc3) | exact held_all (HKP.out _ hbc2) | exact held_all (HKP.out _ hbc1) | exact held_all (HKP.out _ (by (repeat (first | exact Below.refl _ _ | assumption | refine Below.alloc ?_ (by first | exact Nat.le_refl _ | exact Below.size (by assumption) | omega | (simp <;> omega)) _ | refine Below.setCell ?_ (by first | exact Nat.le_refl _ | exact Below.size (by assumption) | omega | (simp <;> omega)) _ | refine below_drewN ?_ _ | refine Below.drew ?_)))))
        (first
          | (have hg := HT1; clear hg; go_at_call 31; refine (HT1.out.t1 _ (by (repeat (first | exact Below.refl _ _ | assumption | refine Below.alloc ?_ (by first | exact Nat.le_refl _ | exact Below.size (by assumption) | omega | (simp <;> omega)) _ | refine Below.setCell ?_ (by first | exact Nat.le_refl _ | exact Below.size (by assumption) | omega | (simp <;> omega)) _ | refine below_drewN ?_ _ | refine Below.drew ?_)))).mono ?_; rintro e1 z1 ⟨hz1, o1, rfl, hw1, hk1⟩; have hbc1 : Below wc.heap.size wc z1 := below_next (by (repeat (first | exact Below.refl _ _ | assumption | refine Below.alloc ?_ (by first | exact Nat.le_refl _ | exact Below.size (by assumption) | omega | (simp <;> omega)) _ | refine Below.setCell ?_ (by first | exact Nat.le_refl _ | exact Below.size (by assumption) | omega | (simp <;> omega)) _ | refine below_drewN ?_ _ | refine Below.drew ?_))) hz1; have HE1 := Lib.hid (fun W (h : Below wc.heap.size wc W) (hh : Below z1.heap.size z1 W) => HTC.out.e1 hw1 W h (hk1.now hh)); clear HT1 hz1 hw1 hk1)
          | (have hg := HE1; clear hg; go_at_call 33; refine (HE1.out _ (by first | exact hbc1 | exact Below.drew hbc1) (by (repeat (first | exact Below.refl _ _ | assumption | refine Below.alloc ?_ (by first | exact Nat.le_refl _ | exact Below.size (by assumption) | omega | (simp <;> omega)) _ | refine Below.setCell ?_ (by first | exact Nat.le_refl _ | exact Below.size (by assumption) | omega | (simp <;> omega)) _ | refine below_drewN ?_ _ | refine Below.drew ?_)))).mono ?_; rintro e2 z2 ⟨rfl, hz2⟩; have hbc2 := hbc1.trans (hz2.mono hbc1.size); have HT2 := HTC; clear HE1 hz2)
          | (have hg := HT2; clear hg; go_at_call 31; refine (HT2.out.t2 _ hbc2).mono ?_; rintro e3 z3 ⟨hz3, o3, rfl, hw3, hk3⟩; have hbc3 := hbc2.trans (hz3.mono hbc2.size); have HE3 := Lib.hid (HTC.out.e2 hw3 z3 hbc3 hk3); clear HT2 hz3 hw3 hk3)
          | (have hg := HE3; clear hg; go_at_call 33; refine HE3.out.mono ?_; rintro e4 z4 ⟨rfl, hz4⟩; have hbc4 := hbc3.trans (hz4.mono hbc3.size); have HT3 := HTC; clear HE3 hz4)
          | (have hg := HT3; clear hg; go_at_call 31; refine (HT3.out.t3 _ hbc4).mono ?_; rintro e5 z5 ⟨hz5', o5, rfl, hw5, hk5⟩; have hbc5 := hbc4.trans (hz5'.mono hbc4.size); have HE5 := Lib.hid (HTC.out.e3 hw5 z5 hbc5 hk5); clear HT3 hz5' hw5 hk5)
          | (have hg := HE5; clear hg; go_at_call 33; refine HE5.out.mono ?_; rintro e6 z6 ⟨rfl, hz6'⟩; have hbc6 := hbc5.trans (hz6'.mono hbc5.size); have HSA := HSANE; clear HE5 hz6')
          | (have hg := HSA; clear hg; go_at_call 14; refine (HSA.out _).mono ?_; rintro e7 z7 ⟨rfl, hz7'⟩; have hbc7 := hbc6.trans (hz7'.mono hbc6.size); clear HSA hz7'))
      have hBz := HBW.out _ hbc7
      go_wp2
      go_ret
      exact Ret.mk rfl hBz
end Go.Proofs.YtbcnkcndhgihaaaDoor

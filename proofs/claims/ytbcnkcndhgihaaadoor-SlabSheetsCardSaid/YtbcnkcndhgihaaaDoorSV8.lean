/- Blocks: the law of the sheets: the walk. Printed by gensheets.py. -/
import Derived.Test.YtbcnkcndhgihaaaDoorSVB
import Derived.Test.YtbcnkcndhgihaaaDoorCPA
import Derived.Test.YtbcnkcndhgihaaaDoorSane
namespace Go.Proofs.YtbcnkcndhgihaaaDoor
open Go.RowKit
set_option linter.unusedSimpArgs false

set_option maxRecDepth 100000 in
set_option maxHeartbeats 4000000 in
theorem cutting_any : ∀ (b : BT) (w : World), OkB w w.heap.size b → Calls Tryd.prog 43 #[valB b] w (Ret (.bool (cutS b)) w) := by
  refine BT.ind ?_
  intro b ih w hb
  have IH := Lib.hid ih; clear ih
  have HB := Lib.hid hb; clear hb
  have HS := Lib.hid (cutS_eq b)
  have hlen := HB.out.len
  have hlm : b.ps.length ≤ 9223372036854775807 := by unfold maxLen at hlen; omega
  clear hlen
  have HBX := Lib.hid (BxB.new w b 25)
  obtain ⟨wa, hwa⟩ : ∃ wa, w.alloc (.cells #[.int .i64 b.op, .int .i64 b.ax, .int .u8 b.co, .int .i64 b.n0, .int .i64 b.n1, .int .i64 b.n2, .slice b.A b.ps.length b.cp] 25) = wa := ⟨_, rfl⟩
  have hBa : Below w.heap.size w wa := by rw [← hwa]; (repeat (first | exact Below.refl _ _ | assumption | refine Below.alloc ?_ (by first | exact Nat.le_refl _ | exact Below.size (by assumption) | omega | (simp <;> omega)) _ | refine Below.setCell ?_ (by first | exact Nat.le_refl _ | exact Below.size (by assumption) | omega | (simp <;> omega)) _ | refine below_drewN ?_ _ | refine Below.drew ?_))
  have hza : w.heap.size < wa.heap.size := by rw [← hwa]; simp
  have HXA : Hid (∀ W, Below wa.heap.size wa W → BxB W w.heap.size b) := by
    intro W hW
    have := HBX.out
    rw [hwa] at this
    exact this.under hW hza
  have HWA := Lib.hid hwa
  clear hwa
  obtain ⟨f0, f1, f2, f3, f4, f5, f6⟩ := HXA.out wa (Below.refl _ _)
  cases h4 : (b.op == 4)
  · have HO : Hid (decide (b.op = 4) = false) := by show _ = _; simpa using h4
    go_enter Tryd.func43, Tryd.ntmps43
    go_upto_region 1 with fail
    rw [HWA.out]
    go_wp2
    clear h4 f0 f1 f2 f3 f4 f5 f6
    go_loopw [3] (fun i wr => ∃ k : Nat, k ≤ b.ps.length ∧ i = .int .i64 k ∧ (∀ x ∈ b.ps.take k, cutS x = false) ∧ Below wa.heap.size wa wr) (fun i _ => b.ps.length - (intOf i).toNat)
    case atStart => exact ⟨0, Nat.zero_le _, rfl, by simp, Below.refl _ _⟩
    case round =>
      obtain ⟨k, hk, rfl, hno, hB⟩ := hrel
      have HN := Lib.hid hno; clear hno
      obtain ⟨f0, f1, f2, f3, f4, f5, f6⟩ := HXA.out wr hB
      have hBw := hBa.trans (hB.mono hBa.size)
      by_cases hlt : k < b.ps.length
      · obtain ⟨q, hq⟩ := getElem?_of_lt hlt
        have hk1 := HB.out.now hBw
        obtain ⟨bb, off, hA, hbb, c0, c1, c2, c3, c4, c5, c6⟩ := hk1.rd.at hq
        have HM := Lib.hid (List.mem_of_getElem? hq)
        have HK := Lib.hid (hk1.kid HM.out); clear hk1
        have HQ := Lib.hid hq; clear hq
        rw [hA] at f6
        clear hA
        go_wp2_with fail
        refine (IH.out q HM.out _ HK.out).mono ?_
        rintro e w3 ⟨rfl, hb3⟩
        have hB3 : Below wa.heap.size wa w3 := hB.trans (hb3.mono hB.size)
        clear c0 c1 c2 c3 c4 c5 c6 f0 f1 f2 f3 f4 f5 f6
        cases hd : cutS q
        · have HN2 : Hid (∀ x ∈ b.ps.take (k + 1), cutS x = false) := by
            intro x hx
            rw [take_succ_of HQ.out] at hx
            rcases List.mem_append.1 hx with hx | hx
            · exact HN.out x hx
            · rw [List.mem_singleton.1 hx]; exact hd
          go_wp2
          go_roundw
          case rel => exact ⟨k + 1, by omega, by go_num, HN2.out, hB3⟩
          case measure => simp [intOf]; omega
        · have HS2 : Hid (cutS b = true) := by show _ = _; rw [HS.out, List.any_eq_true.2 ⟨q, HM.out, hd⟩, Bool.or_true]
          go_wp2
          go_ret
          exact Ret.mk (by rw [HS2.out]; rfl) (hBa.trans (hB3.mono hBa.size))
      · have HS2 : Hid (cutS b = false) := by
          show _ = _
          rw [HS.out, HO.out, Bool.false_or, List.any_eq_false]
          intro x hx
          have := HN.out x (by rw [List.take_of_length_le (by omega)]; exact hx)
          simp [this]
        go_wp2
        go_ret
        exact Ret.mk (by rw [HS2.out]; rfl) hBw
  · have HS2 : Hid (cutS b = true) := by show _ = _; rw [HS.out, show decide (b.op = 4) = true by simpa using h4]; rfl
    go_enter Tryd.func43, Tryd.ntmps43
    go_upto_region 1 with fail
    rw [HWA.out]
    go_wp2
    go_ret
    exact Ret.mk (by rw [HS2.out]; rfl) hBa

theorem over_cut {b : BT} {S : Sh} (hf : formS b = .ok S) (h : overB b = true) : cutS b = true := by
  cases hc : cutS b
  · exfalso
    unfold overB at h
    rw [List.any_eq_true] at h
    obtain ⟨m, _, hm⟩ := h
    have hm := of_decide_eq_true hm
    have h1 := (tak_vol b (form_whole hf).1 S (form_whole hf).2 (m : Int)).2 hc
    have h2 := vol_le (form_ok hf).ext (m : Int)
    omega
  · rfl
set_option maxRecDepth 100000 in
set_option maxHeartbeats 8000000 in
theorem sheets_any (b : BT) (w : World) (hb : OkB w w.heap.size b) : Calls Tryd.prog 10 #[valB b] w (Ret (.bool true) w) := by
  have hmx : Tryd.prog.follows .mixedOrders = true := by kernel_rfl
  obtain ⟨wa, hwa⟩ : ∃ wa, w.alloc (.cells #[.int .i64 b.op, .int .i64 b.ax, .int .u8 b.co, .int .i64 b.n0, .int .i64 b.n1, .int .i64 b.n2, .slice b.A b.ps.length b.cp] 25) = wa := ⟨_, rfl⟩
  have hBa : Below w.heap.size w wa := by rw [← hwa]; (repeat (first | exact Below.refl _ _ | assumption | refine Below.alloc ?_ (by first | exact Nat.le_refl _ | exact Below.size (by assumption) | omega | (simp <;> omega)) _ | refine Below.setCell ?_ (by first | exact Nat.le_refl _ | exact Below.size (by assumption) | omega | (simp <;> omega)) _ | refine below_drewN ?_ _ | refine Below.drew ?_))
  have hza : wa.heap.size = w.heap.size + 1 := by rw [← hwa]; simp
  have HXA : Hid (∀ W, Below wa.heap.size wa W → BxB W w.heap.size b) := by
    intro W hW
    have h1 := BxB.new w b 25
    rw [hwa] at h1
    exact h1.under hW (by omega)
  have HU := Lib.hid (fun W (hB : Below w.heap.size w W) => Bushy_any 40 (by omega) b W (hb.now hB))
  have HG := Lib.hid (fun W (hB : Below w.heap.size w W) => Large_any b 400 W (hb.now hB))
  have HCH := Lib.hid (fun W (hB : Below w.heap.size w W) => refCheck_any b W (hb.now hB))
  have H1 := Lib.hid (fun W (hB : Below w.heap.size w W) => Volumes_any b W (hb.now hB))
  have H2 := Lib.hid (fun W (hB : Below w.heap.size w W) => Extent_any b W (hb.now hB))
  have H3 := Lib.hid (fun W (hB : Below w.heap.size w W) => Sheets_any b W (hb.now hB))
  have H4 := Lib.hid (fun W (hB : Below w.heap.size w W) => cutting_any b W (hb.now hB))
  have HSANE := Lib.hid (fun w => sane_any w)
  clear hb
  have HWA := Lib.hid hwa
  clear hwa
  obtain ⟨f0, f1, f2, f3, f4, f5, f6⟩ := HXA.out wa (Below.refl _ _)
  rw [← HWA.out] at f0 f1 f2 f3 f4 f5 f6
  have hlt0 : w.heap.size < wa.heap.size := by omega
  generalize bushyS b 40 = bu at HU
  generalize largeB b 400 = la at HG
  cases bu
  rotate_left
  · go_enter Tryd.func10, Tryd.ntmps10
    go_wp2_with fail
    rw [HWA.out]
    refine (HU.out _ hBa).mono ?_
    rintro e w2 ⟨rfl, hb2⟩
    have hB2 := hBa.trans (hb2.mono hBa.size)
    clear f0 f1 f2 f3 f4 f5 f6
    go_wp2_with fail
    refine (HSANE.out _).mono ?_
    rintro e w4 ⟨rfl, hb4⟩
    have hB4 := hB2.trans (hb4.mono hB2.size)
    go_wp2
    go_ret
    exact Ret.mk rfl hB4
  cases la
  rotate_left
  · go_enter Tryd.func10, Tryd.ntmps10
    go_wp2_with fail
    rw [HWA.out]
    refine (HU.out _ hBa).mono ?_
    rintro e w2 ⟨rfl, hb2⟩
    clear f0 f1 f2 f3 f4 f5 f6
    obtain ⟨f0, f1, f2, f3, f4, f5, f6⟩ := HXA.out w2 hb2
    have hB2 := hBa.trans (hb2.mono hBa.size)
    go_wp2_with fail
    refine (HG.out _ hB2).mono ?_
    rintro e w3 ⟨rfl, hb3⟩
    have hB3 := hB2.trans (hb3.mono hB2.size)
    clear f0 f1 f2 f3 f4 f5 f6
    go_wp2_with fail
    refine (HSANE.out _).mono ?_
    rintro e w4 ⟨rfl, hb4⟩
    have hB4 := hB3.trans (hb4.mono hB3.size)
    go_wp2
    go_ret
    exact Ret.mk rfl hB4
  cases hf : formS b with
  | error er =>
    have hx := form_err hf
    rw [check_err hf] at HCH
    have hne : (er != 0) = true := by simp; omega
    clear hf hx
    go_enter Tryd.func10, Tryd.ntmps10
    go_wp2_with fail
    rw [HWA.out]
    refine (HU.out _ hBa).mono ?_
    rintro e w2 ⟨rfl, hb2⟩
    clear f0 f1 f2 f3 f4 f5 f6
    obtain ⟨f0, f1, f2, f3, f4, f5, f6⟩ := HXA.out w2 hb2
    have hB2 := hBa.trans (hb2.mono hBa.size)
    go_wp2_with fail
    refine (HG.out _ hB2).mono ?_
    rintro e w3 ⟨rfl, hb3⟩
    have hba3 := hb2.trans (hb3.mono hb2.size)
    have hB3 := hB2.trans (hb3.mono hB2.size)
    clear f0 f1 f2 f3 f4 f5 f6
    obtain ⟨f0, f1, f2, f3, f4, f5, f6⟩ := HXA.out w3 hba3
    go_wp2_with fail
    refine (HCH.out _ hB3).mono ?_
    rintro e w4 ⟨rfl, hb4⟩
    have hB4 := hB3.trans (hb4.mono hB3.size)
    clear f0 f1 f2 f3 f4 f5 f6
    go_wp2_with fail
    refine (HSANE.out _).mono ?_
    rintro e w5 ⟨rfl, hb5⟩
    have hB5 := hB4.trans (hb5.mono hB4.size)
    go_wp2
    go_ret
    exact Ret.mk rfl hB5
  | ok S =>
    have hSok := form_ok hf
    obtain ⟨a1, b1, c1, he, ha0, hb0, hc0, ha2, hb2', hc2, h8⟩ := nat_ext hSok.ext
    have hvs := vol_sum hSok
    rw [he, cellsN_nat] at hvs
    have HSUM := Lib.hid hvs
    have HLE : Hid (∀ k, k ≤ 9 → sm k (fun j => vol S j) ≤ 8000) := fun k hk => Nat.le_trans (sm_mono hk _) (by rw [hvs]; exact h8)
    have HTV := Lib.hid (fun j => tak_vol b (form_whole hf).1 S (form_whole hf).2 j)
    have HOV := Lib.hid (fun h => over_cut hf h)
    have HVL := Lib.hid (fun j => vol_le hSok.ext j)
    have hE : extB b = (⟨a1, b1, c1⟩, 0) := by unfold extB; rw [hf]; simp only [he]
    have hV : volB b = (fun j => (vol S j : Int), 0) := by unfold volB; rw [hf]
    have HSO := Lib.hid (fun h => sheets_over hf h)
    have HSN := Lib.hid (fun h => sheets_ok hf h)
    rw [check_ok hf] at HCH
    rw [hV] at H1
    rw [hE] at H2
    dsimp only at H1 H2
    have m1 : a1 * b1 ≤ 200 * 200 := Nat.mul_le_mul ha2 hb2'
    have e1 : wrap64 ((a1 : Int) * b1) = ((a1 * b1 : Nat) : Int) := by rw [← Int.natCast_mul]; exact w64b (by omega) (by omega)
    have e2 : wrap64 (((a1 * b1 : Nat) : Int) * c1) = ((a1 * b1 * c1 : Nat) : Int) := by rw [← Int.natCast_mul]; exact w64b (by omega) (by omega)
    clear hf hE hV hSok he hvs m1
    generalize a1 * b1 * c1 = N at *
    generalize a1 * b1 = M at *
    have HE1 := Lib.hid e1; have HE2 := Lib.hid e2
    clear e1 e2
    go_enter Tryd.func10, Tryd.ntmps10
    go_wp2_with fail
    rw [HWA.out]
    refine (HU.out _ hBa).mono ?_
    rintro e w2 ⟨rfl, hb2⟩
    clear f0 f1 f2 f3 f4 f5 f6
    obtain ⟨f0, f1, f2, f3, f4, f5, f6⟩ := HXA.out w2 hb2
    have hB2 := hBa.trans (hb2.mono hBa.size)
    go_wp2_with fail
    refine (HG.out _ hB2).mono ?_
    rintro e w3 ⟨rfl, hb3⟩
    have hba3 := hb2.trans (hb3.mono hb2.size)
    have hB3 := hB2.trans (hb3.mono hB2.size)
    clear f0 f1 f2 f3 f4 f5 f6
    obtain ⟨f0, f1, f2, f3, f4, f5, f6⟩ := HXA.out w3 hba3
    go_wp2_with fail
    refine (HCH.out _ hB3).mono ?_
    rintro e w4 ⟨rfl, hb4⟩
    have hba4 := hba3.trans (hb4.mono hba3.size)
    have hB4 := hB3.trans (hb4.mono hB3.size)
    clear f0 f1 f2 f3 f4 f5 f6
    obtain ⟨f0, f1, f2, f3, f4, f5, f6⟩ := HXA.out w4 hba4
    go_wp2_with fail
    refine (H1.out _ hB4).mono ?_
    rintro e w5 ⟨rfl, hb5⟩
    have hbw5 := hba4.trans (hb5.mono hba4.size)
    clear f0 f1 f2 f3 f4 f5 f6
    have hba5 : Below wa.heap.size wa (w5.alloc (.cells #[.int .i64 (vol S 0), .int .i64 (vol S 1), .int .i64 (vol S 2), .int .i64 (vol S 3), .int .i64 (vol S 4), .int .i64 (vol S 5), .int .i64 (vol S 6), .int .i64 (vol S 7), .int .i64 (vol S 8)] 47)) := by (repeat (first | exact Below.refl _ _ | assumption | refine Below.alloc ?_ (by first | exact Nat.le_refl _ | exact Below.size (by assumption) | omega | (simp <;> omega)) _ | refine Below.setCell ?_ (by first | exact Nat.le_refl _ | exact Below.size (by assumption) | omega | (simp <;> omega)) _ | refine below_drewN ?_ _ | refine Below.drew ?_))
    have hB5 := hBa.trans (hba5.mono hBa.size)
    obtain ⟨f0, f1, f2, f3, f4, f5, f6⟩ := HXA.out _ hba5
    have HV5 := Lib.hid (V9.new w5 (fun j => (vol S j : Int)))
    go_wp2_with fail
    refine (H2.out _ hB5).mono ?_
    rintro e w6 ⟨rfl, hb6⟩
    have hbw6 := hba5.trans (hb6.mono hba5.size)
    have hs6 := hb6.size
    rw [World.size_alloc] at hs6
    clear f0 f1 f2 f3 f4 f5 f6
    have hba6 : Below wa.heap.size wa (w6.alloc (.cells #[.int .i64 a1, .int .i64 b1, .int .i64 c1] 22)) := by (repeat (first | exact Below.refl _ _ | assumption | refine Below.alloc ?_ (by first | exact Nat.le_refl _ | exact Below.size (by assumption) | omega | (simp <;> omega)) _ | refine Below.setCell ?_ (by first | exact Nat.le_refl _ | exact Below.size (by assumption) | omega | (simp <;> omega)) _ | refine below_drewN ?_ _ | refine Below.drew ?_))
    have hB6 := hBa.trans (hba6.mono hBa.size)
    have HV6 := Lib.hid (HV5.out.below (hb6.trans ((by (repeat (first | exact Below.refl _ _ | assumption | refine Below.alloc ?_ (by first | exact Nat.le_refl _ | exact Below.size (by assumption) | omega | (simp <;> omega)) _ | refine Below.setCell ?_ (by first | exact Nat.le_refl _ | exact Below.size (by assumption) | omega | (simp <;> omega)) _ | refine below_drewN ?_ _ | refine Below.drew ?_)) : Below w6.heap.size w6 (w6.alloc (.cells #[.int .i64 a1, .int .i64 b1, .int .i64 c1] 22))).mono hb6.size)) HV5.out.lt)
    have HX6 : Hid (CX (w6.alloc (.cells #[.int .i64 a1, .int .i64 b1, .int .i64 c1] 22)) w6.heap.size ⟨a1, b1, c1⟩) := CX.new w6 ⟨a1, b1, c1⟩
    go_wp2
    obtain ⟨wx, hwx⟩ : ∃ wx, w6.alloc (.cells #[.int .i64 a1, .int .i64 b1, .int .i64 c1] 22) = wx := ⟨_, rfl⟩
    have hzx : wx.heap.size = w6.heap.size + 1 := by rw [← hwx]; simp
    rw [hwx] at hba6 hB6 HV6 HX6 ⊢
    clear hwx
    go_loopw [7, 8] (fun s i wr => ∃ k : Nat, k ≤ 9 ∧ i = .int .i64 k ∧ s = .int .i64 ((sm k (fun j => vol S j) : Nat) : Int) ∧ wr = wx) (fun _ i _ => 9 - (intOf i).toNat)
    case atStart => exact ⟨0, by omega, rfl, rfl, rfl⟩
    case round =>
      obtain ⟨k, hk, rfl, rfl, rfl⟩ := hrel
      by_cases hk9 : k < 9
      · obtain ⟨g1, g2⟩ := HV6.out.at hk9
        have hle := HLE.out (k + 1) (by omega)
        have hsu : sm (k + 1) (fun j => vol S j) = sm k (fun j => vol S j) + vol S k := rfl
        have e1 : wrap64 (((sm k (fun j => vol S j) : Nat) : Int) + (vol S k : Int)) = ((sm (k + 1) (fun j => vol S j) : Nat) : Int) := by
          rw [hsu, Int.natCast_add]
          exact w64b (by omega) (by omega)
        clear hsu hle
        go_wp2
        go_roundw
        case rel => exact ⟨k + 1, by omega, by go_num, by simp [e1], trivial⟩
        case measure => simp [intOf]; omega
      · obtain rfl : k = 9 := by omega
        have e1 := HE1.out
        have e2 := HE2.out
        obtain ⟨x0, x1, x2, _⟩ := HX6.out.c
        dsimp only at x0 x1 x2
        rw [HSUM.out]
        obtain ⟨f0, f1, f2, f3, f4, f5, f6⟩ := HXA.out _ hba6
        cases hov : overB b
        · have hSH := HSN.out hov
          rw [hSH] at H3
          dsimp only at H3
          clear hov hSH
          go_wp2_with fail
          refine (H3.out _ hB6).mono ?_
          rintro e w7 ⟨rfl, hb7⟩
          have hbw7 := hba6.trans (hb7.mono hba6.size)
          clear f0 f1 f2 f3 f4 f5 f6 e1 e2 x0 x1 x2
          have hba7 : Below wa.heap.size wa (w7.alloc (.cells #[.int .i64 (takS b 0), .int .i64 (takS b 1), .int .i64 (takS b 2), .int .i64 (takS b 3), .int .i64 (takS b 4), .int .i64 (takS b 5), .int .i64 (takS b 6), .int .i64 (takS b 7), .int .i64 (takS b 8)] 47)) := by (repeat (first | exact Below.refl _ _ | assumption | refine Below.alloc ?_ (by first | exact Nat.le_refl _ | exact Below.size (by assumption) | omega | (simp <;> omega)) _ | refine Below.setCell ?_ (by first | exact Nat.le_refl _ | exact Below.size (by assumption) | omega | (simp <;> omega)) _ | refine below_drewN ?_ _ | refine Below.drew ?_))
          have hB7 := hBa.trans (hba7.mono hBa.size)
          have HV7 := Lib.hid (HV6.out.below (hb7.trans ((by (repeat (first | exact Below.refl _ _ | assumption | refine Below.alloc ?_ (by first | exact Nat.le_refl _ | exact Below.size (by assumption) | omega | (simp <;> omega)) _ | refine Below.setCell ?_ (by first | exact Nat.le_refl _ | exact Below.size (by assumption) | omega | (simp <;> omega)) _ | refine below_drewN ?_ _ | refine Below.drew ?_)) : Below w7.heap.size w7 (w7.alloc (.cells #[.int .i64 (takS b 0), .int .i64 (takS b 1), .int .i64 (takS b 2), .int .i64 (takS b 3), .int .i64 (takS b 4), .int .i64 (takS b 5), .int .i64 (takS b 6), .int .i64 (takS b 7), .int .i64 (takS b 8)] 47))).mono hb7.size)) HV6.out.lt)
          have HT7 := Lib.hid (V9.new w7 (takS b))
          go_wp2
          obtain ⟨wy, hwy⟩ : ∃ wy, w7.alloc (.cells #[.int .i64 (takS b 0), .int .i64 (takS b 1), .int .i64 (takS b 2), .int .i64 (takS b 3), .int .i64 (takS b 4), .int .i64 (takS b 5), .int .i64 (takS b 6), .int .i64 (takS b 7), .int .i64 (takS b 8)] 47) = wy := ⟨_, rfl⟩
          rw [hwy] at hba7 hB7 HV7 HT7 ⊢
          clear hwy
          go_loopw [11] (fun i wr => ∃ k : Nat, k ≤ 9 ∧ i = .int .i64 k ∧ Below wy.heap.size wy wr) (fun i _ => 9 - (intOf i).toNat)
          case atStart => exact ⟨0, by omega, rfl, Below.refl _ _⟩
          case round =>
            obtain ⟨k, hk, rfl, hBr⟩ := hrel
            by_cases hk9 : k < 9
            · have HF : Hid (∀ W, Below wr.heap.size wr W → BxB W w.heap.size b ∧ W.cell? ⟨w7.heap.size, k, none⟩ = some (.int .i64 (takS b k)) ∧ W.cell? ⟨w5.heap.size, k, none⟩ = some (.int .i64 (vol S k))) := fun W h => by
                have hy := hBr.trans (h.mono hBr.size)
                exact ⟨HXA.out W (hba7.trans (hy.mono hba7.size)), ((HT7.out.below hy HT7.out.lt).at hk9).1, ((HV7.out.below hy HV7.out.lt).at hk9).1⟩
              have HBW : Hid (∀ W, Below wr.heap.size wr W → Below w.heap.size w W) := fun W h => hB7.trans ((hBr.trans (h.mono hBr.size)).mono hB7.size)
              obtain ⟨t1, t2⟩ := HTV.out (k : Int)
              generalize takS b (k : Int) = u at *
              generalize ((vol S (k : Int) : Nat) : Int) = v at *
              have d1 : decide (u < v) = false := decide_eq_false (by omega)
              by_cases huv : u = v
              · have d2 : (u != v) = false := by simp [huv]
                clear t1 t2 huv
                go_wp2
                refine region_qw (fun W => Below wr.heap.size wr W) hmx (by kernel_rfl) (by (repeat (first | exact Below.refl _ _ | assumption | refine Below.alloc ?_ (by first | exact Nat.le_refl _ | exact Below.size (by assumption) | omega | (simp <;> omega)) _ | refine Below.setCell ?_ (by first | exact Nat.le_refl _ | exact Below.size (by assumption) | omega | (simp <;> omega)) _ | refine below_drewN ?_ _ | refine Below.drew ?_))) ?_
                repeat (first | (refine qw_read rfl (fun w' hC => by obtain ⟨⟨f0, f1, f2, f3, f4, f5, f6⟩, g1, g2⟩ := HF.out w' hC; clear hC; go_simp; rfl) ?_; simp only [Act.put, List.setIfInBounds_toArray, List.set_cons_succ, List.set_cons_zero]) | (refine qw_pass (by first | (simp [Region.wanted, yielded]; done) | (simp [Region.wanted, yielded]; intro h; cases h)) ?_; simp only [Act.put, List.setIfInBounds_toArray, List.set_cons_succ, List.set_cons_zero]))
                refine qw_nil ?_
                intro w9 hb9
                go_wp2
                go_roundw
                case rel => exact ⟨k + 1, by omega, by go_num, hBr.trans (hb9.mono hBr.size)⟩
                case measure => simp [intOf]; omega
              · have d2 : (u != v) = true := by simp [huv]
                have hcut : cutS b = true := by
                  cases hc : cutS b
                  · exact absurd (t2 hc).symm huv
                  · rfl
                rw [hcut] at H4
                clear t1 t2 huv hcut
                go_wp2
                refine region_qw (fun W => Below wr.heap.size wr W) hmx (by kernel_rfl) (by (repeat (first | exact Below.refl _ _ | assumption | refine Below.alloc ?_ (by first | exact Nat.le_refl _ | exact Below.size (by assumption) | omega | (simp <;> omega)) _ | refine Below.setCell ?_ (by first | exact Nat.le_refl _ | exact Below.size (by assumption) | omega | (simp <;> omega)) _ | refine below_drewN ?_ _ | refine Below.drew ?_))) ?_
                repeat (first | (refine qw_read rfl (fun w' hC => by obtain ⟨⟨f0, f1, f2, f3, f4, f5, f6⟩, g1, g2⟩ := HF.out w' hC; clear hC; go_simp; rfl) ?_; simp only [Act.put, List.setIfInBounds_toArray, List.set_cons_succ, List.set_cons_zero]) | (refine qw_pass (by first | (simp [Region.wanted, yielded]; done) | (simp [Region.wanted, yielded]; intro h; cases h)) ?_; simp only [Act.put, List.setIfInBounds_toArray, List.set_cons_succ, List.set_cons_zero]))
                (refine qw_call rfl (fun w' hC => by (go_simp; try rfl)) (fun w' hC => (H4.out w' (HBW.out w' hC)).mono (fun e w2 hr => ⟨hr.1, hC.trans (hr.2.mono hC.size)⟩)) ?_; simp only [Act.put, List.setIfInBounds_toArray, List.set_cons_succ, List.set_cons_zero])
                repeat (first | (refine qw_read rfl (fun w' hC => by obtain ⟨⟨f0, f1, f2, f3, f4, f5, f6⟩, g1, g2⟩ := HF.out w' hC; clear hC; go_simp; rfl) ?_; simp only [Act.put, List.setIfInBounds_toArray, List.set_cons_succ, List.set_cons_zero]) | (refine qw_pass (by first | (simp [Region.wanted, yielded]; done) | (simp [Region.wanted, yielded]; intro h; cases h)) ?_; simp only [Act.put, List.setIfInBounds_toArray, List.set_cons_succ, List.set_cons_zero]))
                refine qw_nil ?_
                intro w9 hb9
                go_wp2
                go_roundw
                case rel => exact ⟨k + 1, by omega, by go_num, hBr.trans (hb9.mono hBr.size)⟩
                case measure => simp [intOf]; omega
            · have hBw := hB7.trans (hBr.mono hB7.size)
              go_wp2_with fail
              refine (HSANE.out _).mono ?_
              rintro e w9 ⟨rfl, hb9⟩
              have hB9 := hBw.trans (hb9.mono hBw.size)
              go_wp2
              go_ret
              exact Ret.mk rfl hB9
        · have hSH := HSO.out hov
          have hcut := HOV.out hov
          rw [hSH] at H3
          rw [hcut] at H4
          dsimp only at H3
          clear hov hSH hcut
          go_wp2_with fail
          refine (H3.out _ hB6).mono ?_
          rintro e w7 ⟨rfl, hb7⟩
          have hbw7 := hba6.trans (hb7.mono hba6.size)
          clear f0 f1 f2 f3 f4 f5 f6 e1 e2 x0 x1 x2
          have hba7 : Below wa.heap.size wa (w7.alloc (.cells #[.int .i64 0, .int .i64 0, .int .i64 0, .int .i64 0, .int .i64 0, .int .i64 0, .int .i64 0, .int .i64 0, .int .i64 0] 47)) := by (repeat (first | exact Below.refl _ _ | assumption | refine Below.alloc ?_ (by first | exact Nat.le_refl _ | exact Below.size (by assumption) | omega | (simp <;> omega)) _ | refine Below.setCell ?_ (by first | exact Nat.le_refl _ | exact Below.size (by assumption) | omega | (simp <;> omega)) _ | refine below_drewN ?_ _ | refine Below.drew ?_))
          have hB7 := hBa.trans (hba7.mono hBa.size)
          obtain ⟨f0, f1, f2, f3, f4, f5, f6⟩ := HXA.out _ hba7
          go_wp2_with fail
          refine (H4.out _ hB7).mono ?_
          rintro e w8 ⟨rfl, hb8⟩
          have hB8 := hB7.trans (hb8.mono hB7.size)
          clear f0 f1 f2 f3 f4 f5 f6
          go_wp2_with fail
          refine (HSANE.out _).mono ?_
          rintro e w9 ⟨rfl, hb9⟩
          have hB9 := hB8.trans (hb9.mono hB8.size)
          go_wp2
          go_ret
          exact Ret.mk rfl hB9
end Go.Proofs.YtbcnkcndhgihaaaDoor

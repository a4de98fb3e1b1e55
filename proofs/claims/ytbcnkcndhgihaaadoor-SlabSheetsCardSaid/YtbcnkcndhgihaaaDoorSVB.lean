/- Blocks: what was taken, Volumes, of the reference: the walks. Printed by gensv5.py. Blocks: the reference's Volumes: the walk. Blocks: Sheets: the walks. Printed by gensv4.py. -/
import Derived.Test.YtbcnkcndhgihaaaDoorSVA
import Derived.Test.YtbcnkcndhgihaaaDoorCO6
import Derived.Test.YtbcnkcndhgihaaaDoorSRM
import Derived.Test.YtbcnkcndhgihaaaDoorSC7
namespace Go.Proofs.YtbcnkcndhgihaaaDoor
open Go.RowKit
set_option linter.unusedSimpArgs false

set_option maxRecDepth 100000 in
set_option maxHeartbeats 4000000 in
theorem refTaken_solid (b : BT) (w : World) (o : b.op = 1) (hw : wholeS b = true) : Calls Tryd.prog 66 #[valB b] w (Ret (val9 (takS b)) w) := by
  obtain ⟨wa, hwa⟩ : ∃ wa, ((w.alloc (.cells #[.int .i64 b.op, .int .i64 b.ax, .int .u8 b.co, .int .i64 b.n0, .int .i64 b.n1, .int .i64 b.n2, .slice b.A b.ps.length b.cp] 25)).alloc (.cells #[.int .i64 0, .int .i64 0, .int .i64 0, .int .i64 0, .int .i64 0, .int .i64 0, .int .i64 0, .int .i64 0, .int .i64 0] 47)).alloc (.cells #[.int .i64 0, .int .i64 0, .int .i64 0, .int .i64 0, .int .i64 0, .int .i64 0, .int .i64 0, .int .i64 0, .int .i64 0] 47) = wa := ⟨_, rfl⟩
  have hBa : Below w.heap.size w wa := by rw [← hwa]; (repeat (first | exact Below.refl _ _ | assumption | refine Below.alloc ?_ (by first | exact Nat.le_refl _ | exact Below.size (by assumption) | omega | (simp <;> omega)) _ | refine Below.setCell ?_ (by first | exact Nat.le_refl _ | exact Below.size (by assumption) | omega | (simp <;> omega)) _ | refine below_drewN ?_ _ | refine Below.drew ?_))
  have hza : wa.heap.size = w.heap.size + 3 := by rw [← hwa]; simp
  have hv := two9 b w
  rw [hwa] at hv
  obtain ⟨hv1, hv2⟩ := hv
  have hX : BxB wa w.heap.size b := (BxB.new w b 25).under (B := w.heap.size + 1) (by rw [← hwa]; (repeat (first | exact Below.refl _ _ | assumption | refine Below.alloc ?_ (by first | exact Nat.le_refl _ | exact Below.size (by assumption) | omega | (simp <;> omega)) _ | refine Below.setCell ?_ (by first | exact Nat.le_refl _ | exact Below.size (by assumption) | omega | (simp <;> omega)) _ | refine below_drewN ?_ _ | refine Below.drew ?_))) (by omega)
  rcases one_facts (whole_parts hw).1 with ⟨o1, o3, o4, hco, k1, k2, k3⟩ | ⟨_, _, _, ⟨o2, _⟩ | ⟨p, _, ⟨o2, _⟩ | ⟨o2, _⟩ | ⟨o2, _⟩ | ⟨o2, _⟩⟩⟩
  rotate_left
  all_goals try omega
  obtain ⟨i, hi⟩ : ∃ i : Nat, b.co = 97 + (i : Int) := ⟨(b.co - 97).toNat, by omega⟩
  have hi9 : i < 9 := by omega
  have a1 : 0 ≤ b.n0 * b.n1 := Int.mul_nonneg (by omega) (by omega)
  have a2 : b.n0 * b.n1 ≤ 999 * 999 := Int.mul_le_mul (by omega) (by omega) (by omega) (by omega)
  have a3 : 0 ≤ b.n0 * b.n1 * b.n2 := Int.mul_nonneg a1 (by omega)
  have a4 : b.n0 * b.n1 * b.n2 ≤ 999 * 999 * 999 := Int.mul_le_mul a2 (by omega) (by omega) (by omega)
  have e1 : IntKind.u8.wrap (b.co - 97) = i := by
    rw [show b.co - 97 = i by omega]
    exact IntWalk.u8_in _ (by omega)
  have d1 : (b.op == 1) = true := by rw [o]; rfl
  have e2 : wrap64 (b.n0 * b.n1) = b.n0 * b.n1 := w64b (by omega) (by omega)
  have e3 : wrap64 (b.n0 * b.n1 * b.n2) = b.n0 * b.n1 * b.n2 := w64b (by omega) (by omega)
  have HS : Hid (∀ j : Int, upd (fun _ => 0) i (b.n0 * b.n1 * b.n2) j = takS b j) := by
    intro j
    rw [takS_eq, if_pos o]
    unfold upd
    by_cases h : j = (i : Int)
    · rw [if_pos h, if_pos (by omega)]
    · rw [if_neg h, if_neg (by omega)]
  obtain ⟨f0, f1, f2, f3, f4, f5, f6⟩ := hX
  obtain ⟨g1, g2⟩ := hv2.at hi9
  have HV1 := Lib.hid hv1; have HV2 := Lib.hid hv2
  have HWA := Lib.hid hwa
  clear hwa hv1 hv2 o1 o3 o4 k1 k2 k3 a1 a2 a3 a4 hco hi o hw
  go_enter Tryd.func66, Tryd.ntmps66
  go_upto_region 2 with fail
  rw [HWA.out]
  go_upto_region 4 with fail
  rw [e3]
  have hn := HV2.out.set hi9 (b.n0 * b.n1 * b.n2)
  have hr : V9 (wa.setCell ⟨w.heap.size + 1 + 1, i, none⟩ (.int .i64 (b.n0 * b.n1 * b.n2))) (w.heap.size + 1) (fun _ => 0) := ((grownBy_setCell9 wa (w.heap.size + 1 + 1) i _).block _ HV1.out.lt (fun e => by injection e with e; omega)).trans HV1.out
  have hb : Below w.heap.size w (wa.setCell ⟨w.heap.size + 1 + 1, i, none⟩ (.int .i64 (b.n0 * b.n1 * b.n2))) := hBa.setCell (p := ⟨w.heap.size + 1 + 1, i, none⟩) (by simp; omega) _
  have hn2 : V9 (wa.setCell ⟨w.heap.size + 1 + 1, i, none⟩ (.int .i64 (b.n0 * b.n1 * b.n2))) (w.heap.size + 2) (takS b) := V9.eqf hn fun j _ => HS.out j
  generalize wa.setCell ⟨w.heap.size + 1 + 1, i, none⟩ (.int .i64 (b.n0 * b.n1 * b.n2)) = wb at *
  obtain ⟨z0, z1, z2, z3, z4, z5, z6, z7, z8⟩ := hn2.c
  have HR := Lib.hid hr
  clear f0 f1 f2 f3 f4 f5 f6 e1 e2 e3 d1 g1 g2 hr hn hn2
  go_wp2_with ((with_reducible refine at_store9 ?_); refine wpList_store9 (takS b) _ _ HR.out rfl rfl rfl rfl ?_)
  obtain ⟨y0, y1, y2, y3, y4, y5, y6, y7, y8⟩ := (HR.out.put (takS b)).c
  refine bodyPost_ret (v := val9 (takS b)) (by simp [results, Tryd.results66, go_sem, y0, y1, y2, y3, y4, y5, y6, y7, y8]) rfl ?_
  exact Ret.mk rfl (hb.trans (put9_below _ (by omega)))
set_option maxRecDepth 100000 in
set_option maxHeartbeats 4000000 in
theorem refTaken_step (b : BT) (w : World) (o : ¬ b.op = 1) (hw : wholeS b = true) (hb : OkB w w.heap.size b) (ih : ∀ p ∈ b.ps, ∀ (w : World), OkB w w.heap.size p → Calls Tryd.prog 66 #[valB p] w (Ret (val9 (takS p)) w)) : Calls Tryd.prog 66 #[valB b] w (Ret (val9 (takS b)) w) := by
  have hmx : Tryd.prog.follows .mixedOrders = true := by kernel_rfl
  have IH := Lib.hid ih; clear ih
  have HB := Lib.hid hb; clear hb
  have hlen := HB.out.len
  have hlm : b.ps.length ≤ 9223372036854775807 := by unfold maxLen at hlen; omega
  clear hlen
  obtain ⟨wa, hwa⟩ : ∃ wa, ((w.alloc (.cells #[.int .i64 b.op, .int .i64 b.ax, .int .u8 b.co, .int .i64 b.n0, .int .i64 b.n1, .int .i64 b.n2, .slice b.A b.ps.length b.cp] 25)).alloc (.cells #[.int .i64 0, .int .i64 0, .int .i64 0, .int .i64 0, .int .i64 0, .int .i64 0, .int .i64 0, .int .i64 0, .int .i64 0] 47)).alloc (.cells #[.int .i64 0, .int .i64 0, .int .i64 0, .int .i64 0, .int .i64 0, .int .i64 0, .int .i64 0, .int .i64 0, .int .i64 0] 47) = wa := ⟨_, rfl⟩
  have hBa : Below w.heap.size w wa := by rw [← hwa]; (repeat (first | exact Below.refl _ _ | assumption | refine Below.alloc ?_ (by first | exact Nat.le_refl _ | exact Below.size (by assumption) | omega | (simp <;> omega)) _ | refine Below.setCell ?_ (by first | exact Nat.le_refl _ | exact Below.size (by assumption) | omega | (simp <;> omega)) _ | refine below_drewN ?_ _ | refine Below.drew ?_))
  have hza : wa.heap.size = w.heap.size + 3 := by rw [← hwa]; simp
  have hv := two9 b w
  rw [hwa] at hv
  obtain ⟨hv1, hv2⟩ := hv
  have hX : BX wa w.heap.size b := (BX.new w b).below (B := w.heap.size + 1) (by rw [← hwa]; (repeat (first | exact Below.refl _ _ | assumption | refine Below.alloc ?_ (by first | exact Nat.le_refl _ | exact Below.size (by assumption) | omega | (simp <;> omega)) _ | refine Below.setCell ?_ (by first | exact Nat.le_refl _ | exact Below.size (by assumption) | omega | (simp <;> omega)) _ | refine below_drewN ?_ _ | refine Below.drew ?_))) (by omega)
  have HX := Lib.hid hX
  have ht := one_times (whole_parts hw).1
  have HT : Hid (timesB b = if b.op = 6 then b.n0 else 1) := rfl
  have HP := Lib.hid (fun k j => takP_bd hw k j)
  have HQ := Lib.hid (fun k (q : BT) (hq : b.ps[k]? = some q) j => tak_bd q ((whole_parts hw).2 q (List.mem_of_getElem? hq)) j)
  have HALL : Hid (∀ j, takP b b.ps.length j = takS b j) := fun j => takP_all o j
  have d1 : (b.op == 1) = false := by simpa using o
  have HV1 := Lib.hid hv1; have HV2 := Lib.hid hv2
  obtain ⟨f0, f1, f2, f3, f4, f5, f6⟩ := hX.c
  have HWA := Lib.hid hwa
  clear hwa hv1 hv2 o hw hX
  go_enter Tryd.func66, Tryd.ntmps66
  go_upto_region 2 with fail
  rw [HWA.out]
  cases d6 : (b.op == 6)
  · have hTB : timesB b = 1 := by
      rw [HT.out]
      exact if_neg (by simpa using d6)
    rw [hTB] at ht
    have HPS0 : Hid (∀ (k : Nat) (q : BT), b.ps[k]? = some q → ∀ j, takP b (k + 1) j = min (takP b k j + takS q j) capN) := fun k q hq j => by rw [takP_succ hq, hTB, Int.mul_one]
    clear hTB
    go_wp2
    clear d1 d6
    clear f0 f1 f2 f3 f4 f5 f6
    go_loopw [5] (fun i wr => ∃ k : Nat, k ≤ b.ps.length ∧ i = .int .i64 k ∧ V9 wr (w.heap.size + 2) (takP b k) ∧ V9 wr (w.heap.size + 1) (fun _ => 0) ∧ BX wr w.heap.size b ∧ Below w.heap.size w wr) (fun i _ => b.ps.length - (intOf i).toNat)
    case atStart => exact ⟨0, Nat.zero_le _, rfl, HV2.out, HV1.out, HX.out, hBa⟩
    case round =>
      obtain ⟨k, hk, rfl, hva, hvb, hbx, hB⟩ := hrel
      have HVA := Lib.hid hva; have HVB := Lib.hid hvb; have HBX := Lib.hid hbx
      clear hva hvb hbx
      have hsB := hB.size
      obtain ⟨f0, f1, f2, f3, f4, f5, f6⟩ := HBX.out.c
      by_cases hlt : k < b.ps.length
      · obtain ⟨q, hq⟩ := getElem?_of_lt hlt
        have hk1 := HB.out.now hB
        obtain ⟨bb, off, hA, hbb, c0, c1, c2, c3, c4, c5, c6⟩ := hk1.rd.at hq
        have HK := Lib.hid (hk1.kid (List.mem_of_getElem? hq)); clear hk1
        have HI := Lib.hid (IH.out q (List.mem_of_getElem? hq))
        have HTQ := Lib.hid (HQ.out k q hq)
        have HPS := Lib.hid (HPS0.out k q hq)
        clear hq
        rw [hA] at f6
        clear hA
        go_wp2_with fail
        refine (HI.out _ (HK.out.now (by (repeat (first | exact Below.refl _ _ | assumption | refine Below.alloc ?_ (by first | exact Nat.le_refl _ | exact Below.size (by assumption) | omega | (simp <;> omega)) _ | refine Below.setCell ?_ (by first | exact Nat.le_refl _ | exact Below.size (by assumption) | omega | (simp <;> omega)) _ | refine below_drewN ?_ _ | refine Below.drew ?_))))).mono ?_
        rintro e w3 ⟨rfl, hb3⟩
        have hb4 : Below wr.heap.size wr (w3.alloc (.cells #[.int .i64 (takS q 0), .int .i64 (takS q 1), .int .i64 (takS q 2), .int .i64 (takS q 3), .int .i64 (takS q 4), .int .i64 (takS q 5), .int .i64 (takS q 6), .int .i64 (takS q 7), .int .i64 (takS q 8)] 47)) := by (repeat (first | exact Below.refl _ _ | assumption | refine Below.alloc ?_ (by first | exact Nat.le_refl _ | exact Below.size (by assumption) | omega | (simp <;> omega)) _ | refine Below.setCell ?_ (by first | exact Nat.le_refl _ | exact Below.size (by assumption) | omega | (simp <;> omega)) _ | refine below_drewN ?_ _ | refine Below.drew ?_))
        have HA3 := Lib.hid (HVA.out.below hb4 HVA.out.lt)
        have HB3 := Lib.hid (HVB.out.below hb4 HVB.out.lt)
        have HX3 := Lib.hid (HBX.out.below hb4 HBX.out.lt)
        have HP3 := Lib.hid (V9.new w3 (takS q))
        have hB3 := hB.trans (hb4.mono hsB)
        have hs3 := hb3.size
        have hs4 := HVA.out.lt
        clear c0 c1 c2 c3 c4 c5 c6 hb4 HVA HVB HBX f0 f1 f2 f3 f4 f5 f6
        go_wp2
        generalize w3.alloc (.cells #[.int .i64 (takS q 0), .int .i64 (takS q 1), .int .i64 (takS q 2), .int .i64 (takS q 3), .int .i64 (takS q 4), .int .i64 (takS q 5), .int .i64 (takS q 6), .int .i64 (takS q 7), .int .i64 (takS q 8)] 47) = w4 at *
        go_loopw [7] (fun i wr => ∃ m : Nat, m ≤ 9 ∧ i = .int .i64 m ∧ V9 wr (w.heap.size + 2) (mixK m (takP b k) (takP b (k + 1))) ∧ V9 wr (w.heap.size + 1) (fun _ => 0) ∧ BX wr w.heap.size b ∧ V9 wr w3.heap.size (takS q) ∧ Below w.heap.size w wr) (fun i _ => 9 - (intOf i).toNat)
        case atStart => exact ⟨0, by omega, rfl, HA3.out.eqf (fun j _ => (mixK_zero _ _).symm), HB3.out, HX3.out, HP3.out, hB3⟩
        case round =>
          obtain ⟨m, hm, rfl, hva, hvb, hbx, hvp, hB4⟩ := hrel
          have HVA := Lib.hid hva; have HVB := Lib.hid hvb; have HBX := Lib.hid hbx; have HVP := Lib.hid hvp
          clear hva hvb hbx hvp
          by_cases hm9 : m < 9
          · have h1 := HTQ.out (m : Int)
            have h2 := HP.out k (m : Int)
            have h3 := HPS.out (m : Int)
            have HG : Hid (∀ W, Below wr.heap.size wr W → W.cell? ⟨w.heap.size + 1 + 1, m, none⟩ = some (.int .i64 (takP b k m)) ∧ W.frozen? ⟨w.heap.size + 1 + 1, m, none⟩ = false ∧ W.cell? ⟨w3.heap.size, m, none⟩ = some (.int .i64 (takS q m))) := fun W hW => by
              have g1 := (HVA.out.below hW HVA.out.lt).at hm9
              rw [mixK_at] at g1
              exact ⟨g1.1, g1.2, ((HVP.out.below hW HVP.out.lt).at hm9).1⟩
            have HN : Hid (∀ W, Below wr.heap.size wr W → V9 (W.setCell ⟨w.heap.size + 1 + 1, m, none⟩ (.int .i64 (takP b (k + 1) m))) (w.heap.size + 2) (mixK (m + 1) (takP b k) (takP b (k + 1))) ∧ V9 (W.setCell ⟨w.heap.size + 1 + 1, m, none⟩ (.int .i64 (takP b (k + 1) m))) (w.heap.size + 1) (fun _ => 0) ∧ BX (W.setCell ⟨w.heap.size + 1 + 1, m, none⟩ (.int .i64 (takP b (k + 1) m))) w.heap.size b ∧ V9 (W.setCell ⟨w.heap.size + 1 + 1, m, none⟩ (.int .i64 (takP b (k + 1) m))) w3.heap.size (takS q) ∧ Below w.heap.size w (W.setCell ⟨w.heap.size + 1 + 1, m, none⟩ (.int .i64 (takP b (k + 1) m)))) := fun W hW => by
              have g1 := (HVA.out.below hW HVA.out.lt).set hm9 (takP b (k + 1) m)
              rw [mixK_succ] at g1
              have hg := grownBy_setCell9 W (w.heap.size + 1 + 1) m (.int .i64 (takP b (k + 1) m))
              have a1 := HVB.out.below hW HVB.out.lt
              have a2 := HBX.out.below hW HBX.out.lt
              have a3 := HVP.out.below hW HVP.out.lt
              exact ⟨g1, (hg.block _ a1.lt (fun e => by injection e with e; omega)).trans a1, a2.grown hg (by omega), (hg.block _ a3.lt (fun e => by injection e with e; omega)).trans a3, (hB4.trans (hW.mono hB4.size)).setCell (p := ⟨w.heap.size + 1 + 1, m, none⟩) (by simp; omega) _⟩
            generalize takS q (m : Int) = u at *
            generalize takP b k (m : Int) = a at *
            generalize takP b (k + 1) (m : Int) = n at *
            have h4 := h1
            unfold capN at h4
            have e1 : IntKind.i64.wrap (u) = u := IntWalk.i64_in _ (by omega)
            have e2 : IntKind.i64.wrap (a + u) = a + u := IntWalk.i64_in _ (by unfold capN at h2; omega)
            have HN3 : Hid (n = min (a + u) capN) := h3
            clear h1 h2 h3 h4
            go_wp2
            refine region_tail 12 (fun W => Below wr.heap.size wr W) hmx (by kernel_rfl) (by (repeat (first | exact Below.refl _ _ | assumption | refine Below.alloc ?_ (by first | exact Nat.le_refl _ | exact Below.size (by assumption) | omega | (simp <;> omega)) _ | refine Below.setCell ?_ (by first | exact Nat.le_refl _ | exact Below.size (by assumption) | omega | (simp <;> omega)) _ | refine below_drewN ?_ _ | refine Below.drew ?_))) ?_
            repeat (first | (refine qw_read rfl (fun w' hC => by obtain ⟨g1, g2, g3⟩ := HG.out w' hC; clear hC; go_simp; rfl) ?_; simp only [Act.put, List.setIfInBounds_toArray, List.set_cons_succ, List.set_cons_zero]) | (refine qw_pass (by first | (simp [Region.wanted, yielded]; done) | (simp [Region.wanted, yielded]; intro h; cases h)) ?_; simp only [Act.put, List.setIfInBounds_toArray, List.set_cons_succ, List.set_cons_zero]))
            refine qw_nil ?_
            intro w9 hb9
            obtain ⟨g1, g2, g3⟩ := HG.out w9 hb9
            have hN := HN.out w9 hb9
            have HN9 := Lib.hid hN
            clear hN
            have hif : min (a + u) 1099511627777 = n := HN3.out.symm
            go_wp2
            go_roundw
            case rel => exact ⟨m + 1, by omega, by go_num, HN9.out⟩
            case measure => simp [intOf]; omega
          · obtain rfl : m = 9 := by omega
            have HN : Hid (V9 wr (w.heap.size + 2) (takP b (k + 1))) := HVA.out.eqf (fun j hj => mixK_nine hj _ _)
            clear HVA
            go_wp2
            go_roundw
            case rel => exact ⟨k + 1, by omega, by go_num, HN.out, HVB.out, HBX.out, hB4⟩
            case measure => simp [intOf]; omega
      · obtain rfl : k = b.ps.length := by omega
        have HN : Hid (V9 wr (w.heap.size + 2) (takS b)) := HVA.out.eqf (fun j _ => HALL.out j)
        clear HVA
        obtain ⟨z0, z1, z2, z3, z4, z5, z6, z7, z8⟩ := HN.out.c
        go_wp2_with ((with_reducible refine at_store9 ?_); refine wpList_store9 (takS b) _ _ HVB.out rfl rfl rfl rfl ?_)
        obtain ⟨y0, y1, y2, y3, y4, y5, y6, y7, y8⟩ := (HVB.out.put (takS b)).c
        refine bodyPost_ret (v := val9 (takS b)) (by simp [results, Tryd.results66, go_sem, y0, y1, y2, y3, y4, y5, y6, y7, y8]) rfl ?_
        exact Ret.mk rfl (hB.trans (put9_below _ (by omega)))
  · obtain ⟨T, hT⟩ : ∃ T : Int, T = b.n0 := ⟨_, rfl⟩
    have hTB : timesB b = T := by
      rw [HT.out, hT]
      exact if_pos (by simpa using d6)
    rw [hTB] at ht
    have HPS0 : Hid (∀ (k : Nat) (q : BT), b.ps[k]? = some q → ∀ j, takP b (k + 1) j = min (takP b k j + takS q j * T) capN) := fun k q hq j => by rw [takP_succ hq, hTB]
    rw [← hT] at f3
    clear hT hTB
    go_wp2
    clear d1 d6
    clear f0 f1 f2 f3 f4 f5 f6
    go_loopw [5] (fun i wr => ∃ k : Nat, k ≤ b.ps.length ∧ i = .int .i64 k ∧ V9 wr (w.heap.size + 2) (takP b k) ∧ V9 wr (w.heap.size + 1) (fun _ => 0) ∧ BX wr w.heap.size b ∧ Below w.heap.size w wr) (fun i _ => b.ps.length - (intOf i).toNat)
    case atStart => exact ⟨0, Nat.zero_le _, rfl, HV2.out, HV1.out, HX.out, hBa⟩
    case round =>
      obtain ⟨k, hk, rfl, hva, hvb, hbx, hB⟩ := hrel
      have HVA := Lib.hid hva; have HVB := Lib.hid hvb; have HBX := Lib.hid hbx
      clear hva hvb hbx
      have hsB := hB.size
      obtain ⟨f0, f1, f2, f3, f4, f5, f6⟩ := HBX.out.c
      by_cases hlt : k < b.ps.length
      · obtain ⟨q, hq⟩ := getElem?_of_lt hlt
        have hk1 := HB.out.now hB
        obtain ⟨bb, off, hA, hbb, c0, c1, c2, c3, c4, c5, c6⟩ := hk1.rd.at hq
        have HK := Lib.hid (hk1.kid (List.mem_of_getElem? hq)); clear hk1
        have HI := Lib.hid (IH.out q (List.mem_of_getElem? hq))
        have HTQ := Lib.hid (HQ.out k q hq)
        have HPS := Lib.hid (HPS0.out k q hq)
        clear hq
        rw [hA] at f6
        clear hA
        go_wp2_with fail
        refine (HI.out _ (HK.out.now (by (repeat (first | exact Below.refl _ _ | assumption | refine Below.alloc ?_ (by first | exact Nat.le_refl _ | exact Below.size (by assumption) | omega | (simp <;> omega)) _ | refine Below.setCell ?_ (by first | exact Nat.le_refl _ | exact Below.size (by assumption) | omega | (simp <;> omega)) _ | refine below_drewN ?_ _ | refine Below.drew ?_))))).mono ?_
        rintro e w3 ⟨rfl, hb3⟩
        have hb4 : Below wr.heap.size wr (w3.alloc (.cells #[.int .i64 (takS q 0), .int .i64 (takS q 1), .int .i64 (takS q 2), .int .i64 (takS q 3), .int .i64 (takS q 4), .int .i64 (takS q 5), .int .i64 (takS q 6), .int .i64 (takS q 7), .int .i64 (takS q 8)] 47)) := by (repeat (first | exact Below.refl _ _ | assumption | refine Below.alloc ?_ (by first | exact Nat.le_refl _ | exact Below.size (by assumption) | omega | (simp <;> omega)) _ | refine Below.setCell ?_ (by first | exact Nat.le_refl _ | exact Below.size (by assumption) | omega | (simp <;> omega)) _ | refine below_drewN ?_ _ | refine Below.drew ?_))
        have HA3 := Lib.hid (HVA.out.below hb4 HVA.out.lt)
        have HB3 := Lib.hid (HVB.out.below hb4 HVB.out.lt)
        have HX3 := Lib.hid (HBX.out.below hb4 HBX.out.lt)
        have HP3 := Lib.hid (V9.new w3 (takS q))
        have hB3 := hB.trans (hb4.mono hsB)
        have hs3 := hb3.size
        have hs4 := HVA.out.lt
        clear c0 c1 c2 c3 c4 c5 c6 hb4 HVA HVB HBX f0 f1 f2 f3 f4 f5 f6
        go_wp2
        generalize w3.alloc (.cells #[.int .i64 (takS q 0), .int .i64 (takS q 1), .int .i64 (takS q 2), .int .i64 (takS q 3), .int .i64 (takS q 4), .int .i64 (takS q 5), .int .i64 (takS q 6), .int .i64 (takS q 7), .int .i64 (takS q 8)] 47) = w4 at *
        go_loopw [7] (fun i wr => ∃ m : Nat, m ≤ 9 ∧ i = .int .i64 m ∧ V9 wr (w.heap.size + 2) (mixK m (takP b k) (takP b (k + 1))) ∧ V9 wr (w.heap.size + 1) (fun _ => 0) ∧ BX wr w.heap.size b ∧ V9 wr w3.heap.size (takS q) ∧ Below w.heap.size w wr) (fun i _ => 9 - (intOf i).toNat)
        case atStart => exact ⟨0, by omega, rfl, HA3.out.eqf (fun j _ => (mixK_zero _ _).symm), HB3.out, HX3.out, HP3.out, hB3⟩
        case round =>
          obtain ⟨m, hm, rfl, hva, hvb, hbx, hvp, hB4⟩ := hrel
          have HVA := Lib.hid hva; have HVB := Lib.hid hvb; have HBX := Lib.hid hbx; have HVP := Lib.hid hvp
          clear hva hvb hbx hvp
          by_cases hm9 : m < 9
          · have h1 := HTQ.out (m : Int)
            have h2 := HP.out k (m : Int)
            have h3 := HPS.out (m : Int)
            have HG : Hid (∀ W, Below wr.heap.size wr W → W.cell? ⟨w.heap.size + 1 + 1, m, none⟩ = some (.int .i64 (takP b k m)) ∧ W.frozen? ⟨w.heap.size + 1 + 1, m, none⟩ = false ∧ W.cell? ⟨w3.heap.size, m, none⟩ = some (.int .i64 (takS q m))) := fun W hW => by
              have g1 := (HVA.out.below hW HVA.out.lt).at hm9
              rw [mixK_at] at g1
              exact ⟨g1.1, g1.2, ((HVP.out.below hW HVP.out.lt).at hm9).1⟩
            have HN : Hid (∀ W, Below wr.heap.size wr W → V9 (W.setCell ⟨w.heap.size + 1 + 1, m, none⟩ (.int .i64 (takP b (k + 1) m))) (w.heap.size + 2) (mixK (m + 1) (takP b k) (takP b (k + 1))) ∧ V9 (W.setCell ⟨w.heap.size + 1 + 1, m, none⟩ (.int .i64 (takP b (k + 1) m))) (w.heap.size + 1) (fun _ => 0) ∧ BX (W.setCell ⟨w.heap.size + 1 + 1, m, none⟩ (.int .i64 (takP b (k + 1) m))) w.heap.size b ∧ V9 (W.setCell ⟨w.heap.size + 1 + 1, m, none⟩ (.int .i64 (takP b (k + 1) m))) w3.heap.size (takS q) ∧ Below w.heap.size w (W.setCell ⟨w.heap.size + 1 + 1, m, none⟩ (.int .i64 (takP b (k + 1) m)))) := fun W hW => by
              have g1 := (HVA.out.below hW HVA.out.lt).set hm9 (takP b (k + 1) m)
              rw [mixK_succ] at g1
              have hg := grownBy_setCell9 W (w.heap.size + 1 + 1) m (.int .i64 (takP b (k + 1) m))
              have a1 := HVB.out.below hW HVB.out.lt
              have a2 := HBX.out.below hW HBX.out.lt
              have a3 := HVP.out.below hW HVP.out.lt
              exact ⟨g1, (hg.block _ a1.lt (fun e => by injection e with e; omega)).trans a1, a2.grown hg (by omega), (hg.block _ a3.lt (fun e => by injection e with e; omega)).trans a3, (hB4.trans (hW.mono hB4.size)).setCell (p := ⟨w.heap.size + 1 + 1, m, none⟩) (by simp; omega) _⟩
            generalize takS q (m : Int) = u at *
            generalize takP b k (m : Int) = a at *
            generalize takP b (k + 1) (m : Int) = n at *
            have h4 : 0 ≤ T * u ∧ T * u ≤ 999 * 1099511627777 := ⟨Int.mul_nonneg (by omega) (by omega), Int.mul_le_mul (by omega) (by unfold capN at h1; omega) (by omega) (by omega)⟩
            rw [Int.mul_comm u T] at h3
            have e1 : IntKind.i64.wrap (T * u) = T * u := IntWalk.i64_in _ (by omega)
            have e2 : IntKind.i64.wrap (a + T * u) = a + T * u := IntWalk.i64_in _ (by unfold capN at h2; omega)
            have HN3 : Hid (n = min (a + T * u) capN) := h3
            clear h1 h2 h3 h4
            go_wp2
            refine region_tail 12 (fun W => Below wr.heap.size wr W) hmx (by kernel_rfl) (by (repeat (first | exact Below.refl _ _ | assumption | refine Below.alloc ?_ (by first | exact Nat.le_refl _ | exact Below.size (by assumption) | omega | (simp <;> omega)) _ | refine Below.setCell ?_ (by first | exact Nat.le_refl _ | exact Below.size (by assumption) | omega | (simp <;> omega)) _ | refine below_drewN ?_ _ | refine Below.drew ?_))) ?_
            repeat (first | (refine qw_read rfl (fun w' hC => by obtain ⟨g1, g2, g3⟩ := HG.out w' hC; clear hC; go_simp; rfl) ?_; simp only [Act.put, List.setIfInBounds_toArray, List.set_cons_succ, List.set_cons_zero]) | (refine qw_pass (by first | (simp [Region.wanted, yielded]; done) | (simp [Region.wanted, yielded]; intro h; cases h)) ?_; simp only [Act.put, List.setIfInBounds_toArray, List.set_cons_succ, List.set_cons_zero]))
            refine qw_nil ?_
            intro w9 hb9
            obtain ⟨g1, g2, g3⟩ := HG.out w9 hb9
            have hN := HN.out w9 hb9
            have HN9 := Lib.hid hN
            clear hN
            have hif : min (a + T * u) 1099511627777 = n := HN3.out.symm
            go_wp2
            go_roundw
            case rel => exact ⟨m + 1, by omega, by go_num, HN9.out⟩
            case measure => simp [intOf]; omega
          · obtain rfl : m = 9 := by omega
            have HN : Hid (V9 wr (w.heap.size + 2) (takP b (k + 1))) := HVA.out.eqf (fun j hj => mixK_nine hj _ _)
            clear HVA
            go_wp2
            go_roundw
            case rel => exact ⟨k + 1, by omega, by go_num, HN.out, HVB.out, HBX.out, hB4⟩
            case measure => simp [intOf]; omega
      · obtain rfl : k = b.ps.length := by omega
        have HN : Hid (V9 wr (w.heap.size + 2) (takS b)) := HVA.out.eqf (fun j _ => HALL.out j)
        clear HVA
        obtain ⟨z0, z1, z2, z3, z4, z5, z6, z7, z8⟩ := HN.out.c
        go_wp2_with ((with_reducible refine at_store9 ?_); refine wpList_store9 (takS b) _ _ HVB.out rfl rfl rfl rfl ?_)
        obtain ⟨y0, y1, y2, y3, y4, y5, y6, y7, y8⟩ := (HVB.out.put (takS b)).c
        refine bodyPost_ret (v := val9 (takS b)) (by simp [results, Tryd.results66, go_sem, y0, y1, y2, y3, y4, y5, y6, y7, y8]) rfl ?_
        exact Ret.mk rfl (hB.trans (put9_below _ (by omega)))
theorem refTaken_any : ∀ (b : BT) (w : World), wholeS b = true → OkB w w.heap.size b → Calls Tryd.prog 66 #[valB b] w (Ret (val9 (takS b)) w) := by
  refine BT.ind (P := fun b => ∀ (w : World), wholeS b = true → OkB w w.heap.size b → Calls Tryd.prog 66 #[valB b] w (Ret (val9 (takS b)) w)) ?_
  intro b ih w hw hb
  by_cases o : b.op = 1
  · exact refTaken_solid b w o hw
  · exact refTaken_step b w o hw hb fun p hp w h => ih p hp w ((whole_parts hw).2 p hp) h
end Go.Proofs.YtbcnkcndhgihaaaDoor

namespace Go.Proofs.YtbcnkcndhgihaaaDoor
open Go.RowKit
set_option linter.unusedSimpArgs false

theorem nat_div0 (m n : Nat) : (0 : Int) ≤ (m : Int) / n := Int.natCast_nonneg (m / n)
theorem rem_nat (m n : Nat) : (m : Int).tmod n = (m : Int) % n := tmod_pos (by omega)
theorem rem_nat2 (m n k : Nat) : ((m : Int) / n).tmod k = (m : Int) / n % k := tmod_pos (nat_div0 m n)
theorem quo_nat {m n : Nat} (h : m ≤ 100000000) : IntKind.i64.wrap ((m : Int) / n) = (m : Int) / n := by
  rw [show (m : Int) / n = ((m / n : Nat) : Int) from rfl]
  have h1 := Nat.div_le_self m n
  generalize m / n = x at *
  exact IntWalk.i64_in _ (by omega)
theorem quo_nat2 {m n k : Nat} (h : m ≤ 100000000) : IntKind.i64.wrap (((m : Int) / n).tdiv k) = (m : Int) / n / k := by
  rw [Int.tdiv_eq_ediv_of_nonneg (nat_div0 m n), show (m : Int) / n = ((m / n : Nat) : Int) from rfl]
  exact quo_nat (by have := Nat.div_le_self m n; omega)
set_option maxRecDepth 100000 in
set_option maxHeartbeats 4000000 in
theorem refVolumes_err (b : BT) (w : World) (er : Int) (hf : formS b = .error er) (hb : OkB w w.heap.size b) : Calls Tryd.prog 36 #[valB b] w (Ret (.tuple #[val9 (volB b).1, .int .i64 (volB b).2]) w) := by
  obtain ⟨wa, hwa⟩ : ∃ wa, ((w.alloc (.cells #[.int .i64 b.op, .int .i64 b.ax, .int .u8 b.co, .int .i64 b.n0, .int .i64 b.n1, .int .i64 b.n2, .slice b.A b.ps.length b.cp] 25)).alloc (.cells #[.int .i64 0, .int .i64 0, .int .i64 0, .int .i64 0, .int .i64 0, .int .i64 0, .int .i64 0, .int .i64 0, .int .i64 0] 47)).alloc (.cells #[.int .i64 0, .int .i64 0, .int .i64 0, .int .i64 0, .int .i64 0, .int .i64 0, .int .i64 0, .int .i64 0, .int .i64 0] 47) = wa := ⟨_, rfl⟩
  have hBa : Below w.heap.size w wa := by rw [← hwa]; (repeat (first | exact Below.refl _ _ | assumption | refine Below.alloc ?_ (by first | exact Nat.le_refl _ | exact Below.size (by assumption) | omega | (simp <;> omega)) _ | refine Below.setCell ?_ (by first | exact Nat.le_refl _ | exact Below.size (by assumption) | omega | (simp <;> omega)) _ | refine below_drewN ?_ _ | refine Below.drew ?_))
  have hza : wa.heap.size = w.heap.size + 3 := by rw [← hwa]; simp
  have hv := two9 b w
  rw [hwa] at hv
  obtain ⟨hv1, hv2⟩ := hv
  have hE : extB b = (⟨0, 0, 0⟩, er) := by unfold extB; rw [hf]
  have HE := Lib.hid (refExtent_any b wa (hb.now hBa))
  rw [hE] at HE
  dsimp only at HE
  have HV1 := Lib.hid hv1; have HV2 := Lib.hid hv2
  have hX : BxB wa w.heap.size b := (BxB.new w b 25).under (B := w.heap.size + 1) (by rw [← hwa]; (repeat (first | exact Below.refl _ _ | assumption | refine Below.alloc ?_ (by first | exact Nat.le_refl _ | exact Below.size (by assumption) | omega | (simp <;> omega)) _ | refine Below.setCell ?_ (by first | exact Nat.le_refl _ | exact Below.size (by assumption) | omega | (simp <;> omega)) _ | refine below_drewN ?_ _ | refine Below.drew ?_))) (by omega)
  have HWA := Lib.hid hwa
  have hx := form_err hf
  have HS : Hid (volB b = (fun _ => 0, er)) := by show _ = _; unfold volB; rw [hf]
  have hne : (er != 0) = true := by simp; omega
  clear hb hv1 hv2 hwa hE hf hx
  obtain ⟨f0, f1, f2, f3, f4, f5, f6⟩ := hX
  go_enter Tryd.func36, Tryd.ntmps36
  go_wp2_with fail
  rw [HWA.out]
  refine HE.out.mono ?_
  rintro e w2 ⟨rfl, hb2⟩
  clear f0 f1 f2 f3 f4 f5 f6
  have hs2 := hb2.size
  have HX : Hid (V9 (w2.alloc (.cells #[.int .i64 0, .int .i64 0, .int .i64 0] 22)) (w.heap.size + 1) (fun _ => 0)) := HV1.out.below (B := wa.heap.size) (by (repeat (first | exact Below.refl _ _ | assumption | refine Below.alloc ?_ (by first | exact Nat.le_refl _ | exact Below.size (by assumption) | omega | (simp <;> omega)) _ | refine Below.setCell ?_ (by first | exact Nat.le_refl _ | exact Below.size (by assumption) | omega | (simp <;> omega)) _ | refine below_drewN ?_ _ | refine Below.drew ?_))) (by omega)
  have hy : V9 (w2.alloc (.cells #[.int .i64 0, .int .i64 0, .int .i64 0] 22)) (w.heap.size + 2) (fun _ => 0) := HV2.out.below (B := wa.heap.size) (by (repeat (first | exact Below.refl _ _ | assumption | refine Below.alloc ?_ (by first | exact Nat.le_refl _ | exact Below.size (by assumption) | omega | (simp <;> omega)) _ | refine Below.setCell ?_ (by first | exact Nat.le_refl _ | exact Below.size (by assumption) | omega | (simp <;> omega)) _ | refine below_drewN ?_ _ | refine Below.drew ?_))) (by omega)
  obtain ⟨y0, y1, y2, y3, y4, y5, y6, y7, y8⟩ := hy.c
  have hB2 := hBa.trans (hb2.mono hBa.size)
  go_wp2_with ((with_reducible refine at_store9 ?_); refine wpList_store9 (fun _ => 0) _ _ HX.out rfl rfl rfl rfl ?_)
  have hz := HX.out.put (fun _ => 0)
  obtain ⟨z0, z1, z2, z3, z4, z5, z6, z7, z8⟩ := hz.c
  refine bodyPost_ret (v := .tuple #[val9 (fun _ => 0), .int .i64 er]) (by simp [results, Tryd.results36, go_sem, z0, z1, z2, z3, z4, z5, z6, z7, z8]) rfl ?_
  exact Ret.mk (by rw [HS.out]) (Below.trans (b := w2.alloc (.cells #[.int .i64 0, .int .i64 0, .int .i64 0] 22)) (by (repeat (first | exact Below.refl _ _ | assumption | refine Below.alloc ?_ (by first | exact Nat.le_refl _ | exact Below.size (by assumption) | omega | (simp <;> omega)) _ | refine Below.setCell ?_ (by first | exact Nat.le_refl _ | exact Below.size (by assumption) | omega | (simp <;> omega)) _ | refine below_drewN ?_ _ | refine Below.drew ?_))) (put9_below _ (by omega)))
set_option maxRecDepth 100000 in
set_option maxHeartbeats 4000000 in
theorem refVolumes_ok (b : BT) (S : Sh) (w : World) (hf : formS b = .ok S) (hb : OkB w w.heap.size b) : Calls Tryd.prog 36 #[valB b] w (Ret (.tuple #[val9 (volB b).1, .int .i64 (volB b).2]) w) := by
  have hmx : Tryd.prog.follows .mixedOrders = true := by kernel_rfl
  obtain ⟨wa, hwa⟩ : ∃ wa, ((w.alloc (.cells #[.int .i64 b.op, .int .i64 b.ax, .int .u8 b.co, .int .i64 b.n0, .int .i64 b.n1, .int .i64 b.n2, .slice b.A b.ps.length b.cp] 25)).alloc (.cells #[.int .i64 0, .int .i64 0, .int .i64 0, .int .i64 0, .int .i64 0, .int .i64 0, .int .i64 0, .int .i64 0, .int .i64 0] 47)).alloc (.cells #[.int .i64 0, .int .i64 0, .int .i64 0, .int .i64 0, .int .i64 0, .int .i64 0, .int .i64 0, .int .i64 0, .int .i64 0] 47) = wa := ⟨_, rfl⟩
  have hBa : Below w.heap.size w wa := by rw [← hwa]; (repeat (first | exact Below.refl _ _ | assumption | refine Below.alloc ?_ (by first | exact Nat.le_refl _ | exact Below.size (by assumption) | omega | (simp <;> omega)) _ | refine Below.setCell ?_ (by first | exact Nat.le_refl _ | exact Below.size (by assumption) | omega | (simp <;> omega)) _ | refine below_drewN ?_ _ | refine Below.drew ?_))
  have hza : wa.heap.size = w.heap.size + 3 := by rw [← hwa]; simp
  have hv := two9 b w
  rw [hwa] at hv
  obtain ⟨hv1, hv2⟩ := hv
  have hSok := form_ok hf
  obtain ⟨a1, b1, c1, he, ha0, hb0, hc0, ha2, hb2', hc2, h8⟩ := nat_ext hSok.ext
  have hE : extB b = (⟨a1, b1, c1⟩, 0) := by unfold extB; rw [hf]; simp only [he]
  have HE := Lib.hid (refExtent_any b wa (hb.now hBa))
  rw [hE] at HE
  dsimp only at HE
  have HV1 := Lib.hid hv1; have HV2 := Lib.hid hv2
  have HBX : Hid (BX wa w.heap.size b) := (BX.new w b).below (B := w.heap.size + 1) (by rw [← hwa]; (repeat (first | exact Below.refl _ _ | assumption | refine Below.alloc ?_ (by first | exact Nat.le_refl _ | exact Below.size (by assumption) | omega | (simp <;> omega)) _ | refine Below.setCell ?_ (by first | exact Nat.le_refl _ | exact Below.size (by assumption) | omega | (simp <;> omega)) _ | refine below_drewN ?_ _ | refine Below.drew ?_))) (by omega)
  have HWA := Lib.hid hwa
  have HS : Hid (volB b = (fun j => (vol S j : Int), 0)) := by show _ = _; unfold volB; rw [hf]
  have HCV : Hid (∀ j, cntS S (a1 * b1 * c1) j = vol S j) := fun j => by
    have := cnt_vol hSok.ext j
    rw [he, cellsN_nat] at this
    exact this
  have HC : Hid (∀ (n : Nat), n < a1 * b1 * c1 → ∃ i : Nat, i < 9 ∧ S.at (cellN S.ext n) = 97 + (i : Int) ∧ ∀ W, Below w.heap.size w W → Calls Tryd.prog 58 #[valB b, .agg #[.int .i64 ((n : Int) % a1), .int .i64 ((n : Int) / a1 % b1), .int .i64 ((n : Int) / a1 / b1)]] W (Ret (.int .u8 (97 + (i : Int))) W)) := by
    intro n hn
    have hin := cellN_in hSok.ext (n := n) (by rw [he]; exact hn)
    have hcol := at_col S hSok _ hin
    refine ⟨(S.at (cellN S.ext n) - 97).toNat, by omega, by omega, fun W hB => ?_⟩
    have := col_any b S (form_whole hf).2 (form_whole hf).1 (cellN S.ext n) W hin (hb.now hB)
    rw [show (97 : Int) + ((S.at (cellN S.ext n) - 97).toNat : Int) = S.at (cellN S.ext n) by omega]
    rw [he, cellN_nat] at this ⊢
    rw [Int.natCast_emod, Int.natCast_emod, Int.natCast_ediv, Int.natCast_ediv] at this
    exact this
  have hX := HBX.out.c
  obtain ⟨f0, f1, f2, f3, f4, f5, f6⟩ := hX
  clear hb hv1 hv2 hwa hE hf
  go_enter Tryd.func36, Tryd.ntmps36
  go_wp2_with fail
  rw [HWA.out]
  refine HE.out.mono ?_
  rintro e w2 ⟨rfl, hb2⟩
  clear f0 f1 f2 f3 f4 f5 f6
  have hs2 := hb2.size
  have hbx : Below wa.heap.size wa (w2.alloc (.cells #[.int .i64 a1, .int .i64 b1, .int .i64 c1] 22)) := by (repeat (first | exact Below.refl _ _ | assumption | refine Below.alloc ?_ (by first | exact Nat.le_refl _ | exact Below.size (by assumption) | omega | (simp <;> omega)) _ | refine Below.setCell ?_ (by first | exact Nat.le_refl _ | exact Below.size (by assumption) | omega | (simp <;> omega)) _ | refine below_drewN ?_ _ | refine Below.drew ?_))
  have hx := CX.new w2 ⟨a1, b1, c1⟩
  go_wp2
  obtain ⟨wx, hwx⟩ : ∃ wx, w2.alloc (.cells #[.int .i64 a1, .int .i64 b1, .int .i64 c1] 22) = wx := ⟨_, rfl⟩
  rw [hwx] at hbx hx ⊢
  clear hwx
  go_loopw [7] (fun i wr => ∃ k : Nat, k ≤ a1 * b1 * c1 ∧ i = .int .i64 k ∧ V9 wr (w.heap.size + 2) (fun j => (cntS S k j : Int)) ∧ V9 wr (w.heap.size + 1) (fun _ => 0) ∧ BX wr w.heap.size b ∧ CX wr w2.heap.size ⟨a1, b1, c1⟩ ∧ Below w.heap.size w wr) (fun i _ => a1 * b1 * c1 - (intOf i).toNat)
  case atStart => exact ⟨0, Nat.zero_le _, rfl, HV2.out.below hbx HV2.out.lt, HV1.out.below hbx HV1.out.lt, HBX.out.below hbx HBX.out.lt, hx, hBa.trans (hbx.mono hBa.size)⟩
  case round =>
    obtain ⟨k, hk, rfl, hva, hvb, hbx2, hcx, hB⟩ := hrel
    have HVA := Lib.hid hva; have HVB := Lib.hid hvb; have HBX2 := Lib.hid hbx2; have HCX := Lib.hid hcx
    clear hva hvb hbx2
    have hsB := hB.size
    obtain ⟨x0, x1, x2, _⟩ := hcx.c
    have m1 : a1 * b1 ≤ 200 * 200 := Nat.mul_le_mul ha2 hb2'
    have w1 : wrap64 ((a1 : Int) * b1) = ((a1 * b1 : Nat) : Int) := by rw [← Int.natCast_mul]; exact w64b (by omega) (by omega)
    have w2' : wrap64 (((a1 * b1 : Nat) : Int) * c1) = ((a1 * b1 * c1 : Nat) : Int) := by rw [← Int.natCast_mul]; exact w64b (by omega) (by omega)
    clear m1
    obtain ⟨N, hN⟩ : ∃ N, a1 * b1 * c1 = N := ⟨_, rfl⟩
    obtain ⟨M, hM⟩ : ∃ M, a1 * b1 = M := ⟨_, rfl⟩
    rw [hN] at w2' hk h8 HC HCV ⊢
    rw [hM] at w1 w2'
    clear hN hM
    by_cases hlt : k < N
    · obtain ⟨i, hi9, hi, hcal⟩ := HC.out k hlt
      have HCAL := Lib.hid (fun W (h : Below wr.heap.size wr W) => hcal W (hB.trans (h.mono hsB)))
      have HUP := Lib.hid (upd_cnt (f := fun j => cntS S k j) (g := fun j => cntS S (k + 1) j) hi (fun j => rfl))
      have hle := cnt_le (s := S) k i
      have n1 : ¬ a1 = 0 := by omega
      have n2 : ¬ b1 = 0 := by omega
      have e1 := rem_nat k a1
      have e2 := quo_nat (m := k) (n := a1) (by omega)
      have e3 := rem_nat2 k a1 b1
      have e4 := quo_nat2 (m := k) (n := a1) (k := b1) (by omega)
      have HF : Hid (∀ W, Below wr.heap.size wr W → BxB W w.heap.size b ∧ CX W w2.heap.size ⟨a1, b1, c1⟩) := fun W h => ⟨(HBX2.out.below h HBX2.out.lt).c, HCX.out.below h HCX.out.lt⟩
      clear hi hcal
      go_wp2
      refine region_qw (fun W => Below wr.heap.size wr W) hmx (by kernel_rfl) (by (repeat (first | exact Below.refl _ _ | assumption | refine Below.alloc ?_ (by first | exact Nat.le_refl _ | exact Below.size (by assumption) | omega | (simp <;> omega)) _ | refine Below.setCell ?_ (by first | exact Nat.le_refl _ | exact Below.size (by assumption) | omega | (simp <;> omega)) _ | refine below_drewN ?_ _ | refine Below.drew ?_))) ?_
      repeat (first | (refine qw_read rfl (fun w' hC => by obtain ⟨⟨f0, f1, f2, f3, f4, f5, f6⟩, hx⟩ := HF.out w' hC; obtain ⟨x0, x1, x2, _⟩ := hx.c; clear hx; clear hC; go_simp; rfl) ?_; simp only [Act.put, List.setIfInBounds_toArray, List.set_cons_succ, List.set_cons_zero]) | (refine qw_pass (by first | (simp [Region.wanted, yielded]; done) | (simp [Region.wanted, yielded]; intro h; cases h)) ?_; simp only [Act.put, List.setIfInBounds_toArray, List.set_cons_succ, List.set_cons_zero]))
      (refine qw_call rfl (fun w' hC => by (go_simp; try rfl)) (fun w' hC => (HCAL.out w' hC).mono (fun e w2 hr => ⟨hr.1, hC.trans (hr.2.mono hC.size)⟩)) ?_; simp only [Act.put, List.setIfInBounds_toArray, List.set_cons_succ, List.set_cons_zero])
      repeat (first | (refine qw_read rfl (fun w' hC => by obtain ⟨⟨f0, f1, f2, f3, f4, f5, f6⟩, hx⟩ := HF.out w' hC; obtain ⟨x0, x1, x2, _⟩ := hx.c; clear hx; clear hC; go_simp; rfl) ?_; simp only [Act.put, List.setIfInBounds_toArray, List.set_cons_succ, List.set_cons_zero]) | (refine qw_pass (by first | (simp [Region.wanted, yielded]; done) | (simp [Region.wanted, yielded]; intro h; cases h)) ?_; simp only [Act.put, List.setIfInBounds_toArray, List.set_cons_succ, List.set_cons_zero]))
      refine qw_nil ?_
      intro w9 hb9
      have vO9 := HVA.out.below hb9 HVA.out.lt
      have vR9 := HVB.out.below hb9 HVB.out.lt
      have xB9 := HBX2.out.below hb9 HBX2.out.lt
      have xC9 := HCX.out.below hb9 HCX.out.lt
      obtain ⟨g1, g2⟩ := vO9.at hi9
      have e5 : wrap64 ((cntS S k i : Int) + 1) = (cntS S k i : Int) + 1 := w64b (by omega) (by omega)
      have e6 : IntKind.u8.wrap (97 + (i : Int) - 97) = i := by
        rw [show (97 : Int) + i - 97 = i by omega]
        exact IntWalk.u8_in _ (by omega)
      have hBn := vO9.set hi9 ((cntS S k i : Int) + 1)
      rw [HUP.out] at hBn
      have hg := grownBy_setCell9 w9 (w.heap.size + 1 + 1) i (.int .i64 ((cntS S k i : Int) + 1))
      have HFIN : Hid (V9 (w9.setCell ⟨w.heap.size + 1 + 1, i, none⟩ (.int .i64 ((cntS S k i : Int) + 1))) (w.heap.size + 2) (fun j => (cntS S (k + 1) j : Int)) ∧ V9 (w9.setCell ⟨w.heap.size + 1 + 1, i, none⟩ (.int .i64 ((cntS S k i : Int) + 1))) (w.heap.size + 1) (fun _ => 0) ∧ BX (w9.setCell ⟨w.heap.size + 1 + 1, i, none⟩ (.int .i64 ((cntS S k i : Int) + 1))) w.heap.size b ∧ CX (w9.setCell ⟨w.heap.size + 1 + 1, i, none⟩ (.int .i64 ((cntS S k i : Int) + 1))) w2.heap.size ⟨a1, b1, c1⟩ ∧ Below w.heap.size w (w9.setCell ⟨w.heap.size + 1 + 1, i, none⟩ (.int .i64 ((cntS S k i : Int) + 1)))) :=
        ⟨hBn, (hg.block _ vR9.lt (fun e => by injection e with e; omega)).trans vR9, xB9.grown hg (by omega), (hg.block _ xC9.lt (fun e => by injection e with e; omega)).trans xC9, (hB.trans (hb9.mono hsB)).setCell (p := ⟨w.heap.size + 1 + 1, i, none⟩) (by simp; omega) _⟩
      clear vO9 vR9 xB9 xC9 hBn hg e1 e2 e3 e4 n1 n2 w1 w2' x0 x1 x2 hcx
      go_wp2
      go_roundw
      case rel => exact ⟨k + 1, by omega, by go_num, HFIN.out⟩
      case measure => simp [intOf]; omega
    · obtain rfl : k = N := by omega
      obtain ⟨z0, z1, z2, z3, z4, z5, z6, z7, z8⟩ := HVA.out.c
      go_wp2_with ((with_reducible refine at_store9 ?_); refine wpList_store9 (fun j => (cntS S k j : Int)) _ _ HVB.out rfl rfl rfl rfl ?_)
      have hz := HVB.out.put (fun j => (cntS S k j : Int))
      obtain ⟨z0, z1, z2, z3, z4, z5, z6, z7, z8⟩ := hz.c
      refine bodyPost_ret (v := .tuple #[val9 (fun j => (cntS S k j : Int)), .int .i64 0]) (by simp [results, Tryd.results36, go_sem, z0, z1, z2, z3, z4, z5, z6, z7, z8]) rfl ?_
      exact Ret.mk (by rw [HS.out]; simp only [HCV.out]) (hB.trans (put9_below _ (by omega)))
theorem refVolumes_any (b : BT) (w : World) (hb : OkB w w.heap.size b) : Calls Tryd.prog 36 #[valB b] w (Ret (.tuple #[val9 (volB b).1, .int .i64 (volB b).2]) w) := by
  cases hf : formS b with
  | error e => exact refVolumes_err b w e hf hb
  | ok S => exact refVolumes_ok b S w hf hb
end Go.Proofs.YtbcnkcndhgihaaaDoor

namespace Go.Proofs.YtbcnkcndhgihaaaDoor
open Go.RowKit
set_option linter.unusedSimpArgs false

theorem over_not {b : BT} (h : ∀ m : Nat, m < 9 → ¬ 1099511627776 < takS b (m : Int)) : overB b = false := by
  unfold overB
  rw [List.any_eq_false]
  intro m hm
  have := h m (List.mem_range.1 hm)
  simpa using this
theorem over_yes {b : BT} {m : Nat} (hm : m < 9) (h : 1099511627776 < takS b (m : Int)) : overB b = true := by
  unfold overB
  rw [List.any_eq_true]
  exact ⟨m, List.mem_range.2 hm, decide_eq_true h⟩
theorem check_err {b : BT} {x : Int} (hf : formS b = .error x) : checkB b = x := by unfold checkB; rw [hf]
theorem check_ok {b : BT} {s : Sh} (hf : formS b = .ok s) : checkB b = 0 := by unfold checkB; rw [hf]
theorem sheets_err {b : BT} {x : Int} (hf : formS b = .error x) : sheetsB b = (fun _ => 0, x) := by unfold sheetsB; rw [hf]
theorem sheets_over {b : BT} {s : Sh} (hf : formS b = .ok s) (h : overB b = true) : sheetsB b = (fun _ => 0, 4) := by unfold sheetsB; rw [hf]; simp only [h, if_true]
theorem sheets_ok {b : BT} {s : Sh} (hf : formS b = .ok s) (h : overB b = false) : sheetsB b = (fun j => takS b j, 0) := by unfold sheetsB; rw [hf]; simp [h]
theorem one9 (b : BT) (w : World) : V9 ((w.alloc (.cells #[.int .i64 b.op, .int .i64 b.ax, .int .u8 b.co, .int .i64 b.n0, .int .i64 b.n1, .int .i64 b.n2, .slice b.A b.ps.length b.cp] 25)).alloc (.cells #[.int .i64 0, .int .i64 0, .int .i64 0, .int .i64 0, .int .i64 0, .int .i64 0, .int .i64 0, .int .i64 0, .int .i64 0] 47)) (w.heap.size + 1) (fun _ => 0) := by
  have h := V9.new0 (w.alloc (.cells #[.int .i64 b.op, .int .i64 b.ax, .int .u8 b.co, .int .i64 b.n0, .int .i64 b.n1, .int .i64 b.n2, .slice b.A b.ps.length b.cp] 25))
  rw [World.size_alloc] at h
  exact h
set_option maxRecDepth 100000 in
set_option maxHeartbeats 4000000 in
theorem Sheets_any (b : BT) (w : World) (hb : OkB w w.heap.size b) : Calls Tryd.prog 37 #[valB b] w (Ret (.tuple #[val9 (sheetsB b).1, .int .i64 (sheetsB b).2]) w) := by
  obtain ⟨wa, hwa⟩ : ∃ wa, (w.alloc (.cells #[.int .i64 b.op, .int .i64 b.ax, .int .u8 b.co, .int .i64 b.n0, .int .i64 b.n1, .int .i64 b.n2, .slice b.A b.ps.length b.cp] 25)).alloc (.cells #[.int .i64 0, .int .i64 0, .int .i64 0, .int .i64 0, .int .i64 0, .int .i64 0, .int .i64 0, .int .i64 0, .int .i64 0] 47) = wa := ⟨_, rfl⟩
  have hBa : Below w.heap.size w wa := by rw [← hwa]; (repeat (first | exact Below.refl _ _ | assumption | refine Below.alloc ?_ (by first | exact Nat.le_refl _ | exact Below.size (by assumption) | omega | (simp <;> omega)) _ | refine Below.setCell ?_ (by first | exact Nat.le_refl _ | exact Below.size (by assumption) | omega | (simp <;> omega)) _ | refine below_drewN ?_ _ | refine Below.drew ?_))
  have hza : wa.heap.size = w.heap.size + 2 := by rw [← hwa]; simp
  have hv := one9 b w
  have hX : BxB wa w.heap.size b := (BxB.new w b 25).under (B := w.heap.size + 1) (by rw [← hwa]; (repeat (first | exact Below.refl _ _ | assumption | refine Below.alloc ?_ (by first | exact Nat.le_refl _ | exact Below.size (by assumption) | omega | (simp <;> omega)) _ | refine Below.setCell ?_ (by first | exact Nat.le_refl _ | exact Below.size (by assumption) | omega | (simp <;> omega)) _ | refine below_drewN ?_ _ | refine Below.drew ?_))) (by omega)
  rw [hwa] at hv
  have HX := Lib.hid hX
  have HV := Lib.hid hv
  have HCH := Lib.hid (fun W (hB : Below w.heap.size w W) => Check_any b W (hb.now hB))
  have HTK := Lib.hid (fun (hw : wholeS b = true) W (hB : Below w.heap.size w W) => taken_any b W hw (hb.now hB))
  obtain ⟨f0, f1, f2, f3, f4, f5, f6⟩ := hX
  have HWA := Lib.hid hwa
  clear hb hv hwa
  cases hf : formS b with
  | error er =>
    have hx := form_err hf
    have HS := Lib.hid (sheets_err hf)
    rw [check_err hf] at HCH
    have hne : (er != 0) = true := by simp; omega
    clear hf hx
    go_enter Tryd.func37, Tryd.ntmps37
    go_wp2_with fail
    rw [HWA.out]
    refine (HCH.out _ hBa).mono ?_
    rintro e w2 ⟨rfl, hb2⟩
    have hB2 := hBa.trans (hb2.mono hBa.size)
    have HV2 := Lib.hid (HV.out.below hb2 HV.out.lt)
    clear f0 f1 f2 f3 f4 f5 f6
    go_wp2_with ((with_reducible refine at_store9 ?_); refine wpList_store9 (fun _ => 0) _ _ HV2.out rfl rfl rfl rfl ?_)
    obtain ⟨y0, y1, y2, y3, y4, y5, y6, y7, y8⟩ := (HV2.out.put (fun _ => 0)).c
    refine bodyPost_ret (v := .tuple #[val9 (fun _ => 0), .int .i64 er]) (by simp [results, Tryd.results37, go_sem, y0, y1, y2, y3, y4, y5, y6, y7, y8]) rfl ?_
    exact Ret.mk (by rw [HS.out]) (hB2.trans (put9_below _ (by omega)))
  | ok S =>
    have HOV := Lib.hid (fun h => sheets_over hf h)
    have HOK := Lib.hid (fun h => sheets_ok hf h)
    rw [check_ok hf] at HCH
    have HTK2 := Lib.hid (HTK.out (form_whole hf).1)
    clear hf HTK
    go_enter Tryd.func37, Tryd.ntmps37
    go_wp2_with fail
    rw [HWA.out]
    refine (HCH.out _ hBa).mono ?_
    rintro e w2 ⟨rfl, hb2⟩
    have hB2 := hBa.trans (hb2.mono hBa.size)
    have HV2 := Lib.hid (HV.out.below hb2 HV.out.lt)
    clear f0 f1 f2 f3 f4 f5 f6
    obtain ⟨f0, f1, f2, f3, f4, f5, f6⟩ := HX.out.under (B := wa.heap.size) hb2 (by omega)
    go_wp2_with fail
    refine (HTK2.out _ hB2).mono ?_
    rintro e w3 ⟨rfl, hb3⟩
    have hB3 := hB2.trans (hb3.mono hB2.size)
    have HV3 := Lib.hid (HV2.out.below hb3 HV2.out.lt)
    clear f0 f1 f2 f3 f4 f5 f6
    have HN : Hid (V9 (w3.alloc (.cells #[.int .i64 (takS b 0), .int .i64 (takS b 1), .int .i64 (takS b 2), .int .i64 (takS b 3), .int .i64 (takS b 4), .int .i64 (takS b 5), .int .i64 (takS b 6), .int .i64 (takS b 7), .int .i64 (takS b 8)] 47)) w3.heap.size (takS b)) := V9.new w3 (takS b)
    have HV4 : Hid (V9 (w3.alloc (.cells #[.int .i64 (takS b 0), .int .i64 (takS b 1), .int .i64 (takS b 2), .int .i64 (takS b 3), .int .i64 (takS b 4), .int .i64 (takS b 5), .int .i64 (takS b 6), .int .i64 (takS b 7), .int .i64 (takS b 8)] 47)) (w.heap.size + 1) (fun _ => 0)) := HV3.out.below (B := w3.heap.size) (by (repeat (first | exact Below.refl _ _ | assumption | refine Below.alloc ?_ (by first | exact Nat.le_refl _ | exact Below.size (by assumption) | omega | (simp <;> omega)) _ | refine Below.setCell ?_ (by first | exact Nat.le_refl _ | exact Below.size (by assumption) | omega | (simp <;> omega)) _ | refine below_drewN ?_ _ | refine Below.drew ?_))) HV3.out.lt
    obtain ⟨z0, z1, z2, z3, z4, z5, z6, z7, z8⟩ := HN.out.c
    go_wp2
    clear z0 z1 z2 z3 z4 z5 z6 z7 z8
    obtain ⟨wx, hwx⟩ : ∃ wx, w3.alloc (.cells #[.int .i64 (takS b 0), .int .i64 (takS b 1), .int .i64 (takS b 2), .int .i64 (takS b 3), .int .i64 (takS b 4), .int .i64 (takS b 5), .int .i64 (takS b 6), .int .i64 (takS b 7), .int .i64 (takS b 8)] 47) = wx := ⟨_, rfl⟩
    have hBx : Below w.heap.size w wx := by rw [← hwx]; (repeat (first | exact Below.refl _ _ | assumption | refine Below.alloc ?_ (by first | exact Nat.le_refl _ | exact Below.size (by assumption) | omega | (simp <;> omega)) _ | refine Below.setCell ?_ (by first | exact Nat.le_refl _ | exact Below.size (by assumption) | omega | (simp <;> omega)) _ | refine below_drewN ?_ _ | refine Below.drew ?_))
    rw [hwx] at HN HV4 ⊢
    clear hwx
    go_loopw [17] (fun i wr => ∃ k : Nat, k ≤ 9 ∧ i = .int .i64 k ∧ (∀ m : Nat, m < k → ¬ 1099511627776 < takS b (m : Int)) ∧ wr = wx) (fun i _ => 9 - (intOf i).toNat)
    case atStart => exact ⟨0, by omega, rfl, fun m hm => by omega, rfl⟩
    case round =>
      obtain ⟨k, hk, rfl, hno, rfl⟩ := hrel
      have HNO := Lib.hid hno
      clear hno
      by_cases hk9 : k < 9
      · have ix := ix9 (takS b) hk9
        by_cases hov : 1099511627776 < takS b (k : Int)
        · have HS := Lib.hid (HOV.out (over_yes hk9 hov))
          go_wp2_with ((with_reducible refine at_store9 ?_); refine wpList_store9 (fun _ => 0) _ _ HV4.out rfl rfl rfl rfl ?_)
          obtain ⟨y0, y1, y2, y3, y4, y5, y6, y7, y8⟩ := (HV4.out.put (fun _ => 0)).c
          refine bodyPost_ret (v := .tuple #[val9 (fun _ => 0), .int .i64 4]) (by simp [results, Tryd.results37, go_sem, y0, y1, y2, y3, y4, y5, y6, y7, y8]) rfl ?_
          exact Ret.mk (by rw [HS.out]) (hBx.trans (put9_below _ (by omega)))
        · have HNX : Hid (∀ m : Nat, m < k + 1 → ¬ 1099511627776 < takS b (m : Int)) := fun m hm => by
            rcases Nat.lt_succ_iff_lt_or_eq.1 hm with h | rfl
            · exact HNO.out m h
            · exact hov
          go_wp2
          go_roundw
          case rel => exact ⟨k + 1, by omega, by go_num, HNX.out, trivial⟩
          case measure => simp [intOf]; omega
      · obtain rfl : k = 9 := by omega
        have HS := Lib.hid (HOK.out (over_not HNO.out))
        obtain ⟨z0, z1, z2, z3, z4, z5, z6, z7, z8⟩ := HN.out.c
        go_wp2_with ((with_reducible refine at_store9 ?_); refine wpList_store9 (takS b) _ _ HV4.out rfl rfl rfl rfl ?_)
        obtain ⟨y0, y1, y2, y3, y4, y5, y6, y7, y8⟩ := (HV4.out.put (takS b)).c
        refine bodyPost_ret (v := .tuple #[val9 (takS b), .int .i64 0]) (by simp [results, Tryd.results37, go_sem, y0, y1, y2, y3, y4, y5, y6, y7, y8]) rfl ?_
        exact Ret.mk (by rw [HS.out]) (hBx.trans (put9_below _ (by omega)))

set_option maxRecDepth 100000 in
set_option maxHeartbeats 4000000 in
theorem refSheets_any (b : BT) (w : World) (hb : OkB w w.heap.size b) : Calls Tryd.prog 38 #[valB b] w (Ret (.tuple #[val9 (sheetsB b).1, .int .i64 (sheetsB b).2]) w) := by
  obtain ⟨wa, hwa⟩ : ∃ wa, (w.alloc (.cells #[.int .i64 b.op, .int .i64 b.ax, .int .u8 b.co, .int .i64 b.n0, .int .i64 b.n1, .int .i64 b.n2, .slice b.A b.ps.length b.cp] 25)).alloc (.cells #[.int .i64 0, .int .i64 0, .int .i64 0, .int .i64 0, .int .i64 0, .int .i64 0, .int .i64 0, .int .i64 0, .int .i64 0] 47) = wa := ⟨_, rfl⟩
  have hBa : Below w.heap.size w wa := by rw [← hwa]; (repeat (first | exact Below.refl _ _ | assumption | refine Below.alloc ?_ (by first | exact Nat.le_refl _ | exact Below.size (by assumption) | omega | (simp <;> omega)) _ | refine Below.setCell ?_ (by first | exact Nat.le_refl _ | exact Below.size (by assumption) | omega | (simp <;> omega)) _ | refine below_drewN ?_ _ | refine Below.drew ?_))
  have hza : wa.heap.size = w.heap.size + 2 := by rw [← hwa]; simp
  have hv := one9 b w
  have hX : BxB wa w.heap.size b := (BxB.new w b 25).under (B := w.heap.size + 1) (by rw [← hwa]; (repeat (first | exact Below.refl _ _ | assumption | refine Below.alloc ?_ (by first | exact Nat.le_refl _ | exact Below.size (by assumption) | omega | (simp <;> omega)) _ | refine Below.setCell ?_ (by first | exact Nat.le_refl _ | exact Below.size (by assumption) | omega | (simp <;> omega)) _ | refine below_drewN ?_ _ | refine Below.drew ?_))) (by omega)
  rw [hwa] at hv
  have HX := Lib.hid hX
  have HV := Lib.hid hv
  have HCH := Lib.hid (fun W (hB : Below w.heap.size w W) => refCheck_any b W (hb.now hB))
  have HTK := Lib.hid (fun (hw : wholeS b = true) W (hB : Below w.heap.size w W) => refTaken_any b W hw (hb.now hB))
  obtain ⟨f0, f1, f2, f3, f4, f5, f6⟩ := hX
  have HWA := Lib.hid hwa
  clear hb hv hwa
  cases hf : formS b with
  | error er =>
    have hx := form_err hf
    have HS := Lib.hid (sheets_err hf)
    rw [check_err hf] at HCH
    have hne : (er != 0) = true := by simp; omega
    clear hf hx
    go_enter Tryd.func38, Tryd.ntmps38
    go_wp2_with fail
    rw [HWA.out]
    refine (HCH.out _ hBa).mono ?_
    rintro e w2 ⟨rfl, hb2⟩
    have hB2 := hBa.trans (hb2.mono hBa.size)
    have HV2 := Lib.hid (HV.out.below hb2 HV.out.lt)
    clear f0 f1 f2 f3 f4 f5 f6
    go_wp2_with ((with_reducible refine at_store9 ?_); refine wpList_store9 (fun _ => 0) _ _ HV2.out rfl rfl rfl rfl ?_)
    obtain ⟨y0, y1, y2, y3, y4, y5, y6, y7, y8⟩ := (HV2.out.put (fun _ => 0)).c
    refine bodyPost_ret (v := .tuple #[val9 (fun _ => 0), .int .i64 er]) (by simp [results, Tryd.results38, go_sem, y0, y1, y2, y3, y4, y5, y6, y7, y8]) rfl ?_
    exact Ret.mk (by rw [HS.out]) (hB2.trans (put9_below _ (by omega)))
  | ok S =>
    have HOV := Lib.hid (fun h => sheets_over hf h)
    have HOK := Lib.hid (fun h => sheets_ok hf h)
    rw [check_ok hf] at HCH
    have HTK2 := Lib.hid (HTK.out (form_whole hf).1)
    clear hf HTK
    go_enter Tryd.func38, Tryd.ntmps38
    go_wp2_with fail
    rw [HWA.out]
    refine (HCH.out _ hBa).mono ?_
    rintro e w2 ⟨rfl, hb2⟩
    have hB2 := hBa.trans (hb2.mono hBa.size)
    have HV2 := Lib.hid (HV.out.below hb2 HV.out.lt)
    clear f0 f1 f2 f3 f4 f5 f6
    obtain ⟨f0, f1, f2, f3, f4, f5, f6⟩ := HX.out.under (B := wa.heap.size) hb2 (by omega)
    go_wp2_with fail
    refine (HTK2.out _ hB2).mono ?_
    rintro e w3 ⟨rfl, hb3⟩
    have hB3 := hB2.trans (hb3.mono hB2.size)
    have HV3 := Lib.hid (HV2.out.below hb3 HV2.out.lt)
    clear f0 f1 f2 f3 f4 f5 f6
    have HN : Hid (V9 (w3.alloc (.cells #[.int .i64 (takS b 0), .int .i64 (takS b 1), .int .i64 (takS b 2), .int .i64 (takS b 3), .int .i64 (takS b 4), .int .i64 (takS b 5), .int .i64 (takS b 6), .int .i64 (takS b 7), .int .i64 (takS b 8)] 47)) w3.heap.size (takS b)) := V9.new w3 (takS b)
    have HV4 : Hid (V9 (w3.alloc (.cells #[.int .i64 (takS b 0), .int .i64 (takS b 1), .int .i64 (takS b 2), .int .i64 (takS b 3), .int .i64 (takS b 4), .int .i64 (takS b 5), .int .i64 (takS b 6), .int .i64 (takS b 7), .int .i64 (takS b 8)] 47)) (w.heap.size + 1) (fun _ => 0)) := HV3.out.below (B := w3.heap.size) (by (repeat (first | exact Below.refl _ _ | assumption | refine Below.alloc ?_ (by first | exact Nat.le_refl _ | exact Below.size (by assumption) | omega | (simp <;> omega)) _ | refine Below.setCell ?_ (by first | exact Nat.le_refl _ | exact Below.size (by assumption) | omega | (simp <;> omega)) _ | refine below_drewN ?_ _ | refine Below.drew ?_))) HV3.out.lt
    obtain ⟨z0, z1, z2, z3, z4, z5, z6, z7, z8⟩ := HN.out.c
    go_wp2
    clear z0 z1 z2 z3 z4 z5 z6 z7 z8
    obtain ⟨wx, hwx⟩ : ∃ wx, w3.alloc (.cells #[.int .i64 (takS b 0), .int .i64 (takS b 1), .int .i64 (takS b 2), .int .i64 (takS b 3), .int .i64 (takS b 4), .int .i64 (takS b 5), .int .i64 (takS b 6), .int .i64 (takS b 7), .int .i64 (takS b 8)] 47) = wx := ⟨_, rfl⟩
    have hBx : Below w.heap.size w wx := by rw [← hwx]; (repeat (first | exact Below.refl _ _ | assumption | refine Below.alloc ?_ (by first | exact Nat.le_refl _ | exact Below.size (by assumption) | omega | (simp <;> omega)) _ | refine Below.setCell ?_ (by first | exact Nat.le_refl _ | exact Below.size (by assumption) | omega | (simp <;> omega)) _ | refine below_drewN ?_ _ | refine Below.drew ?_))
    rw [hwx] at HN HV4 ⊢
    clear hwx
    go_loopw [6] (fun i wr => ∃ k : Nat, k ≤ 9 ∧ i = .int .i64 k ∧ (∀ m : Nat, m < k → ¬ 1099511627776 < takS b (m : Int)) ∧ wr = wx) (fun i _ => 9 - (intOf i).toNat)
    case atStart => exact ⟨0, by omega, rfl, fun m hm => by omega, rfl⟩
    case round =>
      obtain ⟨k, hk, rfl, hno, rfl⟩ := hrel
      have HNO := Lib.hid hno
      clear hno
      by_cases hk9 : k < 9
      · obtain ⟨g1, g2⟩ := HN.out.at hk9
        by_cases hov : 1099511627776 < takS b (k : Int)
        · have HS := Lib.hid (HOV.out (over_yes hk9 hov))
          go_wp2_with ((with_reducible refine at_store9 ?_); refine wpList_store9 (fun _ => 0) _ _ HV4.out rfl rfl rfl rfl ?_)
          obtain ⟨y0, y1, y2, y3, y4, y5, y6, y7, y8⟩ := (HV4.out.put (fun _ => 0)).c
          refine bodyPost_ret (v := .tuple #[val9 (fun _ => 0), .int .i64 4]) (by simp [results, Tryd.results38, go_sem, y0, y1, y2, y3, y4, y5, y6, y7, y8]) rfl ?_
          exact Ret.mk (by rw [HS.out]) (hBx.trans (put9_below _ (by omega)))
        · have HNX : Hid (∀ m : Nat, m < k + 1 → ¬ 1099511627776 < takS b (m : Int)) := fun m hm => by
            rcases Nat.lt_succ_iff_lt_or_eq.1 hm with h | rfl
            · exact HNO.out m h
            · exact hov
          go_wp2
          go_roundw
          case rel => exact ⟨k + 1, by omega, by go_num, HNX.out, trivial⟩
          case measure => simp [intOf]; omega
      · obtain rfl : k = 9 := by omega
        have HS := Lib.hid (HOK.out (over_not HNO.out))
        obtain ⟨z0, z1, z2, z3, z4, z5, z6, z7, z8⟩ := HN.out.c
        go_wp2_with ((with_reducible refine at_store9 ?_); refine wpList_store9 (takS b) _ _ HV4.out rfl rfl rfl rfl ?_)
        obtain ⟨y0, y1, y2, y3, y4, y5, y6, y7, y8⟩ := (HV4.out.put (takS b)).c
        refine bodyPost_ret (v := .tuple #[val9 (takS b), .int .i64 0]) (by simp [results, Tryd.results38, go_sem, y0, y1, y2, y3, y4, y5, y6, y7, y8]) rfl ?_
        exact Ret.mk (by rw [HS.out]) (hBx.trans (put9_below _ (by omega)))
end Go.Proofs.YtbcnkcndhgihaaaDoor

/- Cheapest of the reference: the walk. -/
import Derived.Test.YthccpdefgjneiaaDoorOP11
namespace Go.Proofs.YthccpdefgjneiaaDoor
open Go.RowKit Go.Shelf Go.Maps

set_option maxRecDepth 100000 in
set_option maxHeartbeats 2000000 in
theorem Cheapest2_any (A : Option Addr) (c : Nat) (l : List QT) (s : ByteArray) (day n : Int) (w : World) (ho : OkQ w l) (hl : RdQ w w.heap.size A l) :
    Calls Tryd.prog 34 #[.slice A l.length c, .string s, .int .i64 day, .int .i64 n] w (Ret (.tuple #[.int .i64 (cheapV l s day n).1, .int .i64 (cheapV l s day n).2.1, .int .i64 (cheapV l s day n).2.2]) w) := by
  have HL := Lib.hid hl; clear hl
  have HO := Lib.hid ho; clear ho
  obtain ⟨⟨o, e0⟩, hf⟩ : ∃ r, foundE l s day n = r := ⟨_, rfl⟩
  have hpv : priceV l s day n = (match (o, e0) with | (none, e) => (0, e) | (some j, e) => (centsP (bestQ l (some j)).st n, e)) := by unfold priceV; rw [hf] <;> rfl
  have hfd := Price2_any A c l s day n w HO.out HL.out
  cases o with
  | none =>
    rw [hpv] at hfd
    dsimp only at hfd
    have HFD := Lib.hid hfd; clear hfd hpv
    have hne := found_none hf
    have HS := Lib.hid (show cheapV l s day n = (0, 0, e0) by unfold cheapV; rw [hf])
    clear hf
    go_enter Tryd.func34, Tryd.ntmps34
    go_wp2_with fail
    refine HFD.out.mono ?_
    rintro e w2 ⟨rfl, hb2⟩
    go_wp2
    go_ret3
    exact Ret.mk (by rw [HS.out] <;> rfl) hb2
  | some j =>
    obtain ⟨rfl, hv, hn1, hn2, hj, p, hp, hbp⟩ := found_inv hf
    rw [hpv] at hfd
    dsimp only at hfd
    rw [hbp] at hfd
    have hps := price_steps ((validP_all hv).2 p (List.mem_of_getElem? hp))
    obtain ⟨hc1, hc2⟩ := cents_bd hps n
    have HPS := Lib.hid hps
    have HS := Lib.hid (show cheapV l s day n = ((cheapK p.st n (centsP p.st n) p.st.length).1, (cheapK p.st n (centsP p.st n) p.st.length).2, 0) by unfold cheapV; rw [hf]; show (_, _, _) = _; rw [hbp])
    obtain ⟨hr, hlen⟩ := okQ_get HO.out hp
    have hlm : (p.st.length : Int) ≤ 9223372036854775807 := by unfold maxLen at hlen; omega
    have HR := Lib.hid hr
    obtain ⟨c0, hc0⟩ : ∃ c0, centsP p.st n = c0 := ⟨_, rfl⟩
    rw [hc0] at HS hc1 hc2 hfd
    have HFD := Lib.hid hfd; clear hfd hpv
    obtain ⟨hx1, hx2⟩ := prod_bd hn1 hn2 hc1 hc2
    have e1 : wrap64 (n * c0) = n * c0 := w64_id (by omega) (by omega)
    have hjl := (List.getElem?_eq_some_iff.1 hp).1
    have hl60 := (validP_all hv).1
    have hl6 : l.length ≤ 1000000 := by omega
    have HJ := Lib.hid hj
    have HPP := Lib.hid hp
    clear hf hp hbp hr hlen hv hps hc0 hj
    go_enter Tryd.func34, Tryd.ntmps34
    go_wp2_with fail
    refine HFD.out.mono ?_
    rintro e w2 ⟨rfl, hb2⟩
    go_wp2_with fail
    refine (priceOf_any A c l s day _ hl6 (HL.out.now hb2)).mono ?_
    rintro e w4 ⟨rfl, hb4⟩
    have hB4 := hb2.trans (hb4.mono hb2.size)
    rw [HJ.out]
    simp only [atI]
    obtain ⟨b, off, hA, hbb, d0, d1, d2⟩ := (HL.out.now hB4) j p HPP.out
    subst hA
    obtain ⟨wz, hwz⟩ : ∃ wz, w4.alloc (.cells #[.string p.m, .int .i64 p.d, .slice p.A p.st.length p.cp] 54) = wz := ⟨_, rfl⟩
    have hbz : Below w4.heap.size w4 wz := by rw [← hwz]; (repeat (first | exact Below.refl _ _ | assumption | refine Below.alloc ?_ (by first | exact Nat.le_refl _ | exact Below.size (by assumption) | omega | (simp <;> omega)) _ | refine Below.setCell ?_ (by first | exact Nat.le_refl _ | exact Below.size (by assumption) | omega | (simp <;> omega)) _ | refine below_drewN ?_ _ | refine Below.drew ?_))
    have hB3 := hB4.trans (hbz.mono hB4.size)
    have HZ := Lib.hid (show AtQ wz w4.heap.size p by rw [← hwz]; exact AtQ.new w4 p)
    have hzz : w4.heap.size < wz.heap.size := by rw [← hwz]; simp
    have HW := Lib.hid hwz; clear hwz
    go_upto_region 6 with fail
    rw [HW.out]
    clear d0 d1 d2
    go_wp2
    go_loopw [13, 14, 16, 17] (fun u v i _ wr => ∃ k : Nat, k ≤ p.st.length ∧ i = .int .i64 k ∧ u = .int .i64 (cheapK p.st n c0 k).1 ∧ v = .int .i64 (cheapK p.st n c0 k).2 ∧ Below wz.heap.size wz wr) (fun _ _ i _ _ => p.st.length - (intOf i).toNat)
    case atStart => exact ⟨0, Nat.zero_le _, rfl, by unfold cheapK; rfl, by unfold cheapK; rfl, Below.refl _ _⟩
    case round =>
      obtain ⟨k, hk, rfl, rfl, rfl, hB⟩ := hrel
      have hBw := hB3.trans (hB.mono hB3.size)
      have hsB := hB.size
      obtain ⟨_, _, x2⟩ := HZ.out.below hB hzz
      have hz5 : w4.heap.size < wr.heap.size := by omega
      by_cases hlt : k < p.st.length
      · obtain ⟨t, ht⟩ := getElem?_of_lt hlt
        obtain ⟨b', off', hA, hb, d0, d1⟩ := (HR.out.now hBw) k t ht
        have HSN := Lib.hid (cheap_snoc ht n c0)
        obtain ⟨q1, q2, q3, q4⟩ := step_nums HPS.out ht
        clear ht
        obtain ⟨y1, y2⟩ := prod_bd q1 q2 q3 q4
        obtain ⟨⟨u, v⟩, huv⟩ : ∃ r, cheapK p.st n c0 k = r := ⟨_, rfl⟩
        rw [huv] at HSN
        simp only [huv]
        clear huv
        have e2 : wrap64 (t.n * t.c) = t.n * t.c := w64_id (by omega) (by omega)
        rw [hA] at x2; clear hA
        by_cases g1 : n < t.n
        case neg =>
          have HE : Hid (cheapK p.st n c0 (k + 1) = (u, v)) := HSN.out.trans (by unfold cheapF; rw [if_neg (fun h => g1 h.1)])
          go_wp2
          go_roundw
          case rel => exact ⟨k + 1, by omega, by go_num, by rw [HE.out], by rw [HE.out], by (repeat (first | exact Below.refl _ _ | assumption | refine Below.alloc ?_ (by first | exact Nat.le_refl _ | exact Below.size (by assumption) | omega | (simp <;> omega)) _ | refine Below.setCell ?_ (by first | exact Nat.le_refl _ | exact Below.size (by assumption) | omega | (simp <;> omega)) _ | refine below_drewN ?_ _ | refine Below.drew ?_))⟩
          case measure => simp [intOf]; omega
        have HX := Lib.hid e2; clear e2
        clear y1 y2
        by_cases g2 : wrap64 (t.n * t.c) < v
        · have HE : Hid (cheapK p.st n c0 (k + 1) = (t.n, wrap64 (t.n * t.c))) := HSN.out.trans (by unfold cheapF; rw [HX.out] at g2 ⊢; exact if_pos ⟨g1, g2⟩)
          go_wp2
          go_quiet (fail)
          go_wp2
          go_roundw
          case rel => exact ⟨k + 1, by omega, by go_num, by rw [HE.out], by rw [HE.out], by (repeat (first | exact Below.refl _ _ | assumption | refine Below.alloc ?_ (by first | exact Nat.le_refl _ | exact Below.size (by assumption) | omega | (simp <;> omega)) _ | refine Below.setCell ?_ (by first | exact Nat.le_refl _ | exact Below.size (by assumption) | omega | (simp <;> omega)) _ | refine below_drewN ?_ _ | refine Below.drew ?_))⟩
          case measure => simp [intOf]; omega
        · have HE : Hid (cheapK p.st n c0 (k + 1) = (u, v)) := HSN.out.trans (by unfold cheapF; rw [HX.out] at g2; exact if_neg (fun h => g2 h.2))
          go_wp2
          go_roundw
          case rel => exact ⟨k + 1, by omega, by go_num, by rw [HE.out], by rw [HE.out], by (repeat (first | exact Below.refl _ _ | assumption | refine Below.alloc ?_ (by first | exact Nat.le_refl _ | exact Below.size (by assumption) | omega | (simp <;> omega)) _ | refine Below.setCell ?_ (by first | exact Nat.le_refl _ | exact Below.size (by assumption) | omega | (simp <;> omega)) _ | refine below_drewN ?_ _ | refine Below.drew ?_))⟩
          case measure => simp [intOf]; omega
      · obtain rfl : k = p.st.length := by omega
        go_wp2
        go_ret3
        exact Ret.mk (by rw [HS.out] <;> rfl) hBw
end Go.Proofs.YthccpdefgjneiaaDoor

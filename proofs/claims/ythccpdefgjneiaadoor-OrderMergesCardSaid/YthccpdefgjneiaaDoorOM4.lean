/- Valid rates of the reference: the walk. -/
import Derived.Test.YthccpdefgjneiaaDoorOM3
namespace Go.Proofs.YthccpdefgjneiaaDoor
open Go.RowKit Go.Shelf Go.Maps

theorem keyT_eq {a b : RT} : keyT a = keyT b ↔ a.c = b.c ∧ a.d = b.d := by unfold keyT; simp
theorem rate_nums {r : RT} (h : rateB r = true) : 1 ≤ r.n ∧ r.n ≤ 1000000 ∧ 1 ≤ r.m ∧ r.m ≤ 1000000 := by
  unfold rateB at h
  simp only [Bool.and_eq_true] at h
  have h1 := bet_iff.1 h.2.2.2.1
  have h2 := bet_iff.1 h.2.2.2.2
  omega
theorem str_eq (a b : ByteArray) : (a.toList == b.toList) = decide (a = b) := by
  rw [Lib.toList_data, Lib.toList_data, Bool.eq_iff_iff, beq_iff_eq, decide_eq_true_eq]
  constructor
  · intro h
    have := Array.toList_inj.1 h
    cases a; cases b
    simpa using this
  · intro h; rw [h]
set_option maxRecDepth 100000 in
set_option maxHeartbeats 4000000 in
theorem validR2_any (A : Option Addr) (c : Nat) (l : List RT) (w : World) (ho : OkT l) (hl : RdT w w.heap.size A l) : Calls Tryd.prog 28 #[.slice A l.length c] w (Ret (.bool (validRS l)) w) := by
  have HL := Lib.hid hl; clear hl
  have HOK := Lib.hid ho; clear ho
  have hmx : Tryd.prog.follows .mixedOrders = true := by kernel_rfl
  by_cases h60 : 60 < l.length
  · have HS := Lib.hid (show validRS l = false by unfold validRS; rw [decide_eq_false (by omega)]; rfl)
    have h60I : (60 : Int) < (l.length : Int) := by omega
    go_enter Tryd.func28, Tryd.ntmps28
    go_wp2
    go_ret
    exact Ret.mk (by rw [HS.out] <;> rfl) (Below.refl _ _)
  have h60I : ¬ (60 : Int) < (l.length : Int) := by omega
  go_enter Tryd.func28, Tryd.ntmps28
  go_wp2
  go_loopw [3, 4, 5] (fun i _ _ wr => ∃ k : Nat, k ≤ l.length ∧ i = .int .i64 k ∧ (∀ r ∈ l.take k, rateB r = true) ∧ ((l.map keyT).take k).Nodup ∧ Below w.heap.size w wr) (fun i _ _ _ => l.length - (intOf i).toNat)
  case atStart => exact ⟨0, Nat.zero_le _, rfl, fun x hx => by simp at hx, by simp, Below.refl _ _⟩
  case round =>
    obtain ⟨k, hk, rfl, hgood, hnd, hB⟩ := hrel
    have HG := Lib.hid hgood; clear hgood
    have HN := Lib.hid hnd; clear hnd
    have hsB := hB.size
    by_cases hlt : k < l.length
    · obtain ⟨r, hr⟩ := getElem?_of_lt hlt
      obtain ⟨b, off, hA, hb, d0, d1, d2, d3⟩ := (HL.out.now hB) k r hr
      have hs : r.c.size ≤ 9223372036854775807 := by have := (HOK.out r (List.mem_of_getElem? hr)).1; unfold maxLen at this; exact this
      have hkr : (l.map keyT)[k]? = some (keyT r) := by rw [List.getElem?_map, hr]; rfl
      have HKR := Lib.hid hkr; clear hkr
      have HR := Lib.hid hr
      subst hA
      clear hr
      obtain ⟨wz, hwz⟩ : ∃ wz, wr.alloc (.cells #[.string r.c, .int .i64 r.d, .int .i64 r.n, .int .i64 r.m] 70) = wz := ⟨_, rfl⟩
      have hbz : Below wr.heap.size wr wz := by rw [← hwz]; (repeat (first | exact Below.refl _ _ | assumption | refine Below.alloc ?_ (by first | exact Nat.le_refl _ | exact Below.size (by assumption) | omega | (simp <;> omega)) _ | refine Below.setCell ?_ (by first | exact Nat.le_refl _ | exact Below.size (by assumption) | omega | (simp <;> omega)) _ | refine below_drewN ?_ _ | refine Below.drew ?_))
      have hsz : wz.heap.size = wr.heap.size + 1 := by rw [← hwz]; simp
      have HZ := Lib.hid (show AtT wz wr.heap.size r by rw [← hwz]; exact AtT.new wr r)
      have HW := Lib.hid hwz; clear hwz
      go_upto_region 7 with fail
      rw [HW.out]
      clear HW d0 d1 d2 d3
      obtain ⟨x0, x1, x2, x3⟩ := HZ.out
      have hz1 : wr.heap.size < wz.heap.size := by omega
      have hBz := hB.trans (hbz.mono hB.size)
      by_cases hgr : rateB r = true
      case neg =>
        have HS := Lib.hid (show validRS l = false by
          unfold validRS
          rw [show l.all rateB = false from List.all_eq_false.2 ⟨r, List.mem_of_getElem? HR.out, hgr⟩]
          simp)
        go_wp2_with fail
        refine (isCurrency_any r.c _ hs).mono ?_
        rintro e w2 ⟨rfl, hb2⟩
        have hB2 := hBz.trans (hb2.mono hBz.size)
        clear x0 x1 x2 x3
        obtain ⟨x0, x1, x2, x3⟩ := HZ.out.below hb2 hz1
        have hz2 : wr.heap.size < w2.heap.size := by have := hb2.size; omega
        cases h0 : curB r.c
        · have H0 := Lib.hid h0; clear h0
          go_wp2
          go_ret
          exact Ret.mk (by rw [HS.out] <;> rfl) hB2
        cases h1 : isEur r.c
        rotate_left
        · have he : (r.c.toList == [69, 85, 82]) = true := h1
          clear h0 h1
          go_wp2
          go_ret
          exact Ret.mk (by rw [HS.out] <;> rfl) hB2
        have he : (r.c.toList == [69, 85, 82]) = false := h1
        have hr2 : ¬ (dayB r.d = true ∧ 1 ≤ r.n ∧ r.n ≤ 1000000 ∧ 1 ≤ r.m ∧ r.m ≤ 1000000) := by
          rintro ⟨g1, g2, g3, g4, g5⟩
          apply hgr
          unfold rateB
          rw [h0, h1, g1, bet_iff.2 ⟨g2, g3⟩, bet_iff.2 ⟨g4, g5⟩]
          rfl
        clear h0 h1 hgr
        go_wp2_with fail
        refine (isDay_any r.d _).mono ?_
        rintro e w3 ⟨rfl, rfl⟩
        cases h2 : dayB r.d
        · have H2 := Lib.hid h2; clear h2 hr2
          go_wp2
          go_ret
          exact Ret.mk (by rw [HS.out] <;> rfl) hB2
        have HR2 := Lib.hid hr2; clear hr2
        have H2 := Lib.hid h2; clear h2
        by_cases n1 : r.n < 1
        · go_wp2
          go_ret
          exact Ret.mk (by rw [HS.out] <;> rfl) hB2
        by_cases n2 : 1000000 < r.n
        · go_wp2
          go_ret
          exact Ret.mk (by rw [HS.out] <;> rfl) hB2
        by_cases n3 : r.m < 1
        · go_wp2
          go_ret
          exact Ret.mk (by rw [HS.out] <;> rfl) hB2
        by_cases n4 : 1000000 < r.m
        · go_wp2
          go_ret
          exact Ret.mk (by rw [HS.out] <;> rfl) hB2
        exact absurd ⟨H2.out, by omega, by omega, by omega, by omega⟩ HR2.out
      have hnums := rate_nums hgr
      have HGR := Lib.hid hgr
      unfold rateB at hgr
      simp only [Bool.and_eq_true, Bool.not_eq_true'] at hgr
      obtain ⟨g0, g1, g2, _, _⟩ := hgr
      have he : (r.c.toList == [69, 85, 82]) = false := g1
      have n1 : ¬ r.n < 1 := by omega
      have n2 : ¬ 1000000 < r.n := by omega
      have n3 : ¬ r.m < 1 := by omega
      have n4 : ¬ 1000000 < r.m := by omega
      have G0 := Lib.hid g0; clear g0 g1
      have G2 := Lib.hid g2; clear g2
      go_wp2_with fail
      refine (isCurrency_any r.c _ hs).mono ?_
      rintro e w2 ⟨rfl, hb2⟩
      rw [G0.out]
      have hbr2 := hbz.trans (hb2.mono hbz.size)
      have hB2 := hBz.trans (hb2.mono hBz.size)
      clear x0 x1 x2 x3
      have HZ2 := Lib.hid (HZ.out.below hb2 hz1)
      obtain ⟨x0, x1, x2, x3⟩ := HZ2.out
      have hz2 : wr.heap.size < w2.heap.size := by have := hb2.size; omega
      go_wp2_with fail
      refine (isDay_any r.d _).mono ?_
      rintro e w3 ⟨rfl, rfl⟩
      rw [G2.out]
      go_wp2
      clear x0 x1 x2 x3
      obtain ⟨wo, rfl⟩ : ∃ wo : World, wo = wr := ⟨_, rfl⟩
      go_loopw [5] (fun j wj => ∃ m : Nat, m ≤ k ∧ j = .int .i64 m ∧ (∀ q ∈ l.take m, keyT q ≠ keyT r) ∧ Below w3.heap.size w3 wj) (fun j _ => k - (intOf j).toNat)
      case atStart => exact ⟨0, Nat.zero_le _, rfl, fun x hx => by simp at hx, Below.refl _ _⟩
      case round =>
        obtain ⟨m, hm, rfl, hne, hBj⟩ := hrel
        have HNE := Lib.hid hne; clear hne
        have hsj := hBj.size
        have hBBj := hB2.trans (hBj.mono hB2.size)
        by_cases hlm : m < k
        · obtain ⟨q, hq⟩ := getElem?_of_lt (show m < l.length by omega)
          obtain ⟨b', off', hA, hbb, y0, y1, _, _⟩ := (HL.out.now hBBj) m q hq
          obtain ⟨rfl, rfl⟩ : b = b' ∧ off = off' := by simpa using hA
          obtain ⟨x0, x1, x2, x3⟩ := HZ2.out.below hBj hz2
          have hzr : wo.heap.size < wr.heap.size := by omega
          have hml : m < l.length := by omega
          have HQ := Lib.hid hq; clear hq hA x2 x3
          have hstr := str_eq q.c r.c
          by_cases hc : q.c = r.c
          · rw [decide_eq_true hc] at hstr
            have HC := Lib.hid hc; clear hc
            by_cases hd : q.d = r.d
            · have HNO := Lib.hid (show validRS l = false by
                unfold validRS
                rw [decide_eq_false (not_nodup (l := l.map keyT) HKR.out (by
                  rw [← List.map_take]
                  exact List.mem_map.2 ⟨q, List.mem_of_getElem? (show (l.take k)[m]? = some q by rw [List.getElem?_take, if_pos hlm]; exact HQ.out), keyT_eq.2 ⟨HC.out, hd⟩⟩))]
                simp)
              have hdb : (q.d == r.d) = true := by simpa using hd
              clear hd
              go_wp2
              go_quiet (fail)
              go_wp2
              go_ret
              exact Ret.mk (by rw [HNO.out] <;> rfl) (by (repeat (first | exact Below.refl _ _ | assumption | refine Below.alloc ?_ (by first | exact Nat.le_refl _ | exact Below.size (by assumption) | omega | (simp <;> omega)) _ | refine Below.setCell ?_ (by first | exact Nat.le_refl _ | exact Below.size (by assumption) | omega | (simp <;> omega)) _ | refine below_drewN ?_ _ | refine Below.drew ?_)))
            · have hdb : (q.d == r.d) = false := by simpa using hd
              have HD := Lib.hid hd; clear hd
              go_wp2
              go_quiet (fail)
              go_wp2
              go_roundw
              case rel =>
                refine ⟨m + 1, by omega, by go_num, fun x hx => ?_, by (repeat (first | exact Below.refl _ _ | assumption | refine Below.alloc ?_ (by first | exact Nat.le_refl _ | exact Below.size (by assumption) | omega | (simp <;> omega)) _ | refine Below.setCell ?_ (by first | exact Nat.le_refl _ | exact Below.size (by assumption) | omega | (simp <;> omega)) _ | refine below_drewN ?_ _ | refine Below.drew ?_))⟩
                rw [take_succ_of HQ.out] at hx
                rcases List.mem_append.1 hx with hx | hx
                · exact HNE.out x hx
                · simp at hx; subst hx; exact fun e => HD.out (keyT_eq.1 e).2
              case measure => simp [intOf]; omega
          · rw [decide_eq_false hc] at hstr
            have HC := Lib.hid hc; clear hc
            go_wp2
            go_quiet (fail)
            go_wp2
            go_roundw
            case rel =>
              refine ⟨m + 1, by omega, by go_num, fun x hx => ?_, by (repeat (first | exact Below.refl _ _ | assumption | refine Below.alloc ?_ (by first | exact Nat.le_refl _ | exact Below.size (by assumption) | omega | (simp <;> omega)) _ | refine Below.setCell ?_ (by first | exact Nat.le_refl _ | exact Below.size (by assumption) | omega | (simp <;> omega)) _ | refine below_drewN ?_ _ | refine Below.drew ?_))⟩
              rw [take_succ_of HQ.out] at hx
              rcases List.mem_append.1 hx with hx | hx
              · exact HNE.out x hx
              · simp at hx; subst hx; exact fun e => HC.out (keyT_eq.1 e).1
            case measure => simp [intOf]; omega
        · obtain rfl : m = k := by omega
          go_wp2
          go_roundw
          case rel =>
            refine ⟨m + 1, by omega, by go_num, fun x hx => ?_, nodup_take HKR.out HN.out ?_, hBBj⟩
            · rw [take_succ_of HR.out] at hx
              rcases List.mem_append.1 hx with hx | hx
              · exact HG.out x hx
              · simp at hx; subst hx; exact HGR.out
            · rw [← List.map_take]
              intro hc
              obtain ⟨q, hq, e⟩ := List.mem_map.1 hc
              exact HNE.out q hq e
          case measure => simp [intOf]; omega
    · obtain rfl : k = l.length := by omega
      have HS := Lib.hid (show validRS l = true by
        unfold validRS
        rw [decide_eq_true (by omega), decide_eq_true (by have := HN.out; rwa [List.take_of_length_le (by simp)] at this), show l.all rateB = true from List.all_eq_true.2 fun x hx => HG.out x (by rw [List.take_length]; exact hx)]
        rfl)
      go_wp2
      go_ret
      exact Ret.mk (by rw [HS.out] <;> rfl) hB
end Go.Proofs.YthccpdefgjneiaaDoor

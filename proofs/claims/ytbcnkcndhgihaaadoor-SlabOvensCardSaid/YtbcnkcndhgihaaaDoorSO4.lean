/- Ovens: the reference's Season, Allowance, Ready: the walks. Printed by genso4.py. -/
import Derived.Test.YtbcnkcndhgihaaaDoorSO3
namespace Go.Proofs.YtbcnkcndhgihaaaDoor
open Go.RowKit Go.Shelf
set_option linter.unusedSimpArgs false

set_option maxRecDepth 100000 in
set_option maxHeartbeats 1000000 in
theorem refSeason_any (A : Option Addr) (c : Nat) (s : Int) (l : List Int) (d : Int) (w : World) (hl : RdI w w.heap.size A l) (hm : l.length ≤ maxLen) : Calls Tryd.prog 45 #[.int .i64 s, .slice A l.length c, .int .i64 d] w fun e w' => e = .returned (.tuple #[.int .i64 (seasonB s l d).1, .int .i64 (seasonB s l d).2]) ∧ w' = w := by
  have HT := Lib.hid (table_any A c l w hl hm)
  have hov := oven_of s l d 0
  by_cases ht : tableE l = 0
  · rw [if_pos ht] at hov
    have htok := table_ok ht
    have hsl : l.length ≤ 60 := htok.1
    have HLL := Lib.hid hl
    rw [ht] at HT
    clear ht hl hm
    cases hr : btw 1 s 100000
    · rw [hr] at hov
      have HS := Lib.hid (show seasonB s l d = (0, 2) by unfold seasonB; rw [hov]; rfl)
      have HR := Lib.hid (raw_any s w)
      rw [hr] at HR
      clear hov htok hr
      go_enter Tryd.func45, Tryd.ntmps45
      go_wp2_with fail
      refine HT.out.mono ?_
      rintro e w2 ⟨rfl, rfl⟩
      go_wp2_with fail
      refine HR.out.mono ?_
      rintro e w3 ⟨rfl, rfl⟩
      go_wp2
      go_ret2
      exact ⟨by rw [HS.out]; rfl, rfl⟩
    · rw [hr] at hov
      have HR := Lib.hid (raw_any s w)
      rw [hr] at HR
      have hsb : 1 ≤ s ∧ s ≤ 100000 := by simp [btw] at hr; exact hr
      clear hr
      by_cases hd1 : d < 0
      · have HS := Lib.hid (show seasonB s l d = (0, 2) by unfold seasonB; rw [hov, show btw 0 d 1000 = false by unfold btw; simp; omega]; rfl)
        clear hov htok
        go_enter Tryd.func45, Tryd.ntmps45
        go_wp2_with fail
        refine HT.out.mono ?_
        rintro e w2 ⟨rfl, rfl⟩
        go_wp2_with fail
        refine HR.out.mono ?_
        rintro e w3 ⟨rfl, rfl⟩
        go_wp2
        go_ret2
        exact ⟨by rw [HS.out]; rfl, rfl⟩
      by_cases hd2 : 1000 < d
      · have HS := Lib.hid (show seasonB s l d = (0, 2) by unfold seasonB; rw [hov, show btw 0 d 1000 = false by unfold btw; simp; omega]; rfl)
        clear hov htok
        go_enter Tryd.func45, Tryd.ntmps45
        go_wp2_with fail
        refine HT.out.mono ?_
        rintro e w2 ⟨rfl, rfl⟩
        go_wp2_with fail
        refine HR.out.mono ?_
        rintro e w3 ⟨rfl, rfl⟩
        go_wp2
        go_ret2
        exact ⟨by rw [HS.out]; rfl, rfl⟩
      have h0 : ovenE s l d 0 = 0 := by rw [hov, show btw 0 d 1000 = true by unfold btw; simp; omega]; rfl
      have HS := Lib.hid (show seasonB s l d = (shrD s l d, 0) by unfold seasonB; rw [if_pos h0])
      have HK := Lib.hid (seasoned_any A c s l d w (by omega) htok.2 (by omega) HLL.out hsl)
      clear hov htok h0
      go_enter Tryd.func45, Tryd.ntmps45
      go_wp2_with fail
      refine HT.out.mono ?_
      rintro e w2 ⟨rfl, rfl⟩
      go_wp2_with fail
      refine HR.out.mono ?_
      rintro e w3 ⟨rfl, rfl⟩
      go_wp2_with fail
      refine HK.out.mono ?_
      rintro e w4 ⟨rfl, rfl⟩
      go_wp2
      go_ret2
      exact ⟨by rw [HS.out]; rfl, rfl⟩
  · rw [if_neg ht] at hov
    obtain ⟨x, hx⟩ : ∃ x, tableE l = x := ⟨_, rfl⟩
    rw [hx] at HT ht hov
    have HS := Lib.hid (show seasonB s l d = (0, x) by unfold seasonB; rw [hov, if_neg ht])
    have h0 : (x == 0) = false := by simpa using ht
    have hne : (x != 0) = true := by simpa using ht
    clear hl hm hx hov ht
    go_enter Tryd.func45, Tryd.ntmps45
    go_wp2_with fail
    refine HT.out.mono ?_
    rintro e w2 ⟨rfl, rfl⟩
    go_wp2
    go_ret2
    exact ⟨by rw [HS.out]; rfl, rfl⟩
set_option maxRecDepth 100000 in
set_option maxHeartbeats 1000000 in
theorem refAllow_any (A : Option Addr) (c : Nat) (s : Int) (l : List Int) (d : Int) (w : World) (hl : RdI w w.heap.size A l) (hm : l.length ≤ maxLen) : Calls Tryd.prog 49 #[.int .i64 s, .slice A l.length c, .int .i64 d] w fun e w' => e = .returned (.tuple #[.int .i64 (allowB s l d).1, .int .i64 (allowB s l d).2]) ∧ w' = w := by
  have HT := Lib.hid (table_any A c l w hl hm)
  have hov := oven_of s l d 0
  by_cases ht : tableE l = 0
  · rw [if_pos ht] at hov
    have htok := table_ok ht
    have hsl : l.length ≤ 60 := htok.1
    have HLL := Lib.hid hl
    rw [ht] at HT
    clear ht hl hm
    cases hr : btw 1 s 100000
    · rw [hr] at hov
      have HS := Lib.hid (show allowB s l d = (0, 2) by unfold allowB; rw [hov]; rfl)
      have HR := Lib.hid (raw_any s w)
      rw [hr] at HR
      clear hov htok hr
      go_enter Tryd.func49, Tryd.ntmps49
      go_wp2_with fail
      refine HT.out.mono ?_
      rintro e w2 ⟨rfl, rfl⟩
      go_wp2_with fail
      refine HR.out.mono ?_
      rintro e w3 ⟨rfl, rfl⟩
      go_wp2
      go_ret2
      exact ⟨by rw [HS.out]; rfl, rfl⟩
    · rw [hr] at hov
      have HR := Lib.hid (raw_any s w)
      rw [hr] at HR
      have hsb : 1 ≤ s ∧ s ≤ 100000 := by simp [btw] at hr; exact hr
      clear hr
      by_cases hd1 : d < 0
      · have HS := Lib.hid (show allowB s l d = (0, 2) by unfold allowB; rw [hov, show btw 0 d 1000 = false by unfold btw; simp; omega]; rfl)
        clear hov htok
        go_enter Tryd.func49, Tryd.ntmps49
        go_wp2_with fail
        refine HT.out.mono ?_
        rintro e w2 ⟨rfl, rfl⟩
        go_wp2_with fail
        refine HR.out.mono ?_
        rintro e w3 ⟨rfl, rfl⟩
        go_wp2
        go_ret2
        exact ⟨by rw [HS.out]; rfl, rfl⟩
      by_cases hd2 : 1000 < d
      · have HS := Lib.hid (show allowB s l d = (0, 2) by unfold allowB; rw [hov, show btw 0 d 1000 = false by unfold btw; simp; omega]; rfl)
        clear hov htok
        go_enter Tryd.func49, Tryd.ntmps49
        go_wp2_with fail
        refine HT.out.mono ?_
        rintro e w2 ⟨rfl, rfl⟩
        go_wp2_with fail
        refine HR.out.mono ?_
        rintro e w3 ⟨rfl, rfl⟩
        go_wp2
        go_ret2
        exact ⟨by rw [HS.out]; rfl, rfl⟩
      have h0 : ovenE s l d 0 = 0 := by rw [hov, show btw 0 d 1000 = true by unfold btw; simp; omega]; rfl
      have HTK := Lib.hid htok.2
      have HS := Lib.hid (show allowB s l d = if firstS (enough s l d) 100000 < 100000 then ((firstS (enough s l d) 100000 : Int) + 1, 0) else (0, 5) by unfold allowB; rw [if_pos h0])
      have HK := Lib.hid (fun z (hz : s ≤ z ∧ z ≤ 100000) => seasoned_any A c z l d w (by omega) htok.2 (by omega) HLL.out hsl)
      have hdd : 0 ≤ d ∧ d ≤ 1000 := by omega
      clear hov htok h0
      go_enter Tryd.func49, Tryd.ntmps49
      go_wp2_with fail
      refine HT.out.mono ?_
      rintro e w2 ⟨rfl, rfl⟩
      go_wp2_with fail
      refine HR.out.mono ?_
      rintro e w3 ⟨rfl, rfl⟩
      go_wp2
      go_loopw [9] (fun i wr => ∃ z : Int, i = .int .i64 z ∧ s ≤ z ∧ z ≤ 100001 ∧ (∀ y, s ≤ y → y < z → shrD y l d < s) ∧ wr = w3) (fun i _ => (100001 - intOf i).toNat)
      case atStart => exact ⟨s, rfl, Int.le_refl _, by omega, fun y h1 h2 => by omega, rfl⟩
      case round =>
        obtain ⟨z, rfl, hz1, hz2, hno, rfl⟩ := hrel
        have HN := Lib.hid hno; clear hno
        by_cases hz : z ≤ 100000
        · obtain ⟨v, hv⟩ : ∃ v, shrD z l d = v := ⟨_, rfl⟩
          have HK2 := Lib.hid (HK.out z ⟨hz1, hz⟩)
          rw [hv] at HK2
          have HV := Lib.hid hv; clear hv
          by_cases hvs : s ≤ v
          · have HS2 : Hid (allowB s l d = (z, 0)) := by
              show _ = _
              have := allow_from HTK.out (z := z) hsb hz1 hz HN.out (by rw [HV.out]; exact hvs)
              rw [HS.out, this, if_pos (by omega), show (((z - 1).toNat : Nat) : Int) + 1 = z by omega]
            go_wp2_with fail
            refine HK2.out.mono ?_
            rintro e w4 ⟨rfl, rfl⟩
            go_wp2
            go_ret2
            exact ⟨by rw [HS2.out]; rfl, rfl⟩
          · have HN2 : Hid (∀ y, s ≤ y → y < z + 1 → shrD y l d < s) := by
              intro y h1 h2
              by_cases hy : y < z
              · exact HN.out y h1 hy
              · obtain rfl : y = z := by omega
                rw [HV.out]; omega
            go_wp2_with fail
            refine HK2.out.mono ?_
            rintro e w4 ⟨rfl, rfl⟩
            go_wp2
            go_roundw
            case rel => exact ⟨z + 1, by go_num, by omega, by omega, HN2.out, trivial⟩
            case measure => simp [intOf]; omega
        · have HS2 : Hid (allowB s l d = (0, 5)) := by
            show _ = _
            rw [HS.out, allow_none HTK.out (fun y h1 h2 => HN.out y h1 (by omega))]
            rfl
          go_wp2
          go_ret2
          exact ⟨by rw [HS2.out]; rfl, rfl⟩
  · rw [if_neg ht] at hov
    obtain ⟨x, hx⟩ : ∃ x, tableE l = x := ⟨_, rfl⟩
    rw [hx] at HT ht hov
    have HS := Lib.hid (show allowB s l d = (0, x) by unfold allowB; rw [hov, if_neg ht])
    have h0 : (x == 0) = false := by simpa using ht
    have hne : (x != 0) = true := by simpa using ht
    clear hl hm hx hov ht
    go_enter Tryd.func49, Tryd.ntmps49
    go_wp2_with fail
    refine HT.out.mono ?_
    rintro e w2 ⟨rfl, rfl⟩
    go_wp2
    go_ret2
    exact ⟨by rw [HS.out]; rfl, rfl⟩
set_option maxRecDepth 100000 in
set_option maxHeartbeats 1000000 in
theorem refReady_any (A : Option Addr) (c : Nat) (s : Int) (l : List Int) (d : Int) (w : World) (hl : RdI w w.heap.size A l) (hm : l.length ≤ maxLen) : Calls Tryd.prog 47 #[.int .i64 s, .slice A l.length c, .int .i64 d] w fun e w' => e = .returned (.tuple #[.int .i64 (readyB s l d).1, .int .i64 (readyB s l d).2]) ∧ w' = w := by
  have HT := Lib.hid (table_any A c l w hl hm)
  have hov := oven_of s l 0 d
  by_cases ht : tableE l = 0
  · rw [if_pos ht] at hov
    have htok := table_ok ht
    have hsl : l.length ≤ 60 := htok.1
    have HLL := Lib.hid hl
    rw [ht] at HT
    clear ht hl hm
    cases hr : btw 1 s 100000
    · rw [hr] at hov
      have HS := Lib.hid (show readyB s l d = (0, 2) by unfold readyB; rw [hov]; rfl)
      have HR := Lib.hid (raw_any s w)
      rw [hr] at HR
      clear hov htok hr
      go_enter Tryd.func47, Tryd.ntmps47
      go_wp2_with fail
      refine HT.out.mono ?_
      rintro e w2 ⟨rfl, rfl⟩
      go_wp2_with fail
      refine HR.out.mono ?_
      rintro e w3 ⟨rfl, rfl⟩
      go_wp2
      go_ret2
      exact ⟨by rw [HS.out]; rfl, rfl⟩
    · rw [hr] at hov
      have HR := Lib.hid (raw_any s w)
      rw [hr] at HR
      have hsb : 1 ≤ s ∧ s ≤ 100000 := by simp [btw] at hr; exact hr
      clear hr
      by_cases hd1 : d < 0
      · have HS := Lib.hid (show readyB s l d = (0, 2) by unfold readyB; rw [hov, decide_eq_false (show ¬ 0 ≤ d by omega)]; rfl)
        clear hov htok
        go_enter Tryd.func47, Tryd.ntmps47
        go_wp2_with fail
        refine HT.out.mono ?_
        rintro e w2 ⟨rfl, rfl⟩
        go_wp2_with fail
        refine HR.out.mono ?_
        rintro e w3 ⟨rfl, rfl⟩
        go_wp2
        go_ret2
        exact ⟨by rw [HS.out]; rfl, rfl⟩
      have h0 : ovenE s l 0 d = 0 := by rw [hov, show btw 0 0 1000 = true by rfl, decide_eq_true (show 0 ≤ d by omega)]; rfl
      have HTK := Lib.hid htok.2
      have HS := Lib.hid (show readyB s l d = ((firstS (rests s l d) l.length : Int), 0) by unfold readyB; rw [if_pos h0])
      have HK := Lib.hid (fun (j : Nat) (hj : j ≤ l.length) => seasoned_any A c s l j w (by omega) htok.2 (by omega) HLL.out hsl)
      have HKE := Lib.hid (HK.out l.length (Nat.le_refl _))
      rw [shrD_all] at HKE
      have hzb := shr_bd l s HTK.out (by omega)
      obtain ⟨Z, hZ⟩ : ∃ Z, shrS s l = Z := ⟨_, rfl⟩
      rw [hZ] at HKE hzb
      have HZ := Lib.hid hZ
      clear hov htok h0 hZ
      go_enter Tryd.func47, Tryd.ntmps47
      go_wp2_with fail
      refine HT.out.mono ?_
      rintro e w2 ⟨rfl, rfl⟩
      go_wp2_with fail
      refine HR.out.mono ?_
      rintro e w3 ⟨rfl, rfl⟩
      go_wp2_with fail
      refine HKE.out.mono ?_
      rintro e w4 ⟨rfl, rfl⟩
      go_wp2
      go_loopw [10] (fun i wr => ∃ k : Nat, i = .int .i64 k ∧ k ≤ l.length ∧ (∀ j, j < k → rests s l d j = false) ∧ wr = w4) (fun i _ => l.length - (intOf i).toNat)
      case atStart => exact ⟨0, rfl, Nat.zero_le _, fun j h => by omega, rfl⟩
      case round =>
        obtain ⟨k, rfl, hk, hno, rfl⟩ := hrel
        have HN := Lib.hid hno; clear hno
        obtain ⟨v, hv⟩ : ∃ v, shrD s l k = v := ⟨_, rfl⟩
        have hvb := shrD_bd HTK.out (s := s) (by omega) k
        have HK2 := Lib.hid (HK.out k hk)
        rw [hv] at HK2 hvb
        have HV := Lib.hid hv
        clear hv
        by_cases hvs : v - Z ≤ d
        · have HS2 : Hid (readyB s l d = ((k : Int), 0)) := by
            show _ = _
            rw [HS.out, first_is hk HN.out (fun _ => by unfold rests; rw [HV.out, HZ.out]; simpa using hvs)]
          go_wp2_with fail
          refine HK2.out.mono ?_
          rintro e w5 ⟨rfl, rfl⟩
          go_wp2
          go_ret2
          exact ⟨by rw [HS2.out]; rfl, rfl⟩
        · have hkl : k < l.length := by
            rcases Nat.lt_or_ge k l.length with h | h
            · exact h
            · exfalso
              obtain rfl : k = l.length := by omega
              have := HV.out
              rw [shrD_all, HZ.out] at this
              omega
          have HN2 : Hid (∀ j, j < k + 1 → rests s l d j = false) := by
            intro j hj
            by_cases hy : j < k
            · exact HN.out j hy
            · obtain rfl : j = k := by omega
              unfold rests
              rw [HV.out, HZ.out]
              simp; omega
          go_wp2_with fail
          refine HK2.out.mono ?_
          rintro e w5 ⟨rfl, rfl⟩
          go_wp2
          go_roundw
          case rel => exact ⟨k + 1, by go_num, by omega, HN2.out, trivial⟩
          case measure => simp [intOf]; omega
  · rw [if_neg ht] at hov
    obtain ⟨x, hx⟩ : ∃ x, tableE l = x := ⟨_, rfl⟩
    rw [hx] at HT ht hov
    have HS := Lib.hid (show readyB s l d = (0, x) by unfold readyB; rw [hov, if_neg ht])
    have h0 : (x == 0) = false := by simpa using ht
    have hne : (x != 0) = true := by simpa using ht
    clear hl hm hx hov ht
    go_enter Tryd.func47, Tryd.ntmps47
    go_wp2_with fail
    refine HT.out.mono ?_
    rintro e w2 ⟨rfl, rfl⟩
    go_wp2
    go_ret2
    exact ⟨by rw [HS.out]; rfl, rfl⟩
end Go.Proofs.YtbcnkcndhgihaaaDoor

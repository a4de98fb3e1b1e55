/- Mirror, in the reference: the walk. -/
import Derived.Test.YtohlinbcbfgdfaaWE
import Derived.Deep.RegionWith
import Derived.Deep.AppendLies
import Derived.Deep.RegionLaw
namespace Go.Proofs.Ytohlinbcbfgdfaa
open Go.RowKit

set_option maxRecDepth 100000 in
set_option maxHeartbeats 1000000 in
theorem Mirror2_any (A : Option Addr) (c : Nat) (l : List XY) (w : World) (hl : Rd w w.heap.size A l) :
    Calls Try.prog 28 #[.slice A l.length c] w (RetO2 (mirrorS validRB turnL l).1 (mirrorS validRB turnL l).2 w) := by
  have HL := Lib.hid hl; clear hl
  cases hv : validRB l
  · have HS : Hid (mirrorS validRB turnL l = ([], 10)) := by simp [Hid, mirrorS, hv]
    have HV := Lib.hid hv; clear hv
    go_enter Try.func28, Try.ntmps28
    go_wp2_with fail
    refine (validR_any A c l _ HL.out).mono ?_
    rintro e w1 ⟨rfl, hb1⟩
    rw [HV.out]
    go_wp2
    go_ret2
    rw [HS.out]
    exact ⟨_, rfl, World.ownsRow_nil _ _ _ _, hb1⟩
  have HS : Hid (mirrorS validRB turnL l = (turnL (l.map fMir).reverse, 0)) := by simp [Hid, mirrorS, hv]
  have hlen := validRB_len hv
  have HV := Lib.hid hv; clear hv
  obtain ⟨i0, hi, hz0, hz1, hz2⟩ := info_parts Try.infoXY
  have HJ := Lib.hid hi; clear hi
  have hmx : Try.prog.follows .mixedOrders = true := by kernel_rfl
  obtain ⟨L, hL⟩ : ∃ L, (l.map fMir).reverse = L := ⟨_, rfl⟩
  have hLl : L.length = l.length := by rw [← hL]; simp
  have hLg : ∀ k q, k < l.length → l[l.length - 1 - k]? = some q → L[k]? = some (fMir q) := fun k q hk hq => by
    rw [← hL, List.getElem?_reverse (by simpa using hk), List.length_map, List.getElem?_map, hq]; rfl
  rw [hL] at HS
  have HLG := Lib.hid hLg; clear hLg
  have HLL := Lib.hid hLl; clear hLl
  clear hL
  go_enter Try.func28, Try.ntmps28
  go_wp2_with fail
  refine (validR_any A c l _ HL.out).mono ?_
  rintro e w1 ⟨rfl, hb1⟩
  rw [HV.out]
  go_wp2
  go_loopw [4, 5] (fun v i wr => ∃ k : Nat, k ≤ l.length ∧ i = .int .i64 ((l.length : Int) - 1 - (k : Int)) ∧ OwnL wr w.heap.size v (L.take k) ∧ Below w.heap.size w wr) (fun _ i _ => (intOf i + 1).toNat)
  case atStart => exact ⟨0, Nat.zero_le _, by go_num, World.ownsRow_nil _ _ _ _, hb1⟩
  case round =>
    obtain ⟨k, hk, rfl, hown, hB⟩ := hrel
    have HO := Lib.hid hown; clear hown
    by_cases hlt : k < l.length
    · obtain ⟨n, hn⟩ : ∃ n, l.length - 1 - k = n := ⟨_, rfl⟩
      have hnI : (l.length : Int) - 1 - (k : Int) = (n : Int) := by omega
      have hnl : n < l.length := by omega
      obtain ⟨q, hq⟩ := getElem?_of_lt hnl
      obtain ⟨b, off, hA, hb, hcx, hcy⟩ := (HL.out.below hB) n q hq
      subst hA
      have hg := HLG.out k q hlt (by rw [hn]; exact hq)
      have HQ := Lib.hid (take_succ_of hg); clear hq hg
      have hsB := hB.size
      have hlenk : (L.take k).length = k := by have := HLL.out; simp; omega
      rw [hnI]
      have HNI := Lib.hid hnI; clear hnI hn
      have h0n : (0 : Int) ≤ (n : Int) := by omega
      go_wp2
      go_region_law (first | (refine step_append_own _ rfl (.tmp 16) (.tmp 29) 39 rfl w.heap.size 55 i0 (.agg #[.int .i64 0, .int .i64 0]) 2 16 Try.underlying39 HJ.out hz0 hz1 hz2 rfl (by decide) _ (L.take k).length (flat (L.take k)) rfl (HO.out.drew.alloc (.cells #[.int .i64 (IntKind.i64.wrap (-q.X)), .int .i64 q.Y] 55)) ⟨wr.heap.size, 0, none⟩ 1 1 [.int .i64 (IntKind.i64.wrap (-q.X)), .int .i64 q.Y] rfl rfl (by intro j u hj; match j, hj with | 0, hj => (simp at hj; subst hj; simp [Addr.add]) | 1, hj => (simp at hj; subst hj; simp [Addr.add]) | j + 2, hj => simp at hj) (by intro u hu; simp at hu; rcases hu with rfl | rfl <;> rfl) (by rw [hlenk]; unfold maxLen; omega) (by rw [hlenk]; omega) (by simp; omega) ?_; intro v' w3 hown' hgrow _) | (go_simp; done))
      all_goals
        go_wp2
        go_roundw
        case rel =>
          have e1 := HNI.out
          have hb3 : Below w.heap.size w w3 := below_grown (w1 := (wr.alloc (.cells #[.int .i64 (IntKind.i64.wrap (-q.X)), .int .i64 q.Y] 55)).drew) (by (repeat (first | exact Below.refl _ _ | assumption | refine Below.alloc ?_ (by first | exact Nat.le_refl _ | exact Below.size (by assumption) | omega | (simp <;> omega)) _ | refine Below.setCell ?_ (by first | exact Nat.le_refl _ | exact Below.size (by assumption) | omega | (simp <;> omega)) _ | refine below_drewN ?_ _ | refine Below.drew ?_))) hgrow (fun j hj => (HO.out.lt j hj).1) (by simp; omega)
          refine ⟨k + 1, by omega, by congr 1; omega, ?_, hb3⟩
          rw [HQ.out]
          have e := hown'
          unfold OwnL
          rw [flat_append]
          simpa [flat_cons, flat_nil, fMir, w64_eq] using e
        case measure => simp [intOf]
    · obtain rfl : k = l.length := by omega
      have hown := HO.out
      rw [← HLL.out, List.take_length] at hown
      obtain ⟨A3, c3, rfl, hr3⟩ := own_rd hown
      have hneg : ¬ (0 : Int) ≤ (l.length : Int) - 1 - (l.length : Int) := by omega
      go_wp2_with fail
      refine (Turn_any A3 c3 L wr (by have := HLL.out; omega) (by have := HLL.out; omega) hr3).mono ?_
      rintro e w4 ⟨v4, rfl, hown4, hb4⟩
      go_wp2
      go_ret2
      rw [HS.out]
      exact ⟨v4, rfl, own_base hown4 hB.size, hB.trans (hb4.mono hB.size)⟩
end Go.Proofs.Ytohlinbcbfgdfaa

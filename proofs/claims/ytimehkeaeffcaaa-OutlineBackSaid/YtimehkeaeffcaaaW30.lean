/- The reference's Turn: the walk. -/
import Derived.Test.YtimehkeaeffcaaaW28
import Derived.Test.YtimehkeaeffcaaaW7
import Derived.StillTailTactics
namespace Go.Proofs.Ytimehkeaeffcaaa
open Go.RowKit

theorem atTo_succ (l : List XY) (k : Nat) : atTo l (k + 1) = if lowB (cy l k) (cy l (atTo l k)) then k else atTo l k := by
  unfold atTo; rw [List.range_succ, List.foldl_append]; rfl
theorem atTo_lt {l : List XY} (h0 : 0 < l.length) : ∀ k, k ≤ l.length → atTo l k < l.length
  | 0, _ => h0
  | k + 1, h => by
    rw [atTo_succ]
    split
    · omega
    · exact atTo_lt h0 k (by omega)
theorem turnL_take (l : List XY) (k : Nat) : (List.range (k + 1)).map (fun i => cy l (atTo l l.length + i)) = (List.range k).map (fun i => cy l (atTo l l.length + i)) ++ [cy l (atTo l l.length + k)] := by
  rw [List.range_succ, List.map_append]; rfl

set_option maxRecDepth 100000 in
set_option maxHeartbeats 1000000 in
theorem Turn_any (A : Option Addr) (c : Nat) (l : List XY) (w : World) (h0 : 0 < l.length) (hm : l.length ≤ 1000000) (hl : Rd w w.heap.size A l) :
    Calls Try.prog 63 #[.slice A l.length c] w (RetO (turnL l) w) := by
  have HL := Lib.hid hl; clear hl
  have hmx : Try.prog.follows .mixedOrders = true := by kernel_rfl
  obtain ⟨i0, hi, hz0, hz1, hz2⟩ := info_parts Try.infoXY
  have HJ := Lib.hid hi; clear hi
  go_enter Try.func63, Try.ntmps63
  go_wp2
  go_loopw [3, 4, 5, 10] (fun at' _ _ i wr => ∃ k : Nat, k ≤ l.length ∧ i = .int .i64 k ∧ at' = .int .i64 (atTo l k : Nat) ∧ Below w.heap.size w wr) (fun _ _ _ i _ => l.length - (intOf i).toNat)
  case atStart => exact ⟨0, Nat.zero_le _, rfl, rfl, by (repeat (first | exact Below.refl _ _ | assumption | refine Below.alloc ?_ (by first | exact Nat.le_refl _ | exact Below.size (by assumption) | omega | (simp <;> omega)) _ | refine Below.setCell ?_ (by first | exact Nat.le_refl _ | exact Below.size (by assumption) | omega | (simp <;> omega)) _ | refine below_drewN ?_ _ | refine Below.drew ?_))⟩
  case round =>
    obtain ⟨k, hk, rfl, rfl, hB⟩ := hrel
    by_cases hlt : k < l.length
    · obtain ⟨q, hq⟩ := getElem?_of_lt hlt
      obtain ⟨b, off, hA, hb, hcx, hcy⟩ := (HL.out.below hB) k q hq
      subst hA
      have hat := atTo_lt h0 k hk
      have hst := atTo_succ l k
      obtain ⟨m, hm2⟩ : ∃ m, atTo l k = m := ⟨_, rfl⟩
      rw [hm2] at hat hst ⊢
      obtain ⟨r, hr⟩ := getElem?_of_lt hat
      obtain ⟨b1, off1, hA, hb1, hdx, hdy⟩ := (HL.out.below hB) m r hr
      obtain ⟨rfl, rfl⟩ : b = b1 ∧ off = off1 := by simpa using hA
      clear hA
      rw [cy_lt hq, cy_lt hr] at hst
      have HST := Lib.hid hst; clear hst
      clear hq hr hm2
      have hbw : b < wr.heap.size := by have := hB.size; omega
      have hsB := hB.size
      obtain ⟨wa, hwa⟩ : ∃ wa : World, wr.alloc (.cells #[.int .i64 q.X, .int .i64 q.Y] 37) = wa := ⟨_, rfl⟩
      have hBa : Below w.heap.size w wa := hwa ▸ hB.alloc hB.size _
      go_wp2
      have ecx : wa.cell? ⟨b, off + m * 2, none⟩ = some (.int .i64 r.X) := by rw [← hwa, World.cell?_alloc_lt _ _ _ hbw]; exact hdx
      have ecy : wa.cell? ⟨b, off + m * 2 + 1, none⟩ = some (.int .i64 r.Y) := by rw [← hwa, World.cell?_alloc_lt _ _ _ hbw]; exact hdy
      have epx : wa.cell? ⟨wr.heap.size, 0, none⟩ = some (.int .i64 q.X) := by rw [← hwa]; simp
      have epy : wa.cell? ⟨wr.heap.size, 1, none⟩ = some (.int .i64 q.Y) := by rw [← hwa]; simp
      clear hwa
      go_still_tail 5, (by kernel_rfl)
      change wpList _ _ _ _ _ wa.drew
      go_wp2_with fail
      refine (low_any q r _).mono ?_
      rintro e w2 ⟨rfl, hb2⟩
      have hB2 := hBa.trans ((below_of_drew hb2).mono hBa.size)
      clear hb2
      cases hlo : lowB q r
      · have HLO := Lib.hid hlo; clear hlo
        go_wp2
        go_roundw
        case rel => exact ⟨k + 1, by omega, by go_num, by rw [HST.out, HLO.out]; rfl, hB2⟩
        case measure => simp [intOf]; omega
      · have HLO := Lib.hid hlo; clear hlo
        go_wp2
        go_roundw
        case rel => exact ⟨k + 1, by omega, by go_num, by rw [HST.out, HLO.out]; rfl, hB2⟩
        case measure => simp [intOf]; omega
    · obtain rfl : k = l.length := by omega
      have hat := atTo_lt h0 l.length (Nat.le_refl _)
      have htk := turnL_take l
      have hfin : turnL l = (List.range l.length).map (fun i => cy l (atTo l l.length + i)) := rfl
      obtain ⟨m, hm2⟩ : ∃ m, atTo l l.length = m := ⟨_, rfl⟩
      rw [hm2] at hat htk hfin ⊢
      have HTK := Lib.hid htk; clear htk
      have HF := Lib.hid hfin; clear hfin
      clear hm2
      go_wp2
      go_loopw [6, 7, 25] (fun v _ i wr => ∃ k : Nat, k ≤ l.length ∧ i = .int .i64 k ∧ OwnL wr w.heap.size v ((List.range k).map fun i => cy l (m + i)) ∧ Below w.heap.size w wr) (fun _ _ i _ => l.length - (intOf i).toNat)
      case atStart => exact ⟨0, Nat.zero_le _, rfl, World.ownsRow_nil _ _ _ _, hB⟩
      case round =>
        obtain ⟨k, hk, rfl, hown, hB⟩ := hrel
        by_cases hlt : k < l.length
        · have hlt2 : (m + k) % l.length < l.length := Nat.mod_lt _ (by omega)
          obtain ⟨r, hr⟩ := getElem?_of_lt hlt2
          obtain ⟨b, off, hA, hb, hdx, hdy⟩ := (HL.out.below hB) _ r hr
          subst hA
          have htk := HTK.out k
          rw [cy_of hr] at htk
          have HT := Lib.hid htk; clear htk hr
          have HO := Lib.hid hown; clear hown
          have e2 : ((m : Int) + (k : Int)).tmod (l.length : Int) = ((m : Int) + (k : Int)) % (l.length : Int) := tmod_pos (by omega)
          obtain ⟨e4, e5⟩ := emod_bd (x := (m : Int) + (k : Int)) (n := l.length) (by omega)
          have e6 : (((m : Int) + (k : Int)) % (l.length : Int)).toNat = (m + k) % l.length := emod_toNat rfl
          have e3 : ¬ l = [] := ne_nil_of_lt hlt
          have hsB := hB.size
          go_wp2_with (at_builtin; refine wpList_append_own _ rfl _ _ 22 rfl w.heap.size 37 i0 (.agg #[.int .i64 0, .int .i64 0]) 2 16 Try.underlying22 HJ.out hz0 hz1 hz2 rfl (by decide) _ _ _ rfl (HO.out.alloc _) ⟨wr.heap.size, 0, none⟩ 1 1 [.int .i64 r.X, .int .i64 r.Y] rfl rfl (by intro j u hj; match j, hj with | 0, hj => (simp at hj; subst hj; simp [Addr.add]) | 1, hj => (simp at hj; subst hj; simp [Addr.add]) | j + 2, hj => simp at hj) (by intro u hu; simp at hu; rcases hu with rfl | rfl <;> rfl) (by simp; unfold maxLen; omega) (by simp; omega) (by simp; omega) ?_; intro v' w1 hown' hgrow _)
          go_wp2
          go_roundw
          case rel =>
            refine ⟨k + 1, by omega, by go_num, ?_, below_grown (w1 := wr.alloc (.cells #[.int .i64 r.X, .int .i64 r.Y] 37)) (by (repeat (first | exact Below.refl _ _ | assumption | refine Below.alloc ?_ (by first | exact Nat.le_refl _ | exact Below.size (by assumption) | omega | (simp <;> omega)) _ | refine Below.setCell ?_ (by first | exact Nat.le_refl _ | exact Below.size (by assumption) | omega | (simp <;> omega)) _ | refine below_drewN ?_ _ | refine Below.drew ?_))) hgrow (fun j hj => (HO.out.lt j hj).1) (by simp; omega)⟩
            rw [HT.out]
            have e := hown'
            unfold OwnL
            rw [flat_append]
            simpa [flat_cons, flat_nil] using e
          case measure => simp [intOf]; omega
        · obtain rfl : k = l.length := by omega
          go_wp2
          go_ret
          exact ⟨_, rfl, by rw [HF.out]; exact hown, hB⟩
end Go.Proofs.Ytimehkeaeffcaaa

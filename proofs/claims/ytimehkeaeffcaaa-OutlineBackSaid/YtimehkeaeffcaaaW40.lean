/- Turned, Moved, in the reference: the walks. -/
import Derived.Test.YtimehkeaeffcaaaW37
namespace Go.Proofs.Ytimehkeaeffcaaa
open Go.RowKit

/-- No corner of the first k is out of range. -/
theorem ranged_take_succ {l : List XY} {k : Nat} {q : XY} (h : l[k]? = some q) (h1 : (l.take k).all rangedB = true) (h2 : rangedB q = true) : (l.take (k + 1)).all rangedB = true := by
  rw [take_succ_of h, List.all_append, h1]; simp [h2]

set_option maxRecDepth 100000 in
set_option maxHeartbeats 1000000 in
theorem Turned2_any (A : Option Addr) (c : Nat) (l : List XY) (w : World) (hl : Rd w w.heap.size A l) :
    Calls Try.prog 47 #[.slice A l.length c] w (RetO2 (turnedS validRB turnL l).1 (turnedS validRB turnL l).2 w) := by
  have HL := Lib.hid hl; clear hl
  cases hv : validRB l
  · have HS : Hid (turnedS validRB turnL l = ([], 10)) := by simp [Hid, turnedS, hv]
    have HV := Lib.hid hv; clear hv
    go_enter Try.func47, Try.ntmps47
    go_wp2_with fail
    refine (validR_any A c l _ HL.out).mono ?_
    rintro e w1 ⟨rfl, hb1⟩
    rw [HV.out]
    go_wp2
    go_ret2
    rw [HS.out]
    exact ⟨_, rfl, World.ownsRow_nil _ _ _ _, hb1⟩
  have HS : Hid (turnedS validRB turnL l = (turnL (l.map fTurn), 0)) := by simp [Hid, turnedS, hv]
  have hlen := validRB_len hv
  have HV := Lib.hid hv; clear hv
  obtain ⟨i0, hi, hz0, hz1, hz2⟩ := info_parts Try.infoXY
  have HJ := Lib.hid hi; clear hi
  go_enter Try.func47, Try.ntmps47
  go_wp2_with fail
  refine (validR_any A c l _ HL.out).mono ?_
  rintro e w1 ⟨rfl, hb1⟩
  rw [HV.out]
  go_wp2
  go_loopw [4, 6, 12] (fun v _ i wr => ∃ k : Nat, k ≤ l.length ∧ i = .int .i64 k ∧ OwnL wr w.heap.size v ((l.take k).map fTurn) ∧ Below w.heap.size w wr) (fun _ _ i _ => l.length - (intOf i).toNat)
  case atStart => exact ⟨0, Nat.zero_le _, rfl, World.ownsRow_nil _ _ _ _, hb1⟩
  case round =>
    obtain ⟨k, hk, rfl, hown, hB⟩ := hrel
    have HO := Lib.hid hown; clear hown
    by_cases hlt : k < l.length
    · obtain ⟨q, hq⟩ := getElem?_of_lt hlt
      obtain ⟨b, off, hA, hb, hcx, hcy⟩ := (HL.out.below hB) k q hq
      subst hA
      have HQ := Lib.hid (take_map_succ fTurn hq); clear hq
      have hsB := hB.size
      have hlenk : ((l.take k).map fTurn).length = k := by simp; omega
      have hO2 := HO.out.alloc (.cells #[.int .i64 q.X, .int .i64 q.Y] 37)
      have HO2 := Lib.hid hO2; clear hO2
      go_wp2_with (at_builtin; refine wpList_append_own _ rfl _ _ 22 rfl w.heap.size 37 i0 (.agg #[.int .i64 0, .int .i64 0]) 2 16 Try.underlying22 HJ.out hz0 hz1 hz2 rfl (by decide) _ _ _ rfl (HO2.out.alloc _) ⟨wr.heap.size + 1, 0, none⟩ 1 1 [.int .i64 (wrap64 (-q.X)), .int .i64 (wrap64 (-q.Y))] rfl rfl (by intro j u hj; match j, hj with | 0, hj => (simp at hj; subst hj; simp [Addr.add]) | 1, hj => (simp at hj; subst hj; simp [Addr.add]) | j + 2, hj => simp at hj) (by intro u hu; simp at hu; rcases hu with rfl | rfl <;> rfl) (by rw [hlenk]; unfold maxLen; omega) (by rw [hlenk]; omega) (by simp; omega) ?_; intro v' w3 hown' hgrow _)
      go_wp2
      go_roundw
      case rel =>
        refine ⟨k + 1, by omega, by go_num, ?_, below_grown (w1 := (wr.alloc (.cells #[.int .i64 q.X, .int .i64 q.Y] 37)).alloc (.cells #[.int .i64 (wrap64 (-q.X)), .int .i64 (wrap64 (-q.Y))] 37)) (by (repeat (first | exact Below.refl _ _ | assumption | refine Below.alloc ?_ (by first | exact Nat.le_refl _ | exact Below.size (by assumption) | omega | (simp <;> omega)) _ | refine Below.setCell ?_ (by first | exact Nat.le_refl _ | exact Below.size (by assumption) | omega | (simp <;> omega)) _ | refine below_drewN ?_ _ | refine Below.drew ?_))) hgrow (fun j hj => (HO2.out.lt j hj).1) (by simp; omega)⟩
        rw [HQ.out]
        have e := hown'
        unfold OwnL
        rw [flat_append]
        simpa [flat_cons, flat_nil, fTurn] using e
      case measure => simp [intOf]; omega
    · obtain rfl : k = l.length := by omega
      have hown := HO.out
      rw [List.take_length] at hown
      obtain ⟨A3, c3, rfl, hr3⟩ := own_rd hown
      have hcall := Turn_any A3 c3 (l.map fTurn) wr (by simp; omega) (by simp; omega) hr3
      rw [List.length_map] at hcall
      have HCL := Lib.hid hcall; clear hcall hr3 hown
      go_wp2_with fail
      refine HCL.out.mono ?_
      rintro e w4 ⟨v4, rfl, hown4, hb4⟩
      go_wp2
      go_ret2
      rw [HS.out]
      exact ⟨v4, rfl, own_base hown4 hB.size, hB.trans (hb4.mono hB.size)⟩

def moved2S (l : List XY) (dx dy : Int) : List XY × Int :=
  if !validRB l then ([], 10) else if offM dx dy then ([], 2) else if !(l.map (fShift dx dy)).all rangedB then ([], 2) else (turnL (l.map (fShift dx dy)), 0)

set_option maxRecDepth 100000 in
set_option maxHeartbeats 1000000 in
theorem Moved2_any (dx dy : Int) (A : Option Addr) (c : Nat) (l : List XY) (w : World) (hl : Rd w w.heap.size A l) :
    Calls Try.prog 49 #[.slice A l.length c, .int .i64 dx, .int .i64 dy] w (RetO2 (moved2S l dx dy).1 (moved2S l dx dy).2 w) := by
  have HL := Lib.hid hl; clear hl
  cases hv : validRB l
  · have HS : Hid (moved2S l dx dy = ([], 10)) := by simp [Hid, moved2S, hv]
    have HV := Lib.hid hv; clear hv
    go_enter Try.func49, Try.ntmps49
    go_wp2_with fail
    refine (validR_any A c l _ HL.out).mono ?_
    rintro e w1 ⟨rfl, hb1⟩
    rw [HV.out]
    go_wp2
    go_ret2
    rw [HS.out]
    exact ⟨_, rfl, World.ownsRow_nil _ _ _ _, hb1⟩
  have hlen := validRB_len hv
  by_cases ho : offM dx dy
  · have HS : Hid (moved2S l dx dy = ([], 2)) := by simp [Hid, moved2S, hv, ho]
    have HV := Lib.hid hv; clear hv
    rcases ho with ho | ho | ho | ho
    all_goals
      go_enter Try.func49, Try.ntmps49
      go_wp2_with fail
      refine (validR_any A c l _ HL.out).mono ?_
      rintro e w1 ⟨rfl, hb1⟩
      rw [HV.out]
      go_wp2
      all_goals
        go_ret2
        rw [HS.out]
        exact ⟨_, rfl, World.ownsRow_nil _ _ _ _, hb1⟩
  · have hs : moved2S l dx dy = if !(l.map (fShift dx dy)).all rangedB then ([], 2) else (turnL (l.map (fShift dx dy)), 0) := by simp [moved2S, hv, ho]
    unfold offM at ho
    simp only [not_or, Int.not_lt] at ho
    obtain ⟨o1, o2, o3, o4⟩ := ho
    have HV := Lib.hid hv; clear hv
    have HS := Lib.hid hs; clear hs
    have b1 : decide (dx < -10000) = false := decide_eq_false (by omega)
    have b2 : decide (10000 < dx) = false := decide_eq_false (by omega)
    have b3 : decide (dy < -10000) = false := decide_eq_false (by omega)
    have b4 : decide (10000 < dy) = false := decide_eq_false (by omega)
    go_enter Try.func49, Try.ntmps49
    go_wp2_with fail
    refine (validR_any A c l _ HL.out).mono ?_
    rintro e w1 ⟨rfl, hb1⟩
    rw [HV.out]
    go_wp2_with fail
    refine (Shifted_any dx dy A c l w1 (by omega) (HL.out.now hb1)).mono ?_
    rintro e w2 ⟨v2, rfl, hown2, hb2⟩
    have hB2 := hb1.trans (hb2.mono hb1.size)
    obtain ⟨A2, c2, rfl, hr2⟩ := own_rd hown2
    obtain ⟨m, hm⟩ : ∃ m, l.map (fShift dx dy) = m := ⟨_, rfl⟩
    have hml : m.length = l.length := by rw [← hm]; simp
    rw [hm] at hown2 hr2 HS ⊢
    clear hm hown2
    have HML := Lib.hid hml; clear hml
    have HM := Lib.hid hr2; clear hr2
    go_wp2
    go_loopw [11, 41] (fun _ i wr => ∃ k : Nat, k ≤ m.length ∧ i = .int .i64 k ∧ (m.take k).all rangedB = true ∧ Below w2.heap.size w2 wr) (fun _ i _ => m.length - (intOf i).toNat)
    case atStart => exact ⟨0, Nat.zero_le _, rfl, by simp, Below.refl _ _⟩
    case round =>
      obtain ⟨k, hk, rfl, hall, hB⟩ := hrel
      have hml6 : m.length ≤ 64 := by have := HML.out; omega
      have HA := Lib.hid hall; clear hall
      by_cases hlt : k < m.length
      · obtain ⟨q, hq⟩ := getElem?_of_lt hlt
        obtain ⟨b, off, hA, hb, hcx, hcy⟩ := (HM.out.below hB) k q hq
        subst hA
        have HQ := Lib.hid hq; clear hq
        have hsB := hB.size
        go_wp2_with fail
        refine (in_any q _).mono ?_
        rintro e w3 ⟨rfl, hb3⟩
        have hB3 : Below w2.heap.size w2 w3 := Below.trans (b := wr.alloc (.cells #[.int .i64 q.X, .int .i64 q.Y] 37)) (by (repeat (first | exact Below.refl _ _ | assumption | refine Below.alloc ?_ (by first | exact Nat.le_refl _ | exact Below.size (by assumption) | omega | (simp <;> omega)) _ | refine Below.setCell ?_ (by first | exact Nat.le_refl _ | exact Below.size (by assumption) | omega | (simp <;> omega)) _ | refine below_drewN ?_ _ | refine Below.drew ?_))) (hb3.mono (by simp; omega))
        cases hrq : rangedB q
        · have hna : m.all rangedB = false := List.all_eq_false.2 ⟨q, List.mem_of_getElem? HQ.out, by rw [hrq]; simp⟩
          have HNA := Lib.hid hna; clear hna hrq
          go_wp2
          go_ret2
          rw [HS.out, HNA.out]
          exact ⟨_, rfl, World.ownsRow_nil _ _ _ _, hB2.trans (hB3.mono hB2.size)⟩
        · have HRQ := Lib.hid hrq; clear hrq
          go_wp2
          go_roundw
          case rel => exact ⟨k + 1, by omega, by go_num, ranged_take_succ HQ.out HA.out HRQ.out, hB3⟩
          case measure => simp [intOf]; omega
      · obtain rfl : k = m.length := by omega
        have hal := HA.out
        rw [List.take_length] at hal
        have HAL := Lib.hid hal; clear hal
        go_wp2_with fail
        refine (Turn_any A2 c2 m wr (by have := HML.out; omega) (by have := HML.out; omega) (HM.out.now hB)).mono ?_
        rintro e w4 ⟨v4, rfl, hown4, hb4⟩
        have hB4 := hB2.trans ((hB.trans (hb4.mono hB.size)).mono hB2.size)
        go_wp2
        go_ret2
        rw [HS.out, HAL.out]
        exact ⟨v4, rfl, own_base hown4 (by have := hB2.size; have := hB.size; omega), hB4⟩
end Go.Proofs.Ytimehkeaeffcaaa

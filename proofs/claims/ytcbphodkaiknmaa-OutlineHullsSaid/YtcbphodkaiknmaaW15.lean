/- Area2, Diameter and the sanity check of the laws, in the program: the walks. -/
import Derived.Test.YtcbphodkaiknmaaWB
import Derived.Test.YtcbphodkaiknmaaW8
import Derived.Test.YtcbphodkaiknmaaWG
import Derived.Test.YtcbphodkaiknmaaMathA
namespace Go.Proofs.Ytcbphodkaiknmaa
open Go.RowKit Go.Shelf

set_option maxRecDepth 100000 in
set_option maxHeartbeats 400000 in
theorem Area2_any (A : Option Addr) (c : Nat) (l : List XY) (w : World) (hl : Rd w w.heap.size A l) :
    Calls Try.prog 22 #[.slice A l.length c] w (Ret (.tuple #[.int .i64 (area2S l).1, .int .i64 (area2S l).2]) w) := by
  have HL := Lib.hid hl; clear hl
  cases hv : validB l
  · have HS : Hid (area2S l = (0, 10)) := by simp [Hid, area2S, hv]
    have HV := Lib.hid hv; clear hv
    go_enter Try.func22, Try.ntmps22
    go_wp2_with fail
    refine (valid_any A c l _ HL.out).mono ?_
    rintro e w1 ⟨rfl, hb1⟩
    rw [HV.out]
    go_wp2
    go_ret2
    exact Ret.mk (by rw [HS.out]; rfl) hb1
  · have HS : Hid (area2S l = (areaW l, 0)) := by simp [Hid, area2S, hv]
    have hlen := (validB_len' hv).2
    have HV := Lib.hid hv; clear hv
    go_enter Try.func22, Try.ntmps22
    go_wp2_with fail
    refine (valid_any A c l _ HL.out).mono ?_
    rintro e w1 ⟨rfl, hb1⟩
    rw [HV.out]
    go_wp2_with fail
    refine (area2_any A c l _ (by omega) (HL.out.now hb1)).mono ?_
    rintro e w2 ⟨rfl, hb2⟩
    go_wp2
    go_ret2
    exact Ret.mk (by rw [HS.out]; rfl) (hb1.trans (hb2.mono hb1.size))

theorem mostTo_succ {l : List XY} {k : Nat} {q : XY} (h : l[k]? = some q) : mostTo l (k + 1) = if mostTo l k < fourW q then fourW q else mostTo l k := by
  unfold mostTo
  rw [take_succ_of h, List.foldl_append]
  simp only [List.foldl_cons, List.foldl_nil]
  split <;> omega

set_option maxRecDepth 100000 in
set_option maxHeartbeats 400000 in
theorem Diameter_any (A : Option Addr) (c : Nat) (l : List XY) (w : World) (hl : Rd w w.heap.size A l) :
    Calls Try.prog 23 #[.slice A l.length c] w (Ret (.tuple #[.int .i64 (diameterS l).1, .int .i64 (diameterS l).2]) w) := by
  have HL := Lib.hid hl; clear hl
  cases hv : validB l
  · have HS : Hid (diameterS l = (0, 10)) := by simp [Hid, diameterS, hv]
    have HV := Lib.hid hv; clear hv
    go_enter Try.func23, Try.ntmps23
    go_wp2_with fail
    refine (valid_any A c l _ HL.out).mono ?_
    rintro e w1 ⟨rfl, hb1⟩
    rw [HV.out]
    go_wp2
    go_ret2
    exact Ret.mk (by rw [HS.out]; rfl) hb1
  · have HS : Hid (diameterS l = (diaW l, 0)) := by simp [Hid, diameterS, hv]
    have hlen := (validB_len' hv).2
    have hbd := mostTo_bd (validB_ranged hv) l.length
    have hnat : Hid (mostTo l l.length = (((mostTo l l.length).toNat : Nat) : Int)) := by simp only [Hid]; omega
    have hnb : (mostTo l l.length).toNat < 4611686018427387904 := by omega
    clear hbd
    have HV := Lib.hid hv; clear hv
    go_enter Try.func23, Try.ntmps23
    go_wp2_with fail
    refine (valid_any A c l _ HL.out).mono ?_
    rintro e w1 ⟨rfl, hb1⟩
    rw [HV.out]
    go_wp2
    go_loopw [4, 12] (fun m i wr => ∃ k : Nat, k ≤ l.length ∧ i = .int .i64 k ∧ m = .int .i64 (mostTo l k) ∧ Below w.heap.size w wr) (fun _ i _ => l.length - (intOf i).toNat)
    case atStart => exact ⟨0, Nat.zero_le _, rfl, rfl, hb1⟩
    case round =>
      obtain ⟨k, hk, rfl, rfl, hB⟩ := hrel
      by_cases hlt : k < l.length
      · obtain ⟨q, hq⟩ := getElem?_of_lt hlt
        obtain ⟨b, off, hA, hb, hcx, hcy⟩ := (HL.out.below hB) k q hq
        subst hA
        have HQ := Lib.hid (mostTo_succ hq); clear hq
        go_wp2
        go_roundw
        case rel => exact ⟨k + 1, by omega, by go_num, by rw [HQ.out]; rfl, by (repeat (first | exact Below.refl _ _ | assumption | refine Below.alloc ?_ (by first | exact Nat.le_refl _ | exact Below.size (by assumption) | omega | (simp <;> omega)) _ | refine Below.setCell ?_ (by first | exact Nat.le_refl _ | exact Below.size (by assumption) | omega | (simp <;> omega)) _ | refine below_drewN ?_ _ | refine Below.drew ?_))⟩
        case measure => simp [intOf]; omega
      · obtain rfl : k = l.length := by omega
        go_wp2_with fail
        rw [hnat.out]
        refine (ceiling_any _ _ hnb).mono ?_
        rintro e w2 ⟨rfl, hb2⟩
        go_wp2
        go_ret2
        exact Ret.mk (by rw [HS.out]; rfl) (hB.trans (hb2.mono hB.size))

/-- The square of the sanity check. -/
def square : List XY := [⟨-2, -1⟩, ⟨2, -1⟩, ⟨2, 1⟩, ⟨-2, 1⟩]
theorem square_area : area2S square = (16, 0) := by decide +kernel
theorem square_dia : diameterS square = (5, 0) := by decide +kernel

theorem rd_square (w : World) : Rd (w.alloc (.cells #[.int .i64 (-2), .int .i64 (-1), .int .i64 2, .int .i64 (-1), .int .i64 2, .int .i64 1, .int .i64 (-2), .int .i64 1] 29)) (w.heap.size + 1) (some ⟨w.heap.size, 0, none⟩) square := by
  intro i p hp
  match i, hp with
  | 0, hp => obtain rfl : ⟨-2, -1⟩ = p := by simpa [square] using hp
             exact ⟨_, 0, rfl, by omega, by simp, by simp⟩
  | 1, hp => obtain rfl : ⟨2, -1⟩ = p := by simpa [square] using hp
             exact ⟨_, 0, rfl, by omega, by simp, by simp⟩
  | 2, hp => obtain rfl : ⟨2, 1⟩ = p := by simpa [square] using hp
             exact ⟨_, 0, rfl, by omega, by simp, by simp⟩
  | 3, hp => obtain rfl : ⟨-2, 1⟩ = p := by simpa [square] using hp
             exact ⟨_, 0, rfl, by omega, by simp, by simp⟩
  | i + 4, hp => simp [square] at hp

set_option maxRecDepth 100000 in
set_option maxHeartbeats 400000 in
theorem awake_any (w : World) : Calls Try.prog 7 #[] w (Ret (.bool true) w) := by
  have HA := Lib.hid square_area
  have HD := Lib.hid square_dia
  go_enter Try.func7, Try.ntmps7
  go_wp2_with fail
  have hB0 : Below w.heap.size w (w.alloc (.cells #[.int .i64 (-2), .int .i64 (-1), .int .i64 2, .int .i64 (-1), .int .i64 2, .int .i64 1, .int .i64 (-2), .int .i64 1] 29)) := by (repeat (first | exact Below.refl _ _ | assumption | refine Below.alloc ?_ (by first | exact Nat.le_refl _ | exact Below.size (by assumption) | omega | (simp <;> omega)) _ | refine Below.setCell ?_ (by first | exact Nat.le_refl _ | exact Below.size (by assumption) | omega | (simp <;> omega)) _ | refine below_drewN ?_ _ | refine Below.drew ?_))
  refine (Area2_any (some ⟨w.heap.size, 0, none⟩) 4 square _ ((rd_square w).more (by simp))).mono ?_
  rintro e w1 ⟨rfl, hb1⟩
  rw [HA.out]
  have hR1 := Lib.hid ((rd_square w).below (hb1.mono (by simp)))
  have hs1 := hb1.size
  simp only [World.size_alloc] at hs1
  go_wp2_with fail
  refine (Diameter_any (some ⟨w.heap.size, 0, none⟩) 4 square _ (hR1.out.more hs1)).mono ?_
  rintro e w2 ⟨rfl, hb2⟩
  rw [HD.out]
  go_wp2
  go_ret
  exact Ret.mk rfl ((hB0.trans (hb1.mono (by simp))).trans (hb2.mono (by omega)))
end Go.Proofs.Ytcbphodkaiknmaa

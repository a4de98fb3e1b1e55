/- Bounds of the length, in the reference; the box, in the program: the walks. -/
import Derived.Test.YtimehkeaeffcaaaWA
import Derived.Test.YtimehkeaeffcaaaWB
import Derived.Test.YtimehkeaeffcaaaW8
import Derived.Test.YtimehkeaeffcaaaWF
import Derived.Test.YtimehkeaeffcaaaMathA
namespace Go.Proofs.Ytimehkeaeffcaaa
open Go.RowKit Go.Shelf

set_option maxRecDepth 100000 in
set_option maxHeartbeats 1000000 in
theorem Around2_any (A : Option Addr) (c : Nat) (l : List XY) (w : World) (hl : Rd w w.heap.size A l) :
    Calls Try.prog 18 #[.slice A l.length c] w (Ret (.tuple #[.int .i64 (aroundS validRB l).1, .int .i64 (aroundS validRB l).2.1, .int .i64 (aroundS validRB l).2.2]) w) := by
  have HL := Lib.hid hl; clear hl
  cases hv : validRB l
  · have HS : Hid (aroundS validRB l = (0, 0, 10)) := by simp [Hid, aroundS, hv]
    have HV := Lib.hid hv; clear hv
    go_enter Try.func18, Try.ntmps18
    go_wp2_with fail
    refine (validR_any A c l _ HL.out).mono ?_
    rintro e w1 ⟨rfl, hb1⟩
    rw [HV.out]
    go_wp2
    go_ret3
    exact Ret.mk (by rw [HS.out]; rfl) hb1
  have HS : Hid (aroundS validRB l = (arTo isqrt l l.length, arTo iceil l l.length, 0)) := by simp [Hid, aroundS, hv]
  have hlen := validRB_len hv
  have hbd : ∀ i, Bd 5000 (cy l i) := bd_cy (by omega) (by rw [← valid_eq] at hv; exact validB_ranged hv)
  have HBD := Lib.hid hbd; clear hbd
  have HV := Lib.hid hv; clear hv
  go_enter Try.func18, Try.ntmps18
  go_wp2_with fail
  refine (validR_any A c l _ HL.out).mono ?_
  rintro e w1 ⟨rfl, hb1⟩
  rw [HV.out]
  go_wp2
  go_loopw [2, 3, 5, 6, 7, 8, 14] (fun m n _ _ _ _ i wr => ∃ k : Nat, k ≤ l.length ∧ i = .int .i64 k ∧ m = .int .i64 (arTo isqrt l k) ∧ n = .int .i64 (arTo iceil l k) ∧ Below w.heap.size w wr) (fun _ _ _ _ _ _ i _ => l.length - (intOf i).toNat)
  case atStart => exact ⟨0, Nat.zero_le _, rfl, rfl, rfl, hb1⟩
  case round =>
    obtain ⟨k, hk, rfl, rfl, rfl, hB⟩ := hrel
    by_cases hlt : k < l.length
    · obtain ⟨q, hq⟩ := getElem?_of_lt hlt
      obtain ⟨b, off, hA, hb, hcx, hcy⟩ := (HL.out.below hB) k q hq
      subst hA
      have hlt2 : (k + 1) % l.length < l.length := Nat.mod_lt _ (by omega)
      obtain ⟨r, hr⟩ := getElem?_of_lt hlt2
      obtain ⟨b1, off1, hA, hb1, hdx, hdy⟩ := (HL.out.below hB) _ r hr
      obtain ⟨rfl, rfl⟩ : b = b1 ∧ off = off1 := by simpa using hA
      clear hA
      have hqb := HBD.out k
      have hrb := HBD.out (k + 1)
      have hs1 := arTo_succ isqrt l k
      have hs2 := arTo_succ iceil l k
      rw [cy_lt hq, cy_of hr] at hs1 hs2
      rw [cy_lt hq] at hqb
      rw [cy_of hr] at hrb
      have hn := lenW_eq hrb hqb
      have hnb := d2_bd hrb hqb
      rw [d2_comm] at hn hnb
      generalize hd : d2 q r = m at hn hnb hs1 hs2
      have HS1 := Lib.hid hs1; clear hs1
      have HS2 := Lib.hid hs2; clear hs2
      clear hd hq hr hqb hrb
      have e2 : ((k : Int) + 1).tmod (l.length : Int) = ((k : Int) + 1) % (l.length : Int) := tmod_pos (by omega)
      obtain ⟨e4, e5⟩ := emod_bd (x := (k : Int) + 1) (n := l.length) (by omega)
      have e6 : (((k : Int) + 1) % (l.length : Int)).toNat = (k + 1) % l.length := emod_toNat rfl
      have e3 : ¬ l = [] := ne_nil_of_lt hlt
      have hbw : b < wr.heap.size := by have := hB.size; omega
      go_wp2_with fail
      rw [hn]
      refine (root2_any m _ (by omega)).mono ?_
      rintro e w2 ⟨rfl, hb2⟩
      have hsB := hB.size
      have hB2 : Below w.heap.size w w2 := Below.trans (b := (wr.alloc (.cells #[.int .i64 q.X, .int .i64 q.Y] 37)).alloc (.cells #[.int .i64 r.X, .int .i64 r.Y] 37)) (by (repeat (first | exact Below.refl _ _ | assumption | refine Below.alloc ?_ (by first | exact Nat.le_refl _ | exact Below.size (by assumption) | omega | (simp <;> omega)) _ | refine Below.setCell ?_ (by first | exact Nat.le_refl _ | exact Below.size (by assumption) | omega | (simp <;> omega)) _ | refine below_drewN ?_ _ | refine Below.drew ?_))) (hb2.mono (by have := hB.size; simp; omega))
      go_wp2_with fail
      refine (up_any m _ (by omega)).mono ?_
      rintro e w3 ⟨rfl, hb3⟩
      have hB3 := hB2.trans (hb3.mono hB2.size)
      go_wp2
      go_roundw
      case rel => exact ⟨k + 1, by omega, by go_num, by rw [HS1.out], by rw [HS2.out], hB3⟩
      case measure => simp [intOf]; omega
    · obtain rfl : k = l.length := by omega
      go_wp2
      go_ret3
      exact Ret.mk (by rw [HS.out]; rfl) hB

def boxS (l : List XY) : Int × Int × Int := if validB l then (wrap64 (farW 1 0 l + farW (-1) 0 l), wrap64 (farW 0 1 l + farW 0 (-1) l), 0) else (0, 0, 10)

set_option maxHeartbeats 1000000 in
theorem Box_any (A : Option Addr) (c : Nat) (l : List XY) (w : World) (hl : Rd w w.heap.size A l) :
    Calls Try.prog 38 #[.slice A l.length c] w (Ret (.tuple #[.int .i64 (boxS l).1, .int .i64 (boxS l).2.1, .int .i64 (boxS l).2.2]) w) := by
  have HL := Lib.hid hl; clear hl
  cases hv : validB l
  · have HS : Hid (boxS l = (0, 0, 10)) := by simp [Hid, boxS, hv]
    have HV := Lib.hid hv; clear hv
    go_enter Try.func38, Try.ntmps38
    go_wp2_with fail
    refine (valid_any A c l _ HL.out).mono ?_
    rintro e w1 ⟨rfl, hb1⟩
    rw [HV.out]
    go_wp2
    go_ret3
    exact Ret.mk (by rw [HS.out]; rfl) hb1
  have HS : Hid (boxS l = (wrap64 (farW 1 0 l + farW (-1) 0 l), wrap64 (farW 0 1 l + farW 0 (-1) l), 0)) := by simp [Hid, boxS, hv]
  have hlen := validB_len hv
  have HV := Lib.hid hv; clear hv
  go_enter Try.func38, Try.ntmps38
  go_wp2_with fail
  refine (valid_any A c l _ HL.out).mono ?_
  rintro e w1 ⟨rfl, hb1⟩
  rw [HV.out]
  go_wp2_with fail
  refine (reach_any 1 0 A c l _ (by omega) (by omega) (HL.out.now hb1)).mono ?_
  rintro e w2 ⟨rfl, hb2⟩
  have hB2 := hb1.trans (hb2.mono hb1.size)
  go_wp2_with fail
  refine (reach_any (-1) 0 A c l _ (by omega) (by omega) (HL.out.now hB2)).mono ?_
  rintro e w3 ⟨rfl, hb3⟩
  have hB3 := hB2.trans (hb3.mono hB2.size)
  go_wp2_with fail
  refine (reach_any 0 1 A c l _ (by omega) (by omega) (HL.out.now hB3)).mono ?_
  rintro e w4 ⟨rfl, hb4⟩
  have hB4 := hB3.trans (hb4.mono hB3.size)
  go_wp2_with fail
  refine (reach_any 0 (-1) A c l _ (by omega) (by omega) (HL.out.now hB4)).mono ?_
  rintro e w5 ⟨rfl, hb5⟩
  have hB5 := hB4.trans (hb5.mono hB4.size)
  go_wp2
  go_ret3
  exact Ret.mk (by rw [HS.out]; rfl) hB5
end Go.Proofs.Ytimehkeaeffcaaa

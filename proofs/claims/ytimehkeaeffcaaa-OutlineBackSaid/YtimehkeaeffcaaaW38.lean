/- Twice the area, in the reference: the walk. -/
import Derived.Test.YtimehkeaeffcaaaW6b
import Derived.Test.YtimehkeaeffcaaaW16
import Derived.Test.YtimehkeaeffcaaaW7
import Derived.Test.YtimehkeaeffcaaaRound
namespace Go.Proofs.Ytimehkeaeffcaaa
open Go.RowKit

/-- The fan from the first corner. -/
def fanTo (l : List XY) (k : Nat) : Int := (List.range k).foldl (fun n i => wrap64 (n + cross2W (cy l 0) (cy l (i + 1)) (cy l (i + 2)))) 0
theorem fanTo_succ (l : List XY) (k : Nat) : fanTo l (k + 1) = wrap64 (fanTo l k + cross2W (cy l 0) (cy l (k + 1)) (cy l (k + 2))) := by
  unfold fanTo; rw [List.range_succ, List.foldl_append]; rfl
def twiceW (l : List XY) : Int := fanTo l (l.length - 2)

set_option maxRecDepth 100000 in
set_option maxHeartbeats 1000000 in
theorem Twice_any (A : Option Addr) (c : Nat) (l : List XY) (w : World) (h3 : 3 ≤ l.length) (hm : l.length ≤ 1000000) (hl : Rd w w.heap.size A l) :
    Calls Try.prog 80 #[.slice A l.length c] w (Ret (.int .i64 (twiceW l)) w) := by
  have HL := Lib.hid hl; clear hl
  have hmx : Try.prog.follows .mixedOrders = true := by kernel_rfl
  go_enter Try.func80, Try.ntmps80
  go_wp2
  go_loopw [3, 4] (fun m i wr => ∃ k : Nat, k ≤ l.length - 2 ∧ i = .int .i64 ((k : Int) + 2) ∧ m = .int .i64 (fanTo l k) ∧ Below w.heap.size w wr) (fun _ i _ => l.length - (intOf i).toNat)
  case atStart => exact ⟨0, Nat.zero_le _, rfl, rfl, by (repeat (first | exact Below.refl _ _ | assumption | refine Below.alloc ?_ (by first | exact Nat.le_refl _ | exact Below.size (by assumption) | omega | (simp <;> omega)) _ | refine Below.setCell ?_ (by first | exact Nat.le_refl _ | exact Below.size (by assumption) | omega | (simp <;> omega)) _ | refine below_drewN ?_ _ | refine Below.drew ?_))⟩
  case round =>
    obtain ⟨k, hk, rfl, rfl, hB⟩ := hrel
    by_cases hlt : k + 2 < l.length
    · obtain ⟨p, hp⟩ := getElem?_of_lt (show 0 < l.length by omega)
      obtain ⟨q, hq⟩ := getElem?_of_lt (show k + 1 < l.length by omega)
      obtain ⟨r, hr⟩ := getElem?_of_lt hlt
      obtain ⟨b, off, hA, hb, hpx, hpy⟩ := (HL.out.below hB) _ p hp
      obtain ⟨b1, off1, hA1, hb1, hqx, hqy⟩ := (HL.out.below hB) _ q hq
      obtain ⟨b2, off2, hA2, hb2, hrx, hry⟩ := (HL.out.below hB) _ r hr
      subst hA
      obtain ⟨rfl, rfl⟩ : b = b1 ∧ off = off1 := by simpa using hA1
      obtain ⟨rfl, rfl⟩ : b = b2 ∧ off = off2 := by simpa using hA2
      simp only [Nat.zero_mul, Nat.add_zero] at hpx hpy
      clear hA1 hA2
      have hs := fanTo_succ l k
      rw [cy_lt hp, cy_lt hq, cy_lt hr] at hs
      have HS := Lib.hid hs; clear hs hp hq hr
      have i1 : ((k : Int) + 2 - 1).toNat = k + 1 := by omega
      have i2 : ((k : Int) + 2).toNat = k + 2 := by omega
      have i3 : ((k : Int) + 1).toNat = k + 1 := by omega
      have hli : (k : Int) + 2 < (l.length : Int) := by omega
      have hlj : (k : Int) + 1 < (l.length : Int) := by omega
      have h00 : (0 : Int) < (l.length : Int) := by omega
      have hp1 : (0 : Int) ≤ (k : Int) + 1 := by omega
      have hp2 : (0 : Int) ≤ (k : Int) + 2 := by omega
      have h0n : 0 < l.length := by omega
      have e1 : IntKind.i64.wrap ((k : Int) + 2 - 1) = (k : Int) + 1 := by rw [IntWalk.i64_in _ (by omega)]; omega
      have hne : ¬ l = [] := ne_nil_of_lt hlt
      have hbw : b < wr.heap.size := by have := hB.size; omega
      have HF : Hid (∀ w', Below wr.heap.size wr w' → w'.cell? ⟨b, off, none⟩ = some (.int .i64 p.X) ∧ w'.cell? ⟨b, off + 1, none⟩ = some (.int .i64 p.Y) ∧ w'.cell? ⟨b, off + (k + 1) * 2, none⟩ = some (.int .i64 q.X) ∧ w'.cell? ⟨b, off + (k + 1) * 2 + 1, none⟩ = some (.int .i64 q.Y) ∧ w'.cell? ⟨b, off + (k + 2) * 2, none⟩ = some (.int .i64 r.X) ∧ w'.cell? ⟨b, off + (k + 2) * 2 + 1, none⟩ = some (.int .i64 r.Y)) := by
        intro w' hC
        have hc : ∀ o : Nat, w'.cell? ⟨b, o, none⟩ = wr.cell? ⟨b, o, none⟩ := fun o => hC.cell (p := ⟨b, o, none⟩) hbw
        rw [hc, hc, hc, hc, hc, hc]
        exact ⟨hpx, hpy, hqx, hqy, hrx, hry⟩
      clear hpx hpy hqx hqy hrx hry
      go_wp2
      refine region_class (fun w' => Below wr.heap.size wr w') hmx (by kernel_rfl) (by (repeat (first | exact Below.refl _ _ | assumption | refine Below.alloc ?_ (by first | exact Nat.le_refl _ | exact Below.size (by assumption) | omega | (simp <;> omega)) _ | refine Below.setCell ?_ (by first | exact Nat.le_refl _ | exact Below.size (by assumption) | omega | (simp <;> omega)) _ | refine below_drewN ?_ _ | refine Below.drew ?_))) ?_
      repeat (refine quiet_read rfl (fun w' hC => by obtain ⟨f0, f1, f2, f3, f4, f5⟩ := HF.out w' hC; clear hC; go_simp; rfl) ?_; simp only [Act.put, List.setIfInBounds_toArray, List.set_cons_succ, List.set_cons_zero])
      (refine quiet_call rfl (fun w' hC => by (go_simp; try rfl)) (fun w' hC => (cross2_any p q r w').mono (fun e w2 hr => ⟨hr.1, hC.trans (hr.2.mono hC.size)⟩)) ?_; simp only [Act.put, List.setIfInBounds_toArray, List.set_cons_succ, List.set_cons_zero])
      repeat (refine quiet_read rfl (fun w' hC => by obtain ⟨f0, f1, f2, f3, f4, f5⟩ := HF.out w' hC; clear hC; go_simp; rfl) ?_; simp only [Act.put, List.setIfInBounds_toArray, List.set_cons_succ, List.set_cons_zero])
      refine wpQuiet_nil ?_
      intro w2 hb2
      have hB2 := hB.trans (hb2.mono hB.size)
      go_wp2
      go_roundw
      case rel => exact ⟨k + 1, by omega, by first | go_num | (congr 1; omega), by rw [HS.out, ← w64_eq], hB2⟩
      case measure => simp [intOf]; omega
    · obtain rfl : k = l.length - 2 := by omega
      have hli : ¬ ((l.length - 2 : Nat) : Int) + 2 < (l.length : Int) := by omega
      go_wp2
      go_ret
      exact Ret.mk rfl hB

def area22S (l : List XY) : Int × Int := if validRB l then (twiceW l, 0) else (0, 10)

set_option maxHeartbeats 400000 in
theorem Area22_any (A : Option Addr) (c : Nat) (l : List XY) (w : World) (hl : Rd w w.heap.size A l) :
    Calls Try.prog 43 #[.slice A l.length c] w (Ret (.tuple #[.int .i64 (area22S l).1, .int .i64 (area22S l).2]) w) := by
  have HL := Lib.hid hl; clear hl
  cases hv : validRB l
  · have HS : Hid (area22S l = (0, 10)) := by simp [Hid, area22S, hv]
    have HV := Lib.hid hv; clear hv
    go_enter Try.func43, Try.ntmps43
    go_wp2_with fail
    refine (validR_any A c l _ HL.out).mono ?_
    rintro e w1 ⟨rfl, hb1⟩
    rw [HV.out]
    go_wp2
    go_ret2
    exact Ret.mk (by rw [HS.out]; rfl) hb1
  · have HS : Hid (area22S l = (twiceW l, 0)) := by simp [Hid, area22S, hv]
    have hlen := validRB_len hv
    have HV := Lib.hid hv; clear hv
    go_enter Try.func43, Try.ntmps43
    go_wp2_with fail
    refine (validR_any A c l _ HL.out).mono ?_
    rintro e w1 ⟨rfl, hb1⟩
    rw [HV.out]
    go_wp2_with fail
    refine (Twice_any A c l _ (by omega) (by omega) (HL.out.now hb1)).mono ?_
    rintro e w2 ⟨rfl, hb2⟩
    go_wp2
    go_ret2
    exact Ret.mk (by rw [HS.out]; rfl) (hb1.trans (hb2.mono hb1.size))
end Go.Proofs.Ytimehkeaeffcaaa

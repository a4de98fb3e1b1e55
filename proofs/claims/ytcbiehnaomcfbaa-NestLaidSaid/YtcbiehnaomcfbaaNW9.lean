/- The sanity check of the laws of layouts: two squares in a row. -/
import Derived.Test.YtcbiehnaomcfbaaNW8
namespace Go.Proofs.Ytcbiehnaomcfbaa
open Go.RowKit

/-- '==' at two places. -/
theorem run_eqPL (p q : PL) (w : World) : (binOp .eql 48 (valL p) (valL q)).run Try.prog w = .ok (.bool (decide (p = q))) w := by
  have u3 := Try.underlying3
  have a3 := Try.isAgg3
  have z3 := Try.sizeOf3
  have u4 := Try.underlying4
  have a4 := Try.isAgg4
  have z4 := Try.sizeOf4
  have hS : Try.prog.underlying 48 = some (.struct (Try.prog.fieldsOf 48)) := by kernel_rfl
  have hp : Try.prog.stoodInHeld 48 = false := by kernel_rfl
  obtain ⟨p1, p2, p3, p4⟩ := p
  obtain ⟨q1, q2, q3, q4⟩ := q
  rw [run_eql_struct, show (10000 : Nat) = 9999 + 1 from rfl, run_equalIn_agg w 9999 48 _ _ hS hp]
  simp only [Program.fieldsOf, Try.underlying48]
  go_simp
  by_cases h1 : p1 = q1 <;> by_cases h2 : p2 = q2 <;> by_cases h3 : p3 = q3 <;> by_cases h4 : p4 = q4 <;> simp [h1, h2, h3, h4]
theorem guardPL : Try.prog.eqGuardType Try.prog.depth 48 = false := by kernel_rfl

def sq40 : List XY := [⟨-20, -20⟩, ⟨20, -20⟩, ⟨20, 20⟩, ⟨-20, 20⟩]
def bd100 : BD := ⟨100, 60, 10, []⟩
theorem sq_valid : validB sq40 = true := by decide +kernel
theorem sq_base (A : Option Addr) (c : Nat) (t : Bool) : base0 ⟨A, c, sq40, t⟩ = sq40 := by
  show lyL sq40 0 0 false = sq40
  decide +kernel
theorem sq_rows (A : Option Addr) (c : Nat) (t : Bool) : rowsOf bd100 ⟨A, c, sq40, t⟩ 0 (nearW 1 0 sq40) (farW 1 0 sq40) (nearW 0 1 sq40) (farW 0 1 sq40) = ([⟨0, 20, 20, false⟩, ⟨0, 70, 20, false⟩], 0) := by
  have e1 : nearW 1 0 sq40 = -20 := by decide +kernel
  have e2 : farW 1 0 sq40 = 20 := by decide +kernel
  have e3 : nearW 0 1 sq40 = -20 := by decide +kernel
  have e4 : farW 0 1 sq40 = 20 := by decide +kernel
  rw [e1, e2, e3, e4]
  have n1 : boxN bd100.W (20 - -20) bd100.G = 2 := by decide +kernel
  have n2 : boxN bd100.H (20 - -20) bd100.G = 1 := by decide +kernel
  unfold rowsOf
  simp only [n1, n2]
  rw [if_neg (by omega)]
  simp [rowL, List.range_succ, stand, bd100]
  rfl

theorem rd_sq (w : World) : Rd (w.alloc (.cells #[.int .i64 (-20), .int .i64 (-20), .int .i64 20, .int .i64 (-20), .int .i64 20, .int .i64 20, .int .i64 (-20), .int .i64 20] 76)) (w.heap.size + 1) (some ⟨w.heap.size, 0, none⟩) sq40 := by
  intro i p hp
  match i, hp with
  | 0, hp => obtain rfl : ⟨-20, -20⟩ = p := by simpa [sq40] using hp
             exact ⟨_, _, rfl, by omega, by simp, by simp⟩
  | 1, hp => obtain rfl : ⟨20, -20⟩ = p := by simpa [sq40] using hp
             exact ⟨_, _, rfl, by omega, by simp, by simp⟩
  | 2, hp => obtain rfl : ⟨20, 20⟩ = p := by simpa [sq40] using hp
             exact ⟨_, _, rfl, by omega, by simp, by simp⟩
  | 3, hp => obtain rfl : ⟨-20, 20⟩ = p := by simpa [sq40] using hp
             exact ⟨_, _, rfl, by omega, by simp, by simp⟩
  | i + 4, hp => simp [sq40] at hp

set_option maxRecDepth 100000 in
set_option maxHeartbeats 1000000 in
theorem nawake_any (w : World) : Calls Try.prog 15 #[] w (Ret (.bool true) w) := by
  obtain ⟨wa, hwa⟩ : ∃ wa, w.alloc (.cells #[.int .i64 (-20), .int .i64 (-20), .int .i64 20, .int .i64 (-20), .int .i64 20, .int .i64 20, .int .i64 (-20), .int .i64 20] 76) = wa := ⟨_, rfl⟩
  have hra : Rd wa (w.heap.size + 1) (some ⟨w.heap.size, 0, none⟩) sq40 := by rw [← hwa]; exact rd_sq w
  have hBa : Below w.heap.size w wa := by rw [← hwa]; (repeat (first | exact Below.refl _ _ | assumption | refine Below.alloc ?_ (by first | exact Nat.le_refl _ | exact Below.size (by assumption) | omega | (simp <;> omega)) _ | refine Below.setCell ?_ (by first | exact Nat.le_refl _ | exact Below.size (by assumption) | omega | (simp <;> omega)) _ | refine below_drewN ?_ _ | refine Below.drew ?_))
  have hza : wa.heap.size = w.heap.size + 1 := by rw [← hwa]; simp
  obtain ⟨wb, hwb⟩ : ∃ wb, wa.alloc (.cells #[.slice (some ⟨w.heap.size, 0, none⟩) 4 4, .bool false] 70) = wb := ⟨_, rfl⟩
  have hBb : Below wa.heap.size wa wb := by rw [← hwb]; (repeat (first | exact Below.refl _ _ | assumption | refine Below.alloc ?_ (by first | exact Nat.le_refl _ | exact Below.size (by assumption) | omega | (simp <;> omega)) _ | refine Below.setCell ?_ (by first | exact Nat.le_refl _ | exact Below.size (by assumption) | omega | (simp <;> omega)) _ | refine below_drewN ?_ _ | refine Below.drew ?_))
  have hzb : wb.heap.size = w.heap.size + 2 := by rw [← hwb]; simp; omega
  have hRP : RdPP wb wb.heap.size (some ⟨w.heap.size + 1, 0, none⟩) [⟨some ⟨w.heap.size, 0, none⟩, 4, sq40, false⟩] := by
    refine ⟨fun i p hp => ?_, fun p hp => ?_⟩
    · match i, hp with
      | 0, hp =>
        obtain rfl : _ = p := by simpa using hp
        refine ⟨_, _, rfl, by omega, ?_, ?_⟩
        · rw [← hwb, ← hza]; simp; rfl
        · rw [← hwb, ← hza]; simp
      | i + 1, hp => simp at hp
    · obtain rfl : p = _ := by simpa using hp
      exact ⟨(hra.below (hBb.mono (by omega))).more (by omega), by simp [sq40]⟩
  have hrows := sq_rows (some ⟨w.heap.size, 0, none⟩) 4 false
  have hbase := sq_base (some ⟨w.heap.size, 0, none⟩) 4 false
  have hc := Rows_yes bd100 none (some ⟨w.heap.size + 1, 0, none⟩) 0 1 [⟨some ⟨w.heap.size, 0, none⟩, 4, sq40, false⟩] 0 ⟨some ⟨w.heap.size, 0, none⟩, 4, sq40, false⟩ wb (fun i p hp => by simp [bd100] at hp) hRP (by decide +kernel) (by simp [partsB, sq_valid]) rfl sq_valid
  rw [hbase, hrows] at hc
  have HC := Lib.hid hc; clear hc hrows hbase hRP hra
  have heq := run_eqPL ⟨0, 70, 20, false⟩ ⟨0, 70, 20, false⟩
  have hgd := guardPL
  have hBw := hBa.trans (hBb.mono hBa.size)
  go_enter Try.func15, Try.ntmps15
  go_wp2_with fail
  clear hwa hwb
  refine HC.out.mono ?_
  rintro e w1 ⟨v1, rfl, hown1, hb1⟩
  obtain ⟨A1, c1, rfl, hr1⟩ := own_rdP hown1
  obtain ⟨b1, off1, hA1, hbb, c0, c1', c2, c3⟩ := hr1 1 ⟨0, 70, 20, false⟩ rfl
  subst hA1
  clear hown1 hr1
  go_wp2
  go_ret
  exact Ret.mk rfl (hBw.trans (hb1.mono hBw.size))
end Go.Proofs.Ytcbiehnaomcfbaa

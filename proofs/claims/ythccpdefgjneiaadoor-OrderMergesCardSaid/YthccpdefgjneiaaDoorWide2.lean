/- The law's measure of size, with what it says of the lengths: the walk. -/
import Derived.Test.YthccpdefgjneiaaDoorOM9
namespace Go.Proofs.YthccpdefgjneiaaDoor
open Go.RowKit Go.Shelf Go.Maps

/-- The call returns some bool; if it is false, p. -/
def RetBd (p : Prop) (w : World) (e : Ending) (w' : World) : Prop := ∃ b, e = .returned (.bool b) ∧ (b = false → p) ∧ Below w.heap.size w w'
set_option maxRecDepth 100000 in
set_option maxHeartbeats 2000000 in
theorem Wide2_any (Ap Ar : Option Addr) (cp cr : Nat) (lp : List QT) (lr : List RT) (f : FT) (w : World) (hp : RdQ w w.heap.size Ap lp) (hr : RdT w w.heap.size Ar lr) (hf : RdG w w.heap.size f.A f.ls) :
    Calls Tryd.prog 13 #[.agg #[.slice Ap lp.length cp, .slice Ar lr.length cr], valF f] w (RetBd (lp.length ≤ 70 ∧ lr.length ≤ 70 ∧ f.ls.length ≤ 70) w) := by
  have HP := Lib.hid hp; clear hp
  have HR := Lib.hid hr; clear hr
  have HF := Lib.hid hf; clear hf
  obtain ⟨w0, hw0⟩ : ∃ w0, (w.alloc (.cells #[.slice Ap lp.length cp, .slice Ar lr.length cr] 25)).alloc (.cells #[.string f.cu, .int .i64 f.d, .string f.cr, .slice f.A f.ls.length f.cp] 30) = w0 := ⟨_, rfl⟩
  have hB0 : Below w.heap.size w w0 := by rw [← hw0]; (repeat (first | exact Below.refl _ _ | assumption | refine Below.alloc ?_ (by first | exact Nat.le_refl _ | exact Below.size (by assumption) | omega | (simp <;> omega)) _ | refine Below.setCell ?_ (by first | exact Nat.le_refl _ | exact Below.size (by assumption) | omega | (simp <;> omega)) _ | refine below_drewN ?_ _ | refine Below.drew ?_))
  have hz0 : w0.heap.size = w.heap.size + 2 := by rw [← hw0]; simp
  have m0 : w0.cell? ⟨w.heap.size, 0, none⟩ = some (.slice Ap lp.length cp) := by rw [← hw0]; simp
  have m1 : w0.cell? ⟨w.heap.size, 1, none⟩ = some (.slice Ar lr.length cr) := by rw [← hw0]; simp
  have f0 : w0.cell? ⟨w.heap.size + 1, 0, none⟩ = some (.string f.cu) := by rw [← hw0]; simp
  have f2 : w0.cell? ⟨w.heap.size + 1, 2, none⟩ = some (.string f.cr) := by rw [← hw0]; simp
  have f3 : w0.cell? ⟨w.heap.size + 1, 3, none⟩ = some (.slice f.A f.ls.length f.cp) := by rw [← hw0]; simp
  go_enter Tryd.func13, Tryd.ntmps13
  go_wp2
  all_goals first | (go_ret; exact ⟨_, rfl, (fun h => by first | exact absurd h (by decide) | omega), hB0⟩) | skip
  clear hw0
  go_loopw [5] (fun i wr => ∃ k : Nat, k ≤ lp.length ∧ i = .int .i64 k ∧ wr = w0) (fun i _ => lp.length - (intOf i).toNat)
  case atStart => exact ⟨0, Nat.zero_le _, rfl, rfl⟩
  case round =>
    obtain ⟨k, hk, rfl, rfl⟩ := hrel
    by_cases hlt : k < lp.length
    · obtain ⟨p, hp⟩ := getElem?_of_lt hlt
      obtain ⟨b, off, hA, hb, d0, d1, d2⟩ := (HP.out.now hB0) k p hp
      subst hA
      clear hp
      go_wp2
      all_goals first | (go_ret; exact ⟨_, rfl, (fun h => by first | exact absurd h (by decide) | omega), hB0⟩) | skip
      go_roundw
      case rel => exact ⟨k + 1, by omega, by go_num, trivial⟩
      case measure => simp [intOf]; omega
    · obtain rfl : k = lp.length := by omega
      go_wp2
      clear hk hlt
      obtain ⟨wo, rfl⟩ : ∃ wo : World, wo = wr := ⟨_, rfl⟩
      go_loopw [6] (fun i wr => ∃ k : Nat, k ≤ lr.length ∧ i = .int .i64 k ∧ wr = wo) (fun i _ => lr.length - (intOf i).toNat)
      case atStart => exact ⟨0, Nat.zero_le _, rfl, rfl⟩
      case round =>
        obtain ⟨k, hk, rfl, rfl⟩ := hrel
        by_cases hlt : k < lr.length
        · obtain ⟨p, hp⟩ := getElem?_of_lt hlt
          obtain ⟨b, off, hA, hb, d0, d1, d2, d3⟩ := (HR.out.now hB0) k p hp
          subst hA
          clear hp
          go_wp2
          all_goals first | (go_ret; exact ⟨_, rfl, (fun h => by first | exact absurd h (by decide) | omega), hB0⟩) | skip
          go_roundw
          case rel => exact ⟨k + 1, by omega, by go_num, trivial⟩
          case measure => simp [intOf]; omega
        · obtain rfl : k = lr.length := by omega
          go_wp2
          clear hk hlt
          obtain ⟨wq, rfl⟩ : ∃ wq : World, wq = wr := ⟨_, rfl⟩
          go_loopw [7] (fun i wr => ∃ k : Nat, k ≤ f.ls.length ∧ i = .int .i64 k ∧ wr = wq) (fun i _ => f.ls.length - (intOf i).toNat)
          case atStart => exact ⟨0, Nat.zero_le _, rfl, rfl⟩
          case round =>
            obtain ⟨k, hk, rfl, rfl⟩ := hrel
            by_cases hlt : k < f.ls.length
            · obtain ⟨p, hp⟩ := getElem?_of_lt hlt
              obtain ⟨b, off, hA, hb, d0, d1, d2, d3⟩ := (HF.out.now hB0) k p hp
              clear hp
              rw [hA] at f3
              go_wp2
              all_goals first | (go_ret; exact ⟨_, rfl, (fun h => by first | exact absurd h (by decide) | omega), hB0⟩) | skip
              go_roundw
              case rel => exact ⟨k + 1, by omega, by go_num, trivial⟩
              case measure => simp [intOf]; omega
            · obtain rfl : k = f.ls.length := by omega
              go_wp2
              go_ret
              exact ⟨_, rfl, (fun h => by first | exact absurd h (by decide) | omega), hB0⟩

end Go.Proofs.YthccpdefgjneiaaDoor

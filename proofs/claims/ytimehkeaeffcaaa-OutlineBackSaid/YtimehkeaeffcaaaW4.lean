/- slices.MinFunc at the canonical order. -/
import Derived.Test.YtimehkeaeffcaaaW3
import Derived.Deep.RegionWith
namespace Go.Proofs.Ytimehkeaeffcaaa
open Go.RowKit

set_option maxHeartbeats 400000 in
theorem minFunc_any (A : Option Addr) (c : Nat) (l : List XY) (w : World) (h0 : 0 < l.length) (hm : l.length ≤ 1000000) (hl : Rd w w.heap.size A l) :
    Calls Try.prog 87 #[.slice A l.length c, .func (.func 88) #[] #[]] w (Ret (xyv (minW l)) w) := by
  obtain ⟨p, hp⟩ := getElem?_of_lt h0
  obtain ⟨b, off, hA, hb, hx, hy⟩ := hl 0 p hp
  simp only [Nat.zero_mul, Nat.add_zero] at hx hy
  subst hA
  have HP := Lib.hid (minTo_one hp); clear hp
  have HL := Lib.hid hl; clear hl
  go_enter Try.func87, Try.ntmps87
  go_wp2
  go_loopw [6] (fun i wr => ∃ k : Nat, 1 ≤ k ∧ k ≤ l.length ∧ i = .int .i64 k ∧ Below w.heap.size w wr ∧ w.heap.size + 1 < wr.heap.size ∧ (∃ zx zy, wr.cell? ⟨w.heap.size, 0, none⟩ = some (.int .i64 zx) ∧ wr.cell? ⟨w.heap.size, 1, none⟩ = some (.int .i64 zy)) ∧ wr.frozen? ⟨w.heap.size, 0, none⟩ = false ∧ wr.frozen? ⟨w.heap.size, 1, none⟩ = false ∧
     wr.cell? ⟨w.heap.size + 1, 0, none⟩ = some (.int .i64 (minTo l k).X) ∧ wr.cell? ⟨w.heap.size + 1, 1, none⟩ = some (.int .i64 (minTo l k).Y) ∧ wr.frozen? ⟨w.heap.size + 1, 0, none⟩ = false ∧ wr.frozen? ⟨w.heap.size + 1, 1, none⟩ = false) (fun i _ => l.length - (intOf i).toNat)
  case atStart => exact ⟨1, by omega, by omega, rfl, by (repeat (first | exact Below.refl _ _ | assumption | refine Below.alloc ?_ (by first | exact Nat.le_refl _ | exact Below.size (by assumption) | omega | (simp <;> omega)) _ | refine Below.setCell ?_ (by first | exact Nat.le_refl _ | exact Below.size (by assumption) | omega | (simp <;> omega)) _ | refine below_drewN ?_ _ | refine Below.drew ?_)), by simp, ⟨0, 0, by simp, by simp⟩, by simp, by simp, by rw [HP.out]; simp, by rw [HP.out]; simp, by simp, by simp⟩
  case round =>
    obtain ⟨k, hk1, hk, rfl, hB, hsz, ⟨zx, zy, hzx, hzy⟩, hf0, hf1, hmx, hmy, hg0, hg1⟩ := hrel
    by_cases hlt : k < l.length
    · obtain ⟨q, hq⟩ := getElem?_of_lt hlt
      obtain ⟨b1, off1, hA, hb1, hcx, hcy⟩ := (HL.out.below hB) k q hq
      obtain ⟨rfl, rfl⟩ : b = b1 ∧ off = off1 := by simpa using hA
      clear hA
      have HQ := Lib.hid (minTo_succ hq); clear hq
      have hbW : b < wr.heap.size := by have := hB.size; omega
      have hwW : w.heap.size < wr.heap.size := by omega
      go_wp2
      go_region_with (go_at_call 88; refine (lower_any q (minTo l k) _).mono ?_; rintro e w2 ⟨rfl, hb2⟩; have hcx2 := (hb2.cell (p := ⟨b, off + k * 2, none⟩) hbW).trans hcx; have hcy2 := (hb2.cell (p := ⟨b, off + k * 2 + 1, none⟩) hbW).trans hcy; have hm2 := (hb2.cell (p := ⟨w.heap.size + 1, 0, none⟩) hsz).trans hmx; have hn2 := (hb2.cell (p := ⟨w.heap.size + 1, 1, none⟩) hsz).trans hmy; have hg2 := (hb2.frozen (p := ⟨w.heap.size + 1, 0, none⟩) hsz).trans hg0; have hh2 := (hb2.frozen (p := ⟨w.heap.size + 1, 1, none⟩) hsz).trans hg1)
      all_goals go_wp2
      all_goals
        have hb3 : Below wr.heap.size wr w2 := below_of_drew hb2
        have hB2 : Below w.heap.size w w2 := hB.trans (hb3.mono (by omega))
        have hs2 : w.heap.size + 1 < w2.heap.size := by have := hb3.size; omega
        have hzx2 := (hb3.cell (p := ⟨w.heap.size, 0, none⟩) hwW).trans hzx
        have hzy2 := (hb3.cell (p := ⟨w.heap.size, 1, none⟩) hwW).trans hzy
        have hf02 := (hb3.frozen (p := ⟨w.heap.size, 0, none⟩) hwW).trans hf0
        have hf12 := (hb3.frozen (p := ⟨w.heap.size, 1, none⟩) hwW).trans hf1
        go_roundw
        case rel =>
          refine ⟨k + 1, by omega, by omega, by go_num, by (repeat (first | exact Below.refl _ _ | assumption | refine Below.alloc ?_ (by first | exact Nat.le_refl _ | exact Below.size (by assumption) | omega | (simp <;> omega)) _ | refine Below.setCell ?_ (by first | exact Nat.le_refl _ | exact Below.size (by assumption) | omega | (simp <;> omega)) _ | refine below_drewN ?_ _ | refine Below.drew ?_)), by simpa using hs2, ⟨zx, zy, ?_, ?_⟩, ?_, ?_, ?_, ?_, ?_, ?_⟩
          all_goals (try rw [HQ.out])
          all_goals (first | rw [if_pos (by assumption)] | rw [if_neg (by omega)] | skip)
          all_goals (first | assumption | (go_simp; done) | simp [*])
        case measure => simp [intOf]; omega
    · obtain rfl : k = l.length := by omega
      go_wp2
      refine bodyPost_ret (v := xyv (minW l)) (by simp [results, Try.results87, go_sem, *]; exact ⟨rfl, rfl⟩) rfl ⟨rfl, by (repeat (first | exact Below.refl _ _ | assumption | refine Below.alloc ?_ (by first | exact Nat.le_refl _ | exact Below.size (by assumption) | omega | (simp <;> omega)) _ | refine Below.setCell ?_ (by first | exact Nat.le_refl _ | exact Below.size (by assumption) | omega | (simp <;> omega)) _ | refine below_drewN ?_ _ | refine Below.drew ?_))⟩
end Go.Proofs.Ytimehkeaeffcaaa

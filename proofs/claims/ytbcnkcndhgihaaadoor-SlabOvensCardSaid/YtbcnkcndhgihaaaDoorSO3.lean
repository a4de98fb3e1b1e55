/- Ovens: the reference's Season, Allowance, Ready: the walks. -/
import Derived.Test.YtbcnkcndhgihaaaDoorSO1
namespace Go.Proofs.YtbcnkcndhgihaaaDoor
open Go.RowKit Go.Shelf
set_option linter.unusedSimpArgs false

def tableE (l : List Int) : Int := if 60 < l.length then 4 else if tabB l = false then 2 else 0
theorem oven_of (s : Int) (l : List Int) (d r : Int) : ovenE s l d r = if tableE l = 0 then (if btw 1 s 100000 && btw 0 d 1000 && decide (0 ≤ r) then 0 else 2) else tableE l := by
  unfold ovenE tableE
  by_cases h1 : 60 < l.length
  · rw [if_pos h1, if_pos h1]; rfl
  · rw [if_neg h1, if_neg h1]
    by_cases h2 : tabB l = false
    · rw [if_pos h2, if_pos h2]; rfl
    · rw [if_neg h2, if_neg h2]; rfl
theorem table_or (l : List Int) : tableE l = 0 ∨ tableE l = 2 ∨ tableE l = 4 := by
  unfold tableE
  split
  · omega
  · split <;> omega
theorem table_ok {l : List Int} (h : tableE l = 0) : l.length ≤ 60 ∧ TabOk l := by
  unfold tableE at h
  split at h
  · omega
  · split at h
    · omega
    · rename_i h1 h2
      exact ⟨by omega, tab_ok (by simpa using h2)⟩
set_option maxRecDepth 100000 in
set_option maxHeartbeats 1000000 in
theorem table_any (A : Option Addr) (c : Nat) (l : List Int) (w : World) (hl : RdI w w.heap.size A l) (hm : l.length ≤ maxLen) : Calls Tryd.prog 74 #[.slice A l.length c] w fun e w' => e = .returned (.int .i64 (tableE l)) ∧ w' = w := by
  have hlm : l.length ≤ 9223372036854775807 := by unfold maxLen at hm; omega
  have HL := Lib.hid hl; clear hl hm
  by_cases h60 : 60 < l.length
  · have HS : Hid (tableE l = 4) := by show _ = _; unfold tableE; rw [if_pos h60]
    have hI : (60 : Int) < (l.length : Int) := by omega
    clear h60
    go_enter Tryd.func74, Tryd.ntmps74
    go_wp2
    go_ret
    exact ⟨by rw [HS.out]; rfl, rfl⟩
  · have HS : Hid (tableE l = if tabB l = false then 2 else 0) := by show _ = _; unfold tableE; rw [if_neg h60]
    have hI : ¬ (60 : Int) < (l.length : Int) := by omega
    clear h60
    go_enter Tryd.func74, Tryd.ntmps74
    go_wp2
    go_loopw [3] (fun i wr => ∃ k : Nat, k ≤ l.length ∧ i = .int .i64 k ∧ (∀ x ∈ l.take k, (!btw 0 x 50000) = false) ∧ wr = w) (fun i _ => l.length - (intOf i).toNat)
    case atStart => exact ⟨0, Nat.zero_le _, rfl, by simp, rfl⟩
    case round =>
      obtain ⟨k, hk, rfl, hno, rfl⟩ := hrel
      have HN := Lib.hid hno; clear hno
      by_cases hlt : k < l.length
      · obtain ⟨q, hq⟩ := getElem?_of_lt hlt
        obtain ⟨b, off, hA, hb, hcell⟩ := HL.out k q hq
        have HQ := Lib.hid hq
        clear hq
        subst hA
        by_cases hq2 : 0 ≤ q ∧ q ≤ 50000
        · have hb2 : (!btw 0 q 50000) = false := by unfold btw; simp; omega
          go_wp2
          go_roundw
          case rel => exact ⟨k + 1, by omega, by go_num, noG_take_succ (f := fun n => !btw 0 n 50000) HN.out HQ.out hb2, trivial⟩
          case measure => simp [intOf]; omega
        · have hb2 : tabB l = false := by
            unfold tabB
            rw [List.any_eq_true.2 ⟨q, List.mem_of_getElem? HQ.out, by unfold btw; simp; omega⟩]
            rfl
          have HS2 : Hid (tableE l = 2) := by show _ = _; rw [HS.out, if_pos hb2]
          clear hb2
          by_cases hq0 : q < 0
          · go_wp2
            go_ret
            exact ⟨by rw [HS2.out]; rfl, rfl⟩
          · go_wp2
            go_ret
            exact ⟨by rw [HS2.out]; rfl, rfl⟩
      · obtain rfl : k = l.length := by omega
        have HS2 : Hid (tableE l = 0) := by
          show _ = _
          rw [HS.out]
          unfold tabB
          rw [List.any_eq_false.2 (fun x hx => by rw [HN.out x (by rw [List.take_length]; exact hx)]; simp)]
          rfl
        go_wp2
        go_ret
        exact ⟨by rw [HS2.out]; rfl, rfl⟩
theorem raw_any (n : Int) (w : World) : Calls Tryd.prog 75 #[.int .i64 n] w fun e w' => e = .returned (.bool (btw 1 n 100000)) ∧ w' = w := by
  by_cases h1 : 1 ≤ n
  · go_enter Tryd.func75, Tryd.ntmps75
    go_wp2
    go_ret
    exact ⟨by simp [btw]; omega, rfl⟩
  · go_enter Tryd.func75, Tryd.ntmps75
    go_wp2
    go_ret
    exact ⟨by simp [btw]; omega, rfl⟩
set_option maxRecDepth 100000 in
set_option maxHeartbeats 1000000 in
theorem seasoned_any (A : Option Addr) (c : Nat) (s : Int) (l : List Int) (d : Int) (w : World) (hs : 0 ≤ s ∧ s ≤ 100000) (ht : TabOk l) (hd : 0 ≤ d ∧ d ≤ 1000000) (hl : RdI w w.heap.size A l) (hm : l.length ≤ 60) : Calls Tryd.prog 76 #[.int .i64 s, .slice A l.length c, .int .i64 d] w fun e w' => e = .returned (.int .i64 (shrD s l d)) ∧ w' = w := by
  have HL := Lib.hid hl; clear hl
  have HT := Lib.hid ht; clear ht
  have HS := Lib.hid hs; clear hs
  obtain ⟨D, rfl⟩ := Int.eq_ofNat_of_zero_le hd.1
  have hd2 := hd.2
  clear hd
  obtain ⟨N, hN⟩ : ∃ N, cutN l D = N := ⟨_, rfl⟩
  have hNl : N ≤ l.length ∧ N ≤ D ∧ (N = l.length ∨ N = D) := by rw [← hN]; unfold cutN; omega
  have HN : Hid (shrD s l D = shrS s (l.take N)) := by show _ = _; unfold shrD; rw [hN]
  rw [HN.out]
  clear hN
  go_enter Tryd.func76, Tryd.ntmps76
  go_wp2
  go_loopw [0, 7] (fun x i wr => ∃ k : Nat, k ≤ N ∧ i = .int .i64 k ∧ x = .int .i64 (shrS s (l.take k)) ∧ wr = w) (fun _ i _ => N - (intOf i).toNat)
  case atStart => exact ⟨0, Nat.zero_le _, rfl, rfl, rfl⟩
  case round =>
    obtain ⟨k, hk, rfl, rfl, rfl⟩ := hrel
    by_cases hlt : k < N
    · obtain ⟨q, hq⟩ := getElem?_of_lt (show k < l.length by omega)
      obtain ⟨b, off, hA, hb, hcell⟩ := HL.out k q hq
      have HQ := Lib.hid (shr_succ s l k q hq)
      have hqb := HT.out q (List.mem_of_getElem? hq)
      have hxb := shr_bd (l.take k) s (HT.out.take k) HS.out.1
      have hsb := HS.out
      have hkD : (k : Int) < (D : Int) := by omega
      have hkl : (k : Int) < (l.length : Int) := by omega
      clear hq
      subst hA
      obtain ⟨x, hx⟩ : ∃ x, shrS s (l.take k) = x := ⟨_, rfl⟩
      rw [hx] at HQ hxb ⊢
      have hp := w64o (x := x) (n := q) (by omega) (by omega)
      have htd : Int.tdiv (x * (100000 - q)) 100000 = oneO x q := by rw [Int.tdiv_eq_ediv_of_nonneg hp.1]; rfl
      have ho := oneO_bd (s := x) (n := q) (by omega) (by omega) (by omega)
      clear hx
      go_wp2
      go_roundw
      case rel => exact ⟨k + 1, by omega, by go_num, by rw [HQ.out], trivial⟩
      case measure => simp [intOf]; omega
    · obtain rfl : k = N := by omega
      rcases hNl.2.2 with h | h
      · by_cases h2 : (k : Int) < (D : Int)
        · have hkl : ¬ (k : Int) < (l.length : Int) := by omega
          go_wp2
          go_ret
          exact ⟨rfl, rfl⟩
        · go_wp2
          go_ret
          exact ⟨rfl, rfl⟩
      · have h2 : ¬ (k : Int) < (D : Int) := by omega
        go_wp2
        go_ret
        exact ⟨rfl, rfl⟩
end Go.Proofs.YtbcnkcndhgihaaaDoor

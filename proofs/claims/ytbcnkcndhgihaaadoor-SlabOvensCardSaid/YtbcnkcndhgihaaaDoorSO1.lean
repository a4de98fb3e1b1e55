/- Ovens: the program's oven, shrunk, Season: the walks. -/
import Derived.Test.YtbcnkcndhgihaaaDoorSO0
import Derived.Test.YtbcnkcndhgihaaaDoorMathO2
import Derived.Test.YtbcnkcndhgihaaaDoorSW1
namespace Go.Proofs.YtbcnkcndhgihaaaDoor
open Go.RowKit Go.Shelf
set_option linter.unusedSimpArgs false

theorem oven1_any (n : Int) (w : World) : Calls Tryd.prog 89 #[.int .i64 n] w (Ret (.bool (!btw 0 n 50000)) w) := by
  go_enter Tryd.func89, Tryd.ntmps89
  go_wp2_with fail
  refine (between_any _ _ _ _).mono ?_
  rintro e w2 ⟨rfl, rfl⟩
  go_wp2
  go_ret
  exact Ret.mk rfl (by (repeat (first | exact Below.refl _ _ | assumption | refine Below.alloc ?_ (by first | exact Nat.le_refl _ | exact Below.size (by assumption) | omega | (simp <;> omega)) _ | refine Below.setCell ?_ (by first | exact Nat.le_refl _ | exact Below.size (by assumption) | omega | (simp <;> omega)) _ | refine below_drewN ?_ _ | refine Below.drew ?_)))
theorem tells_oven (l : List Int) (w : World) : TellsI 89 #[] (fun n => !btw 0 n 50000) l w :=
  ⟨enters_of Tryd.func89 (by kernel_rfl) rfl, fun W p _ _ => oven1_any p W⟩
set_option maxRecDepth 100000 in
set_option maxHeartbeats 1000000 in
theorem oven_any (A : Option Addr) (c : Nat) (s : Int) (l : List Int) (d r : Int) (w : World) (hl : RdI w w.heap.size A l) (hm : l.length ≤ maxLen) : Calls Tryd.prog 72 #[.int .i64 s, .slice A l.length c, .int .i64 d, .int .i64 r] w (Ret (.int .i64 (ovenE s l d r)) w) := by
  have hlm : l.length ≤ 9223372036854775807 := by unfold maxLen at hm; omega
  by_cases h60 : 60 < l.length
  · have HS : Hid (ovenE s l d r = 4) := by show _ = _; unfold ovenE; rw [if_pos h60]
    have hI : (60 : Int) < (l.length : Int) := by omega
    clear hl hm
    go_enter Tryd.func72, Tryd.ntmps72
    go_wp2
    go_ret
    exact Ret.mk (by rw [HS.out]; rfl) (by (repeat (first | exact Below.refl _ _ | assumption | refine Below.alloc ?_ (by first | exact Nat.le_refl _ | exact Below.size (by assumption) | omega | (simp <;> omega)) _ | refine Below.setCell ?_ (by first | exact Nat.le_refl _ | exact Below.size (by assumption) | omega | (simp <;> omega)) _ | refine below_drewN ?_ _ | refine Below.drew ?_)))
  · have HC := Lib.hid (containsFuncI_any 89 #[] (fun n => !btw 0 n 50000) A c l w (tells_oven l w) (by omega) hl)
    have hI : ¬ (60 : Int) < (l.length : Int) := by omega
    clear hl hm
    cases ha : l.any (fun n => !btw 0 n 50000)
    · rw [ha] at HC
      have HT : Hid (tabB l = true) := by show _ = _; unfold tabB; rw [ha]; rfl
      clear ha
      cases h1 : btw 1 s 100000
      · have HS : Hid (ovenE s l d r = 2) := by show _ = _; unfold ovenE; rw [if_neg h60, if_neg (by rw [HT.out]; simp), h1]; rfl
        clear h60
        go_enter Tryd.func72, Tryd.ntmps72
        go_wp2_with fail
        refine HC.out.mono ?_
        rintro e w2 ⟨rfl, hb2⟩
        go_wp2_with fail
        refine (between_any _ _ _ _).mono ?_
        rintro e w3 ⟨rfl, rfl⟩
        rw [h1]
        go_wp2
        go_ret
        exact Ret.mk (by rw [HS.out]; rfl) hb2
      · cases h2 : btw 0 d 1000
        · have HS : Hid (ovenE s l d r = 2) := by show _ = _; unfold ovenE; rw [if_neg h60, if_neg (by rw [HT.out]; simp), h1, h2]; rfl
          clear h60
          go_enter Tryd.func72, Tryd.ntmps72
          go_wp2_with fail
          refine HC.out.mono ?_
          rintro e w2 ⟨rfl, hb2⟩
          go_wp2_with fail
          refine (between_any _ _ _ _).mono ?_
          rintro e w3 ⟨rfl, rfl⟩
          rw [h1]
          go_wp2_with fail
          refine (between_any _ _ _ _).mono ?_
          rintro e w3 ⟨rfl, rfl⟩
          rw [h2]
          go_wp2
          go_ret
          exact Ret.mk (by rw [HS.out]; rfl) hb2
        · have HS : Hid (ovenE s l d r = if r < 0 then 2 else 0) := by
            show _ = _
            unfold ovenE
            rw [if_neg h60, if_neg (by rw [HT.out]; simp), h1, h2]
            by_cases hr : r < 0
            · rw [if_pos hr, decide_eq_false (by omega)]; rfl
            · rw [if_neg hr, decide_eq_true (by omega)]; rfl
          clear h60
          go_enter Tryd.func72, Tryd.ntmps72
          go_wp2_with fail
          refine HC.out.mono ?_
          rintro e w2 ⟨rfl, hb2⟩
          go_wp2_with fail
          refine (between_any _ _ _ _).mono ?_
          rintro e w3 ⟨rfl, rfl⟩
          rw [h1]
          go_wp2_with fail
          refine (between_any _ _ _ _).mono ?_
          rintro e w3 ⟨rfl, rfl⟩
          rw [h2]
          go_wp2
          all_goals
            go_ret
            exact Ret.mk (by rw [HS.out]; first | (rw [if_pos (by omega)]; rfl) | (rw [if_neg (by omega)]; rfl)) hb2
    · rw [ha] at HC
      have HS : Hid (ovenE s l d r = 2) := by show _ = _; unfold ovenE tabB; rw [if_neg h60, ha]; rfl
      clear ha h60
      go_enter Tryd.func72, Tryd.ntmps72
      go_wp2_with fail
      refine HC.out.mono ?_
      rintro e w2 ⟨rfl, hb2⟩
      go_wp2
      go_ret
      exact Ret.mk (by rw [HS.out]; rfl) hb2
theorem w64o {x n : Int} (hx : 0 ≤ x ∧ x ≤ 100000) (hn : 0 ≤ n ∧ n ≤ 50000) : 0 ≤ x * (100000 - n) ∧ x * (100000 - n) ≤ 10000000000 := by
  have h1 : 0 ≤ x * (100000 - n) := Int.mul_nonneg hx.1 (by omega)
  have h2 : x * (100000 - n) ≤ 100000 * (100000 - n) := Int.mul_le_mul_of_nonneg_right hx.2 (by omega)
  omega
theorem shr_succ (s : Int) (l : List Int) (k : Nat) (n : Int) (h : l[k]? = some n) : shrS s (l.take (k + 1)) = oneO (shrS s (l.take k)) n := by
  unfold shrS
  rw [List.take_add_one, h, List.foldl_append]
  rfl
set_option maxRecDepth 100000 in
set_option maxHeartbeats 1000000 in
theorem shrunk_any (A : Option Addr) (c : Nat) (s : Int) (l : List Int) (d : Int) (w : World) (hs : 0 ≤ s ∧ s ≤ 100000) (ht : TabOk l) (hd : 0 ≤ d) (hl : RdI w w.heap.size A l) (hm : l.length ≤ maxLen) (hc : l.length ≤ c) : Calls Tryd.prog 73 #[.int .i64 s, .slice A l.length c, .int .i64 d] w fun e w' => e = .returned (.int .i64 (shrD s l d)) ∧ w' = w := by
  have hlm : l.length ≤ 9223372036854775807 := by unfold maxLen at hm; omega
  have HL := Lib.hid hl; clear hl
  have HT := Lib.hid ht; clear ht
  have HS := Lib.hid hs; clear hs
  obtain ⟨D, rfl⟩ := Int.eq_ofNat_of_zero_le hd
  clear hd hm
  by_cases hdl : (D : Int) ≤ (l.length : Int)
  · have HN : Hid (shrD s l D = shrS s (l.take D)) := by show _ = _; unfold shrD cutN; rw [show min (D : Int).toNat l.length = D by omega]
    rw [HN.out]
    have hDl : D ≤ l.length := by omega
    have hDc : D ≤ c := by omega
    have htn : (D : Int).toNat = D := by omega
    go_enter Tryd.func73, Tryd.ntmps73
    go_wp2
    go_loopw [0, 8, 16] (fun x _ i wr => ∃ k : Nat, k ≤ D ∧ i = .int .i64 k ∧ x = .int .i64 (shrS s (l.take k)) ∧ wr = w) (fun _ _ i _ => D - (intOf i).toNat)
    case atStart => exact ⟨0, Nat.zero_le _, rfl, rfl, rfl⟩
    case round =>
      obtain ⟨k, hk, rfl, rfl, rfl⟩ := hrel
      by_cases hlt : k < D
      · obtain ⟨q, hq⟩ := getElem?_of_lt (show k < l.length by omega)
        obtain ⟨b, off, hA, hb, hcell⟩ := HL.out k q hq
        have HQ := Lib.hid (shr_succ s l k q hq)
        have hqb := HT.out q (List.mem_of_getElem? hq)
        have hxb := shr_bd (l.take k) s (HT.out.take k) HS.out.1
        have hsb := HS.out
        clear hq
        subst hA
        obtain ⟨x, hx⟩ : ∃ x, shrS s (l.take k) = x := ⟨_, rfl⟩
        rw [hx] at HQ hxb ⊢
        have hp := w64o (x := x) (n := q) (by omega) (by omega)
        have htd : Int.tdiv (x * (100000 - q)) 100000 = oneO x q := by rw [Int.tdiv_eq_ediv_of_nonneg hp.1]; rfl
        have ho := oneO_bd (s := x) (n := q) (by omega) (by omega) (by omega)
        clear hx
        go_wp2
        go_roundw
        case rel => exact ⟨k + 1, by omega, by go_num, by rw [HQ.out], trivial⟩
        case measure => simp [intOf]; omega
      · obtain rfl : k = D := by omega
        go_wp2
        go_ret
        exact ⟨rfl, rfl⟩
  · have HN : Hid (shrD s l D = shrS s (l.take l.length)) := by show _ = _; unfold shrD cutN; rw [show min (D : Int).toNat l.length = l.length by omega]
    rw [HN.out]
    go_enter Tryd.func73, Tryd.ntmps73
    go_wp2
    go_loopw [0, 8, 16] (fun x _ i wr => ∃ k : Nat, k ≤ l.length ∧ i = .int .i64 k ∧ x = .int .i64 (shrS s (l.take k)) ∧ wr = w) (fun _ _ i _ => l.length - (intOf i).toNat)
    case atStart => exact ⟨0, Nat.zero_le _, rfl, rfl, rfl⟩
    case round =>
      obtain ⟨k, hk, rfl, rfl, rfl⟩ := hrel
      by_cases hlt : k < l.length
      · obtain ⟨q, hq⟩ := getElem?_of_lt hlt
        obtain ⟨b, off, hA, hb, hcell⟩ := HL.out k q hq
        have HQ := Lib.hid (shr_succ s l k q hq)
        have hqb := HT.out q (List.mem_of_getElem? hq)
        have hxb := shr_bd (l.take k) s (HT.out.take k) HS.out.1
        have hsb := HS.out
        clear hq
        subst hA
        obtain ⟨x, hx⟩ : ∃ x, shrS s (l.take k) = x := ⟨_, rfl⟩
        rw [hx] at HQ hxb ⊢
        have hp := w64o (x := x) (n := q) (by omega) (by omega)
        have htd : Int.tdiv (x * (100000 - q)) 100000 = oneO x q := by rw [Int.tdiv_eq_ediv_of_nonneg hp.1]; rfl
        have ho := oneO_bd (s := x) (n := q) (by omega) (by omega) (by omega)
        clear hx
        go_wp2
        go_roundw
        case rel => exact ⟨k + 1, by omega, by go_num, by rw [HQ.out], trivial⟩
        case measure => simp [intOf]; omega
      · obtain rfl : k = l.length := by omega
        go_wp2
        go_ret
        exact ⟨rfl, rfl⟩
end Go.Proofs.YtbcnkcndhgihaaaDoor

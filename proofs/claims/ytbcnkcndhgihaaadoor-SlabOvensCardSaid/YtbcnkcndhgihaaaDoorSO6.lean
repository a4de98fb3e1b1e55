/- Ovens: the law of the ovens: the walk. -/
import Derived.Test.YtbcnkcndhgihaaaDoorSO5
namespace Go.Proofs.YtbcnkcndhgihaaaDoor
open Go.RowKit Go.Shelf
set_option linter.unusedSimpArgs false

/-- Ready, at a least that no day reaches: the error; else the facts. -/
theorem ready_neg {s : Int} {l : List Int} {r : Int} (hl : l.length ≤ 60) (ht : TabOk l) (hr : r < 0) : readyB s l r = (0, 2) := by
  have h : ovenE s l 0 r = 2 := by
    unfold ovenE
    have h2 : tabB l = true := by
      unfold tabB
      rw [List.any_eq_false.2 (fun x hx => by have := ht x hx; unfold btw; simp; omega)]
      rfl
    rw [if_neg (by omega), if_neg (by rw [h2]; simp), if_neg (by simp; intro _ _; omega)]
  unfold readyB
  rw [if_neg (by omega), h]
theorem tab_of {l : List Int} (ht : TabOk l) : tabB l = true := by
  unfold tabB
  rw [List.any_eq_false.2 (fun x hx => by have := ht x hx; unfold btw; simp; omega)]
  rfl
theorem oven_zero {s d r : Int} {l : List Int} (hl : l.length ≤ 60) (ht : TabOk l) (hs : 1 ≤ s ∧ s ≤ 100000) (hd : 0 ≤ d ∧ d ≤ 1000) (hr : 0 ≤ r) : ovenE s l d r = 0 := by
  unfold ovenE
  rw [if_neg (by omega), if_neg (by rw [tab_of ht]; simp), if_pos (by simp [btw]; omega)]
theorem season_ok {s d : Int} {l : List Int} (hl : l.length ≤ 60) (ht : TabOk l) (hs : 1 ≤ s ∧ s ≤ 100000) (hd : 0 ≤ d ∧ d ≤ 1000) : seasonB s l d = (shrD s l d, 0) := by
  unfold seasonB
  rw [if_pos (oven_zero hl ht hs hd (Int.le_refl 0))]
theorem ready_ok {s r : Int} {l : List Int} (hl : l.length ≤ 60) (ht : TabOk l) (hs : 1 ≤ s ∧ s ≤ 100000) (hr : 0 ≤ r) : ∃ k : Nat, readyB s l r = ((k : Int), 0) ∧ k ≤ l.length ∧ shrD s l k - shrS s l ≤ r ∧ (s ≤ r → k = 0) ∧ (k ≠ 0 → r < shrD s l ((k : Int) - 1) - shrS s l) := by
  have hk := first_le (rests s l r) l.length
  have hall := shrD_all s l
  refine ⟨firstS (rests s l r) l.length, ?_, hk, ?_, ?_, ?_⟩
  · unfold readyB
    rw [if_pos (oven_zero hl ht hs (by omega) hr)]
  · rcases Nat.lt_or_ge (firstS (rests s l r) l.length) l.length with h | h
    · have h2 : decide (shrD s l ((firstS (rests s l r) l.length : Nat) : Int) - shrS s l ≤ r) = true := first_hit (rests s l r) l.length h
      exact of_decide_eq_true h2
    · have e : firstS (rests s l r) l.length = l.length := by omega
      rw [e, hall]
      omega
  · intro hsr
    rcases Nat.eq_zero_or_pos (firstS (rests s l r) l.length) with h | h
    · exact h
    · have := first_miss (rests s l r) l.length 0 h
      have b1 := shrD_bd ht (s := s) (by omega) ((0 : Nat) : Int)
      have b2 := shr_bd l s ht (by omega)
      unfold rests at this
      simp only [decide_eq_false_iff_not] at this
      omega
  · intro h0
    have := first_miss (rests s l r) l.length (firstS (rests s l r) l.length - 1) (by omega)
    generalize firstS (rests s l r) l.length = k at this h0 ⊢
    unfold rests at this
    simp only [decide_eq_false_iff_not] at this
    rw [show (((k - 1 : Nat) : Int)) = (k : Int) - 1 by omega] at this
    omega
theorem allow_ok {s d : Int} {l : List Int} (hl : l.length ≤ 60) (ht : TabOk l) (hs : 1 ≤ s ∧ s ≤ 100000) (hd : 0 ≤ d ∧ d ≤ 1000) :
    (∃ a : Int, allowB s l d = (a, 0) ∧ s ≤ a ∧ a ≤ 100000 ∧ s ≤ shrD a l d ∧ (1 < a → shrD (a - 1) l d < s)) ∨ (allowB s l d = (0, 5) ∧ shrD 100000 l d < s) := by
  have h0 := oven_zero hl ht hs hd (Int.le_refl 0)
  by_cases h : firstS (enough s l d) 100000 < 100000
  · left
    have hk2 : decide (s ≤ shrD (((firstS (enough s l d) 100000 : Nat) : Int) + 1) l d) = true := first_hit _ _ h
    have hk := of_decide_eq_true hk2
    refine ⟨(firstS (enough s l d) 100000 : Int) + 1, ?_, ?_, by omega, hk, ?_⟩
    · unfold allowB; rw [if_pos h0, if_pos h]
    · have := (shrD_bd ht (s := (firstS (enough s l d) 100000 : Int) + 1) (by omega) d).2
      omega
    · intro h1
      have := first_miss (enough s l d) 100000 (firstS (enough s l d) 100000 - 1) (by omega)
      generalize firstS (enough s l d) 100000 = k at this h1 ⊢
      unfold enough at this
      simp only [decide_eq_false_iff_not] at this
      rw [show (((k - 1 : Nat) : Int)) + 1 = (k : Int) + 1 - 1 by omega] at this
      omega
  · right
    refine ⟨by unfold allowB; rw [if_pos h0, if_neg h], ?_⟩
    have hk := first_le (enough s l d) 100000
    have := first_miss (enough s l d) 100000 99999 (by omega)
    unfold enough at this
    simp only [decide_eq_false_iff_not] at this
    rw [show ((99999 : Nat) : Int) + 1 = 100000 by rfl] at this
    omega
set_option maxRecDepth 100000 in
set_option maxHeartbeats 1000000 in
theorem ready_any (A : Option Addr) (c : Nat) (n : Int) (l : List Int) (r : Int) (w : World) (hn : 1 ≤ n ∧ n ≤ 2000) (h60 : l.length ≤ 60) (ht : TabOk l) (hl : RdI w w.heap.size A l) (hc : l.length ≤ c) : Calls Tryd.prog 50 #[.int .i64 n, .slice A l.length c, .int .i64 r] w (Ret (.bool true) w) := by
  have hm : l.length ≤ maxLen := by unfold maxLen; omega
  have HR := Lib.hid (Ready_any A c n l r w hl hm hc)
  by_cases hr : r < 0
  · rw [ready_neg h60 ht hr] at HR
    clear hl hm hc ht
    go_enter Tryd.func50, Tryd.ntmps50
    go_wp2_with fail
    refine HR.out.mono ?_
    rintro e w2 ⟨rfl, hb2⟩
    go_wp2
    go_ret
    exact Ret.mk rfl hb2
  · obtain ⟨k, hk, hkl, h1, h2, h3⟩ := ready_ok (s := n) (r := r) h60 ht (by omega) (by omega)
    rw [hk] at HR
    dsimp only at HR
    have HS := Lib.hid (fun (d : Int) (hd : 0 ≤ d ∧ d ≤ 1000) W (hB : Below w.heap.size w W) => by
      have := Season_any A c n l d W (hl.now hB) hm hc
      rw [season_ok h60 ht (by omega) hd] at this
      dsimp only at this
      exact this)
    have b1 := shr_bd l n ht (by omega)
    have b2 := shrD_bd ht (s := n) (by omega) (k : Int)
    have b3 := shrD_bd ht (s := n) (by omega) ((k : Int) - 1)
    have HE := Lib.hid (fun W (hB : Below w.heap.size w W) => HS.out l.length (by omega) W hB)
    rw [shrD_all] at HE
    have HK := Lib.hid (fun W (hB : Below w.heap.size w W) => HS.out k (by omega) W hB)
    have HP := Lib.hid (fun W (hB : Below w.heap.size w W) (h0 : k ≠ 0) => HS.out ((k : Int) - 1) (by omega) W hB)
    generalize shrS n l = E at HE b1 h1 h3
    generalize shrD n l k = X at HK b2 h1
    generalize shrD n l ((k : Int) - 1) = Y at HP b3 h3
    clear hk hl hm hc ht HS
    by_cases hz : k = 0
    · have hk0 : (k : Int) = 0 := by omega
      rw [hk0] at HR HK
      clear hk0
      rcases Int.lt_or_le r n with hrn | hrn
      all_goals
        go_enter Tryd.func50, Tryd.ntmps50
        go_wp2_with fail
        refine HR.out.mono ?_
        rintro e w2 ⟨rfl, hb2⟩
        go_wp2_with fail
        refine (HE.out w2 hb2).mono ?_
        rintro e w3 ⟨rfl, hb3⟩
        have hB3 := hb2.trans (hb3.mono hb2.size)
        go_wp2_with fail
        refine (HK.out w3 hB3).mono ?_
        rintro e w4 ⟨rfl, hb4⟩
        have hB4 := hB3.trans (hb4.mono hB3.size)
        go_wp2
        go_ret
        exact Ret.mk rfl hB4
    · have hrn : ¬ n ≤ r := fun h => hz (h2 h)
      have h4 := h3 hz
      have hki : ¬ (k : Int) = 0 := by omega
      go_enter Tryd.func50, Tryd.ntmps50
      go_wp2_with fail
      refine HR.out.mono ?_
      rintro e w2 ⟨rfl, hb2⟩
      go_wp2_with fail
      refine (HE.out w2 hb2).mono ?_
      rintro e w3 ⟨rfl, hb3⟩
      have hB3 := hb2.trans (hb3.mono hb2.size)
      go_wp2_with fail
      refine (HK.out w3 hB3).mono ?_
      rintro e w4 ⟨rfl, hb4⟩
      have hB4 := hB3.trans (hb4.mono hB3.size)
      go_wp2_with fail
      refine (HP.out w4 hB4 hz).mono ?_
      rintro e w5 ⟨rfl, hb5⟩
      have hB5 := hB4.trans (hb5.mono hB4.size)
      go_wp2
      go_ret
      exact Ret.mk (by simp; try omega) hB5
end Go.Proofs.YtbcnkcndhgihaaaDoor

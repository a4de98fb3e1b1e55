/- Ovens: the law of the ovens: the walk. -/
import Derived.Test.YtbcnkcndhgihaaaDoorSO6
namespace Go.Proofs.YtbcnkcndhgihaaaDoor
open Go.RowKit Go.Shelf
set_option linter.unusedSimpArgs false

set_option maxRecDepth 100000 in
set_option maxHeartbeats 4000000 in
theorem ovens_any (A : Option Addr) (c : Nat) (n : Int) (l : List Int) (d r : Int) (w : World) (hl : RdI w w.heap.size A l) (hm : l.length ≤ maxLen) (hc : l.length ≤ c) : Calls Tryd.prog 12 #[.int .i64 n, .slice A l.length c, .agg #[.int .i64 d, .int .i64 r]] w (Ret (.bool true) w) := by
  have hmx : Tryd.prog.follows .mixedOrders = true := by kernel_rfl
  have hlm : l.length ≤ 9223372036854775807 := by unfold maxLen at hm; omega
  by_cases hout : 60 < l.length ∨ n < 1 ∨ 2000 < n
  · clear hl hm hc
    have HSANE := Lib.hid (fun w => sane_any w)
    rcases (show (60 : Int) < (l.length : Int) ∨ (¬ (60 : Int) < (l.length : Int) ∧ n < 1) ∨ (¬ (60 : Int) < (l.length : Int) ∧ ¬ n < 1 ∧ 2000 < n) by omega) with h | ⟨h, h2⟩ | ⟨h, h2, h3⟩
    all_goals
      clear hout
      go_enter Tryd.func12, Tryd.ntmps12
      go_wp2
      go_quiet (fail)
      go_wp2_with fail
      refine (HSANE.out _).mono ?_
      rintro e w2 ⟨rfl, hb2⟩
      have hB2 : Below w.heap.size w w2 := below_next (by (repeat (first | exact Below.refl _ _ | assumption | refine Below.alloc ?_ (by first | exact Nat.le_refl _ | exact Below.size (by assumption) | omega | (simp <;> omega)) _ | refine Below.setCell ?_ (by first | exact Nat.le_refl _ | exact Below.size (by assumption) | omega | (simp <;> omega)) _ | refine below_drewN ?_ _ | refine Below.drew ?_))) hb2
      go_wp2
      go_ret
      exact Ret.mk rfl hB2
  · have hn2 : 1 ≤ n ∧ n ≤ 2000 := by omega
    have h60 : l.length ≤ 60 := by omega
    have hI : ¬ (60 : Int) < (l.length : Int) := by omega
    have HSANE := Lib.hid (fun w => sane_any w)
    clear hout
    by_cases h0 : ovenE n l d 0 = 0
    · obtain ⟨_, ht, _, hd2, _⟩ := oven_ok h0
      have HS := Lib.hid (fun (s : Int) (hs : 1 ≤ s ∧ s ≤ 100000) (d' : Int) (hd' : 0 ≤ d' ∧ d' ≤ 1000) W (hB : Below w.heap.size w W) => by
        have := Season_any A c s l d' W (hl.now hB) hm hc
        rw [season_ok h60 ht hs hd'] at this
        dsimp only at this
        exact this)
      have HR := Lib.hid (fun W (hB : Below w.heap.size w W) => ready_any A c n l r W hn2 h60 ht (hl.now hB) hc)
      have HA := Lib.hid (fun W (hB : Below w.heap.size w W) => Allow_any A c n l d W (hl.now hB) hm hc)
      have HX := Lib.hid (HS.out n (by omega) d hd2)
      have HY := Lib.hid (HS.out (n + 1) (by omega) d hd2)
      have HZ := Lib.hid (fun (h : d < 1000) => HS.out n (by omega) (d + 1) (by omega))
      have bx := shrD_bd ht (s := n) (by omega) d
      have bxy := shrD_mono ht (s := n) (s' := n + 1) (by omega) d
      have bz := shrD_less ht (s := n) (by omega) (d := d) (d' := d + 1) (by omega)
      have HAL := Lib.hid (allow_ok h60 ht (s := n) (d := d) (by omega) hd2)
      generalize shrD n l d = x at HX bx bxy bz
      generalize shrD (n + 1) l d = y at HY bxy
      generalize shrD n l (d + 1) = z at HZ bz
      clear hl hm hc h0
      go_enter Tryd.func12, Tryd.ntmps12
      go_wp2
      go_quiet (fail)
      go_wp2_with fail
      refine (HX.out _ (by (repeat (first | exact Below.refl _ _ | assumption | refine Below.alloc ?_ (by first | exact Nat.le_refl _ | exact Below.size (by assumption) | omega | (simp <;> omega)) _ | refine Below.setCell ?_ (by first | exact Nat.le_refl _ | exact Below.size (by assumption) | omega | (simp <;> omega)) _ | refine below_drewN ?_ _ | refine Below.drew ?_)))).mono ?_
      rintro e w2 ⟨rfl, hb2⟩
      have hB2 : Below w.heap.size w w2 := below_next (by (repeat (first | exact Below.refl _ _ | assumption | refine Below.alloc ?_ (by first | exact Nat.le_refl _ | exact Below.size (by assumption) | omega | (simp <;> omega)) _ | refine Below.setCell ?_ (by first | exact Nat.le_refl _ | exact Below.size (by assumption) | omega | (simp <;> omega)) _ | refine below_drewN ?_ _ | refine Below.drew ?_))) hb2
      go_wp2_with fail
      refine (HY.out _ hB2).mono ?_
      rintro e w3 ⟨rfl, hb3⟩
      have hB3 := hB2.trans (hb3.mono hB2.size)
      by_cases hd3 : d < 1000
      · go_wp2_with fail
        refine (HZ.out hd3 _ hB3).mono ?_
        rintro e w4 ⟨rfl, hb4⟩
        have hB4 := hB3.trans (hb4.mono hB3.size)
        rcases HAL.out with ⟨a, ha, a1, a2, a3, a4⟩ | ⟨ha, a1⟩
        · have HA2 := Lib.hid (HA.out _ hB4)
          rw [ha] at HA2
          dsimp only at HA2
          have HSA := Lib.hid (HS.out a (by omega) d hd2)
          have HSB := Lib.hid (fun (h : 1 < a) => HS.out (a - 1) (by omega) d hd2)
          generalize shrD a l d = s1 at HSA a3
          generalize shrD (a - 1) l d = s2 at HSB a4
          clear ha
          go_wp2_with fail
          refine HA2.out.mono ?_
          rintro e w5 ⟨rfl, hb5⟩
          have hB5 := hB4.trans (hb5.mono hB4.size)
          go_wp2_with fail
          refine (HSA.out _ hB5).mono ?_
          rintro e w6 ⟨rfl, hb6⟩
          have hB6 := hB5.trans (hb6.mono hB5.size)
          by_cases h1a : 1 < a
          · have a5 := a4 h1a
            go_wp2_with fail
            refine (HSB.out h1a _ hB6).mono ?_
            rintro e w7 ⟨rfl, hb7⟩
            have hB7 := hB6.trans (hb7.mono hB6.size)
            go_wp2_with fail
            refine (HR.out _ hB7).mono ?_
            rintro e w8 ⟨rfl, hb8⟩
            have hB8 := hB7.trans (hb8.mono hB7.size)
            go_wp2_with fail
            refine (HSANE.out _).mono ?_
            rintro e w9 ⟨rfl, hb9⟩
            have hB9 := hB8.trans (hb9.mono hB8.size)
            go_wp2
            go_ret
            exact Ret.mk rfl hB9

          · go_wp2_with fail
            refine (HR.out _ hB6).mono ?_
            rintro e w7 ⟨rfl, hb7⟩
            have hB7 := hB6.trans (hb7.mono hB6.size)
            go_wp2_with fail
            refine (HSANE.out _).mono ?_
            rintro e w8 ⟨rfl, hb8⟩
            have hB8 := hB7.trans (hb8.mono hB7.size)
            go_wp2
            go_ret
            exact Ret.mk rfl hB8
        · have HA2 := Lib.hid (HA.out _ hB4)
          rw [ha] at HA2
          dsimp only at HA2
          have HSA := Lib.hid (HS.out 100000 (by omega) d hd2)
          generalize shrD 100000 l d = s1 at HSA a1
          clear ha
          go_wp2_with fail
          refine HA2.out.mono ?_
          rintro e w5 ⟨rfl, hb5⟩
          have hB5 := hB4.trans (hb5.mono hB4.size)
          go_wp2_with fail
          refine (HSA.out _ hB5).mono ?_
          rintro e w6 ⟨rfl, hb6⟩
          have hB6 := hB5.trans (hb6.mono hB5.size)
          go_wp2_with fail
          refine (HR.out _ hB6).mono ?_
          rintro e w7 ⟨rfl, hb7⟩
          have hB7 := hB6.trans (hb7.mono hB6.size)
          go_wp2_with fail
          refine (HSANE.out _).mono ?_
          rintro e w8 ⟨rfl, hb8⟩
          have hB8 := hB7.trans (hb8.mono hB7.size)
          go_wp2
          go_ret
          exact Ret.mk rfl hB8
      · rcases HAL.out with ⟨a, ha, a1, a2, a3, a4⟩ | ⟨ha, a1⟩
        · have HA2 := Lib.hid (HA.out _ hB3)
          rw [ha] at HA2
          dsimp only at HA2
          have HSA := Lib.hid (HS.out a (by omega) d hd2)
          have HSB := Lib.hid (fun (h : 1 < a) => HS.out (a - 1) (by omega) d hd2)
          generalize shrD a l d = s1 at HSA a3
          generalize shrD (a - 1) l d = s2 at HSB a4
          clear ha
          go_wp2_with fail
          refine HA2.out.mono ?_
          rintro e w4 ⟨rfl, hb4⟩
          have hB4 := hB3.trans (hb4.mono hB3.size)
          go_wp2_with fail
          refine (HSA.out _ hB4).mono ?_
          rintro e w5 ⟨rfl, hb5⟩
          have hB5 := hB4.trans (hb5.mono hB4.size)
          by_cases h1a : 1 < a
          · have a5 := a4 h1a
            go_wp2_with fail
            refine (HSB.out h1a _ hB5).mono ?_
            rintro e w6 ⟨rfl, hb6⟩
            have hB6 := hB5.trans (hb6.mono hB5.size)
            go_wp2_with fail
            refine (HR.out _ hB6).mono ?_
            rintro e w7 ⟨rfl, hb7⟩
            have hB7 := hB6.trans (hb7.mono hB6.size)
            go_wp2_with fail
            refine (HSANE.out _).mono ?_
            rintro e w8 ⟨rfl, hb8⟩
            have hB8 := hB7.trans (hb8.mono hB7.size)
            go_wp2
            go_ret
            exact Ret.mk rfl hB8

          · go_wp2_with fail
            refine (HR.out _ hB5).mono ?_
            rintro e w6 ⟨rfl, hb6⟩
            have hB6 := hB5.trans (hb6.mono hB5.size)
            go_wp2_with fail
            refine (HSANE.out _).mono ?_
            rintro e w7 ⟨rfl, hb7⟩
            have hB7 := hB6.trans (hb7.mono hB6.size)
            go_wp2
            go_ret
            exact Ret.mk rfl hB7
        · have HA2 := Lib.hid (HA.out _ hB3)
          rw [ha] at HA2
          dsimp only at HA2
          have HSA := Lib.hid (HS.out 100000 (by omega) d hd2)
          generalize shrD 100000 l d = s1 at HSA a1
          clear ha
          go_wp2_with fail
          refine HA2.out.mono ?_
          rintro e w4 ⟨rfl, hb4⟩
          have hB4 := hB3.trans (hb4.mono hB3.size)
          go_wp2_with fail
          refine (HSA.out _ hB4).mono ?_
          rintro e w5 ⟨rfl, hb5⟩
          have hB5 := hB4.trans (hb5.mono hB4.size)
          go_wp2_with fail
          refine (HR.out _ hB5).mono ?_
          rintro e w6 ⟨rfl, hb6⟩
          have hB6 := hB5.trans (hb6.mono hB5.size)
          go_wp2_with fail
          refine (HSANE.out _).mono ?_
          rintro e w7 ⟨rfl, hb7⟩
          have hB7 := hB6.trans (hb7.mono hB6.size)
          go_wp2
          go_ret
          exact Ret.mk rfl hB7
    · have h2 : ovenE n l d 0 = 2 := by
        rcases oven_or n l d 0 with h | h | h
        · exact absurd h h0
        · exact h
        · unfold ovenE at h
          rw [if_neg (by omega)] at h
          split at h
          · omega
          · split at h <;> omega
      have HX := Lib.hid (Season_any A c n l d w hl hm hc)
      have HX2 := Lib.hid (fun W (hB : Below w.heap.size w W) => Season_any A c n l d W (hl.now hB) hm hc)
      have hs : seasonB n l d = (0, 2) := by unfold seasonB; rw [if_neg h0, h2]
      rw [hs] at HX2
      dsimp only at HX2
      clear hl hm hc h0 h2 HX hs
      go_enter Tryd.func12, Tryd.ntmps12
      go_wp2
      go_quiet (fail)
      go_wp2_with fail
      refine (HX2.out _ (by (repeat (first | exact Below.refl _ _ | assumption | refine Below.alloc ?_ (by first | exact Nat.le_refl _ | exact Below.size (by assumption) | omega | (simp <;> omega)) _ | refine Below.setCell ?_ (by first | exact Nat.le_refl _ | exact Below.size (by assumption) | omega | (simp <;> omega)) _ | refine below_drewN ?_ _ | refine Below.drew ?_)))).mono ?_
      rintro e w2 ⟨rfl, hb2⟩
      have hB2 : Below w.heap.size w w2 := below_next (by (repeat (first | exact Below.refl _ _ | assumption | refine Below.alloc ?_ (by first | exact Nat.le_refl _ | exact Below.size (by assumption) | omega | (simp <;> omega)) _ | refine Below.setCell ?_ (by first | exact Nat.le_refl _ | exact Below.size (by assumption) | omega | (simp <;> omega)) _ | refine below_drewN ?_ _ | refine Below.drew ?_))) hb2
      go_wp2_with fail
      refine (HSANE.out _).mono ?_
      rintro e w3 ⟨rfl, hb3⟩
      have hB3 := hB2.trans (hb3.mono hB2.size)
      go_wp2
      go_ret
      exact Ret.mk rfl hB3
end Go.Proofs.YtbcnkcndhgihaaaDoor

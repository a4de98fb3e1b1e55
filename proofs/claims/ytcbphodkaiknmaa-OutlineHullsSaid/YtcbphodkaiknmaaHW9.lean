/- The law OutlineHulls: the walk. -/
import Derived.Test.YtcbphodkaiknmaaHW7
import Derived.Test.YtcbphodkaiknmaaHW8
import Derived.Test.YtcbphodkaiknmaaW33
import Derived.Test.YtcbphodkaiknmaaW15
import Derived.Test.YtcbphodkaiknmaaW18
namespace Go.Proofs.Ytcbphodkaiknmaa
open Go.RowKit
set_option linter.unusedSimpArgs false

theorem hull_len {l : List XY} {r : List XY × Int} (h : HullIs l r) : r.1.length ≤ 64 ∧ (r.2 = 0 → r = (r.1, 0)) := by
  refine ⟨?_, fun h0 => by cases r; simp only at h0; subst h0; rfl⟩
  rcases h with ⟨_, h⟩ | ⟨_, _, h⟩ | ⟨_, _, _, P, _, _, h⟩
  · rw [h]; simp
  · rw [h]; simp
  · rw [h]; unfold hull2Res
    split
    · simp
    · split
      · simp
      · simp; omega
theorem hull_good {l P : List XY} (h : HullIs l (P, 0)) : validB P = true ∧ (∀ x ∈ l, insideB P x = true) ∧ HullIs P (P, 0) ∧ ∀ x ∈ l, rangedB x = true := by
  have h' := h
  rcases h with ⟨_, h⟩ | ⟨_, _, h⟩ | ⟨h200, h0, hr, Q, _, _, h⟩
  · injection h with _ h; cases h
  · injection h with _ h; cases h
  · obtain ⟨L, hL⟩ : ∃ L, l.mergeSort (fun x y => !decide (y.Y < x.Y ∨ (y.Y = x.Y ∧ y.X < x.X))) = L := ⟨_, rfl⟩
    have hLp : L.Perm l := by rw [← hL]; exact List.mergeSort_perm l _
    have hLs : L.Pairwise (fun a b => ¬ lx b a) := by
      rw [← hL]
      refine (List.pairwise_mergeSort (fun a b c h1 h2 => ?_) (fun a b => ?_) l).imp ?_
      · simp only [Bool.not_eq_true', decide_eq_false_iff_not] at h1 h2 ⊢; omega
      · simp only [Bool.or_eq_true, Bool.not_eq_true', decide_eq_false_iff_not]; omega
      · intro a b h
        simp only [Bool.not_eq_true', decide_eq_false_iff_not] at h
        unfold lx; exact h
    obtain ⟨hSs, hSm, hSl⟩ := hull_sorted hLp hLs
    exact hull_law h200 h0 hr hSs hSm h'
theorem hull_few {l : List XY} {r : List XY × Int} (h : HullIs l r) (h0 : r.2 = 0) : l.length ≤ 200 := by
  rcases h with ⟨_, h⟩ | ⟨h, _⟩ | ⟨h, _⟩
  · rw [h] at h0; cases h0
  · exact h
  · exact h
theorem holds_yes {P : List XY} {x : XY} (hv : validB P = true) (hr : rangedB x = true) (hi : insideB P x = true) : (holdsS validB insideB P x).1 = true ∧ (holdsS validB insideB P x).2 = 0 := by
  have hb := bd_of_ranged hr
  have : ¬ offAt x := by
    obtain ⟨a, b, c, d⟩ := hb
    unfold offAt
    omega
  simp [holdsS, hv, this, hi]

set_option maxRecDepth 100000 in
set_option maxHeartbeats 4000000 in
theorem lawHulls_any (A : Option Addr) (c : Nat) (l : List XY) (w : World) (hl : Rd w w.heap.size A l) :
    Calls Try.prog 3 #[.slice A l.length c] w (Ret (.bool true) w) := by
  obtain ⟨r, hR, hcall⟩ := Hull_any A c l w hl
  have hcall2 := fun w' h => Hull2_any A c l r w' hR h
  have hlen := hull_len hR
  have hgood := fun (h : r.2 = 0) => hull_good (P := r.1) (by rw [← hlen.2 h]; exact hR)
  have HG := Lib.hid hgood; clear hgood
  have HFW := Lib.hid (hull_few hR)
  have HN := Lib.hid hlen.1; clear hlen
  have HL := Lib.hid hl; clear hl
  have HC := Lib.hid hcall; clear hcall
  have HC2 := Lib.hid hcall2; clear hcall2
  clear hR
  obtain ⟨P, z⟩ := r
  dsimp only at HFW HG HN HC HC2
  go_enter Try.func3, Try.ntmps3
  go_wp2_with fail
  refine HC.out.mono ?_
  rintro e w1 ⟨v1, rfl, hown1, hb1⟩
  obtain ⟨A1, c1, rfl, hr1⟩ := own_rd hown1
  clear hown1
  have HR1 := Lib.hid hr1; clear hr1
  go_wp2_with fail
  refine (HC2.out _ (HL.out.now hb1)).mono ?_
  rintro e w2 ⟨v2, rfl, hown2, hb2⟩
  obtain ⟨A3, c3, rfl, hr2⟩ := own_rd hown2
  clear hown2
  have hB2 := hb1.trans (hb2.mono hb1.size)
  have HR2 := Lib.hid (HR1.out.now hb2)
  clear HR1 hb2
  have HX := Lib.hid hr2; clear hr2
  go_wp2_with fail
  refine (same_any A1 A3 c1 c3 P P _ (by have := HN.out; omega) HR2.out HX.out).mono ?_
  rintro e w4 ⟨rfl, hb4⟩
  have hB4 := hB2.trans (hb4.mono hB2.size)
  have HR4 := Lib.hid (HR2.out.now hb4)
  clear hb4 HX HR2
  rw [decide_eq_true rfl]
  by_cases hz : z = 0
  · subst hz
    obtain ⟨hv, hin, hP, hra⟩ := HG.out rfl
    have h200 := HFW.out rfl
    clear HFW
    have HIN := Lib.hid hin; clear hin
    have HRA := Lib.hid hra; clear hra
    have HHP := Lib.hid hP; clear hP
    have HV := Lib.hid hv; clear hv
    clear HG HC HC2
    go_wp2
    go_loopw [37] (fun i wr => ∃ k : Nat, k ≤ l.length ∧ i = .int .i64 k ∧ Below w4.heap.size w4 wr) (fun i _ => l.length - (intOf i).toNat)
    case atStart => exact ⟨0, Nat.zero_le _, rfl, Below.refl _ _⟩
    case round =>
      obtain ⟨k, hk, rfl, hB⟩ := hrel
      have hBw := hB4.trans (hB.mono hB4.size)
      by_cases hlt : k < l.length
      · obtain ⟨q, hq⟩ := getElem?_of_lt hlt
        obtain ⟨b, off, hA, hb, hcx, hcy⟩ := (HL.out.now hBw) k q hq
        subst hA
        have hql : q ∈ l := List.mem_of_getElem? hq
        obtain ⟨y1, y2⟩ := holds_yes HV.out (HRA.out q hql) (HIN.out q hql)
        have HY := Lib.hid (And.intro y1 y2); clear y1 y2
        clear hq hql
        go_wp2_with fail
        refine (Holds_any q A1 c1 P _ (HR4.out.now (by (repeat (first | exact Below.refl _ _ | assumption | refine Below.alloc ?_ (by first | exact Nat.le_refl _ | exact Below.size (by assumption) | omega | (simp <;> omega)) _ | refine Below.setCell ?_ (by first | exact Nat.le_refl _ | exact Below.size (by assumption) | omega | (simp <;> omega)) _ | refine below_drewN ?_ _ | refine Below.drew ?_))))).mono ?_
        rintro e w5 ⟨rfl, hb5⟩
        rw [HY.out.1, HY.out.2]
        have hB5 : Below w4.heap.size w4 w5 := (hB.alloc hB.size _).trans (hb5.mono (by have := hB.size; simp; omega))
        go_wp2
        go_roundw
        case rel => exact ⟨k + 1, by omega, by go_num, hB5⟩
        case measure => simp [intOf]; omega
      · obtain ⟨r2, hR2, hcall⟩ := Hull_any A1 c1 P wr (HR4.out.now hB)
        obtain rfl := hullIs_fun hR2 HHP.out
        have HCA := Lib.hid hcall; clear hcall hR2
        have hltI : ¬ (k : Int) < (l.length : Int) := by omega
        go_wp2_with fail
        refine HCA.out.mono ?_
        rintro e w5 ⟨v5, rfl, hown5, hb5⟩
        obtain ⟨A5, c5, rfl, hr5⟩ := own_rd hown5
        clear hown5
        have HR5 := Lib.hid hr5; clear hr5
        have hB5 := hBw.trans (hb5.mono hBw.size)
        have HR1 := Lib.hid ((HR4.out.now hB).now hb5)
        clear hb5
        go_wp2_with fail
        refine (same_any A5 A1 c5 c1 P P _ (by have := HN.out; omega) HR5.out HR1.out).mono ?_
        rintro e w6 ⟨rfl, hb6⟩
        have hB6 := hB5.trans (hb6.mono hB5.size)
        rw [decide_eq_true rfl]
        go_wp2_with fail
        refine (awake_any _).mono ?_
        rintro e w7 ⟨rfl, hb7⟩
        go_wp2
        go_ret
        exact Ret.mk rfl (hB6.trans (hb7.mono hB6.size))
  · have hz' : (z != 0) = true := by simpa using hz
    go_wp2_with fail
    refine (awake_any _).mono ?_
    rintro e w7 ⟨rfl, hb7⟩
    go_wp2
    go_ret
    exact Ret.mk rfl (hB4.trans (hb7.mono hB4.size))
end Go.Proofs.Ytcbphodkaiknmaa

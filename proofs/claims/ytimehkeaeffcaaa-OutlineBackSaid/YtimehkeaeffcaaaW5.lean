/- slices.Equal at corners, and the reference's Equal: the walks. -/
import Derived.Test.YtimehkeaeffcaaaW1
namespace Go.Proofs.Ytimehkeaeffcaaa
open Go.RowKit

theorem eq_of_takes {l m : List XY} (hlen : l.length = m.length) (h : ∀ i, i < l.length → l[i]? = m[i]?) : l = m := by
  apply List.ext_getElem? ; intro i
  rcases Nat.lt_or_ge i l.length with hi | hi
  · exact h i hi
  · rw [List.getElem?_eq_none hi, List.getElem?_eq_none (by omega)]

set_option maxHeartbeats 400000 in
theorem equal_any (A A2 : Option Addr) (c c2 : Nat) (l l2 : List XY) (w : World) (hm : l.length ≤ 1000000) (hl : Rd w w.heap.size A l) (hl2 : Rd w w.heap.size A2 l2) :
    Calls Try.prog 64 #[.slice A l.length c, .slice A2 l2.length c2] w (Ret (.bool (decide (l = l2))) w) := by
  have HL := Lib.hid hl; clear hl
  have HL2 := Lib.hid hl2; clear hl2
  by_cases hlen : l.length = l2.length
  case neg =>
    have hne : ¬ l = l2 := fun e => hlen (by rw [e])
    have hbn : (((l.length : Nat) : Int) != ((l2.length : Nat) : Int)) = true := by rw [bne_iff_ne]; omega
    have hlen' : ¬ l.length = l2.length := hlen
    clear hlen
    go_enter Try.func64, Try.ntmps64
    go_wp2
    go_ret
    exact Ret.mk (by simp [hne]) (by (repeat (first | exact Below.refl _ _ | assumption | refine Below.alloc ?_ (by first | exact Nat.le_refl _ | exact Below.size (by assumption) | omega | (simp <;> omega)) _ | refine Below.setCell ?_ (by first | exact Nat.le_refl _ | exact Below.size (by assumption) | omega | (simp <;> omega)) _ | refine below_drewN ?_ _ | refine Below.drew ?_)))
  case pos =>
    have HE := Lib.hid hlen; clear hlen
    have hbn : (((l.length : Nat) : Int) != ((l2.length : Nat) : Int)) = false := by rw [bne_eq_false_iff_eq, HE.out]
    have hne := run_neXY
    have hgd := guardXY
    go_enter Try.func64, Try.ntmps64
    go_wp2
    go_loopw [5, 13] (fun _ i wr => ∃ k : Nat, k ≤ l.length ∧ i = .int .i64 k ∧ (∀ i, i < k → l[i]? = l2[i]?) ∧ Below w.heap.size w wr) (fun _ i _ => l.length - (intOf i).toNat)
    case atStart => exact ⟨0, Nat.zero_le _, rfl, by simp, Below.refl _ _⟩
    case round =>
      obtain ⟨k, hk, rfl, hno, hB⟩ := hrel
      have HN := Lib.hid hno; clear hno
      by_cases hlt : k < l.length
      · have hlt2 : k < l2.length := by have := HE.out; omega
        obtain ⟨q, hq⟩ := getElem?_of_lt hlt
        obtain ⟨b, off, hA, hb, hcx, hcy⟩ := (HL.out.below hB) k q hq
        subst hA
        obtain ⟨r, hr⟩ := getElem?_of_lt hlt2
        obtain ⟨b1, off1, hA, hb1, hdx, hdy⟩ := (HL2.out.below hB) k r hr
        subst hA
        have HQ := Lib.hid hq; clear hq
        have HR := Lib.hid hr; clear hr
        go_wp2
        go_quiet (fail)
        cases hqr : decide (q = r)
        · have hqr' : ¬ q = r := of_decide_eq_false hqr
          go_wp2
          go_ret
          have hne2 : ¬ l = l2 := by rintro e; have h1 := HQ.out; rw [e, HR.out] at h1; exact hqr' (Option.some.inj h1).symm
          exact Ret.mk (by simp [hne2]) (by (repeat (first | exact Below.refl _ _ | assumption | refine Below.alloc ?_ (by first | exact Nat.le_refl _ | exact Below.size (by assumption) | omega | (simp <;> omega)) _ | refine Below.setCell ?_ (by first | exact Nat.le_refl _ | exact Below.size (by assumption) | omega | (simp <;> omega)) _ | refine below_drewN ?_ _ | refine Below.drew ?_)))
        · have hqr' : q = r := of_decide_eq_true hqr
          have HE2 := Lib.hid hqr'; clear hqr'
          go_wp2
          go_roundw
          case rel =>
            refine ⟨k + 1, by omega, by go_num, ?_, by (repeat (first | exact Below.refl _ _ | assumption | refine Below.alloc ?_ (by first | exact Nat.le_refl _ | exact Below.size (by assumption) | omega | (simp <;> omega)) _ | refine Below.setCell ?_ (by first | exact Nat.le_refl _ | exact Below.size (by assumption) | omega | (simp <;> omega)) _ | refine below_drewN ?_ _ | refine Below.drew ?_))⟩
            intro i hi
            rcases Nat.lt_succ_iff_lt_or_eq.1 hi with h1 | h1
            · exact HN.out i h1
            · rw [h1, HQ.out, HR.out, HE2.out]
          case measure => simp [intOf]; omega
      · go_wp2
        go_ret
        have he2 : l = l2 := eq_of_takes HE.out (fun i hi => HN.out i (by omega))
        exact Ret.mk (by simp [he2]) (by (repeat (first | exact Below.refl _ _ | assumption | refine Below.alloc ?_ (by first | exact Nat.le_refl _ | exact Below.size (by assumption) | omega | (simp <;> omega)) _ | refine Below.setCell ?_ (by first | exact Nat.le_refl _ | exact Below.size (by assumption) | omega | (simp <;> omega)) _ | refine below_drewN ?_ _ | refine Below.drew ?_)))

set_option maxHeartbeats 400000 in
theorem equal2_any (A A2 : Option Addr) (c c2 : Nat) (l l2 : List XY) (w : World) (hm : l.length ≤ 1000000) (hl : Rd w w.heap.size A l) (hl2 : Rd w w.heap.size A2 l2) :
    Calls Try.prog 65 #[.slice A l.length c, .slice A2 l2.length c2] w (Ret (.bool (decide (l = l2))) w) := by
  have HL := Lib.hid hl; clear hl
  have HL2 := Lib.hid hl2; clear hl2
  by_cases hlen : l.length = l2.length
  case neg =>
    have hne : ¬ l = l2 := fun e => hlen (by rw [e])
    have hbn : (((l.length : Nat) : Int) != ((l2.length : Nat) : Int)) = true := by rw [bne_iff_ne]; omega
    have hlen' : ¬ l.length = l2.length := hlen
    clear hlen
    go_enter Try.func65, Try.ntmps65
    go_wp2
    go_ret
    exact Ret.mk (by simp [hne]) (by (repeat (first | exact Below.refl _ _ | assumption | refine Below.alloc ?_ (by first | exact Nat.le_refl _ | exact Below.size (by assumption) | omega | (simp <;> omega)) _ | refine Below.setCell ?_ (by first | exact Nat.le_refl _ | exact Below.size (by assumption) | omega | (simp <;> omega)) _ | refine below_drewN ?_ _ | refine Below.drew ?_)))
  case pos =>
    have HE := Lib.hid hlen; clear hlen
    have hbn : (((l.length : Nat) : Int) != ((l2.length : Nat) : Int)) = false := by rw [bne_eq_false_iff_eq, HE.out]
    have hne := run_neXY
    have hgd := guardXY
    go_enter Try.func65, Try.ntmps65
    go_wp2
    go_loopw [5, 13] (fun _ i wr => ∃ k : Nat, k ≤ l.length ∧ i = .int .i64 k ∧ (∀ i, i < k → l[i]? = l2[i]?) ∧ Below w.heap.size w wr) (fun _ i _ => l.length - (intOf i).toNat)
    case atStart => exact ⟨0, Nat.zero_le _, rfl, by simp, Below.refl _ _⟩
    case round =>
      obtain ⟨k, hk, rfl, hno, hB⟩ := hrel
      have HN := Lib.hid hno; clear hno
      by_cases hlt : k < l.length
      · have hlt2 : k < l2.length := by have := HE.out; omega
        obtain ⟨q, hq⟩ := getElem?_of_lt hlt
        obtain ⟨b, off, hA, hb, hcx, hcy⟩ := (HL.out.below hB) k q hq
        subst hA
        obtain ⟨r, hr⟩ := getElem?_of_lt hlt2
        obtain ⟨b1, off1, hA, hb1, hdx, hdy⟩ := (HL2.out.below hB) k r hr
        subst hA
        have HQ := Lib.hid hq; clear hq
        have HR := Lib.hid hr; clear hr
        go_wp2
        go_quiet (fail)
        cases hqr : decide (q = r)
        · have hqr' : ¬ q = r := of_decide_eq_false hqr
          go_wp2
          go_ret
          have hne2 : ¬ l = l2 := by rintro e; have h1 := HQ.out; rw [e, HR.out] at h1; exact hqr' (Option.some.inj h1).symm
          exact Ret.mk (by simp [hne2]) (by (repeat (first | exact Below.refl _ _ | assumption | refine Below.alloc ?_ (by first | exact Nat.le_refl _ | exact Below.size (by assumption) | omega | (simp <;> omega)) _ | refine Below.setCell ?_ (by first | exact Nat.le_refl _ | exact Below.size (by assumption) | omega | (simp <;> omega)) _ | refine below_drewN ?_ _ | refine Below.drew ?_)))
        · have hqr' : q = r := of_decide_eq_true hqr
          have HE2 := Lib.hid hqr'; clear hqr'
          go_wp2
          go_roundw
          case rel =>
            refine ⟨k + 1, by omega, by go_num, ?_, by (repeat (first | exact Below.refl _ _ | assumption | refine Below.alloc ?_ (by first | exact Nat.le_refl _ | exact Below.size (by assumption) | omega | (simp <;> omega)) _ | refine Below.setCell ?_ (by first | exact Nat.le_refl _ | exact Below.size (by assumption) | omega | (simp <;> omega)) _ | refine below_drewN ?_ _ | refine Below.drew ?_))⟩
            intro i hi
            rcases Nat.lt_succ_iff_lt_or_eq.1 hi with h1 | h1
            · exact HN.out i h1
            · rw [h1, HQ.out, HR.out, HE2.out]
          case measure => simp [intOf]; omega
      · go_wp2
        go_ret
        have he2 : l = l2 := eq_of_takes HE.out (fun i hi => HN.out i (by omega))
        exact Ret.mk (by simp [he2]) (by (repeat (first | exact Below.refl _ _ | assumption | refine Below.alloc ?_ (by first | exact Nat.le_refl _ | exact Below.size (by assumption) | omega | (simp <;> omega)) _ | refine Below.setCell ?_ (by first | exact Nat.le_refl _ | exact Below.size (by assumption) | omega | (simp <;> omega)) _ | refine below_drewN ?_ _ | refine Below.drew ?_)))
end Go.Proofs.Ytimehkeaeffcaaa

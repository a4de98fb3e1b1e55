/- Being inside, in the reference: the walks. -/
import Derived.Test.YtimehkeaeffcaaaW1
import Derived.StillTailTactics
namespace Go.Proofs.Ytimehkeaeffcaaa
open Go.RowKit

theorem all_range_succ {f : Nat → Bool} {k : Nat} (h : ∀ i, i < k → f i = true) (hk : f k = true) : ∀ i, i < k + 1 → f i = true := by
  intro i hi
  rcases Nat.lt_succ_iff_lt_or_eq.1 hi with h1 | h1
  · exact h i h1
  · rw [h1]; exact hk
theorem all_range_true {f : Nat → Bool} {n : Nat} (h : ∀ i, i < n → f i = true) : (List.range n).all f = true := by
  simp only [List.all_eq_true, List.mem_range]; exact h
theorem all_range_false {f : Nat → Bool} {n k : Nat} (hk : k < n) (h : f k = false) : (List.range n).all f = false := by
  rw [List.all_eq_false]; exact ⟨k, List.mem_range.2 hk, by rw [h]; simp⟩
theorem cy_lt {l : List XY} {k : Nat} {q : XY} (h : l[k]? = some q) : cy l k = q := by
  have hlt : k < l.length := (List.getElem?_eq_some_iff.1 h).1
  simp [cy, Nat.mod_eq_of_lt hlt, h]

set_option maxHeartbeats 400000 in
theorem inside2_any (A : Option Addr) (c : Nat) (l : List XY) (p : XY) (w : World) (hm : l.length ≤ 1000000) (hl : Rd w w.heap.size A l) :
    Calls Try.prog 61 #[.slice A l.length c, xyv p] w (Ret (.bool (inside2B l p)) w) := by
  have HL := Lib.hid hl; clear hl
  go_enter Try.func61, Try.ntmps61
  go_wp2
  go_loopw [5, 8] (fun _ i wr => ∃ k : Nat, k ≤ l.length ∧ i = .int .i64 k ∧ (∀ i, i < k → (!decide (cross2W (cy l i) (cy l (i + 1)) p < 0)) = true) ∧ Below w.heap.size w wr ∧ w.heap.size < wr.heap.size ∧ wr.cell? ⟨w.heap.size, 0, none⟩ = some (.int .i64 p.X) ∧ wr.cell? ⟨w.heap.size, 1, none⟩ = some (.int .i64 p.Y)) (fun _ i _ => l.length - (intOf i).toNat)
  case atStart => exact ⟨0, Nat.zero_le _, rfl, by simp, by (repeat (first | exact Below.refl _ _ | assumption | refine Below.alloc ?_ (by first | exact Nat.le_refl _ | exact Below.size (by assumption) | omega | (simp <;> omega)) _ | refine Below.setCell ?_ (by first | exact Nat.le_refl _ | exact Below.size (by assumption) | omega | (simp <;> omega)) _ | refine below_drewN ?_ _ | refine Below.drew ?_)), by simp, by simp, by simp⟩
  case round =>
    obtain ⟨k, hk, rfl, hno, hB, hsz, hpx, hpy⟩ := hrel
    have HN := Lib.hid hno; clear hno
    by_cases hlt : k < l.length
    · obtain ⟨q, hq⟩ := getElem?_of_lt hlt
      obtain ⟨b, off, hA, hb, hcx, hcy⟩ := (HL.out.below hB) k q hq
      subst hA
      have hlt2 : (k + 1) % l.length < l.length := Nat.mod_lt _ (by omega)
      obtain ⟨r, hr⟩ := getElem?_of_lt hlt2
      obtain ⟨b1, off1, hA, hb1, hdx, hdy⟩ := (HL.out.below hB) _ r hr
      obtain ⟨rfl, rfl⟩ : b = b1 ∧ off = off1 := by simpa using hA
      clear hA
      have HQ := Lib.hid (cy_lt hq); clear hq
      have HR := Lib.hid (cy_of hr); clear hr
      have e1 : IntKind.i64.wrap ((k : Int) + 1) = (k : Int) + 1 := IntWalk.i64_in _ (by omega)
      have e2 : ((k : Int) + 1).tmod (l.length : Int) = ((k : Int) + 1) % (l.length : Int) := tmod_pos (by omega)
      obtain ⟨e4, e5⟩ := emod_bd (x := (k : Int) + 1) (n := l.length) (by omega)
      have e6 : (((k : Int) + 1) % (l.length : Int)).toNat = (k + 1) % l.length := emod_toNat rfl
      have e3 : ¬ l = [] := ne_nil_of_lt hlt
      go_wp2
      go_still_tail 13, (by kernel_rfl)
      change wpList _ _ _ _ _ wr.drew
      go_wp2_with fail
      refine (cross2_any q r p _).mono ?_
      rintro e w2 ⟨rfl, hb2⟩
      have hb3 := below_of_drew hb2
      have hB2 := hB.trans (hb3.mono hB.size)
      have hs2 : w.heap.size < w2.heap.size := Nat.lt_of_lt_of_le hsz hb3.size
      have hpx2 := (hb3.cell (p := ⟨w.heap.size, 0, none⟩) hsz).trans hpx
      have hpy2 := (hb3.cell (p := ⟨w.heap.size, 1, none⟩) hsz).trans hpy
      have HC : Hid (decide (cross2W (cy l k) (cy l (k + 1)) p < 0) = decide (cross2W q r p < 0)) := by rw [HQ.out, HR.out]; exact rfl
      by_cases hneg : cross2W q r p < 0
      · have HD := Lib.hid (decide_eq_true hneg)
        go_wp2
        go_ret
        exact Ret.mk (by rw [show inside2B l p = false from all_range_false hlt (by rw [HC.out, HD.out]; rfl)]; rfl) hB2
      · have HD := Lib.hid (decide_eq_false hneg)
        go_wp2
        go_roundw
        case rel => exact ⟨k + 1, by omega, by go_num, all_range_succ HN.out (by rw [HC.out, HD.out]; rfl), hB2, hs2, hpx2, hpy2⟩
        case measure => simp [intOf]; omega
    · go_wp2
      go_ret
      exact Ret.mk (by rw [show inside2B l p = true from all_range_true (fun i hi => HN.out i (by omega))]; rfl) (by (repeat (first | exact Below.refl _ _ | assumption | refine Below.alloc ?_ (by first | exact Nat.le_refl _ | exact Below.size (by assumption) | omega | (simp <;> omega)) _ | refine Below.setCell ?_ (by first | exact Nat.le_refl _ | exact Below.size (by assumption) | omega | (simp <;> omega)) _ | refine below_drewN ?_ _ | refine Below.drew ?_)))

theorem all_take_succ {f : XY → Bool} {l : List XY} {k : Nat} {q : XY} (hno : ∀ x ∈ l.take k, f x = true) (h : l[k]? = some q) (hq : f q = true) : ∀ x ∈ l.take (k + 1), f x = true := by
  rw [take_succ_of h]
  intro x hx
  rcases List.mem_append.1 hx with hx | hx
  · exact hno x hx
  · simp at hx; rw [hx]; exact hq
theorem all_of_take {f : XY → Bool} {l : List XY} {k : Nat} (hno : ∀ x ∈ l.take k, f x = true) (hk : ¬ k < l.length) : l.all f = true := by
  rw [List.take_of_length_le (by omega)] at hno; exact List.all_eq_true.2 hno
theorem all_false_of {f : XY → Bool} {l : List XY} {k : Nat} {q : XY} (h : l[k]? = some q) (hq : f q = false) : l.all f = false :=
  List.all_eq_false.2 ⟨q, List.mem_of_getElem? h, by rw [hq]; simp⟩

set_option maxHeartbeats 400000 in
theorem within2_any (A A2 : Option Addr) (c c2 : Nat) (l l2 : List XY) (w : World) (hm : l.length ≤ 1000000) (hm2 : l2.length ≤ 1000000) (hl : Rd w w.heap.size A l) (hl2 : Rd w w.heap.size A2 l2) :
    Calls Try.prog 55 #[.slice A l.length c, .slice A2 l2.length c2] w (Ret (.bool (within2B l l2)) w) := by
  have HL := Lib.hid hl; clear hl
  have HL2 := Lib.hid hl2; clear hl2
  go_enter Try.func55, Try.ntmps55
  go_wp2
  go_loopw [9] (fun i wr => ∃ k : Nat, k ≤ l.length ∧ i = .int .i64 k ∧ (∀ x ∈ l.take k, inside2B l2 x = true) ∧ Below w.heap.size w wr) (fun i _ => l.length - (intOf i).toNat)
  case atStart => exact ⟨0, Nat.zero_le _, rfl, by simp, Below.refl _ _⟩
  case round =>
    obtain ⟨k, hk, rfl, hno, hB⟩ := hrel
    have HN := Lib.hid hno; clear hno
    by_cases hlt : k < l.length
    · obtain ⟨q, hq⟩ := getElem?_of_lt hlt
      obtain ⟨b, off, hA, hb, hcx, hcy⟩ := (HL.out.below hB) k q hq
      subst hA
      have HQ := Lib.hid hq; clear hq
      go_wp2_with fail
      refine (inside2_any A2 c2 l2 q _ hm2 (HL2.out.now (by (repeat (first | exact Below.refl _ _ | assumption | refine Below.alloc ?_ (by first | exact Nat.le_refl _ | exact Below.size (by assumption) | omega | (simp <;> omega)) _ | refine Below.setCell ?_ (by first | exact Nat.le_refl _ | exact Below.size (by assumption) | omega | (simp <;> omega)) _ | refine below_drewN ?_ _ | refine Below.drew ?_))))).mono ?_
      rintro e w2 ⟨rfl, hb2⟩
      have hB2 : Below w.heap.size w w2 := (hB.alloc hB.size _).trans (hb2.mono (by have := hB.size; simp; omega))
      cases hi : inside2B l2 q
      · go_wp2
        go_ret
        exact Ret.mk (by rw [show within2B l l2 = false from all_false_of HQ.out hi]; rfl) hB2
      · go_wp2
        go_roundw
        case rel => exact ⟨k + 1, by omega, by go_num, all_take_succ HN.out HQ.out hi, hB2⟩
        case measure => simp [intOf]; omega
    · go_wp2
      go_ret
      exact Ret.mk (by rw [show within2B l l2 = true from all_of_take HN.out hlt]; rfl) hB
end Go.Proofs.Ytimehkeaeffcaaa

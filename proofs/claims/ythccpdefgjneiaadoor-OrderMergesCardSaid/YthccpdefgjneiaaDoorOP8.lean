/- The price of a count, what is found, Price of both: the walks. -/
import Derived.Test.YthccpdefgjneiaaDoorOP4
import Derived.Test.YthccpdefgjneiaaDoorOM6Q
import Derived.Test.YthccpdefgjneiaaDoorOM7Q
namespace Go.Proofs.YthccpdefgjneiaaDoor
open Go.RowKit Go.Shelf Go.Maps

def centsP (l : List ST) (n : Int) : Int := l.foldl (fun c s => if s.n ≤ n then s.c else c) 0
theorem cents_snoc {l : List ST} {k : Nat} {s : ST} (h : l[k]? = some s) (n : Int) : centsP (l.take (k + 1)) n = if s.n ≤ n then s.c else centsP (l.take k) n := by
  unfold centsP; rw [take_succ_of h, List.foldl_append]; rfl
def foundE (l : List QT) (s : ByteArray) (day n : Int) : Option Nat × Int :=
  if validPS l then (if dayB day && bet 1 n 100000 then (match lateI keyQ s day l l.length with | none => (none, 82) | some j => (some j, 0)) else (none, 2)) else (none, 80)
def priceV (l : List QT) (s : ByteArray) (day n : Int) : Int × Int := match foundE l s day n with
  | (none, e) => (0, e)
  | (some j, e) => (centsP (bestQ l (some j)).st n, e)
theorem validP_all {l : List QT} (h : validPS l = true) : l.length ≤ 60 ∧ ∀ r ∈ l, priceB r = true := by
  unfold validPS at h
  simp only [Bool.and_eq_true, decide_eq_true_eq, List.all_eq_true] at h
  exact ⟨h.1, h.2.2⟩
theorem found_inv {l : List QT} {s : ByteArray} {day n : Int} {j : Nat} {e : Int} (h : foundE l s day n = (some j, e)) : e = 0 ∧ validPS l = true ∧ 1 ≤ n ∧ n ≤ 100000 ∧ lateI keyQ s day l l.length = some j ∧ ∃ p, l[j]? = some p ∧ bestQ l (some j) = p := by
  unfold foundE at h
  split at h
  · next hv =>
    split at h
    · next hd =>
      simp only [Bool.and_eq_true] at hd
      have := bet_iff.1 hd.2
      split at h
      · simp at h
      · next j' hj =>
        injection h with h1 h2
        injection h1 with h1
        subst h1
        obtain ⟨p, hp⟩ := getElem?_of_lt (lateI_lt hj).2
        exact ⟨h2.symm, hv, this.1, this.2, hj, p, hp, by unfold bestQ; show (l[_]?).getD _ = p; rw [hp]; rfl⟩
    · simp at h
  · simp at h
theorem found_none {l : List QT} {s : ByteArray} {day n e : Int} (h : foundE l s day n = (none, e)) : (e != 0) = true := by
  unfold foundE at h
  split at h
  · split at h
    · split at h
      · injection h with _ h; subst h; decide
      · simp at h
    · injection h with _ h; subst h; decide
  · injection h with _ h; subst h; decide
set_option maxRecDepth 100000 in
set_option maxHeartbeats 1000000 in
theorem priced_any (p : QT) (n : Int) (w : World) (hr : RdT2 w w.heap.size p.A p.st) (hl : p.st.length ≤ maxLen) : Calls Tryd.prog 70 #[valQ p, .int .i64 n] w (Ret (.int .i64 (centsP p.st n)) w) := by
  have HR := Lib.hid hr; clear hr
  have hlm : (p.st.length : Int) ≤ 9223372036854775807 := by unfold maxLen at hl; omega
  clear hl
  obtain ⟨w0, hw0⟩ : ∃ w0, w.alloc (.cells #[.string p.m, .int .i64 p.d, .slice p.A p.st.length p.cp] 54) = w0 := ⟨_, rfl⟩
  have hB0 : Below w.heap.size w w0 := by rw [← hw0]; (repeat (first | exact Below.refl _ _ | assumption | refine Below.alloc ?_ (by first | exact Nat.le_refl _ | exact Below.size (by assumption) | omega | (simp <;> omega)) _ | refine Below.setCell ?_ (by first | exact Nat.le_refl _ | exact Below.size (by assumption) | omega | (simp <;> omega)) _ | refine below_drewN ?_ _ | refine Below.drew ?_))
  have k2 : w0.cell? ⟨w.heap.size, 2, none⟩ = some (.slice p.A p.st.length p.cp) := by rw [← hw0]; simp
  go_enter Tryd.func70, Tryd.ntmps70
  go_wp2
  clear hw0 k2
  go_loopw [5, 7, 11] (fun c _ i wr => ∃ k : Nat, k ≤ p.st.length ∧ i = .int .i64 k ∧ c = .int .i64 (centsP (p.st.take k) n) ∧ Below w.heap.size w wr) (fun _ _ i _ => p.st.length - (intOf i).toNat)
  case atStart => exact ⟨0, Nat.zero_le _, rfl, rfl, hB0⟩
  case round =>
    obtain ⟨k, hk, rfl, rfl, hB⟩ := hrel
    have hsB := hB.size
    by_cases hlt : k < p.st.length
    · obtain ⟨s, hs⟩ := getElem?_of_lt hlt
      obtain ⟨b, off, hA, hb, d0, d1⟩ := (HR.out.now hB) k s hs
      have HSN := Lib.hid (cents_snoc hs n)
      clear hs
      rw [hA]
      by_cases hn : s.n ≤ n
      · have HE : Hid (centsP (p.st.take (k + 1)) n = s.c) := HSN.out.trans (if_pos hn)
        go_wp2
        go_roundw
        case rel => exact ⟨k + 1, by omega, by go_num, by rw [HE.out], by (repeat (first | exact Below.refl _ _ | assumption | refine Below.alloc ?_ (by first | exact Nat.le_refl _ | exact Below.size (by assumption) | omega | (simp <;> omega)) _ | refine Below.setCell ?_ (by first | exact Nat.le_refl _ | exact Below.size (by assumption) | omega | (simp <;> omega)) _ | refine below_drewN ?_ _ | refine Below.drew ?_))⟩
        case measure => simp [intOf]; omega
      · have HE : Hid (centsP (p.st.take (k + 1)) n = centsP (p.st.take k) n) := HSN.out.trans (if_neg hn)
        go_wp2
        go_roundw
        case rel => exact ⟨k + 1, by omega, by go_num, by rw [HE.out], by (repeat (first | exact Below.refl _ _ | assumption | refine Below.alloc ?_ (by first | exact Nat.le_refl _ | exact Below.size (by assumption) | omega | (simp <;> omega)) _ | refine Below.setCell ?_ (by first | exact Nat.le_refl _ | exact Below.size (by assumption) | omega | (simp <;> omega)) _ | refine below_drewN ?_ _ | refine Below.drew ?_))⟩
        case measure => simp [intOf]; omega
    · obtain rfl : k = p.st.length := by omega
      rw [List.take_length]
      go_wp2
      go_ret
      exact Ret.mk rfl hB
set_option maxRecDepth 100000 in
set_option maxHeartbeats 1000000 in
theorem cents_any (p : QT) (n : Int) (w : World) (hr : RdT2 w w.heap.size p.A p.st) (hl : p.st.length ≤ maxLen) : Calls Tryd.prog 72 #[valQ p, .int .i64 n] w (Ret (.int .i64 (centsP p.st n)) w) := by
  have HR := Lib.hid hr; clear hr
  have hlm : (p.st.length : Int) ≤ 9223372036854775807 := by unfold maxLen at hl; omega
  clear hl
  obtain ⟨w0, hw0⟩ : ∃ w0, w.alloc (.cells #[.string p.m, .int .i64 p.d, .slice p.A p.st.length p.cp] 54) = w0 := ⟨_, rfl⟩
  have hB0 : Below w.heap.size w w0 := by rw [← hw0]; (repeat (first | exact Below.refl _ _ | assumption | refine Below.alloc ?_ (by first | exact Nat.le_refl _ | exact Below.size (by assumption) | omega | (simp <;> omega)) _ | refine Below.setCell ?_ (by first | exact Nat.le_refl _ | exact Below.size (by assumption) | omega | (simp <;> omega)) _ | refine below_drewN ?_ _ | refine Below.drew ?_))
  have k2 : w0.cell? ⟨w.heap.size, 2, none⟩ = some (.slice p.A p.st.length p.cp) := by rw [← hw0]; simp
  go_enter Tryd.func72, Tryd.ntmps72
  go_wp2
  clear hw0
  go_loopw [5, 6] (fun c i wr => ∃ k : Nat, k ≤ p.st.length ∧ i = .int .i64 k ∧ c = .int .i64 (centsP (p.st.take k) n) ∧ wr = w0) (fun _ i _ => p.st.length - (intOf i).toNat)
  case atStart => exact ⟨0, Nat.zero_le _, rfl, rfl, rfl⟩
  case round =>
    obtain ⟨k, hk, rfl, rfl, rfl⟩ := hrel
    by_cases hlt : k < p.st.length
    · obtain ⟨s, hs⟩ := getElem?_of_lt hlt
      obtain ⟨b, off, hA, hb, d0, d1⟩ := (HR.out.now hB0) k s hs
      have HSN := Lib.hid (cents_snoc hs n)
      clear hs
      rw [hA] at k2; clear hA
      by_cases hn : s.n ≤ n
      · have HE : Hid (centsP (p.st.take (k + 1)) n = s.c) := HSN.out.trans (if_pos hn)
        go_wp2
        go_roundw
        case rel => exact ⟨k + 1, by omega, by go_num, by rw [HE.out], trivial⟩
        case measure => simp [intOf]; omega
      · have HE : Hid (centsP (p.st.take (k + 1)) n = centsP (p.st.take k) n) := HSN.out.trans (if_neg hn)
        go_wp2
        go_roundw
        case rel => exact ⟨k + 1, by omega, by go_num, by rw [HE.out], trivial⟩
        case measure => simp [intOf]; omega
    · obtain rfl : k = p.st.length := by omega
      rw [List.take_length]
      go_wp2
      go_ret
      exact Ret.mk rfl hB0
end Go.Proofs.YthccpdefgjneiaaDoor

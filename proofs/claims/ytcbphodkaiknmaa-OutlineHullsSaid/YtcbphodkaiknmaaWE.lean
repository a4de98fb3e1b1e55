/- Turned, Moved, in the reference: the walks. slices.Reverse at a list of corners that the caller's callee made itself: the walk. mapped, turning round, and Mirror, in the program: the walks. -/
import Derived.Test.YtcbphodkaiknmaaWD
import Derived.BigRegion
namespace Go.Proofs.Ytcbphodkaiknmaa
open Go.RowKit

/-- No corner of the first k is out of range. -/
theorem ranged_take_succ {l : List XY} {k : Nat} {q : XY} (h : l[k]? = some q) (h1 : (l.take k).all rangedB = true) (h2 : rangedB q = true) : (l.take (k + 1)).all rangedB = true := by
  rw [take_succ_of h, List.all_append, h1]; simp [h2]

def moved2S (l : List XY) (dx dy : Int) : List XY × Int :=
  if !validRB l then ([], 10) else if offM dx dy then ([], 2) else if !(l.map (fShift dx dy)).all rangedB then ([], 2) else (turnL (l.map (fShift dx dy)), 0)

end Go.Proofs.Ytcbphodkaiknmaa

namespace Go.Proofs.Ytcbphodkaiknmaa
open Go.RowKit

theorem flat_setx {l : List XY} {i : Nat} {p : XY} (q : XY) (h : l[i]? = some p) : ((flat l).set (i * 2) (.int .i64 q.X)).set (i * 2 + 1) (.int .i64 q.Y) = flat (l.set i q) := by
  induction l generalizing i with
  | nil => simp at h
  | cons a l ih =>
    cases i with
    | zero => rfl
    | succ i =>
      rw [flat_cons, show (i + 1) * 2 + 1 = i * 2 + 1 + 1 + 1 by omega, show (i + 1) * 2 = i * 2 + 1 + 1 by omega, List.set_cons_succ, List.set_cons_succ, List.set_cons_succ, List.set_cons_succ, ih (by simpa using h), List.set_cons_succ, flat_cons]

/-- The exchange of two corners, and the list behind k of them. -/
def swap (l : List XY) (i j : Nat) : List XY := (l.set i (cy l j)).set j (cy l i)
/-- The list whose first k corners, and its last k, are exchanged. -/
def revTo (l : List XY) (k : Nat) : List XY := (List.range l.length).map fun i => if i < k ∨ l.length ≤ i + k then cy l (l.length - 1 - i) else cy l i
theorem revTo_length (l : List XY) (k : Nat) : (revTo l k).length = l.length := by simp [revTo]
theorem revTo_get {l : List XY} {k i : Nat} (hi : i < l.length) : (revTo l k)[i]? = some (if i < k ∨ l.length ≤ i + k then cy l (l.length - 1 - i) else cy l i) := by
  unfold revTo; simp [hi]
theorem revTo_zero (l : List XY) : revTo l 0 = l := by
  apply List.ext_getElem?
  intro i
  rcases Nat.lt_or_ge i l.length with h | h
  · rw [revTo_get h, if_neg (by omega)]
    unfold cy
    rw [Nat.mod_eq_of_lt h, List.getElem?_eq_getElem h]; rfl
  · rw [List.getElem?_eq_none (by rw [revTo_length]; exact h), List.getElem?_eq_none h]
theorem revTo_done {l : List XY} {k : Nat} (hk : l.length ≤ 2 * k + 1) : revTo l k = l.reverse := by
  apply List.ext_getElem?
  intro i
  rcases Nat.lt_or_ge i l.length with h | h
  · rw [revTo_get h, List.getElem?_reverse h]
    have e : cy l (l.length - 1 - i) = l[l.length - 1 - i] := by
      unfold cy; rw [Nat.mod_eq_of_lt (by omega), List.getElem?_eq_getElem (by omega)]; rfl
    rw [List.getElem?_eq_getElem (by omega)]
    by_cases hc : i < k ∨ l.length ≤ i + k
    · rw [if_pos hc, e]
    · rw [if_neg hc]
      have : l.length - 1 - i = i := by omega
      have e2 : cy l i = l[i] := by unfold cy; rw [Nat.mod_eq_of_lt h, List.getElem?_eq_getElem h]; rfl
      rw [e2]
      congr 2
      omega
  · rw [List.getElem?_eq_none (by rw [revTo_length]; exact h), List.getElem?_eq_none (by simpa using h)]
theorem revTo_step {l : List XY} {k : Nat} (hk : 2 * k + 1 < l.length) : ((revTo l k).set k (cy l (l.length - 1 - k))).set (l.length - 1 - k) (cy l k) = revTo l (k + 1) := by
  apply List.ext_getElem?
  intro i
  rcases Nat.lt_or_ge i l.length with h | h
  · rw [revTo_get h, List.getElem?_set, List.getElem?_set]
    simp only [List.length_set, revTo_length]
    by_cases h1 : l.length - 1 - k = i
    · rw [if_pos h1, if_pos (by omega), if_pos (by omega)]
      congr 2
      omega
    · rw [if_neg h1]
      by_cases h2 : k = i
      · rw [if_pos h2, if_pos (by omega), if_pos (by omega), h2]
      · rw [if_neg h2, revTo_get h]
        by_cases hc : i < k ∨ l.length ≤ i + k
        · rw [if_pos hc, if_pos (by omega)]
        · rw [if_neg hc, if_neg (by omega)]
  · rw [List.getElem?_eq_none (by simp [revTo_length]; exact h), List.getElem?_eq_none (by rw [revTo_length]; exact h)]

theorem grown_same {w w1 w' : World} {row : Option Nat} (h : w.grownBy w1 row) (k : w1.grownBy w' row) : w.grownBy w' row :=
  ⟨k.os.trans h.os, k.tape.trans h.tape, k.output.trans h.output, Nat.le_trans h.size k.size, fun j hj hne => (k.block j (Nat.lt_of_lt_of_le hj h.size) hne).trans (h.block j hj hne)⟩
theorem grown_drew {w w' : World} {row : Option Nat} (h : w.grownBy w' row) : w.grownBy w'.drew row := ⟨h.os, h.tape, h.output, h.size, h.block⟩

/-- Two corners of a row are exchanged. -/
theorem own_swap {w : World} {B g n c i j : Nat} {l : List XY} {p q : XY} (h : w.ownsRow B 29 2 (.slice (some ⟨g, 0, none⟩) n c) n (flat l)) (hi : l[i]? = some p) (hj : l[j]? = some q) (hne : i ≠ j) :
    ((((w.setCell ⟨g, i * 2, none⟩ (.int .i64 q.X)).setCell ⟨g, i * 2 + 1, none⟩ (.int .i64 q.Y)).setCell ⟨g, j * 2, none⟩ (.int .i64 p.X)).setCell ⟨g, j * 2 + 1, none⟩ (.int .i64 p.Y)).ownsRow B 29 2 (.slice (some ⟨g, 0, none⟩) n c) n (flat ((l.set i q).set j p)) ∧
    w.grownBy ((((w.setCell ⟨g, i * 2, none⟩ (.int .i64 q.X)).setCell ⟨g, i * 2 + 1, none⟩ (.int .i64 q.Y)).setCell ⟨g, j * 2, none⟩ (.int .i64 p.X)).setCell ⟨g, j * 2 + 1, none⟩ (.int .i64 p.Y)) (some g) := by
  have s1 := h.stored (i * 2) (.int .i64 q.X)
  have s2 := s1.1.stored (i * 2 + 1) (.int .i64 q.Y)
  have s3 := s2.1.stored (j * 2) (.int .i64 p.X)
  have s4 := s3.1.stored (j * 2 + 1) (.int .i64 p.Y)
  refine ⟨?_, grown_same (grown_same (grown_same s1.2 s2.2) s3.2) s4.2⟩
  have hj2 : (l.set i q)[j]? = some q := by rw [List.getElem?_set_ne hne]; exact hj
  rw [← flat_setx p hj2, ← flat_setx q hi]
  exact s4.1

set_option maxRecDepth 100000 in
set_option maxHeartbeats 1000000 in
theorem reverse_any (g c : Nat) (l : List XY) (w : World) (B : Nat) (h0 : 0 < l.length) (hm : l.length ≤ 1000000) (hown : OwnL w B (.slice (some ⟨g, 0, none⟩) l.length c) l) :
    Calls Try.prog 17 #[.slice (some ⟨g, 0, none⟩) l.length c] w fun e w' => (∃ v, e = .returned v) ∧ OwnL w' B (.slice (some ⟨g, 0, none⟩) l.length c) l.reverse ∧ w.grownBy w' (some g) := by
  have HO := Lib.hid hown; clear hown
  have hmx : Try.prog.follows .mixedOrders = true := by kernel_rfl
  go_enter Try.func17, Try.ntmps17
  go_wp2
  go_loopw [2, 3] (fun i j wr => ∃ k : Nat, 2 * k ≤ l.length ∧ i = .int .i64 k ∧ j = .int .i64 ((l.length : Int) - 1 - (k : Int)) ∧ wr.ownsRow B 29 2 (.slice (some ⟨g, 0, none⟩) l.length c) l.length (flat (revTo l k)) ∧ w.grownBy wr (some g)) (fun i _ _ => l.length - (intOf i).toNat)
  case atStart => exact ⟨0, by omega, rfl, by go_num, by rw [revTo_zero]; exact HO.out, ⟨rfl, rfl, rfl, Nat.le_refl _, fun _ _ _ => rfl⟩⟩
  case round =>
    obtain ⟨k, hk, rfl, rfl, hown, hgr⟩ := hrel
    by_cases hlt : 2 * k + 1 < l.length
    · have ek : (revTo l k)[k]? = some (cy l k) := by rw [revTo_get (by omega), if_neg (by omega)]
      have ej : (revTo l k)[l.length - 1 - k]? = some (cy l (l.length - 1 - k)) := by rw [revTo_get (by omega), if_neg (by omega)]
      have hst := revTo_step hlt
      obtain ⟨n, hn⟩ : ∃ n, l.length - 1 - k = n := ⟨_, rfl⟩
      rw [hn] at ej hst
      have hnI : (l.length : Int) - 1 - (k : Int) = (n : Int) := by omega
      have c1 := (hown.cellAt (k * 2) (by omega)).trans (flat_x ek)
      have c2 := (hown.cellAt (k * 2 + 1) (by omega)).trans (flat_y ek)
      have c3 := (hown.cellAt (n * 2) (by omega)).trans (flat_x ej)
      have c4 := (hown.cellAt (n * 2 + 1) (by omega)).trans (flat_y ej)
      have f1 := hown.frozenAt (k * 2)
      have f2 := hown.frozenAt (k * 2 + 1)
      have f3 := hown.frozenAt (n * 2)
      have f4 := hown.frozenAt (n * 2 + 1)
      have hkn : k ≠ n := by omega
      have hkl : k < l.length := by omega
      have hnl : n < l.length := by omega
      generalize cy l k = p at ek c1 c2 hst
      generalize cy l n = q at ej c3 c4 hst
      have HEK := Lib.hid ek; clear ek
      have HEJ := Lib.hid ej; clear ej
      have HST := Lib.hid hst; clear hst
      have HOW := Lib.hid hown; clear hown
      have hltI : (k : Int) < (n : Int) := by omega
      rw [hnI]
      have HNI := Lib.hid hnI; clear hnI
      have HNN := Lib.hid hn; clear hn
      go_wp2
      go_region
      have hsw := own_swap HOW.out HEK.out HEJ.out hkn
      rw [HST.out] at hsw
      obtain ⟨wz, hwz⟩ : ∃ wz, ((((wr.setCell ⟨g, k * 2, none⟩ (.int .i64 q.X)).setCell ⟨g, k * 2 + 1, none⟩ (.int .i64 q.Y)).setCell ⟨g, n * 2, none⟩ (.int .i64 p.X)).setCell ⟨g, n * 2 + 1, none⟩ (.int .i64 p.Y)) = wz := ⟨_, rfl⟩
      rw [hwz] at hsw ⊢
      have HSW := Lib.hid hsw; clear hsw
      clear hwz c1 c2 c3 c4 f1 f2 f3 f4
      go_wp2
      go_roundw
      case rel =>
        have e1 := HNN.out
        exact ⟨k + 1, by omega, by go_num, by congr 1; omega, HSW.out.1.drew, grown_same hgr (grown_drew HSW.out.2)⟩
      case measure => simp [intOf]; omega
    · have hge : ¬ (k : Int) < (l.length : Int) - 1 - (k : Int) := by omega
      go_wp2
      go_end0
      refine ⟨⟨_, rfl⟩, ?_, hgr⟩
      have e := hown
      rw [revTo_done (by omega)] at e
      unfold OwnL
      rw [List.length_reverse]
      exact e
end Go.Proofs.Ytcbphodkaiknmaa

namespace Go.Proofs.Ytcbphodkaiknmaa
open Go.RowKit

theorem own_form {w : World} {B : Nat} {v : Value} {l : List XY} (h : OwnL w B v l) (h0 : 0 < l.length) : ∃ g c, v = .slice (some ⟨g, 0, none⟩) l.length c ∧ B ≤ g := by
  rcases h.2 with ⟨_, hn⟩ | ⟨g, cap, cur, hv, hB, _⟩
  · omega
  · exact ⟨g, cap, hv, hB⟩
theorem rev_bd {l : List XY} (h0 : 0 < l.length) (hb : ∀ j, Bd 100000 (cy l j)) (j : Nat) : Bd 100000 (cy l.reverse j) := by
  have hj := Nat.mod_lt j h0
  have e : cy l.reverse j = cy l (l.length - 1 - j % l.length) := by
    unfold cy
    rw [List.length_reverse, List.getElem?_reverse hj, Nat.mod_eq_of_lt (show l.length - 1 - j % l.length < l.length by omega)]
  rw [e]; exact hb _
def mirrorS (va : List XY → Bool) (can : List XY → List XY) (l : List XY) : List XY × Int := if va l then (can (l.map fMir).reverse, 0) else ([], 10)

end Go.Proofs.Ytcbphodkaiknmaa

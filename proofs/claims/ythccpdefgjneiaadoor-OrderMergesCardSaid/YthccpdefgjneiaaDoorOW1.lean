/- Orders: numbers, lists of numbers, between, amount, day, floor, halfUp of both: the walks. -/
import Derived.Test.YthccpdefgjneiaaDoorBaseM
import Derived.Test.YthccpdefgjneiaaDoorMathA
import Derived.Laws.OwnMore
import Derived.OwnWalk
import Derived.BigRegion
namespace Go.Proofs.YthccpdefgjneiaaDoor
open Go.RowKit Go.Shelf

def bet (lo n hi : Int) : Bool := decide (lo ≤ n) && decide (n ≤ hi)
theorem bet_iff {lo n hi : Int} : bet lo n hi = true ↔ lo ≤ n ∧ n ≤ hi := by unfold bet; simp
theorem bet_false {lo n hi : Int} : bet lo n hi = false ↔ ¬ (lo ≤ n ∧ n ≤ hi) := by rw [← bet_iff]; simp
abbrev amt (n : Int) : Bool := bet (-1099511627776) n 1099511627776
abbrev dayB (n : Int) : Bool := bet 0 n 100000
/-- The call returns v, and the world is as it was. -/
def RetE (v : Value) (w : World) (e : Ending) (w' : World) : Prop := e = .returned v ∧ w' = w
def flW (a b : Int) : Int := if a.tmod b < 0 then wrap64 (a.tdiv b - 1) else a.tdiv b
theorem fl_eq {a b : Int} (hb : 0 < b) (h1 : -9223372036854775808 ≤ a) (h2 : a ≤ 9223372036854775807) : flW a b = a / b := by
  unfold flW
  have hd := Int.mul_tdiv_add_tmod a b
  have he := Int.mul_ediv_add_emod a b
  have hm0 := Int.emod_nonneg a (by omega : b ≠ 0)
  have hm1 := Int.emod_lt_of_pos a hb
  have t1 := Int.tmod_lt_of_pos a hb
  have t0 : -b < a.tmod b := by
    have := Int.tmod_lt_of_pos (-a) hb
    rw [Int.neg_tmod] at this
    omega
  have hq : ∀ q : Int, b * q ≤ b * (a / b) + (b - 1) → q ≤ a / b := fun q h => by
    apply Int.le_of_lt_add_one
    refine Int.lt_of_mul_lt_mul_left (a := b) ?_ (by omega)
    have : b * (a / b + 1) = b * (a / b) + b := by grind
    omega
  by_cases h : a.tmod b < 0
  · rw [if_pos h]
    have e : a.tdiv b - 1 = a / b := by
      have m : b * (a.tdiv b - 1) = b * a.tdiv b - b := by grind
      have u1 := hq (a.tdiv b - 1) (by omega)
      have u2 : a / b ≤ a.tdiv b - 1 := by
        apply Int.le_of_lt_add_one
        refine Int.lt_of_mul_lt_mul_left (a := b) ?_ (by omega)
        have : b * (a.tdiv b - 1 + 1) = b * a.tdiv b := by grind
        omega
      omega
    rw [e]
    have l1 : -9223372036854775808 ≤ a / b := by
      have := hq (-9223372036854775808) (by
        have : b * (-9223372036854775808 : Int) ≤ 1 * (-9223372036854775808) := Int.mul_le_mul_of_nonpos_right (by omega) (by omega)
        omega)
      exact this
    have l2 : a / b ≤ 9223372036854775807 := by
      rcases Int.le_total 0 a with h0 | h0
      · have := Int.ediv_le_self b h0; omega
      · have : a / b ≤ 0 := by
          apply Int.le_of_lt_add_one
          refine Int.lt_of_mul_lt_mul_left (a := b) ?_ (by omega)
          omega
        omega
    exact w64_id l1 l2
  · rw [if_neg h]
    have u1 := hq (a.tdiv b) (by omega)
    have u2 : a / b ≤ a.tdiv b := by
      apply Int.le_of_lt_add_one
      refine Int.lt_of_mul_lt_mul_left (a := b) ?_ (by omega)
      have : b * (a.tdiv b + 1) = b * a.tdiv b + b := by grind
      omega
    omega

def RdI (w : World) (B : Nat) (A : Option Addr) (l : List Int) : Prop := ∀ i v, l[i]? = some v → ∃ b off, A = some ⟨b, off, none⟩ ∧ b < B ∧ w.cell? ⟨b, off + i, none⟩ = some (.int .i64 v)
theorem RdI.now {w w' : World} {A : Option Addr} {l : List Int} (h : RdI w w.heap.size A l) (hb : Below w.heap.size w w') : RdI w' w'.heap.size A l := by
  intro i v hi
  obtain ⟨b, off, hA, hbb, hc⟩ := h i v hi
  exact ⟨b, off, hA, Nat.lt_of_lt_of_le hbb hb.size, (hb.cell (p := ⟨b, off + i, none⟩) hbb).trans hc⟩
theorem RdI.below {w w' : World} {B : Nat} {A : Option Addr} {l : List Int} (h : RdI w B A l) (hb : Below B w w') : RdI w' B A l := by
  intro i v hi
  obtain ⟨b, off, hA, hbb, hc⟩ := h i v hi
  exact ⟨b, off, hA, hbb, (hb.cell (p := ⟨b, off + i, none⟩) hbb).trans hc⟩
abbrev vI (l : List Int) : List Value := l.map (Value.int .i64)
abbrev OwnI (w : World) (B : Nat) (v : Value) (l : List Int) : Prop := w.ownsRow B 3 1 v l.length (vI l)
theorem Tryd.infoI : (Tryd.prog.info? 3).map (fun i => (i.zero, i.size, i.bytes)) = some (some (.int .i64 0), 1, 8) := by kernel_rfl
theorem info_partsI {i : Option TypeInfo} (h : i.map (fun i => (i.zero, i.size, i.bytes)) = some (some (.int .i64 0), 1, 8)) : ∃ i0, i = some i0 ∧ i0.zero = some (.int .i64 0) ∧ i0.size = 1 ∧ i0.bytes = 8 := by
  cases i with
  | none => simp at h
  | some i0 => simp at h; exact ⟨i0, rfl, h.1, h.2.1, h.2.2⟩
theorem own_rdI {w : World} {B : Nat} {v : Value} {l : List Int} (h : OwnI w B v l) : ∃ A c, v = .slice A l.length c ∧ RdI w w.heap.size A l ∧ l.length ≤ c := by
  rcases h.2 with ⟨rfl, hn⟩ | ⟨g, cap, cur, rfl, hB, hg, h1, h2, h3, h4⟩
  · obtain rfl : l = [] := List.length_eq_zero_iff.1 hn
    exact ⟨none, 0, rfl, fun i p hp => by simp at hp, Nat.le_refl _⟩
  · refine ⟨some ⟨g, 0, none⟩, cap, rfl, fun i p hp => ?_, h1⟩
    have c0 := h.cells (g := g) rfl i (.int .i64 p) (by simp [vI, hp])
    rw [add_none] at c0
    exact ⟨g, 0, rfl, (Array.getElem?_eq_some_iff.1 hg).1, c0⟩
theorem ownI_snoc {w : World} {B : Nat} {v : Value} {R R' : List Int} {p : Int} (h : w.ownsRow B 3 1 v (R.length + 1) (vI R ++ [.int .i64 p])) (e : R' = R ++ [p]) : OwnI w B v R' := by
  subst e
  show w.ownsRow B 3 1 v (R ++ [p]).length (vI (R ++ [p]))
  unfold vI
  rw [List.map_append, List.length_append]
  exact h
theorem own_belowI {w w' : World} {B : Nat} {v : Value} {l : List Int} (h : OwnI w B v l) (hb : Below w.heap.size w w') : OwnI w' B v l := by
  refine ⟨h.1, ?_⟩
  rcases h.2 with hn | ⟨g, cap, cur, rfl, hg, hgg, rest⟩
  · exact .inl hn
  · exact .inr ⟨g, cap, cur, rfl, hg, (hb.block g (Array.getElem?_eq_some_iff.1 hgg).1).trans hgg, rest⟩
/-- The call returns a list of numbers, and what vs says. -/
def RetL (l : List Int) (vs : List Value) (w : World) (e : Ending) (w' : World) : Prop := ∃ A c, e = .returned (.tuple (#[.slice A l.length c] ++ vs.toArray)) ∧ RdI w' w'.heap.size A l ∧ l.length ≤ c ∧ Below w.heap.size w w'

theorem bet_any (a n b : Int) (w : World) : Calls Tryd.prog 53 #[.int .i64 a, .int .i64 n, .int .i64 b] w (RetE (.bool (bet a n b)) w) := by
  go_enter Tryd.func53, Tryd.ntmps53
  go_wp2
  all_goals
    go_ret
    exact ⟨by simp [bet]; omega, rfl⟩
theorem amount_any (n : Int) (w : World) : Calls Tryd.prog 44 #[.int .i64 n] w (RetE (.bool (amt n)) w) := by
  go_enter Tryd.func44, Tryd.ntmps44
  go_wp2_with fail
  refine (bet_any _ n _ _).mono ?_
  rintro e w2 ⟨rfl, rfl⟩
  go_wp2
  go_ret
  exact ⟨rfl, rfl⟩
theorem day_any (n : Int) (w : World) : Calls Tryd.prog 43 #[.int .i64 n] w (RetE (.bool (dayB n)) w) := by
  go_enter Tryd.func43, Tryd.ntmps43
  go_wp2_with fail
  refine (bet_any _ n _ _).mono ?_
  rintro e w2 ⟨rfl, rfl⟩
  go_wp2
  go_ret
  exact ⟨rfl, rfl⟩
theorem isAmount_any (n : Int) (w : World) : Calls Tryd.prog 50 #[.int .i64 n] w (RetE (.bool (amt n)) w) := by
  go_enter Tryd.func50, Tryd.ntmps50
  go_wp2
  all_goals
    go_ret
    exact ⟨by simp [bet]; omega, rfl⟩
theorem isDay_any (n : Int) (w : World) : Calls Tryd.prog 49 #[.int .i64 n] w (RetE (.bool (dayB n)) w) := by
  go_enter Tryd.func49, Tryd.ntmps49
  go_wp2
  all_goals
    go_ret
    exact ⟨by simp [bet]; omega, rfl⟩
theorem floor_any (a b : Int) (w : World) (hb : 0 < b) (h1 : -9223372036854775808 ≤ a) (h2 : a ≤ 9223372036854775807) : Calls Tryd.prog 54 #[.int .i64 a, .int .i64 b] w (RetE (.int .i64 (a / b)) w) := by
  have hne : ¬ b = 0 := by omega
  have hf := fl_eq hb h1 h2
  have HF := Lib.hid hf; clear hf
  go_enter Tryd.func54, Tryd.ntmps54
  go_wp2
  all_goals
    go_ret
    exact ⟨by rw [← HF.out]; unfold flW; first | (rw [if_pos (by assumption)] <;> rfl) | (rw [if_neg (by omega)] <;> rfl), rfl⟩
theorem below_any (a b : Int) (w : World) (hb : 0 < b) (h1 : -9223372036854775808 ≤ a) (h2 : a ≤ 9223372036854775807) : Calls Tryd.prog 55 #[.int .i64 a, .int .i64 b] w (RetE (.int .i64 (a / b)) w) := by
  have hne : ¬ b = 0 := by omega
  have hf := fl_eq hb h1 h2
  have HF := Lib.hid hf; clear hf
  go_enter Tryd.func55, Tryd.ntmps55
  go_wp2
  all_goals
    go_ret
    exact ⟨by rw [← HF.out]; unfold flW; first | (rw [if_pos (by assumption)] <;> rfl) | (rw [if_neg (by omega)] <;> rfl), rfl⟩
def hup (a b : Int) : Int := (2 * a + b) / (2 * b)
theorem hup_any (a b : Int) (w : World) (hb : 0 < b) (hb2 : b ≤ 1000000) (h1 : -2000000000000000000 ≤ a) (h2 : a ≤ 2000000000000000000) : Calls Tryd.prog 47 #[.int .i64 a, .int .i64 b] w (RetE (.int .i64 (hup a b)) w) := by
  have e1 : wrap64 (2 * a) = 2 * a := w64_id (by omega) (by omega)
  have e2 : wrap64 (2 * a + b) = 2 * a + b := w64_id (by omega) (by omega)
  have e3 : wrap64 (2 * b) = 2 * b := w64_id (by omega) (by omega)
  go_enter Tryd.func47, Tryd.ntmps47
  go_wp2_with fail
  refine (floor_any (2 * a + b) (2 * b) _ (by omega) (by omega) (by omega)).mono ?_
  rintro e w2 ⟨rfl, rfl⟩
  go_wp2
  go_ret
  exact ⟨rfl, rfl⟩
theorem hup_ref {a m b : Int} (hb : 0 < b) : a / b * m + (2 * (a - a / b * b) * m + b) / (2 * b) = hup (a * m) b := by
  unfold hup
  have e : 2 * (a * m) + b = (2 * (a - a / b * b) * m + b) + (a / b * m) * (2 * b) := by grind
  rw [e, Int.add_mul_ediv_right _ _ (by omega)]
  omega
theorem hupRef_any (a m b : Int) (w : World) (hb : 0 < b) (hb2 : b ≤ 1000000) (hm : 0 ≤ m) (hm2 : m ≤ 1000000) (h1 : -1099511627776 ≤ a) (h2 : a ≤ 1099511627776) : Calls Tryd.prog 52 #[.int .i64 a, .int .i64 m, .int .i64 b] w (RetE (.int .i64 (hup (a * m) b)) w) := by
  obtain ⟨q, hq⟩ : ∃ q, a / b = q := ⟨_, rfl⟩
  have hd := Int.mul_ediv_add_emod a b
  have hm0 := Int.emod_nonneg a (by omega : b ≠ 0)
  have hm1 := Int.emod_lt_of_pos a hb
  have hr := hup_ref (a := a) (m := m) hb
  rw [hq] at hd hr
  have hqb : -1099511627776 ≤ q ∧ q ≤ 1099511627776 := by
    have h3 : q = a / b := hq.symm
    constructor
    · rw [h3]; exact (Int.le_ediv_iff_mul_le hb).2 (by have : (-1099511627776 : Int) * b ≤ -1099511627776 * 1 := Int.mul_le_mul_of_nonpos_left (by omega) (by omega); omega)
    · rcases Int.le_total 0 a with h0 | h0
      · rw [h3]; have := Int.ediv_le_self b h0; omega
      · rw [h3]; have : a / b < 1 := Int.ediv_lt_of_lt_mul hb (by omega); omega
  obtain ⟨r, hrr⟩ : ∃ r, a - q * b = r := ⟨_, rfl⟩
  have hqb2 : b * q = q * b := Int.mul_comm _ _
  have hrb : 0 ≤ r ∧ r < b := by omega
  rw [hrr] at hr
  have m1 := mul_bd (a := q) (b := m) (A := 1099511627776) (B := 1000000) (by omega) (by omega) (by omega) (by omega)
  have m2 := mul_bd (a := r) (b := m) (A := 1000000) (B := 1000000) (by omega) (by omega) (by omega) (by omega)
  have m3 : 2 * r * m = 2 * (r * m) := by grind
  obtain ⟨x, hx⟩ : ∃ x, (2 * r * m + b) / (2 * b) = x := ⟨_, rfl⟩
  have hx2 : -2000000000001 ≤ x ∧ x ≤ 2000000000001 := by
    rw [← hx]
    constructor
    · exact (Int.le_ediv_iff_mul_le (by omega)).2 (by omega)
    · have : (2 * r * m + b) / (2 * b) < 2000000000002 := Int.ediv_lt_of_lt_mul (by omega) (by omega)
      omega
  rw [hx] at hr
  have e1 : wrap64 (q * b) = q * b := w64_id (by omega) (by omega)
  have e2 : wrap64 (a - q * b) = r := by rw [hrr]; exact w64_id (by omega) (by omega)
  have e3 : wrap64 (2 * r) = 2 * r := w64_id (by omega) (by omega)
  have e4 : wrap64 (2 * r * m) = 2 * r * m := w64_id (by omega) (by omega)
  have e5 : wrap64 (2 * r * m + b) = 2 * r * m + b := w64_id (by omega) (by omega)
  have e6 : wrap64 (2 * b) = 2 * b := w64_id (by omega) (by omega)
  have e7 : wrap64 (q * m) = q * m := w64_id (by omega) (by omega)
  have e8 : wrap64 (q * m + x) = q * m + x := w64_id (by omega) (by omega)
  have b1 : -9223372036854775808 ≤ 2 * r * m + b := by omega
  have b2 : 2 * r * m + b ≤ 9223372036854775807 := by omega
  have HR := Lib.hid hr; clear hr
  have HQ := Lib.hid hq; clear hq
  have HX := Lib.hid hx; clear hx hd hqb2 m3 hrr
  go_enter Tryd.func52, Tryd.ntmps52
  go_wp2_with fail
  refine (below_any a b _ hb (by omega) (by omega)).mono ?_
  rintro e w2 ⟨rfl, rfl⟩
  rw [HQ.out]
  go_wp2_with fail
  refine (below_any (2 * r * m + b) (2 * b) _ (by omega) b1 b2).mono ?_
  rintro e w2 ⟨rfl, rfl⟩
  rw [HX.out]
  go_wp2
  go_ret
  exact ⟨by rw [← HR.out] <;> rfl, rfl⟩
def discS (c m : Int) : Int × Int := if amt c && bet 0 m 1000 then (hup (c * (1000 - m)) 1000, 0) else (0, 2)
theorem disc_any (c m : Int) (w : World) : Calls Tryd.prog 20 #[.int .i64 c, .int .i64 m] w (RetE (.tuple #[.int .i64 (discS c m).1, .int .i64 (discS c m).2]) w) := by
  cases h1 : amt c
  · have H1 := Lib.hid h1; clear h1
    have HS : Hid (discS c m = (0, 2)) := by show discS c m = _; unfold discS; rw [H1.out]; rfl
    go_enter Tryd.func20, Tryd.ntmps20
    go_wp2_with fail
    refine (amount_any c _).mono ?_
    rintro e w2 ⟨rfl, rfl⟩
    rw [H1.out]
    go_wp2
    go_ret2
    exact ⟨by rw [HS.out] <;> rfl, rfl⟩
  cases h2 : bet 0 m 1000
  · have H1 := Lib.hid h1; clear h1
    have H2 := Lib.hid h2; clear h2
    have HS : Hid (discS c m = (0, 2)) := by show discS c m = _; unfold discS; rw [H1.out, H2.out]; rfl
    go_enter Tryd.func20, Tryd.ntmps20
    go_wp2_with fail
    refine (amount_any c _).mono ?_
    rintro e w2 ⟨rfl, rfl⟩
    rw [H1.out]
    go_wp2_with fail
    refine (bet_any 0 m 1000 _).mono ?_
    rintro e w2 ⟨rfl, rfl⟩
    rw [H2.out]
    go_wp2
    go_ret2
    exact ⟨by rw [HS.out] <;> rfl, rfl⟩
  have b1 := bet_iff.1 h1
  have b2 := bet_iff.1 h2
  have mm := mul_bd (a := c) (b := 1000 - m) (A := 1099511627776) (B := 1000) (by omega) (by omega) (by omega) (by omega)
  have e1 : wrap64 (1000 - m) = 1000 - m := w64_id (by omega) (by omega)
  obtain ⟨x, hx⟩ : ∃ x, c * (1000 - m) = x := ⟨_, rfl⟩
  rw [hx] at mm
  have e2 : wrap64 (c * (1000 - m)) = x := by rw [hx]; exact w64_id (by omega) (by omega)
  have H1 := Lib.hid h1; clear h1
  have H2 := Lib.hid h2; clear h2
  have HS : Hid (discS c m = (hup x 1000, 0)) := by show discS c m = _; unfold discS; rw [H1.out, H2.out, hx]; rfl
  clear hx
  go_enter Tryd.func20, Tryd.ntmps20
  go_wp2_with fail
  refine (amount_any c _).mono ?_
  rintro e w2 ⟨rfl, rfl⟩
  rw [H1.out]
  go_wp2_with fail
  refine (bet_any 0 m 1000 _).mono ?_
  rintro e w2 ⟨rfl, rfl⟩
  rw [H2.out]
  go_wp2_with fail
  refine (hup_any x 1000 _ (by omega) (by omega) (by omega) (by omega)).mono ?_
  rintro e w2 ⟨rfl, rfl⟩
  go_wp2
  go_ret2
  exact ⟨by rw [HS.out] <;> rfl, rfl⟩
theorem discRef_any (c m : Int) (w : World) : Calls Tryd.prog 21 #[.int .i64 c, .int .i64 m] w (RetE (.tuple #[.int .i64 (discS c m).1, .int .i64 (discS c m).2]) w) := by
  cases h1 : amt c
  · have H1 := Lib.hid h1; clear h1
    have HS : Hid (discS c m = (0, 2)) := by show discS c m = _; unfold discS; rw [H1.out]; rfl
    go_enter Tryd.func21, Tryd.ntmps21
    go_wp2_with fail
    refine (isAmount_any c _).mono ?_
    rintro e w2 ⟨rfl, rfl⟩
    rw [H1.out]
    go_wp2
    go_ret2
    exact ⟨by rw [HS.out] <;> rfl, rfl⟩
  cases h2 : bet 0 m 1000
  · have hb := bet_false.1 h2
    have H1 := Lib.hid h1; clear h1
    have H2 := Lib.hid h2; clear h2
    have HS : Hid (discS c m = (0, 2)) := by show discS c m = _; unfold discS; rw [H1.out, H2.out]; rfl
    go_enter Tryd.func21, Tryd.ntmps21
    go_wp2_with fail
    refine (isAmount_any c _).mono ?_
    rintro e w2 ⟨rfl, rfl⟩
    rw [H1.out]
    go_wp2_with fail
    all_goals first | (exfalso; omega) | skip
    all_goals
      go_ret2
      exact ⟨by rw [HS.out] <;> rfl, rfl⟩
  have b1 := bet_iff.1 h1
  have b2 := bet_iff.1 h2
  have e1 : wrap64 (1000 - m) = 1000 - m := w64_id (by omega) (by omega)
  have hn1 : ¬ m < 0 := by omega
  have hn2 : ¬ 1000 < m := by omega
  have H1 := Lib.hid h1; clear h1
  have H2 := Lib.hid h2; clear h2
  have HS : Hid (discS c m = (hup (c * (1000 - m)) 1000, 0)) := by show discS c m = _; unfold discS; rw [H1.out, H2.out]; rfl
  go_enter Tryd.func21, Tryd.ntmps21
  go_wp2_with fail
  refine (isAmount_any c _).mono ?_
  rintro e w2 ⟨rfl, rfl⟩
  rw [H1.out]
  go_wp2_with fail
  refine (hupRef_any c (1000 - m) 1000 _ (by omega) (by omega) (by omega) (by omega) (by omega) (by omega)).mono ?_
  rintro e w2 ⟨rfl, rfl⟩
  go_wp2
  go_ret2
  exact ⟨by rw [HS.out] <;> rfl, rfl⟩
end Go.Proofs.YthccpdefgjneiaaDoor

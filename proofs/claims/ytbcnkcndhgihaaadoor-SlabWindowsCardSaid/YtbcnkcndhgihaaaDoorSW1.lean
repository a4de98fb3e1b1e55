/- Blocks: deep, parts, between, fields, whole, fits of the program: the walks. -/
import Derived.Test.YtbcnkcndhgihaaaDoorMathBC
import Derived.Test.YtbcnkcndhgihaaaDoorRoundX
import Derived.Deep.DeepCutAuto
import Derived.BigRegion
namespace Go.Proofs.YtbcnkcndhgihaaaDoor
open Go.RowKit
set_option linter.unusedSimpArgs false

theorem any_take_succ {p : BT → Bool} {l : List BT} {k : Nat} {q : BT} (hn : ∀ x ∈ l.take k, p x = false) (hq : l[k]? = some q) (h : p q = false) : ∀ x ∈ l.take (k + 1), p x = false := by
  intro x hx
  have e : l.take (k + 1) = l.take k ++ [q] := by rw [List.take_add_one, hq]; rfl
  rw [e] at hx
  rcases List.mem_append.1 hx with h1 | h1
  · exact hn x h1
  · rw [List.mem_singleton.1 h1]; exact h
theorem any_take_all {p : BT → Bool} {l : List BT} {k : Nat} (hn : ∀ x ∈ l.take k, p x = false) (hk : ¬ k < l.length) : l.any p = false := by
  rw [List.take_of_length_le (by omega)] at hn
  rw [List.any_eq_false]
  intro x hx
  rw [hn x hx]; simp
theorem any_hit {p : BT → Bool} {l : List BT} {k : Nat} {q : BT} (hq : l[k]? = some q) (h : p q = true) : l.any p = true := List.any_eq_true.2 ⟨q, List.mem_of_getElem? hq, h⟩
set_option maxRecDepth 100000 in
set_option maxHeartbeats 1000000 in
theorem deep_any : ∀ (n : Nat) (z : Int) (b : BT) (w : World), z = (n : Int) → n ≤ 1000 → OkB w w.heap.size b → Calls Tryd.prog 81 #[valB b, .int .i64 z] w (Ret (.bool (deepS n b)) w)
  | 0, z, b, w, hz, _, hb => by
    subst hz
    go_enter Tryd.func81, Tryd.ntmps81
    go_wp2
    go_ret
    exact Ret.mk rfl (by (repeat (first | exact Below.refl _ _ | assumption | refine Below.alloc ?_ (by first | exact Nat.le_refl _ | exact Below.size (by assumption) | omega | (simp <;> omega)) _ | refine Below.setCell ?_ (by first | exact Nat.le_refl _ | exact Below.size (by assumption) | omega | (simp <;> omega)) _ | refine below_drewN ?_ _ | refine Below.drew ?_)))
  | n + 1, z, b, w, hz, hn, hb => by
    have ih := Lib.hid (deep_any n)
    have HB := Lib.hid hb; clear hb
    have HS : Hid (deepS (n + 1) b = b.ps.any (deepS n)) := rfl
    have hne : (z == 0) = false := by simp; omega
    have hz1 : 1 ≤ z := by omega
    have hz2 : z ≤ 1001 := by omega
    have HZ : Hid (z - 1 = (n : Int)) := show z - 1 = (n : Int) by omega
    have HNN := Lib.hid hn
    clear hz hn
    have hlen := HB.out.len
    have hlm : b.ps.length ≤ 9223372036854775807 := by unfold maxLen at hlen; omega
    clear hlen
    go_enter Tryd.func81, Tryd.ntmps81
    go_wp2
    go_loopw [6, 12] (fun _ i wr => ∃ k : Nat, k ≤ b.ps.length ∧ i = .int .i64 k ∧ (∀ x ∈ b.ps.take k, deepS n x = false) ∧ Below w.heap.size w wr) (fun _ i _ => b.ps.length - (intOf i).toNat)
    case atStart => exact ⟨0, Nat.zero_le _, rfl, by simp, by (repeat (first | exact Below.refl _ _ | assumption | refine Below.alloc ?_ (by first | exact Nat.le_refl _ | exact Below.size (by assumption) | omega | (simp <;> omega)) _ | refine Below.setCell ?_ (by first | exact Nat.le_refl _ | exact Below.size (by assumption) | omega | (simp <;> omega)) _ | refine below_drewN ?_ _ | refine Below.drew ?_))⟩
    case round =>
      obtain ⟨k, hk, rfl, hno, hB⟩ := hrel
      have HN := Lib.hid hno; clear hno
      by_cases hlt : k < b.ps.length
      · obtain ⟨q, hq⟩ := getElem?_of_lt hlt
        have hk1 := HB.out.now hB
        obtain ⟨bb, off, hA, hbb, c0, c1, c2, c3, c4, c5, c6⟩ := hk1.rd.at hq
        have HK := Lib.hid (hk1.kid (List.mem_of_getElem? hq)); clear hk1
        have HQ := Lib.hid hq; clear hq
        rw [hA]
        go_wp2_with fail
        refine (ih.out _ q _ HZ.out (by have := HNN.out; omega) (HK.out.now (by (repeat (first | exact Below.refl _ _ | assumption | refine Below.alloc ?_ (by first | exact Nat.le_refl _ | exact Below.size (by assumption) | omega | (simp <;> omega)) _ | refine Below.setCell ?_ (by first | exact Nat.le_refl _ | exact Below.size (by assumption) | omega | (simp <;> omega)) _ | refine below_drewN ?_ _ | refine Below.drew ?_))))).mono ?_
        rintro e w2 ⟨rfl, hb2⟩
        have hB2 : Below w.heap.size w w2 := (hB.alloc hB.size _).trans (hb2.mono (by have := hB.size; simp; omega))
        cases hd : deepS n q
        · go_wp2
          go_roundw
          case rel => exact ⟨k + 1, by omega, by go_num, any_take_succ HN.out HQ.out hd, hB2⟩
          case measure => simp [intOf]; omega
        · go_wp2
          go_ret
          exact Ret.mk (by rw [HS.out, any_hit HQ.out hd]; rfl) hB2
      · have hnd : Hid (deepS (n + 1) b = false) := by rw [HS.out]; exact any_take_all HN.out hlt
        go_wp2
        go_ret
        exact Ret.mk (by rw [hnd.out]; rfl) hB
theorem between_any (a n b : Int) (w : World) : Calls Tryd.prog 56 #[.int .i64 a, .int .i64 n, .int .i64 b] w fun e w' => e = .returned (.bool (btw a n b)) ∧ w' = w := by
  by_cases h1 : a ≤ n
  · go_enter Tryd.func56, Tryd.ntmps56
    go_wp2
    go_ret
    exact ⟨by simp [btw]; omega, rfl⟩
  · go_enter Tryd.func56, Tryd.ntmps56
    go_wp2
    go_ret
    exact ⟨by simp [btw]; omega, rfl⟩
theorem parts_any (o : Int) (w : World) : Calls Tryd.prog 93 #[.int .i64 o] w fun e w' => e = .returned (.int .i64 (partsS o)) ∧ w' = w := by
  have hd : o = 1 ∨ o = 2 ∨ o = 3 ∨ o = 4 ∨ o = 5 ∨ o = 6 ∨ (o ≠ 1 ∧ o ≠ 2 ∧ o ≠ 3 ∧ o ≠ 4 ∧ o ≠ 5 ∧ o ≠ 6) := by omega
  rcases hd with rfl | rfl | rfl | rfl | rfl | rfl | ⟨h1, h2, h3, h4, h5, h6⟩
  case inr.inr.inr.inr.inr.inr =>
    have HP : Hid (partsS o = -1) := by
      show partsS o = -1
      unfold partsS
      rw [if_neg h1, if_neg h2, if_neg (by omega)]
    have e1 : (o == 1) = false := by simpa using h1
    have e2 : (o == 2) = false := by simpa using h2
    have e3 : (o == 3) = false := by simpa using h3
    have e4 : (o == 4) = false := by simpa using h4
    have e5 : (o == 5) = false := by simpa using h5
    have e6 : (o == 6) = false := by simpa using h6
    clear h1 h2 h3 h4 h5 h6
    go_enter Tryd.func93, Tryd.ntmps93
    go_wp2
    go_ret
    exact ⟨by rw [HP.out]; rfl, rfl⟩
  all_goals
    go_enter Tryd.func93, Tryd.ntmps93
    go_wp2
    go_ret
    exact ⟨rfl, rfl⟩
set_option maxRecDepth 100000 in
set_option maxHeartbeats 1000000 in
theorem fields_any (b : BT) (w : World) : Calls Tryd.prog 95 #[valB b] w (Ret (.bool (fieldsS b)) w) := by
  have hmx : Tryd.prog.follows .mixedOrders = true := by kernel_rfl
  go_enter Tryd.func95, Tryd.ntmps95
  go_wp2
  go_region
  go_wp2_with (refine (between_any _ _ _ _).mono ?_; rintro e w2 ⟨rfl, rfl⟩)
  all_goals
    go_ret
    refine Ret.mk ?_ (by (repeat (first | exact Below.refl _ _ | assumption | refine Below.alloc ?_ (by first | exact Nat.le_refl _ | exact Below.size (by assumption) | omega | (simp <;> omega)) _ | refine Below.setCell ?_ (by first | exact Nat.le_refl _ | exact Below.size (by assumption) | omega | (simp <;> omega)) _ | refine below_drewN ?_ _ | refine Below.drew ?_)))
    first | (simp_all [fieldsS]; done) | (simp_all [fieldsS, btw]; done) | (simp_all [fieldsS, btw]; first | omega | (intros; omega) | rfl)
theorem parts_ret (o : Int) (w : World) : Calls Tryd.prog 93 #[.int .i64 o] w (Ret (.int .i64 (partsS o)) w) := by
  refine (parts_any o w).mono ?_
  rintro e w' ⟨rfl, rfl⟩
  exact Ret.mk rfl (Below.refl _ _)
/-- A block in a box. -/
def BxB (w : World) (k : Nat) (b : BT) : Prop := w.cell? ⟨k, 0, none⟩ = some (.int .i64 b.op) ∧ w.cell? ⟨k, 1, none⟩ = some (.int .i64 b.ax) ∧ w.cell? ⟨k, 2, none⟩ = some (.int .u8 b.co) ∧
    w.cell? ⟨k, 3, none⟩ = some (.int .i64 b.n0) ∧ w.cell? ⟨k, 4, none⟩ = some (.int .i64 b.n1) ∧ w.cell? ⟨k, 5, none⟩ = some (.int .i64 b.n2) ∧ w.cell? ⟨k, 6, none⟩ = some (.slice b.A b.ps.length b.cp)
theorem BxB.new (w : World) (b : BT) (t : TypeId) : BxB (w.alloc (.cells #[.int .i64 b.op, .int .i64 b.ax, .int .u8 b.co, .int .i64 b.n0, .int .i64 b.n1, .int .i64 b.n2, .slice b.A b.ps.length b.cp] t)) w.heap.size b := by
  unfold BxB; simp
theorem BxB.under {w w' : World} {k B : Nat} {b : BT} (h : BxB w k b) (hb : Below B w w') (hk : k < B) : BxB w' k b := by
  obtain ⟨c0, c1, c2, c3, c4, c5, c6⟩ := h
  exact ⟨(hb.cell hk).trans c0, (hb.cell hk).trans c1, (hb.cell hk).trans c2, (hb.cell hk).trans c3, (hb.cell hk).trans c4, (hb.cell hk).trans c5, (hb.cell hk).trans c6⟩
theorem all_hit {p : BT → Bool} {l : List BT} {k : Nat} {q : BT} (hq : l[k]? = some q) (h : p q = false) : l.all p = false := List.all_eq_false.2 ⟨q, List.mem_of_getElem? hq, by simp [h]⟩
theorem all_take_all {p : BT → Bool} {l : List BT} {k : Nat} (hn : ∀ x ∈ l.take k, p x = true) (hk : ¬ k < l.length) : l.all p = true := by
  rw [List.take_of_length_le (by omega)] at hn
  exact List.all_eq_true.2 hn
theorem all_take_more {p : BT → Bool} {l : List BT} {k : Nat} {q : BT} (hn : ∀ x ∈ l.take k, p x = true) (hq : l[k]? = some q) (h : p q = true) : ∀ x ∈ l.take (k + 1), p x = true := by
  intro x hx
  have e : l.take (k + 1) = l.take k ++ [q] := by rw [List.take_add_one, hq]; rfl
  rw [e] at hx
  rcases List.mem_append.1 hx with h1 | h1
  · exact hn x h1
  · rw [List.mem_singleton.1 h1]; exact h
set_option maxRecDepth 100000 in
set_option maxHeartbeats 1000000 in
theorem whole_any : ∀ (b : BT) (w : World), OkB w w.heap.size b → Calls Tryd.prog 82 #[valB b] w (Ret (.bool (wholeS b)) w) := by
  refine BT.ind ?_
  intro b ih w hb
  have IH := Lib.hid ih; clear ih
  have HB := Lib.hid hb; clear hb
  have HS := Lib.hid (wholeS_eq b)
  have hmx : Tryd.prog.follows .mixedOrders = true := by kernel_rfl
  have hlen := HB.out.len
  have hlm : b.ps.length ≤ 9223372036854775807 := by unfold maxLen at hlen; omega
  clear hlen
  obtain ⟨wa, hwa⟩ : ∃ wa, w.alloc (.cells #[.int .i64 b.op, .int .i64 b.ax, .int .u8 b.co, .int .i64 b.n0, .int .i64 b.n1, .int .i64 b.n2, .slice b.A b.ps.length b.cp] 25) = wa := ⟨_, rfl⟩
  have hBa : Below w.heap.size w wa := by rw [← hwa]; (repeat (first | exact Below.refl _ _ | assumption | refine Below.alloc ?_ (by first | exact Nat.le_refl _ | exact Below.size (by assumption) | omega | (simp <;> omega)) _ | refine Below.setCell ?_ (by first | exact Nat.le_refl _ | exact Below.size (by assumption) | omega | (simp <;> omega)) _ | refine below_drewN ?_ _ | refine Below.drew ?_))
  have hza : w.heap.size < wa.heap.size := by rw [← hwa]; simp
  have hXa := BxB.new w b 25
  rw [hwa] at hXa
  have HC : Hid (∀ w', Below wa.heap.size wa w' → BxB w' w.heap.size b) := fun w' hC => hXa.under hC hza
  clear hXa
  go_enter Tryd.func82, Tryd.ntmps82
  go_upto_region 1 with fail
  clear hwa
  cases h1 : (partsS b.op != (b.ps.length : Int))
  · cases h2 : fieldsS b
    · have HF : Hid (wholeS b = false) := by show _ = _; rw [HS.out]; unfold oneS; rw [h2]; simp
      refine region_qw (fun w' => Below wa.heap.size wa w') hmx (by kernel_rfl) (by (repeat (first | exact Below.refl _ _ | assumption | refine Below.alloc ?_ (by first | exact Nat.le_refl _ | exact Below.size (by assumption) | omega | (simp <;> omega)) _ | refine Below.setCell ?_ (by first | exact Nat.le_refl _ | exact Below.size (by assumption) | omega | (simp <;> omega)) _ | refine below_drewN ?_ _ | refine Below.drew ?_))) ?_
      repeat (first | (refine qw_read rfl (fun w' hC => by obtain ⟨f0, f1, f2, f3, f4, f5, f6⟩ := HC.out w' hC; clear hC; go_simp; rfl) ?_; simp only [Act.put, List.setIfInBounds_toArray, List.set_cons_succ, List.set_cons_zero]) | (refine qw_pass (by first | (simp [Region.wanted, yielded]; done) | (simp [Region.wanted, yielded]; intro h; cases h)) ?_; simp only [Act.put, List.setIfInBounds_toArray, List.set_cons_succ, List.set_cons_zero]))
      (refine qw_call rfl (fun w' hC => by (go_simp; try rfl)) (fun w' hC => (parts_ret b.op w').mono (fun e w2 hr => ⟨hr.1, hC.trans (hr.2.mono hC.size)⟩)) ?_; simp only [Act.put, List.setIfInBounds_toArray, List.set_cons_succ, List.set_cons_zero])
      repeat (first | (refine qw_read rfl (fun w' hC => by obtain ⟨f0, f1, f2, f3, f4, f5, f6⟩ := HC.out w' hC; clear hC; go_simp; rfl) ?_; simp only [Act.put, List.setIfInBounds_toArray, List.set_cons_succ, List.set_cons_zero]) | (refine qw_pass (by first | (simp [Region.wanted, yielded]; done) | (simp [Region.wanted, yielded]; intro h; cases h)) ?_; simp only [Act.put, List.setIfInBounds_toArray, List.set_cons_succ, List.set_cons_zero]))
      (refine qw_call rfl (fun w' hC => by (go_simp; try rfl)) (fun w' hC => (fields_any b w').mono (fun e w2 hr => ⟨hr.1, hC.trans (hr.2.mono hC.size)⟩)) ?_; simp only [Act.put, List.setIfInBounds_toArray, List.set_cons_succ, List.set_cons_zero])
      repeat (first | (refine qw_read rfl (fun w' hC => by obtain ⟨f0, f1, f2, f3, f4, f5, f6⟩ := HC.out w' hC; clear hC; go_simp; rfl) ?_; simp only [Act.put, List.setIfInBounds_toArray, List.set_cons_succ, List.set_cons_zero]) | (refine qw_pass (by first | (simp [Region.wanted, yielded]; done) | (simp [Region.wanted, yielded]; intro h; cases h)) ?_; simp only [Act.put, List.setIfInBounds_toArray, List.set_cons_succ, List.set_cons_zero]))
      refine qw_nil ?_
      intro w9 hb9
      go_wp2
      go_ret
      exact Ret.mk (by rw [HF.out]; rfl) (hBa.trans (hb9.mono hBa.size))
    · have HO : Hid (oneS b = true) := by show _ = _; unfold oneS; rw [h2]; simp at h1; simp [h1]
      refine region_qw (fun w' => Below wa.heap.size wa w') hmx (by kernel_rfl) (by (repeat (first | exact Below.refl _ _ | assumption | refine Below.alloc ?_ (by first | exact Nat.le_refl _ | exact Below.size (by assumption) | omega | (simp <;> omega)) _ | refine Below.setCell ?_ (by first | exact Nat.le_refl _ | exact Below.size (by assumption) | omega | (simp <;> omega)) _ | refine below_drewN ?_ _ | refine Below.drew ?_))) ?_
      repeat (first | (refine qw_read rfl (fun w' hC => by obtain ⟨f0, f1, f2, f3, f4, f5, f6⟩ := HC.out w' hC; clear hC; go_simp; rfl) ?_; simp only [Act.put, List.setIfInBounds_toArray, List.set_cons_succ, List.set_cons_zero]) | (refine qw_pass (by first | (simp [Region.wanted, yielded]; done) | (simp [Region.wanted, yielded]; intro h; cases h)) ?_; simp only [Act.put, List.setIfInBounds_toArray, List.set_cons_succ, List.set_cons_zero]))
      (refine qw_call rfl (fun w' hC => by (go_simp; try rfl)) (fun w' hC => (parts_ret b.op w').mono (fun e w2 hr => ⟨hr.1, hC.trans (hr.2.mono hC.size)⟩)) ?_; simp only [Act.put, List.setIfInBounds_toArray, List.set_cons_succ, List.set_cons_zero])
      repeat (first | (refine qw_read rfl (fun w' hC => by obtain ⟨f0, f1, f2, f3, f4, f5, f6⟩ := HC.out w' hC; clear hC; go_simp; rfl) ?_; simp only [Act.put, List.setIfInBounds_toArray, List.set_cons_succ, List.set_cons_zero]) | (refine qw_pass (by first | (simp [Region.wanted, yielded]; done) | (simp [Region.wanted, yielded]; intro h; cases h)) ?_; simp only [Act.put, List.setIfInBounds_toArray, List.set_cons_succ, List.set_cons_zero]))
      (refine qw_call rfl (fun w' hC => by (go_simp; try rfl)) (fun w' hC => (fields_any b w').mono (fun e w2 hr => ⟨hr.1, hC.trans (hr.2.mono hC.size)⟩)) ?_; simp only [Act.put, List.setIfInBounds_toArray, List.set_cons_succ, List.set_cons_zero])
      repeat (first | (refine qw_read rfl (fun w' hC => by obtain ⟨f0, f1, f2, f3, f4, f5, f6⟩ := HC.out w' hC; clear hC; go_simp; rfl) ?_; simp only [Act.put, List.setIfInBounds_toArray, List.set_cons_succ, List.set_cons_zero]) | (refine qw_pass (by first | (simp [Region.wanted, yielded]; done) | (simp [Region.wanted, yielded]; intro h; cases h)) ?_; simp only [Act.put, List.setIfInBounds_toArray, List.set_cons_succ, List.set_cons_zero]))
      refine qw_nil ?_
      intro w9 hb9
      have hB9 := hBa.trans (hb9.mono hBa.size)
      obtain ⟨f0, f1, f2, f3, f4, f5, f6⟩ := HC.out w9 hb9
      go_wp2
      clear f0 f1 f2 f3 f4 f5 f6 h1 h2
      go_loopw [4, 20] (fun _ i wr => ∃ k : Nat, k ≤ b.ps.length ∧ i = .int .i64 k ∧ (∀ x ∈ b.ps.take k, wholeS x = true) ∧ Below w.heap.size w wr) (fun _ i _ => b.ps.length - (intOf i).toNat)
      case atStart => exact ⟨0, Nat.zero_le _, rfl, by simp, hB9⟩
      case round =>
        obtain ⟨k, hk, rfl, hno, hB⟩ := hrel
        have HN := Lib.hid hno; clear hno
        by_cases hlt : k < b.ps.length
        · obtain ⟨q, hq⟩ := getElem?_of_lt hlt
          have hk1 := HB.out.now hB
          obtain ⟨bb, off, hA, hbb, c0, c1, c2, c3, c4, c5, c6⟩ := hk1.rd.at hq
          have HM := Lib.hid (List.mem_of_getElem? hq)
          have HK := Lib.hid (hk1.kid HM.out); clear hk1
          have HQ := Lib.hid hq; clear hq
          rw [hA]
          go_wp2_with fail
          refine (IH.out q HM.out _ (HK.out.now (by (repeat (first | exact Below.refl _ _ | assumption | refine Below.alloc ?_ (by first | exact Nat.le_refl _ | exact Below.size (by assumption) | omega | (simp <;> omega)) _ | refine Below.setCell ?_ (by first | exact Nat.le_refl _ | exact Below.size (by assumption) | omega | (simp <;> omega)) _ | refine below_drewN ?_ _ | refine Below.drew ?_))))).mono ?_
          rintro e w2 ⟨rfl, hb2⟩
          have hB2 : Below w.heap.size w w2 := (hB.alloc hB.size _).trans (hb2.mono (by have := hB.size; simp; omega))
          cases hd : wholeS q
          · go_wp2
            go_ret
            exact Ret.mk (by rw [HS.out, all_hit HQ.out hd]; simp) hB2
          · go_wp2
            go_roundw
            case rel => exact ⟨k + 1, by omega, by go_num, all_take_more HN.out HQ.out hd, hB2⟩
            case measure => simp [intOf]; omega
        · have hnd : Hid (wholeS b = true) := by rw [HS.out, HO.out, all_take_all HN.out hlt]; rfl
          go_wp2
          go_ret
          exact Ret.mk (by rw [hnd.out]; rfl) hB
  · have HF : Hid (wholeS b = false) := by
      rw [HS.out]; unfold oneS
      rw [decide_eq_false (by simpa using h1)]; rfl
    refine region_qw (fun w' => Below wa.heap.size wa w') hmx (by kernel_rfl) (by (repeat (first | exact Below.refl _ _ | assumption | refine Below.alloc ?_ (by first | exact Nat.le_refl _ | exact Below.size (by assumption) | omega | (simp <;> omega)) _ | refine Below.setCell ?_ (by first | exact Nat.le_refl _ | exact Below.size (by assumption) | omega | (simp <;> omega)) _ | refine below_drewN ?_ _ | refine Below.drew ?_))) ?_
    repeat (first | (refine qw_read rfl (fun w' hC => by obtain ⟨f0, f1, f2, f3, f4, f5, f6⟩ := HC.out w' hC; clear hC; go_simp; rfl) ?_; simp only [Act.put, List.setIfInBounds_toArray, List.set_cons_succ, List.set_cons_zero]) | (refine qw_pass (by first | (simp [Region.wanted, yielded]; done) | (simp [Region.wanted, yielded]; intro h; cases h)) ?_; simp only [Act.put, List.setIfInBounds_toArray, List.set_cons_succ, List.set_cons_zero]))
    (refine qw_call rfl (fun w' hC => by (go_simp; try rfl)) (fun w' hC => (parts_ret b.op w').mono (fun e w2 hr => ⟨hr.1, hC.trans (hr.2.mono hC.size)⟩)) ?_; simp only [Act.put, List.setIfInBounds_toArray, List.set_cons_succ, List.set_cons_zero])
    repeat (first | (refine qw_read rfl (fun w' hC => by obtain ⟨f0, f1, f2, f3, f4, f5, f6⟩ := HC.out w' hC; clear hC; go_simp; rfl) ?_; simp only [Act.put, List.setIfInBounds_toArray, List.set_cons_succ, List.set_cons_zero]) | (refine qw_pass (by first | (simp [Region.wanted, yielded]; done) | (simp [Region.wanted, yielded]; intro h; cases h)) ?_; simp only [Act.put, List.setIfInBounds_toArray, List.set_cons_succ, List.set_cons_zero]))
    refine qw_nil ?_
    intro w9 hb9
    go_wp2
    go_ret
    exact Ret.mk (by rw [HF.out]; rfl) (hBa.trans (hb9.mono hBa.size))
end Go.Proofs.YtbcnkcndhgihaaaDoor

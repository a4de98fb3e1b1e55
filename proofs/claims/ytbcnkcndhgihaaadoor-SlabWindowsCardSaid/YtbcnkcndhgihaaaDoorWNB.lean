/- Blocks: fits and Window of the reference: the walks. Printed by genwn3.py. Blocks: Matches of the reference: plain, and the walk. Printed by genwn4.py. Blocks: the law of the windows: the walk. Printed by genwn5.py. -/
import Derived.Test.YtbcnkcndhgihaaaDoorWNA
import Derived.Deep.DeepCutAuto
import Derived.Test.YtbcnkcndhgihaaaDoorSane
namespace Go.Proofs.YtbcnkcndhgihaaaDoor
open Go.RowKit
set_option linter.unusedSimpArgs false

set_option maxRecDepth 100000 in
set_option maxHeartbeats 4000000 in
theorem refFits_any (a b c : Nat) (r : R4) (w : World) (ha : a ≤ 200) (hb : b ≤ 200) : Calls Tryd.prog 68 #[val3 ⟨a, b, c⟩, valR r] w (Ret (.bool (fitR ⟨a, b, c⟩ r)) w) := by
  have hB : Below w.heap.size w ((w.alloc (.cells #[.int .i64 a, .int .i64 b, .int .i64 c] 22)).alloc (.cells #[.int .i64 r.x, .int .i64 r.y, .int .i64 r.w, .int .i64 r.h] 56)) := by (repeat (first | exact Below.refl _ _ | assumption | refine Below.alloc ?_ (by first | exact Nat.le_refl _ | exact Below.size (by assumption) | omega | (simp <;> omega)) _ | refine Below.setCell ?_ (by first | exact Nat.le_refl _ | exact Below.size (by assumption) | omega | (simp <;> omega)) _ | refine below_drewN ?_ _ | refine Below.drew ?_))
  have HF : Hid (fitR ⟨a, b, c⟩ r = (btw 1 r.w a && btw 1 r.h b && btw 0 r.x ((a : Int) - r.w) && btw 0 r.y ((b : Int) - r.h))) := rfl
  obtain ⟨x, y, rw', rh⟩ := r
  dsimp only at HF hB
  have HN : Hid (¬ (1 ≤ rw' ∧ 1 ≤ rh ∧ 0 ≤ x ∧ 0 ≤ y ∧ x < a ∧ y < b ∧ rw' ≤ (a : Int) - x ∧ rh ≤ (b : Int) - y) → fitR ⟨a, b, c⟩ ⟨x, y, rw', rh⟩ = false) := fun h => by
    rw [HF.out]
    cases hh : (btw 1 rw' a && btw 1 rh b && btw 0 x ((a : Int) - rw') && btw 0 y ((b : Int) - rh))
    · rfl
    · simp only [Bool.and_eq_true, btw_iff] at hh
      exact absurd (by omega) h
  have HY : Hid ((1 ≤ rw' ∧ 1 ≤ rh ∧ 0 ≤ x ∧ 0 ≤ y ∧ x < a ∧ y < b ∧ rw' ≤ (a : Int) - x ∧ rh ≤ (b : Int) - y) → fitR ⟨a, b, c⟩ ⟨x, y, rw', rh⟩ = true) := fun h => by
    rw [HF.out]
    simp only [Bool.and_eq_true, btw_iff]
    omega
  by_cases h0 : 1 ≤ rw'
  rotate_left
  · have HS := Lib.hid (HN.out (fun h => h0 (by omega)))
    have d0 : decide (1 ≤ rw') = false := decide_eq_false h0
    clear h0
    go_enter Tryd.func68, Tryd.ntmps68
    go_wp2
    go_ret
    exact Ret.mk (by rw [HS.out]; rfl) hB
  by_cases h1 : 1 ≤ rh
  rotate_left
  · have HS := Lib.hid (HN.out (fun h => h1 (by omega)))
    have d0 : decide (1 ≤ rw') = true := decide_eq_true h0
    have d1 : decide (1 ≤ rh) = false := decide_eq_false h1
    clear h0 h1
    go_enter Tryd.func68, Tryd.ntmps68
    go_wp2
    go_ret
    exact Ret.mk (by rw [HS.out]; rfl) hB
  by_cases h2 : 0 ≤ x
  rotate_left
  · have HS := Lib.hid (HN.out (fun h => h2 (by omega)))
    have d0 : decide (1 ≤ rw') = true := decide_eq_true h0
    have d1 : decide (1 ≤ rh) = true := decide_eq_true h1
    have d2 : decide (0 ≤ x) = false := decide_eq_false h2
    clear h0 h1 h2
    go_enter Tryd.func68, Tryd.ntmps68
    go_wp2
    go_ret
    exact Ret.mk (by rw [HS.out]; rfl) hB
  by_cases h3 : 0 ≤ y
  rotate_left
  · have HS := Lib.hid (HN.out (fun h => h3 (by omega)))
    have d0 : decide (1 ≤ rw') = true := decide_eq_true h0
    have d1 : decide (1 ≤ rh) = true := decide_eq_true h1
    have d2 : decide (0 ≤ x) = true := decide_eq_true h2
    have d3 : decide (0 ≤ y) = false := decide_eq_false h3
    clear h0 h1 h2 h3
    go_enter Tryd.func68, Tryd.ntmps68
    go_wp2
    go_ret
    exact Ret.mk (by rw [HS.out]; rfl) hB
  by_cases h4 : x < a
  rotate_left
  · have HS := Lib.hid (HN.out (fun h => h4 (by omega)))
    have d0 : decide (1 ≤ rw') = true := decide_eq_true h0
    have d1 : decide (1 ≤ rh) = true := decide_eq_true h1
    have d2 : decide (0 ≤ x) = true := decide_eq_true h2
    have d3 : decide (0 ≤ y) = true := decide_eq_true h3
    have d4 : decide (x < a) = false := decide_eq_false h4
    clear h0 h1 h2 h3 h4
    go_enter Tryd.func68, Tryd.ntmps68
    go_wp2
    go_ret
    exact Ret.mk (by rw [HS.out]; rfl) hB
  by_cases h5 : y < b
  rotate_left
  · have HS := Lib.hid (HN.out (fun h => h5 (by omega)))
    have d0 : decide (1 ≤ rw') = true := decide_eq_true h0
    have d1 : decide (1 ≤ rh) = true := decide_eq_true h1
    have d2 : decide (0 ≤ x) = true := decide_eq_true h2
    have d3 : decide (0 ≤ y) = true := decide_eq_true h3
    have d4 : decide (x < a) = true := decide_eq_true h4
    have d5 : decide (y < b) = false := decide_eq_false h5
    clear h0 h1 h2 h3 h4 h5
    go_enter Tryd.func68, Tryd.ntmps68
    go_wp2
    go_ret
    exact Ret.mk (by rw [HS.out]; rfl) hB
  have e1 : wrap64 ((a : Int) - x) = (a : Int) - x := w64b (by omega) (by omega)
  have e2 : wrap64 ((b : Int) - y) = (b : Int) - y := w64b (by omega) (by omega)
  by_cases h6 : rw' ≤ (a : Int) - x
  rotate_left
  · have HS := Lib.hid (HN.out (fun h => h6 (by omega)))
    have d0 : decide (1 ≤ rw') = true := decide_eq_true h0
    have d1 : decide (1 ≤ rh) = true := decide_eq_true h1
    have d2 : decide (0 ≤ x) = true := decide_eq_true h2
    have d3 : decide (0 ≤ y) = true := decide_eq_true h3
    have d4 : decide (x < a) = true := decide_eq_true h4
    have d5 : decide (y < b) = true := decide_eq_true h5
    have d6 : decide (rw' ≤ (a : Int) - x) = false := decide_eq_false h6
    clear h0 h1 h2 h3 h4 h5 h6
    go_enter Tryd.func68, Tryd.ntmps68
    go_wp2
    go_ret
    exact Ret.mk (by rw [HS.out]; rfl) hB
  by_cases h7 : rh ≤ (b : Int) - y
  rotate_left
  · have HS := Lib.hid (HN.out (fun h => h7 (by omega)))
    have d0 : decide (1 ≤ rw') = true := decide_eq_true h0
    have d1 : decide (1 ≤ rh) = true := decide_eq_true h1
    have d2 : decide (0 ≤ x) = true := decide_eq_true h2
    have d3 : decide (0 ≤ y) = true := decide_eq_true h3
    have d4 : decide (x < a) = true := decide_eq_true h4
    have d5 : decide (y < b) = true := decide_eq_true h5
    have d6 : decide (rw' ≤ (a : Int) - x) = true := decide_eq_true h6
    have d7 : decide (rh ≤ (b : Int) - y) = false := decide_eq_false h7
    clear h0 h1 h2 h3 h4 h5 h6 h7
    go_enter Tryd.func68, Tryd.ntmps68
    go_wp2
    go_ret
    exact Ret.mk (by rw [HS.out]; rfl) hB
  have HS := Lib.hid (HY.out ⟨h0, h1, h2, h3, h4, h5, h6, h7⟩)
  have d0 : decide (1 ≤ rw') = true := decide_eq_true h0
  have d1 : decide (1 ≤ rh) = true := decide_eq_true h1
  have d2 : decide (0 ≤ x) = true := decide_eq_true h2
  have d3 : decide (0 ≤ y) = true := decide_eq_true h3
  have d4 : decide (x < a) = true := decide_eq_true h4
  have d5 : decide (y < b) = true := decide_eq_true h5
  have d6 : decide (rw' ≤ (a : Int) - x) = true := decide_eq_true h6
  have d7 : decide (rh ≤ (b : Int) - y) = true := decide_eq_true h7
  clear h0 h1 h2 h3 h4 h5 h6 h7
  go_enter Tryd.func68, Tryd.ntmps68
  go_wp2
  go_ret
  exact Ret.mk (by rw [HS.out]; rfl) hB
set_option maxRecDepth 100000 in
set_option maxHeartbeats 4000000 in
theorem refWindow_any (b : BT) (r : R4) (w : World) (hb : OkB w w.heap.size b) : Calls Tryd.prog 40 #[valB b, valR r] w (RetTE (winB b r).1 (winB b r).2 w) := by
  obtain ⟨wa, hwa⟩ : ∃ wa, (w.alloc (.cells #[.int .i64 b.op, .int .i64 b.ax, .int .u8 b.co, .int .i64 b.n0, .int .i64 b.n1, .int .i64 b.n2, .slice b.A b.ps.length b.cp] 25)).alloc (.cells #[.int .i64 r.x, .int .i64 r.y, .int .i64 r.w, .int .i64 r.h] 56) = wa := ⟨_, rfl⟩
  have hBa : Below w.heap.size w wa := by rw [← hwa]; (repeat (first | exact Below.refl _ _ | assumption | refine Below.alloc ?_ (by first | exact Nat.le_refl _ | exact Below.size (by assumption) | omega | (simp <;> omega)) _ | refine Below.setCell ?_ (by first | exact Nat.le_refl _ | exact Below.size (by assumption) | omega | (simp <;> omega)) _ | refine below_drewN ?_ _ | refine Below.drew ?_))
  have hza : wa.heap.size = w.heap.size + 2 := by rw [← hwa]; simp
  have hX1 : BX wa w.heap.size b := (BX.new w b).below (B := w.heap.size + 1) (by rw [← hwa]; (repeat (first | exact Below.refl _ _ | assumption | refine Below.alloc ?_ (by first | exact Nat.le_refl _ | exact Below.size (by assumption) | omega | (simp <;> omega)) _ | refine Below.setCell ?_ (by first | exact Nat.le_refl _ | exact Below.size (by assumption) | omega | (simp <;> omega)) _ | refine below_drewN ?_ _ | refine Below.drew ?_))) (by omega)
  have hX2 : RX wa (w.heap.size + 1) r := by
    have h := RX.new (w.alloc (.cells #[.int .i64 b.op, .int .i64 b.ax, .int .u8 b.co, .int .i64 b.n0, .int .i64 b.n1, .int .i64 b.n2, .slice b.A b.ps.length b.cp] 25)) r
    rw [World.size_alloc, hwa] at h
    exact h
  have HX2 : Hid (∀ W, Below wa.heap.size wa W → BxB W w.heap.size b ∧ RX W (w.heap.size + 1) r) := fun W h => ⟨(hX1.below h (by omega)).c, hX2.below h (by omega)⟩
  have HE := Lib.hid (refExtent_any b wa (hb.now hBa))
  have HOB := Lib.hid (fun W (hB : Below w.heap.size w W) => hb.now hB)
  have HWA := Lib.hid hwa
  clear hb hwa hX2
  obtain ⟨f0, f1, f2, f3, f4, f5, f6⟩ := hX1.c
  cases hf : formS b with
  | error er =>
    have hx := form_err hf
    have hE : extB b = (⟨0, 0, 0⟩, er) := by unfold extB; rw [hf]
    have HS : Hid (winB b r = ([], er)) := by show _ = _; unfold winB; rw [hf]
    rw [hE] at HE
    dsimp only at HE
    have hne : (er != 0) = true := by simp; omega
    clear hE hf hx hX1
    go_enter Tryd.func40, Tryd.ntmps40
    go_wp2_with fail
    rw [HWA.out]
    refine HE.out.mono ?_
    rintro e w2 ⟨rfl, hb2⟩
    have hB2 := hBa.trans (hb2.mono hBa.size)
    have hs2 := hB2.size
    clear f0 f1 f2 f3 f4 f5 f6
    go_wp2
    go_ret2
    rw [HS.out]
    exact retTE_nil rfl (by (repeat (first | exact Below.refl _ _ | assumption | refine Below.alloc ?_ (by first | exact Nat.le_refl _ | exact Below.size (by assumption) | omega | (simp <;> omega)) _ | refine Below.setCell ?_ (by first | exact Nat.le_refl _ | exact Below.size (by assumption) | omega | (simp <;> omega)) _ | refine below_drewN ?_ _ | refine Below.drew ?_)))
  | ok S =>
    have hSok := form_ok hf
    obtain ⟨a1, b1, c1, he, ha0, hb0, hc0, ha2, hb2', hc2, h8⟩ := nat_ext hSok.ext
    have hE : extB b = (⟨a1, b1, c1⟩, 0) := by unfold extB; rw [hf]; simp only [he]
    rw [hE] at HE
    dsimp only at HE
    have HSP : Hid (winB b r = if fitR ⟨a1, b1, c1⟩ r then (winS S r, 0) else ([], 2)) := by show _ = _; unfold winB; rw [hf]; simp only [he]
    have HFT := Lib.hid (fun W => refFits_any a1 b1 c1 r W ha2 hb2')
    have HPL := Lib.hid (fun (x y nw nh : Nat) (h1 : x + nw ≤ a1) (h2 : y + nh ≤ b1) W (hB : Below w.heap.size w W) => plane2_any b S hf 0 x y nw nh (by omega) (by omega) (by omega) (by omega) (fun i m hi hm => by
      rw [he]
      exact ⟨⟨by dsimp only; omega, by dsimp only; omega⟩, ⟨by dsimp only; omega, by dsimp only; omega⟩, by dsimp only; omega, by dsimp only; omega⟩) W (HOB.out W hB))
    clear hE hf hSok hX1
    go_enter Tryd.func40, Tryd.ntmps40
    go_wp2_with fail
    rw [HWA.out]
    refine HE.out.mono ?_
    rintro e w2 ⟨rfl, hb2⟩
    have hs2 := hb2.size
    clear f0 f1 f2 f3 f4 f5 f6
    have hba3 : Below wa.heap.size wa (w2.alloc (.cells #[.int .i64 a1, .int .i64 b1, .int .i64 c1] 22)) := by (repeat (first | exact Below.refl _ _ | assumption | refine Below.alloc ?_ (by first | exact Nat.le_refl _ | exact Below.size (by assumption) | omega | (simp <;> omega)) _ | refine Below.setCell ?_ (by first | exact Nat.le_refl _ | exact Below.size (by assumption) | omega | (simp <;> omega)) _ | refine below_drewN ?_ _ | refine Below.drew ?_))
    have hB3 := hBa.trans (hba3.mono hBa.size)
    have hx3 : CX (w2.alloc (.cells #[.int .i64 a1, .int .i64 b1, .int .i64 c1] 22)) w2.heap.size ⟨a1, b1, c1⟩ := CX.new w2 ⟨a1, b1, c1⟩
    obtain ⟨x0, x1, x2, _⟩ := hx3.c
    dsimp only at x0 x1 x2
    obtain ⟨r0, r1, r2, r3⟩ := (HX2.out _ hba3).2.c
    go_wp2_with fail
    refine (HFT.out _).mono ?_
    rintro e w4 ⟨rfl, hb4⟩
    have hba4 := hba3.trans (hb4.mono hba3.size)
    have hB4 := hB3.trans (hb4.mono hB3.size)
    clear r0 r1 r2 r3 x0 x1 x2 hx3
    cases hfit : fitR ⟨a1, b1, c1⟩ r
    · have HS := Lib.hid (HSP.out.trans (if_neg (by rw [hfit]; simp)))
      clear hfit
      go_wp2
      go_ret2
      rw [HS.out]
      exact retTE_nil rfl hB4
    · have HS := Lib.hid (HSP.out.trans (if_pos hfit))
      obtain ⟨rx, ry, rw', rh, rfl, q1, q2, q3, q4⟩ := fit_nat hfit
      have HP := Lib.hid (HPL.out rx ry rw' rh q3 q4 w4 hB4)
      have HWS : Hid (planeS S 2 0 rx ry rw' rh = winS S ⟨rx, ry, rw', rh⟩) := rfl
      rw [HWS.out] at HP
      clear hfit
      obtain ⟨⟨f0, f1, f2, f3, f4, f5, f6⟩, hrx⟩ := HX2.out w4 hba4
      obtain ⟨r0, r1, r2, r3⟩ := hrx.c
      dsimp only at r0 r1 r2 r3
      go_wp2_with fail
      refine HP.out.mono ?_
      rintro e w5 ⟨A, c, rfl, hrd, hc, hb5⟩
      have HR := Lib.hid hrd; have HC := Lib.hid hc
      have hB5 := hB4.trans (hb5.mono hB4.size)
      clear hrd hc f0 f1 f2 f3 f4 f5 f6 r0 r1 r2 r3
      go_wp2
      go_ret2
      rw [HS.out]
      exact ⟨A, c, rfl, HR.out, HC.out, hB5⟩
end Go.Proofs.YtbcnkcndhgihaaaDoor

namespace Go.Proofs.YtbcnkcndhgihaaaDoor
open Go.RowKit
set_option linter.unusedSimpArgs false

theorem win_at (S : Sh) (u v : Int) (nw nh k : Nat) (hk : k < nh) : ∃ s, (planeS S 2 0 u v nw nh)[k]? = some s ∧ s.size = nw := by
  refine ⟨strB (plineS S 2 0 u (v + (k : Int)) nw), ?_, ?_⟩
  · unfold planeS
    rw [List.getElem?_map, List.getElem?_range hk]
    rfl
  · have h : (strB (plineS S 2 0 u (v + (k : Int)) nw)).data.size = nw := by unfold strB; simp [pline_len]
    exact h
theorem rev_eq {s t : ByteArray} {n : Nat} (hs : s.size = n) (ht : t.size = n) (h : ∀ i, i < n → byteF s i = byteF t (n - 1 - i)) : s = revBA t := by
  have hs' : s.data.size = n := hs
  have ht' : t.data.size = n := ht
  unfold revBA
  cases s with
  | mk sd =>
  congr 1
  apply Array.ext
  · simp; exact hs'.trans ht'.symm
  · intro i h1 h2
    have hi : i < n := by rw [← hs']; exact h1
    have := h i hi
    rw [byteF_of h1, byteF_of (by rw [ht']; omega)] at this
    simp only [List.getElem_toArray, List.getElem_reverse, Array.getElem_toList, Array.length_toList]
    have e : t.data.size - 1 - i = n - 1 - i := by rw [ht']
    apply UInt8.toNat_inj.1
    have h3 : (sd[i].toNat : Int) = (t.data[n - 1 - i]'(by rw [ht']; omega)).toNat := this
    simp only [e]
    exact Int.ofNat.inj h3
theorem rev_ne {s t : ByteArray} {n i : Nat} (hs : s.size = n) (ht : t.size = n) (hi : i < n) (h : byteF s i ≠ byteF t (n - 1 - i)) : s ≠ revBA t := by
  rintro rfl
  apply h
  have ht' : t.data.size = n := ht
  unfold byteF revBA
  congr 3
  simp only [List.getElem?_reverse (show i < t.data.toList.length by simpa [ht'] using hi)]
  congr 1
  simp [ht']
theorem rev_size (t : ByteArray) : (revBA t).size = t.size := by
  have : (revBA t).data.size = t.data.size := by unfold revBA; simp
  exact this
theorem eqf_dim {S : Sh} {u v u' v' : Int} {nw nh nw' nh' : Nat} (h0 : 1 ≤ nh) (hne : ¬ (nw = nw' ∧ nh = nh')) : eqfB (planeS S 2 0 u v nw nh) (planeS S 2 0 u' v' nw' nh') = false := by
  unfold eqfB
  rw [plane_len, plane_len]
  by_cases hh : nh = nh'
  · have hw : nw ≠ nw' := fun h => hne ⟨h, hh⟩
    subst hh
    rw [decide_eq_true rfl, Bool.true_and, List.all_eq_false]
    obtain ⟨s, hs, hsz⟩ := win_at S u v nw nh 0 (by omega)
    obtain ⟨t, ht, htz⟩ := win_at S u' v' nw' nh 0 (by omega)
    refine ⟨0, List.mem_range.2 (by omega), ?_⟩
    unfold strAt
    rw [hs, ht]
    simp only [Option.getD_some, decide_eq_true_eq]
    intro e
    have := congrArg ByteArray.size e
    rw [rev_size, hsz, htz] at this
    exact hw this
  · rw [decide_eq_false hh, Bool.false_and]
theorem eqf_true {x y : List ByteArray} (hl : x.length = y.length) (h : ∀ j, j < x.length → strAt x j = revBA (strAt y j)) : eqfB x y = true := by
  unfold eqfB
  rw [decide_eq_true hl, Bool.true_and, List.all_eq_true]
  intro j hj
  exact decide_eq_true (h j (List.mem_range.1 hj))
theorem eqf_false {x y : List ByteArray} {j : Nat} (hj : j < x.length) (h : strAt x j ≠ revBA (strAt y j)) : eqfB x y = false := by
  unfold eqfB
  rw [Bool.and_eq_false_iff]
  right
  rw [List.all_eq_false]
  exact ⟨j, List.mem_range.2 hj, by simpa using h⟩
theorem ix_str {s : ByteArray} {i : Nat} (h : i < s.size) : ∀ W : World, (Instr.index 9 (.string s) (.int .i64 i)).run Tryd.prog W = .ok (.int .u8 (byteF s i)) W := by
  intro W
  rw [run_index_string W 9 s .i64 i Tryd.underlying9, dif_pos ⟨by omega, by omega⟩, byteF_of h]
  rfl
set_option maxRecDepth 100000 in
set_option maxHeartbeats 8000000 in
theorem refMatches_any (b : BT) (r q : R4) (w : World) (hb : OkB w w.heap.size b) : Calls Tryd.prog 42 #[valB b, valR r, valR q] w (Ret (.tuple #[.bool (matchB b r q).1, .int .i64 (matchB b r q).2]) w) := by
  have hmx : Tryd.prog.follows .mixedOrders = true := by kernel_rfl
  obtain ⟨wa, hwa⟩ : ∃ wa, ((w.alloc (.cells #[.int .i64 b.op, .int .i64 b.ax, .int .u8 b.co, .int .i64 b.n0, .int .i64 b.n1, .int .i64 b.n2, .slice b.A b.ps.length b.cp] 25)).alloc (.cells #[.int .i64 r.x, .int .i64 r.y, .int .i64 r.w, .int .i64 r.h] 56)).alloc (.cells #[.int .i64 q.x, .int .i64 q.y, .int .i64 q.w, .int .i64 q.h] 56) = wa := ⟨_, rfl⟩
  have hBa : Below w.heap.size w wa := by rw [← hwa]; (repeat (first | exact Below.refl _ _ | assumption | refine Below.alloc ?_ (by first | exact Nat.le_refl _ | exact Below.size (by assumption) | omega | (simp <;> omega)) _ | refine Below.setCell ?_ (by first | exact Nat.le_refl _ | exact Below.size (by assumption) | omega | (simp <;> omega)) _ | refine below_drewN ?_ _ | refine Below.drew ?_))
  have hza : wa.heap.size = w.heap.size + 3 := by rw [← hwa]; simp
  have hX1 : BX wa w.heap.size b := (BX.new w b).below (B := w.heap.size + 1) (by rw [← hwa]; (repeat (first | exact Below.refl _ _ | assumption | refine Below.alloc ?_ (by first | exact Nat.le_refl _ | exact Below.size (by assumption) | omega | (simp <;> omega)) _ | refine Below.setCell ?_ (by first | exact Nat.le_refl _ | exact Below.size (by assumption) | omega | (simp <;> omega)) _ | refine below_drewN ?_ _ | refine Below.drew ?_))) (by omega)
  have hX2 : RX wa (w.heap.size + 1) r := by
    have h := RX.new (w.alloc (.cells #[.int .i64 b.op, .int .i64 b.ax, .int .u8 b.co, .int .i64 b.n0, .int .i64 b.n1, .int .i64 b.n2, .slice b.A b.ps.length b.cp] 25)) r
    rw [World.size_alloc] at h
    exact h.below (B := w.heap.size + 2) (by rw [← hwa]; (repeat (first | exact Below.refl _ _ | assumption | refine Below.alloc ?_ (by first | exact Nat.le_refl _ | exact Below.size (by assumption) | omega | (simp <;> omega)) _ | refine Below.setCell ?_ (by first | exact Nat.le_refl _ | exact Below.size (by assumption) | omega | (simp <;> omega)) _ | refine below_drewN ?_ _ | refine Below.drew ?_))) (by omega)
  have hX3 : RX wa (w.heap.size + 2) q := by
    have h := RX.new ((w.alloc (.cells #[.int .i64 b.op, .int .i64 b.ax, .int .u8 b.co, .int .i64 b.n0, .int .i64 b.n1, .int .i64 b.n2, .slice b.A b.ps.length b.cp] 25)).alloc (.cells #[.int .i64 r.x, .int .i64 r.y, .int .i64 r.w, .int .i64 r.h] 56)) q
    rw [World.size_alloc, World.size_alloc, hwa] at h
    exact h
  have HX : Hid (∀ W, Below wa.heap.size wa W → BxB W w.heap.size b ∧ RX W (w.heap.size + 1) r ∧ RX W (w.heap.size + 2) q) := fun W h => ⟨(hX1.below h (by omega)).c, hX2.below h (by omega), hX3.below h (by omega)⟩
  have HW1 := Lib.hid (fun W (hB : Below w.heap.size w W) => refWindow_any b r W (hb.now hB))
  have HW2 := Lib.hid (fun W (hB : Below w.heap.size w W) => refWindow_any b q W (hb.now hB))
  have HWA := Lib.hid hwa
  clear hb hwa hX1 hX2 hX3
  obtain ⟨⟨f0, f1, f2, f3, f4, f5, f6⟩, hrx, hqx⟩ := HX.out wa (Below.refl _ _)
  obtain ⟨r0, r1, r2, r3⟩ := hrx.c
  clear hrx hqx
  -- the first window's error
  have H1 : (∃ er, winB b r = ([], er) ∧ er ≠ 0 ∧ matchB b r q = (false, er)) ∨ ∃ S, formS b = .ok S ∧ fitR S.ext r = true := by
    cases hf : formS b with
    | error er => exact .inl ⟨er, by unfold winB; rw [hf], by have := form_err hf; omega, by unfold matchB; rw [hf]⟩
    | ok S =>
      cases hfit : fitR S.ext r
      · exact .inl ⟨2, by unfold winB; rw [hf]; simp [hfit], by omega, by unfold matchB; rw [hf]; simp [hfit]⟩
      · exact .inr ⟨S, rfl, hfit⟩
  rcases H1 with ⟨er, hw1, hne0, hm⟩ | ⟨S, hf, hfit⟩
  · rw [hw1] at HW1
    dsimp only at HW1
    have HS := Lib.hid hm
    have hne : (er != 0) = true := by simp [hne0]
    clear hw1 hm hne0
    go_enter Tryd.func42, Tryd.ntmps42
    go_wp2_with fail
    rw [HWA.out]
    refine (HW1.out _ hBa).mono ?_
    rintro e w2 ⟨A, c, rfl, _, _, hb2⟩
    have hB2 := hBa.trans (hb2.mono hBa.size)
    clear f0 f1 f2 f3 f4 f5 f6 r0 r1 r2 r3
    go_wp2
    go_ret2
    exact Ret.mk (by rw [HS.out]; rfl) hB2
  have hwin : winB b r = (winS S r, 0) := by unfold winB; rw [hf]; simp [hfit]
  rw [hwin] at HW1
  dsimp only at HW1
  by_cases hfit2 : fitR S.ext q = true
  rotate_left
  · have hw2 : winB b q = ([], 2) := by unfold winB; rw [hf]; simp [hfit2]
    have HS : Hid (matchB b r q = (false, 2)) := by show _ = _; unfold matchB; rw [hf]; simp [hfit2]
    rw [hw2] at HW2
    dsimp only at HW2
    clear hf hfit hfit2 hwin hw2
    go_enter Tryd.func42, Tryd.ntmps42
    go_wp2_with fail
    rw [HWA.out]
    refine (HW1.out _ hBa).mono ?_
    rintro e w2 ⟨A, c, rfl, _, _, hb2⟩
    have hB2 := hBa.trans (hb2.mono hBa.size)
    clear f0 f1 f2 f3 f4 f5 f6 r0 r1 r2 r3
    obtain ⟨⟨f0, f1, f2, f3, f4, f5, f6⟩, _, hqx⟩ := HX.out w2 hb2
    obtain ⟨q0, q1, q2, q3⟩ := hqx.c
    go_wp2_with fail
    refine (HW2.out _ hB2).mono ?_
    rintro e w3 ⟨A2, c2, rfl, _, _, hb3⟩
    have hB3 := hB2.trans (hb3.mono hB2.size)
    clear f0 f1 f2 f3 f4 f5 f6 q0 q1 q2 q3 hqx
    go_wp2
    go_ret2
    exact Ret.mk (by rw [HS.out]; rfl) hB3
  have hw2 : winB b q = (winS S q, 0) := by unfold winB; rw [hf]; simp [hfit2]
  have hm : matchB b r q = (apartR r q && eqfB (winS S r) (winS S q), 0) := by unfold matchB; rw [hf]; simp [hfit, hfit2]
  rw [hw2] at HW2
  dsimp only at HW2
  obtain ⟨a1, b1, c1, he, _, _, _, ha2, hb2', hc2, _⟩ := nat_ext (form_ok hf).ext
  rw [he] at hfit hfit2
  obtain ⟨rx, ry, rw', rh, rfl, u1, u2, u3, u4⟩ := fit_nat hfit
  obtain ⟨qx, qy, qw, qh, rfl, p1, p2, p3, p4⟩ := fit_nat hfit2
  have HRW : Hid (rw' ≤ 200 ∧ rh ≤ 200 ∧ 1 ≤ rw') := ⟨by omega, by omega, by omega⟩
  have e1 : wrap64 ((rx : Int) + rw') = (rx : Int) + rw' := w64b (by omega) (by omega)
  have e2 : wrap64 ((qx : Int) + qw) = (qx : Int) + qw := w64b (by omega) (by omega)
  have e3 : wrap64 ((ry : Int) + rh) = (ry : Int) + rh := w64b (by omega) (by omega)
  have e4 : wrap64 ((qy : Int) + qh) = (qy : Int) + qh := w64b (by omega) (by omega)
  have HAP : Hid (apartR ⟨rx, ry, rw', rh⟩ ⟨qx, qy, qw, qh⟩ = (decide ((rx : Int) + rw' ≤ qx) || (decide ((qx : Int) + qw ≤ rx) || (decide ((ry : Int) + rh ≤ qy) || decide ((qy : Int) + qh ≤ ry))))) := rfl
  have HX9 : Hid (winS S ⟨rx, ry, rw', rh⟩ = planeS S 2 0 rx ry rw' rh ∧ winS S ⟨qx, qy, qw, qh⟩ = planeS S 2 0 qx qy qw qh) := ⟨rfl, rfl⟩
  rw [HX9.out.1] at HW1 hm
  rw [HX9.out.2] at HW2 hm
  have HM := Lib.hid hm
  have HR1 := Lib.hid (fun k (hk : k < rh) => win_at S rx ry rw' rh k hk)
  have HR2 := Lib.hid (fun k (hk : k < qh) => win_at S qx qy qw qh k hk)
  have HLX := Lib.hid (plane_len S 2 0 rx ry rw' rh)
  have HLY := Lib.hid (plane_len S 2 0 qx qy qw qh)
  have HDIM : Hid (¬ (rw' = qw ∧ rh = qh) → eqfB (planeS S 2 0 rx ry rw' rh) (planeS S 2 0 qx qy qw qh) = false) := fun h => eqf_dim u2 h
  generalize planeS S 2 0 rx ry rw' rh = x at *
  generalize planeS S 2 0 qx qy qw qh = y at *
  dsimp only at r0 r1 r2 r3
  clear hf hfit hfit2 hwin hw2 hm u1 u2 u3 u4 p1 p2 p3 p4 he
  go_enter Tryd.func42, Tryd.ntmps42
  go_wp2_with fail
  rw [HWA.out]
  refine (HW1.out _ hBa).mono ?_
  rintro e w2 ⟨A, c, rfl, hrd, _, hb2⟩
  have HRD := Lib.hid hrd
  have hB2 := hBa.trans (hb2.mono hBa.size)
  clear f0 f1 f2 f3 f4 f5 f6 r0 r1 r2 r3 hrd
  obtain ⟨⟨f0, f1, f2, f3, f4, f5, f6⟩, _, hqx⟩ := HX.out w2 hb2
  obtain ⟨q0, q1, q2, q3⟩ := hqx.c
  dsimp only at q0 q1 q2 q3
  go_wp2_with fail
  refine (HW2.out _ hB2).mono ?_
  rintro e w3 ⟨A2, c2, rfl, hrd2, _, hb3⟩
  have HRD2 := Lib.hid hrd2
  have hba3 := hb2.trans (hb3.mono hb2.size)
  have hB3 := hB2.trans (hb3.mono hB2.size)
  clear f0 f1 f2 f3 f4 f5 f6 q0 q1 q2 q3 hqx hrd2
  obtain ⟨_, hrx, hqx⟩ := HX.out w3 hba3
  obtain ⟨r0, r1, r2, r3⟩ := hrx.c
  obtain ⟨q0, q1, q2, q3⟩ := hqx.c
  dsimp only at r0 r1 r2 r3 q0 q1 q2 q3
  clear hrx hqx
  by_cases hap : apartR ⟨rx, ry, rw', rh⟩ ⟨qx, qy, qw, qh⟩ = true
  rotate_left
  · have hap2 : apartR ⟨rx, ry, rw', rh⟩ ⟨qx, qy, qw, qh⟩ = false := by simpa using hap
    have hap3 := hap2
    rw [HAP.out, Bool.or_eq_false_iff, Bool.or_eq_false_iff, Bool.or_eq_false_iff] at hap3
    obtain ⟨d1, d2, d3, d4⟩ := hap3
    rw [hap2] at HM
    clear hap hap2 HAP
    go_wp2
    go_ret2
    exact Ret.mk (by rw [HM.out]; rfl) hB3
  rw [hap] at HM
  have HAQ := Lib.hid (HAP.out.symm.trans hap)
  clear hap HAP
  go_upto_region 7 with fail
  go_cut [11] (fun v wx => v = .bool true ∧ wx = w3)
  case first =>
    have ha := HAQ.out
    cases d1 : decide ((rx : Int) + rw' ≤ qx)
    rotate_left
    · clear ha
      go_wp2
      go_meet
      case rel => exact ⟨rfl, rfl⟩
    cases d2 : decide ((qx : Int) + qw ≤ rx)
    rotate_left
    · clear ha
      go_wp2
      go_meet
      case rel => exact ⟨rfl, rfl⟩
    cases d3 : decide ((ry : Int) + rh ≤ qy)
    rotate_left
    · clear ha
      go_wp2
      go_meet
      case rel => exact ⟨rfl, rfl⟩
    cases d4 : decide ((qy : Int) + qh ≤ ry)
    rotate_left
    · clear ha
      go_wp2
      go_meet
      case rel => exact ⟨rfl, rfl⟩
    · rw [d1, d2, d3, d4] at ha
      cases ha
  case rest =>
    obtain ⟨rfl, hwx⟩ := hcut
    rw [hwx]
    clear hwx
    by_cases hd : rw' = qw ∧ rh = qh
    rotate_left
    · have HF := Lib.hid (HDIM.out hd)
      rw [HF.out] at HM
      by_cases hw : rw' = qw
      · have hh : ¬ rh = qh := fun h => hd ⟨hw, h⟩
        have k1 : (((rw' : Nat) : Int) != ((qw : Nat) : Int)) = false := by simp [hw]
        have k2 : (((rh : Nat) : Int) != ((qh : Nat) : Int)) = true := by simp; omega
        clear hd hw hh
        go_wp2
        go_ret2
        exact Ret.mk (by rw [HM.out]; simp) hB3
      · have k1 : (((rw' : Nat) : Int) != ((qw : Nat) : Int)) = true := by simp; omega
        clear hd hw
        go_wp2
        go_ret2
        exact Ret.mk (by rw [HM.out]; simp) hB3
    obtain ⟨hd1, hd2⟩ := hd
    subst hd1 hd2
    have k1 : (((rw' : Nat) : Int) != ((rw' : Nat) : Int)) = false := by simp
    have k2 : (((rh : Nat) : Int) != ((rh : Nat) : Int)) = false := by simp
    rw [HLX.out, HLY.out]
    go_wp2
    clear r0 r1 r2 r3 q0 q1 q2 q3 e1 e2 e3 e4
    go_loopw [12] (fun i wr => ∃ k : Nat, k ≤ rh ∧ i = .int .i64 k ∧ (∀ j, j < k → strAt x j = revBA (strAt y j)) ∧ Below w3.heap.size w3 wr) (fun i _ => rh - (intOf i).toNat)
    case atStart => exact ⟨0, Nat.zero_le _, rfl, fun j hj => by omega, Below.refl _ _⟩
    case round =>
      obtain ⟨k, hk, rfl, hno, hB⟩ := hrel
      have HNO := Lib.hid hno
      clear hno
      have hsB := hB.size
      obtain ⟨hw200, hh200, _⟩ := HRW.out
      by_cases hlt : k < rh
      · obtain ⟨s, hs, hsz⟩ := HR1.out k hlt
        obtain ⟨t, ht, htz⟩ := HR2.out k hlt
        obtain ⟨b1', o1, hA1, hb1, d1⟩ := HRD.out k s hs
        obtain ⟨b2', o2, hA2, hb2, d2⟩ := HRD2.out k t ht
        have HST : Hid (strAt x k = s ∧ strAt y k = t) := ⟨by unfold strAt; rw [hs]; rfl, by unfold strAt; rw [ht]; rfl⟩
        have HSZ := Lib.hid hsz; have HTZ := Lib.hid htz
        have HC : Hid (∀ W, Below w3.heap.size w3 W → W.cell? ⟨b1', o1 + k, none⟩ = some (.string s) ∧ W.cell? ⟨b2', o2 + k, none⟩ = some (.string t)) := fun W h =>
          ⟨((hb3.trans (h.mono hb3.size)).cell (p := ⟨b1', o1 + k, none⟩) hb1).trans d1, (h.cell (p := ⟨b2', o2 + k, none⟩) hb2).trans d2⟩
        subst hA1 hA2
        clear hs ht hsz htz d1 d2
        go_wp2
        obtain ⟨wo, hwo⟩ : ∃ wo : World, wo = wr := ⟨_, rfl⟩
        rw [← hwo] at hB hsB ⊢
        clear hwo
        go_loopw [13] (fun i wr => ∃ m : Nat, m ≤ rw' ∧ i = .int .i64 m ∧ (∀ j, j < m → byteF s j = byteF t (rw' - 1 - j)) ∧ Below w3.heap.size w3 wr) (fun i _ => rw' - (intOf i).toNat)
        case atStart => exact ⟨0, Nat.zero_le _, rfl, fun j hj => by omega, hB⟩
        case round =>
          obtain ⟨m, hm, rfl, hno, hB4⟩ := hrel
          have HNM := Lib.hid hno
          clear hno
          have hba4 := hba3.trans (hB4.mono hba3.size)
          obtain ⟨_, hrx, _⟩ := HX.out wr hba4
          obtain ⟨r0, r1, r2, r3⟩ := hrx.c
          dsimp only at r0 r1 r2 r3
          obtain ⟨d1, d2⟩ := HC.out wr hB4
          clear hrx
          by_cases hml : m < rw'
          · obtain ⟨z, hz⟩ : ∃ z, rw' - 1 - m = z := ⟨_, rfl⟩
            have hz2 : z < rw' := by omega
            have i1 := ix_str (s := s) (i := m) (by rw [HSZ.out]; exact hml)
            have i2 := ix_str (s := t) (i := z) (by rw [HTZ.out]; exact hz2)
            have v1 : wrap64 ((rw' : Int) - 1) = (rw' : Int) - 1 := w64b (by omega) (by omega)
            have v2 : wrap64 ((rw' : Int) - 1 - m) = (z : Int) := by rw [show (rw' : Int) - 1 - m = z by omega]; exact w64b (by omega) (by omega)
            have v3 : IntKind.i64.wrap ((rw' : Int) - 1) = (rw' : Int) - 1 := IntWalk.i64_in _ (by omega)
            have v4 : IntKind.i64.wrap ((rw' : Int) - 1 - m) = (z : Int) := by rw [show (rw' : Int) - 1 - m = z by omega]; exact IntWalk.i64_in _ (by omega)
            have HZ := Lib.hid hz
            clear hz
            by_cases hbb : byteF s m = byteF t z
            · have g1 : (byteF s m != byteF t z) = false := by simp [hbb]
              have HNN : Hid (∀ j, j < m + 1 → byteF s j = byteF t (rw' - 1 - j)) := fun j hj => by
                rcases Nat.lt_succ_iff_lt_or_eq.1 hj with h | rfl
                · exact HNM.out j h
                · rw [HZ.out]; exact hbb
              clear hbb
              generalize byteF s m = bs at *
              generalize byteF t z = bt at *
              go_wp2
              go_quiet (fail)
              go_wp2
              go_roundw
              case rel => exact ⟨m + 1, hml, by go_num, HNN.out, below_drewN hB4 _⟩
              case measure => simp [intOf]; clear v1 v2 v3 v4; omega
            · have g1 : (byteF s m != byteF t z) = true := by simp [hbb]
              have HF := Lib.hid (eqf_false (x := x) (y := y) (j := k) (by rw [HLX.out]; exact hlt) (by rw [HST.out.1, HST.out.2]; exact rev_ne (n := rw') (i := m) HSZ.out HTZ.out hml (by rw [HZ.out]; exact hbb)))
              rw [HF.out] at HM
              clear hbb
              generalize byteF s m = bs at *
              generalize byteF t z = bt at *
              go_wp2
              go_quiet (fail)
              go_wp2
              go_ret2
              exact Ret.mk (by rw [HM.out]; simp) (below_drewN (hB3.trans (hB4.mono hB3.size)) _)
          · obtain rfl : m = rw' := by omega
            have HNX : Hid (∀ j, j < k + 1 → strAt x j = revBA (strAt y j)) := fun j hj => by
              rcases Nat.lt_succ_iff_lt_or_eq.1 hj with h | rfl
              · exact HNO.out j h
              · rw [HST.out.1, HST.out.2]; exact rev_eq HSZ.out HTZ.out HNM.out
            go_wp2
            go_roundw
            case rel => exact ⟨k + 1, hlt, by go_num, HNX.out, hB4⟩
            case measure => simp [intOf]; omega
      · obtain rfl : k = rh := by omega
        have HT := Lib.hid (eqf_true (x := x) (y := y) (HLX.out.trans HLY.out.symm) (fun j hj => HNO.out j (by rw [HLX.out] at hj; exact hj)))
        rw [HT.out] at HM
        go_wp2
        go_ret2
        exact Ret.mk (by rw [HM.out]; rfl) (hB3.trans (hB.mono hB3.size))
end Go.Proofs.YtbcnkcndhgihaaaDoor

namespace Go.Proofs.YtbcnkcndhgihaaaDoor
open Go.RowKit
set_option linter.unusedSimpArgs false

theorem winB_len (b : BT) (r : R4) : (winB b r).1.length ≤ 1000000 := by
  unfold winB
  cases hf : formS b with
  | error e => simp
  | ok S =>
    obtain ⟨a, b', c, he, _, _, _, h1, h2, _⟩ := nat_ext (form_ok hf).ext
    dsimp only
    cases hfit : fitR S.ext r
    · simp
    · rw [he] at hfit
      obtain ⟨x, y, nw, nh, rfl, _, _, _, h⟩ := fit_nat hfit
      simp only [if_true]
      unfold winS
      rw [plane_len]
      show ((nh : Nat) : Int).toNat ≤ 1000000
      omega
set_option maxRecDepth 100000 in
set_option maxHeartbeats 4000000 in
theorem windows_any (b : BT) (r q : R4) (w : World) (hr : RBd r) (hq : RBd q) (hb : OkB w w.heap.size b) : Calls Tryd.prog 9 #[valB b, valR r, valR q] w (Ret (.bool true) w) := by
  obtain ⟨wa, hwa⟩ : ∃ wa, ((w.alloc (.cells #[.int .i64 b.op, .int .i64 b.ax, .int .u8 b.co, .int .i64 b.n0, .int .i64 b.n1, .int .i64 b.n2, .slice b.A b.ps.length b.cp] 25)).alloc (.cells #[.int .i64 r.x, .int .i64 r.y, .int .i64 r.w, .int .i64 r.h] 56)).alloc (.cells #[.int .i64 q.x, .int .i64 q.y, .int .i64 q.w, .int .i64 q.h] 56) = wa := ⟨_, rfl⟩
  have hBa : Below w.heap.size w wa := by rw [← hwa]; (repeat (first | exact Below.refl _ _ | assumption | refine Below.alloc ?_ (by first | exact Nat.le_refl _ | exact Below.size (by assumption) | omega | (simp <;> omega)) _ | refine Below.setCell ?_ (by first | exact Nat.le_refl _ | exact Below.size (by assumption) | omega | (simp <;> omega)) _ | refine below_drewN ?_ _ | refine Below.drew ?_))
  have hza : wa.heap.size = w.heap.size + 3 := by rw [← hwa]; simp
  have hX1 : BX wa w.heap.size b := (BX.new w b).below (B := w.heap.size + 1) (by rw [← hwa]; (repeat (first | exact Below.refl _ _ | assumption | refine Below.alloc ?_ (by first | exact Nat.le_refl _ | exact Below.size (by assumption) | omega | (simp <;> omega)) _ | refine Below.setCell ?_ (by first | exact Nat.le_refl _ | exact Below.size (by assumption) | omega | (simp <;> omega)) _ | refine below_drewN ?_ _ | refine Below.drew ?_))) (by omega)
  have hX2 : RX wa (w.heap.size + 1) r := by
    have h := RX.new (w.alloc (.cells #[.int .i64 b.op, .int .i64 b.ax, .int .u8 b.co, .int .i64 b.n0, .int .i64 b.n1, .int .i64 b.n2, .slice b.A b.ps.length b.cp] 25)) r
    rw [World.size_alloc] at h
    exact h.below (B := w.heap.size + 2) (by rw [← hwa]; (repeat (first | exact Below.refl _ _ | assumption | refine Below.alloc ?_ (by first | exact Nat.le_refl _ | exact Below.size (by assumption) | omega | (simp <;> omega)) _ | refine Below.setCell ?_ (by first | exact Nat.le_refl _ | exact Below.size (by assumption) | omega | (simp <;> omega)) _ | refine below_drewN ?_ _ | refine Below.drew ?_))) (by omega)
  have hX3 : RX wa (w.heap.size + 2) q := by
    have h := RX.new ((w.alloc (.cells #[.int .i64 b.op, .int .i64 b.ax, .int .u8 b.co, .int .i64 b.n0, .int .i64 b.n1, .int .i64 b.n2, .slice b.A b.ps.length b.cp] 25)).alloc (.cells #[.int .i64 r.x, .int .i64 r.y, .int .i64 r.w, .int .i64 r.h] 56)) q
    rw [World.size_alloc, World.size_alloc, hwa] at h
    exact h
  have HX : Hid (∀ W, Below wa.heap.size wa W → BxB W w.heap.size b ∧ RX W (w.heap.size + 1) r ∧ RX W (w.heap.size + 2) q) := fun W h => ⟨(hX1.below h (by omega)).c, hX2.below h (by omega), hX3.below h (by omega)⟩
  have HU := Lib.hid (fun W (hB : Below w.heap.size w W) => Bushy_any 40 (by omega) b W (hb.now hB))
  have HG := Lib.hid (fun W (hB : Below w.heap.size w W) => Large_any b 400 W (hb.now hB))
  have H1 := Lib.hid (fun W (hB : Below w.heap.size w W) => Window_any b r W hr (hb.now hB))
  have H2 := Lib.hid (fun W (hB : Below w.heap.size w W) => refWindow_any b r W (hb.now hB))
  have H3 := Lib.hid (fun W (hB : Below w.heap.size w W) => Matches_any b r q W hr hq (hb.now hB))
  have H4 := Lib.hid (fun W (hB : Below w.heap.size w W) => refMatches_any b r q W (hb.now hB))
  have HLL := Lib.hid (winB_len b r)
  have HSANE := Lib.hid (fun w => sane_any w)
  have HWA := Lib.hid hwa
  clear hb hwa hX1 hX2 hX3 hr hq
  generalize bushyS b 40 = u1 at HU
  generalize largeB b 400 = l1 at HG
  generalize winB b r = p at H1 H2 HLL
  generalize matchB b r q = m at H3 H4
  obtain ⟨p1, p2⟩ := p
  obtain ⟨m1, m2⟩ := m
  dsimp only at H1 H2 H3 H4 HLL
  obtain ⟨⟨f0, f1, f2, f3, f4, f5, f6⟩, _, _⟩ := HX.out wa (Below.refl _ _)
  go_enter Tryd.func9, Tryd.ntmps9
  go_wp2_with fail
  rw [HWA.out]
  refine (HU.out _ hBa).mono ?_
  rintro e w1 ⟨rfl, hb1⟩
  have hba1 := hb1
  have hB1 := hBa.trans (hba1.mono hBa.size)
  clear f0 f1 f2 f3 f4 f5 f6
  cases u1
  rotate_left
  · go_wp2_with fail
    refine (HSANE.out _).mono ?_
    rintro e ws ⟨rfl, hbs⟩
    have hBs := hB1.trans (hbs.mono hB1.size)
    go_wp2
    go_ret
    exact Ret.mk rfl hBs
  obtain ⟨⟨f0, f1, f2, f3, f4, f5, f6⟩, _, _⟩ := HX.out w1 hba1
  go_wp2_with fail
  refine (HG.out _ hB1).mono ?_
  rintro e w2 ⟨rfl, hb2⟩
  have hba2 := hba1.trans (hb2.mono hba1.size)
  have hB2 := hBa.trans (hba2.mono hBa.size)
  clear f0 f1 f2 f3 f4 f5 f6
  cases l1
  rotate_left
  · go_wp2_with fail
    refine (HSANE.out _).mono ?_
    rintro e ws ⟨rfl, hbs⟩
    have hBs := hB2.trans (hbs.mono hB2.size)
    go_wp2
    go_ret
    exact Ret.mk rfl hBs
  obtain ⟨⟨f0, f1, f2, f3, f4, f5, f6⟩, hrx, hqx⟩ := HX.out w2 hba2
  obtain ⟨r0, r1, r2, r3⟩ := hrx.c
  obtain ⟨q0, q1, q2, q3⟩ := hqx.c
  go_wp2_with fail
  refine (H1.out _ hB2).mono ?_
  rintro e w3 ⟨A1, c1, rfl, hr1, hc1, hb3⟩
  have hba3 := hba2.trans (hb3.mono hba2.size)
  have hB3 := hBa.trans (hba3.mono hBa.size)
  clear f0 f1 f2 f3 f4 f5 f6 r0 r1 r2 r3 q0 q1 q2 q3 hrx hqx
  have HR1 := Lib.hid hr1
  clear hr1
  obtain ⟨⟨f0, f1, f2, f3, f4, f5, f6⟩, hrx, hqx⟩ := HX.out w3 hba3
  obtain ⟨r0, r1, r2, r3⟩ := hrx.c
  obtain ⟨q0, q1, q2, q3⟩ := hqx.c
  go_wp2_with fail
  refine (H2.out _ hB3).mono ?_
  rintro e w4 ⟨A2, c2, rfl, hr2, hc2, hb4⟩
  have hba4 := hba3.trans (hb4.mono hba3.size)
  have hB4 := hBa.trans (hba4.mono hBa.size)
  clear f0 f1 f2 f3 f4 f5 f6 r0 r1 r2 r3 q0 q1 q2 q3 hrx hqx
  have HR2 := Lib.hid hr2
  clear hr2
  obtain ⟨⟨f0, f1, f2, f3, f4, f5, f6⟩, hrx, hqx⟩ := HX.out w4 hba4
  obtain ⟨r0, r1, r2, r3⟩ := hrx.c
  obtain ⟨q0, q1, q2, q3⟩ := hqx.c
  go_wp2_with fail
  refine (H3.out _ hB4).mono ?_
  rintro e w5 ⟨rfl, hb5⟩
  have hba5 := hba4.trans (hb5.mono hba4.size)
  have hB5 := hBa.trans (hba5.mono hBa.size)
  clear f0 f1 f2 f3 f4 f5 f6 r0 r1 r2 r3 q0 q1 q2 q3 hrx hqx
  obtain ⟨⟨f0, f1, f2, f3, f4, f5, f6⟩, hrx, hqx⟩ := HX.out w5 hba5
  obtain ⟨r0, r1, r2, r3⟩ := hrx.c
  obtain ⟨q0, q1, q2, q3⟩ := hqx.c
  go_wp2_with fail
  refine (H4.out _ hB5).mono ?_
  rintro e w6 ⟨rfl, hb6⟩
  have hba6 := hba5.trans (hb6.mono hba5.size)
  have hB6 := hBa.trans (hba6.mono hBa.size)
  clear f0 f1 f2 f3 f4 f5 f6 r0 r1 r2 r3 q0 q1 q2 q3 hrx hqx
  have HSM := Lib.hid (same_any A1 A2 c1 c2 p1 w6 (HR1.out.now (hb4.trans ((hb5.trans (hb6.mono hb5.size)).mono hb4.size))) (HR2.out.now (hb5.trans (hb6.mono hb5.size))) HLL.out)
  have d1 : (m1 == m1) = true := by cases m1 <;> rfl
  go_wp2_with fail
  refine HSM.out.mono ?_
  rintro e w7 ⟨rfl, hb7⟩
  have hB7 := hB6.trans (hb7.mono hB6.size)
  go_wp2_with fail
  refine (HSANE.out _).mono ?_
  rintro e ws ⟨rfl, hbs⟩
  have hBs := hB7.trans (hbs.mono hB7.size)
  go_wp2
  go_ret
  exact Ret.mk rfl hBs
end Go.Proofs.YtbcnkcndhgihaaaDoor

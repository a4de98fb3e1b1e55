/- Blocks: windows: plain, and the program's window: the walk. Blocks: Window and Matches of the program: the walks. Printed by genwn2.py. -/
import Derived.Test.YtbcnkcndhgihaaaDoorCPB
import Derived.Test.YtbcnkcndhgihaaaDoorMathVV
import Derived.Test.YtbcnkcndhgihaaaDoorSRM
import Derived.Deep.RegionHeld3
import Derived.Test.YtbcnkcndhgihaaaDoorWRA
namespace Go.Proofs.YtbcnkcndhgihaaaDoor
open Go.RowKit
set_option linter.unusedSimpArgs false

def fitR (e : T3) (r : R4) : Bool := btw 1 r.w e.x && btw 1 r.h e.y && btw 0 r.x (e.x - r.w) && btw 0 r.y (e.y - r.h)
def winS (S : Sh) (r : R4) : List ByteArray := planeS S 2 0 r.x r.y r.w.toNat r.h.toNat
theorem btw_iff {a n b : Int} : btw a n b = true ↔ a ≤ n ∧ n ≤ b := by unfold btw; simp
theorem fit_nat {a b c : Nat} {r : R4} (h : fitR ⟨a, b, c⟩ r = true) : ∃ x y nw nh : Nat, r = ⟨x, y, nw, nh⟩ ∧ 1 ≤ nw ∧ 1 ≤ nh ∧ x + nw ≤ a ∧ y + nh ≤ b := by
  unfold fitR at h
  simp only [Bool.and_eq_true, btw_iff] at h
  obtain ⟨x, y, w, h'⟩ := r
  dsimp only at h
  obtain ⟨nx, rfl⟩ : ∃ n : Nat, x = n := ⟨x.toNat, by omega⟩
  obtain ⟨ny, rfl⟩ : ∃ n : Nat, y = n := ⟨y.toNat, by omega⟩
  obtain ⟨nw, rfl⟩ : ∃ n : Nat, w = n := ⟨w.toNat, by omega⟩
  obtain ⟨nh, rfl⟩ : ∃ n : Nat, h' = n := ⟨h'.toNat, by omega⟩
  exact ⟨nx, ny, nw, nh, rfl, by omega, by omega, by omega, by omega⟩
theorem str_cut (L : List Int) (i k : Nat) : (strB L).extract i (i + k) = strB ((L.drop i).take k) := by
  unfold strB
  rw [ext_list, ← List.map_drop, ← List.map_take, Nat.add_sub_cancel_left]
theorem line_cut (S : Sh) (j : Int) (n x k : Nat) (h : x + k ≤ n) : ((lineS S 2 0 j n).drop x).take k = plineS S 2 0 x j k := by
  apply List.ext_getElem?
  intro i
  unfold lineS plineS
  by_cases hi : i < k
  · rw [List.getElem?_take, if_pos hi, List.getElem?_drop]
    rw [List.getElem?_map, List.getElem?_map, List.getElem?_range (by omega), List.getElem?_range hi]
    simp
  · rw [List.getElem?_take, if_neg hi, List.getElem?_eq_none (by simp; omega)]
/-- A row of the first layer, cut. -/
theorem row_cut {S : Sh} {a b c x y nw nh k : Nat} (he : S.ext = ⟨a, b, c⟩) (hx : x + nw ≤ a) (hy : y + nh ≤ b) (hk : k < nh) : ∃ s, (layerS S 2 0)[y + k]? = some s ∧ s.extract x (x + nw) = strB (plineS S 2 0 x ((y : Int) + k) nw) ∧ s.size = a := by
  refine ⟨strB (lineS S 2 0 ((y : Int) + k) a), ?_, ?_, ?_⟩
  · unfold layerS layS
    rw [he, List.getElem?_map, List.getElem?_range (show y + k < ((⟨a, b, c⟩ : T3).get (axQ 2)).toNat from by show y + k < ((b : Nat) : Int).toNat; omega)]
    rfl
  · rw [str_cut, line_cut _ _ _ _ _ hx]
  · have h : (strB (lineS S 2 0 ((y : Int) + k) a)).data.size = a := by unfold strB; simp [line_len]
    exact h
theorem layer_len2 {S : Sh} {a b c : Nat} (he : S.ext = ⟨a, b, c⟩) : (layerS S 2 0).length = b := by
  unfold layerS
  rw [lay_len, he]
  rfl
/-- What window returns. -/
def WinR (S : Sh) (r : R4) (w : World) (e : Ending) (w' : World) : Prop := Below w.heap.size w w' ∧ if fitR S.ext r then ∃ A c, e = .returned (.tuple #[.slice A (winS S r).length c, .bool true]) ∧ RdST w' w'.heap.size A (winS S r) ∧ (winS S r).length ≤ c else e = .returned (.tuple #[.slice none 0 0, .bool false])
set_option maxRecDepth 100000 in
set_option maxHeartbeats 8000000 in
theorem window_any (S : Sh) (r : R4) (w : World) (hok : S.Ok) (hr : (-9223372036854775808 ≤ r.x ∧ r.x ≤ 9223372036854775807) ∧ (-9223372036854775808 ≤ r.y ∧ r.y ≤ 9223372036854775807) ∧ (-9223372036854775808 ≤ r.w ∧ r.w ≤ 9223372036854775807) ∧ (-9223372036854775808 ≤ r.h ∧ r.h ≤ 9223372036854775807)) : Calls Tryd.prog 67 #[.iface S.ty (.agg S.ag), valR r] w (WinR S r w) := by
  have hmx : Tryd.prog.follows .mixedOrders = true := by kernel_rfl
  obtain ⟨a, b, c, he, ha0, hb0, hc0, ha2, hb2', hc2, h8⟩ := nat_ext hok.ext
  have HFIT : Hid (∀ e w', Below w.heap.size w w' → fitR S.ext r = true → (∃ A c, e = .returned (.tuple #[.slice A (winS S r).length c, .bool true]) ∧ RdST w' w'.heap.size A (winS S r) ∧ (winS S r).length ≤ c) → WinR S r w e w') := fun e w' hb hf h => ⟨hb, by rw [if_pos hf]; exact h⟩
  have HNOT : Hid (∀ w', Below w.heap.size w w' → fitR S.ext r = false → WinR S r w (.returned (.tuple #[.slice none 0 0, .bool false])) w') := fun w' hb hf => ⟨hb, by rw [if_neg (by rw [hf]; simp)]⟩
  have hme := S.me
  have HX := Lib.hid (fun W => ext_ret ⟨a, b, c⟩ W)
  have HL : Hid (∀ W, Calls Tryd.prog 59 #[.iface S.ty (.agg S.ag), .int .i64 2, .int .i64 0] W fun e w' => ∃ bb off c4, e = .returned (.slice (some ⟨bb, off, none⟩) b c4) ∧ RdST w' w'.heap.size (some ⟨bb, off, none⟩) (layerS S 2 0) ∧ b ≤ c4 ∧ Below W.heap.size W w') := fun W => by
    refine (layer2_any S hok 2 0 (Lib.hid rfl) (by omega) (by rw [he]; show (0 : Int) < c; omega) W).mono ?_
    rintro e w' ⟨A, c4, rfl, hr, hc, hb⟩
    rw [layer_len2 he] at hc ⊢
    obtain ⟨s, hs, _⟩ := row_cut (S := S) (x := 0) (y := 0) (nw := 0) (nh := 1) (k := 0) he (by omega) (by omega) (by omega)
    obtain ⟨bb, off, rfl, _⟩ := hr _ s hs
    exact ⟨bb, off, c4, rfl, hr, hc, hb⟩
  have HROW := Lib.hid (fun x y nw nh k (h1 : x + nw ≤ a) (h2 : y + nh ≤ b) (h3 : k < nh) => row_cut (S := S) (x := x) (y := y) (nw := nw) (nh := nh) (k := k) he h1 h2 h3)
  rw [he] at hme HFIT HNOT
  have HWS : Hid (winS S r = planeS S 2 0 r.x r.y r.w.toNat r.h.toNat) := rfl
  obtain ⟨x, y, rw', rh⟩ := r
  dsimp only at hr HWS
  obtain ⟨wa, hwa⟩ : ∃ wa, w.alloc (.cells #[.int .i64 x, .int .i64 y, .int .i64 rw', .int .i64 rh] 56) = wa := ⟨_, rfl⟩
  have hBa : Below w.heap.size w wa := by rw [← hwa]; (repeat (first | exact Below.refl _ _ | assumption | refine Below.alloc ?_ (by first | exact Nat.le_refl _ | exact Below.size (by assumption) | omega | (simp <;> omega)) _ | refine Below.setCell ?_ (by first | exact Nat.le_refl _ | exact Below.size (by assumption) | omega | (simp <;> omega)) _ | refine below_drewN ?_ _ | refine Below.drew ?_))
  have hza : wa.heap.size = w.heap.size + 1 := by rw [← hwa]; simp
  have HRB : Hid (∀ W, Below wa.heap.size wa W → W.cell? ⟨w.heap.size, 0, none⟩ = some (.int .i64 x) ∧ W.cell? ⟨w.heap.size, 1, none⟩ = some (.int .i64 y) ∧ W.cell? ⟨w.heap.size, 2, none⟩ = some (.int .i64 rw') ∧ W.cell? ⟨w.heap.size, 3, none⟩ = some (.int .i64 rh)) := fun W h =>
    ⟨(h.cell (p := ⟨w.heap.size, 0, none⟩) (by dsimp only; omega)).trans (by rw [← hwa]; simp), (h.cell (p := ⟨w.heap.size, 1, none⟩) (by dsimp only; omega)).trans (by rw [← hwa]; simp), (h.cell (p := ⟨w.heap.size, 2, none⟩) (by dsimp only; omega)).trans (by rw [← hwa]; simp), (h.cell (p := ⟨w.heap.size, 3, none⟩) (by dsimp only; omega)).trans (by rw [← hwa]; simp)⟩
  have HWA := Lib.hid hwa
  clear hwa hok he
  go_enter Tryd.func67, Tryd.ntmps67
  go_wp2_with fail
  rw [HWA.out]
  refine (HX.out _).mono ?_
  rintro e w2 ⟨rfl, hb2⟩
  have hs2 := hb2.size
  have hb3 : Below wa.heap.size wa (w2.alloc (.cells #[.int .i64 a, .int .i64 b, .int .i64 c] 22)) := by (repeat (first | exact Below.refl _ _ | assumption | refine Below.alloc ?_ (by first | exact Nat.le_refl _ | exact Below.size (by assumption) | omega | (simp <;> omega)) _ | refine Below.setCell ?_ (by first | exact Nat.le_refl _ | exact Below.size (by assumption) | omega | (simp <;> omega)) _ | refine below_drewN ?_ _ | refine Below.drew ?_))
  have hB3 := hBa.trans (hb3.mono hBa.size)
  have hX3 : CX (w2.alloc (.cells #[.int .i64 a, .int .i64 b, .int .i64 c] 22)) w2.heap.size ⟨a, b, c⟩ := CX.new w2 ⟨a, b, c⟩
  obtain ⟨x0, x1, x2, _⟩ := hX3.c
  dsimp only at x0 x1 x2
  obtain ⟨r0, r1, r2, r3⟩ := HRB.out _ hb3
  have hw1 : wrap64 ((a : Int) - rw') = (a : Int) - rw' ∨ btw 1 rw' a = false := by
    by_cases h : btw 1 rw' a = true
    · left; rw [btw_iff] at h; exact w64b (by omega) (by omega)
    · right; simpa using h
  have hw2 : wrap64 ((b : Int) - rh) = (b : Int) - rh ∨ btw 1 rh b = false := by
    by_cases h : btw 1 rh b = true
    · left; rw [btw_iff] at h; exact w64b (by omega) (by omega)
    · right; simpa using h
  have HW1 := Lib.hid hw1; have HW2 := Lib.hid hw2
  clear hw1 hw2 hr
  cases d1 : btw 1 rw' a
  · have HS := Lib.hid (HNOT.out _ hB3 (by unfold fitR; rw [d1]; rfl))
    go_wp2_with fail
    refine (between_any _ _ _ _).mono ?_
    rintro e w9 ⟨rfl, hw9⟩
    subst hw9
    rw [d1]
    go_wp2
    go_ret2
    exact HS.out
  cases d2 : btw 1 rh b
  · have HS := Lib.hid (HNOT.out _ hB3 (by unfold fitR; rw [d1, d2]; rfl))
    go_wp2_with fail
    refine (between_any _ _ _ _).mono ?_
    rintro e w9 ⟨rfl, hw9⟩
    subst hw9
    rw [d1]
    go_wp2_with fail
    refine (between_any _ _ _ _).mono ?_
    rintro e w9 ⟨rfl, hw9⟩
    subst hw9
    rw [d2]
    go_wp2
    go_ret2
    exact HS.out
  have hw1 : wrap64 ((a : Int) - rw') = (a : Int) - rw' := HW1.out.resolve_right (by rw [d1]; simp)
  have hw2 : wrap64 ((b : Int) - rh) = (b : Int) - rh := HW2.out.resolve_right (by rw [d2]; simp)
  cases d3 : btw 0 x ((a : Int) - rw')
  · have HS := Lib.hid (HNOT.out _ hB3 (by unfold fitR; rw [d1, d2, d3]; rfl))
    go_wp2_with fail
    refine (between_any _ _ _ _).mono ?_
    rintro e w9 ⟨rfl, hw9⟩
    subst hw9
    rw [d1]
    go_wp2_with fail
    refine (between_any _ _ _ _).mono ?_
    rintro e w9 ⟨rfl, hw9⟩
    subst hw9
    rw [d2]
    go_wp2_with fail
    refine (between_any _ _ _ _).mono ?_
    rintro e w9 ⟨rfl, hw9⟩
    subst hw9
    rw [d3]
    go_wp2
    go_ret2
    exact HS.out
  cases d4 : btw 0 y ((b : Int) - rh)
  · have HS := Lib.hid (HNOT.out _ hB3 (by unfold fitR; rw [d1, d2, d3, d4]; rfl))
    go_wp2_with fail
    refine (between_any _ _ _ _).mono ?_
    rintro e w9 ⟨rfl, hw9⟩
    subst hw9
    rw [d1]
    go_wp2_with fail
    refine (between_any _ _ _ _).mono ?_
    rintro e w9 ⟨rfl, hw9⟩
    subst hw9
    rw [d2]
    go_wp2_with fail
    refine (between_any _ _ _ _).mono ?_
    rintro e w9 ⟨rfl, hw9⟩
    subst hw9
    rw [d3]
    go_wp2_with fail
    refine (between_any _ _ _ _).mono ?_
    rintro e w9 ⟨rfl, hw9⟩
    subst hw9
    rw [d4]
    go_wp2
    go_ret2
    exact HS.out
  have hfit : fitR ⟨a, b, c⟩ ⟨x, y, rw', rh⟩ = true := by unfold fitR; rw [d1, d2, d3, d4]; rfl
  go_wp2_with fail
  refine (between_any _ _ _ _).mono ?_
  rintro e w9 ⟨rfl, hw9⟩
  subst hw9
  rw [d1]
  go_wp2_with fail
  refine (between_any _ _ _ _).mono ?_
  rintro e w9 ⟨rfl, hw9⟩
  subst hw9
  rw [d2]
  go_wp2_with fail
  refine (between_any _ _ _ _).mono ?_
  rintro e w9 ⟨rfl, hw9⟩
  subst hw9
  rw [d3]
  go_wp2_with fail
  refine (between_any _ _ _ _).mono ?_
  rintro e w9 ⟨rfl, hw9⟩
  subst hw9
  rw [d4]
  clear d1 d2 d3 d4 hw1 hw2 HW1 HW2 x0 x1 x2
  obtain ⟨nx, ny, nw, nh, hrr, q1, q2, q3, q4⟩ := fit_nat hfit
  injection hrr with p1 p2 p3 p4
  subst p1 p2 p3 p4
  have HYES := Lib.hid (fun e w' h => HFIT.out e w' h hfit)
  clear hfit HFIT HNOT
  obtain ⟨m, hm⟩ : ∃ m, ny + nh = m := ⟨_, rfl⟩
  have hm0 : m ≤ 200 := by omega
  have hm1 : ny < m := by omega
  have j1 : IntKind.i64.wrap ((ny : Int) + nh) = (m : Int) := by rw [← hm, Int.natCast_add]; exact IntWalk.i64_in _ (by omega)
  have j2 : (0 : Int) ≤ (ny : Int) := Int.natCast_nonneg _
  have j3 : (0 : Int) ≤ (m : Int) := Int.natCast_nonneg _
  have j4 : (ny : Int) ≤ (m : Int) := Int.ofNat_le.2 (Nat.le_of_lt hm1)
  have hmb : m ≤ b := by omega
  have HM := Lib.hid hm
  clear hm
  go_wp2
  generalize hw3 : w2.alloc (.cells #[.int .i64 a, .int .i64 b, .int .i64 c] 22) = w3 at *
  clear hw3 r0 r1 r2 r3
  have HB3 := Lib.hid hB3
  go_region_held3 (fun w' => w'.cell? ⟨w.heap.size, 0, none⟩ = some (.int .i64 nx) ∧ w'.cell? ⟨w.heap.size, 1, none⟩ = some (.int .i64 ny) ∧ w'.cell? ⟨w.heap.size, 2, none⟩ = some (.int .i64 nw) ∧ w'.cell? ⟨w.heap.size, 3, none⟩ = some (.int .i64 nh)) (first | exact HRB.out _ hb4' | exact HRB.out _ hb3 | exact HRB.out _ (by (repeat (first | exact Below.refl _ _ | assumption | refine Below.alloc ?_ (by first | exact Nat.le_refl _ | exact Below.size (by assumption) | omega | (simp <;> omega)) _ | refine Below.setCell ?_ (by first | exact Nat.le_refl _ | exact Below.size (by assumption) | omega | (simp <;> omega)) _ | refine below_drewN ?_ _ | refine Below.drew ?_))))
    (first | (go_at_call 59; refine (HL.out _).mono ?_; rintro e4 w4 ⟨bb, off, c4, rfl, hrd4, hc4, hb4⟩; have hb4' : Below wa.heap.size wa w4 := below_next (by (repeat (first | exact Below.refl _ _ | assumption | refine Below.alloc ?_ (by first | exact Nat.le_refl _ | exact Below.size (by assumption) | omega | (simp <;> omega)) _ | refine Below.setCell ?_ (by first | exact Nat.le_refl _ | exact Below.size (by assumption) | omega | (simp <;> omega)) _ | refine below_drewN ?_ _ | refine Below.drew ?_))) hb4; have HRD := Lib.hid hrd4; have i1 : (ny : Int) ≤ (c4 : Int) := Int.ofNat_le.2 (Nat.le_of_lt (Nat.lt_of_lt_of_le hm1 (Nat.le_trans hmb hc4))); have i2 : (m : Int) ≤ (c4 : Int) := Int.ofNat_le.2 (Nat.le_trans hmb hc4); have i3 : ¬ c4 = ny := Nat.ne_of_gt (Nat.lt_of_lt_of_le hm1 (Nat.le_trans hmb hc4)); clear hrd4))
  rw [show m - ny = nh from by rw [← HM.out, Nat.add_sub_cancel_left]]
  clear i1 i2 i3 j1 j2 j3 j4
  obtain ⟨mm, hmm⟩ : ∃ mm, nx + nw = mm := ⟨_, rfl⟩
  have hmm1 : mm ≤ a := by omega
  have hmm2 : nx ≤ mm := by omega
  have HMM := Lib.hid hmm
  have hma : nh ≤ 200 := by omega
  have hkk : mm ≤ 200 := by omega
  clear hmm q1 q2 hm0 hm1 hmb hc4
  have HQ3 := Lib.hid q3; have HQ4 := Lib.hid q4
  clear q3 q4
  have hsx := hb4'.size
  obtain ⟨i2, hj2, hx0, hx1, hx2⟩ := infoS_partsT Tryd.infoST
  have HJT := Lib.hid hj2; clear hj2
  go_wp2
  go_loopw [7, 59] (fun l i wr => ∃ (k : Nat) (v : Value), v = l ∧ k ≤ nh ∧ i = .int .i64 k ∧ OwnST wr w4.heap.size v (planeS S 2 0 nx ny nw k) ∧ Below w4.heap.size w4 wr) (fun _ i _ => nh - (intOf i).toNat)
  case atStart => exact ⟨0, _, rfl, Nat.zero_le _, rfl, World.ownsRow_nil _ _ _ _, Below.refl _ _⟩
  case round =>
    obtain ⟨k, u, rfl, hk, rfl, hown, hB⟩ := hrel
    have HO := Lib.hid hown; clear hown
    have hsB := hB.size
    have hbr : Below wa.heap.size wa wr := hb4'.trans (hB.mono hsx)
    by_cases hlt : k < nh
    · obtain ⟨s, hs, hex, hsz⟩ := HROW.out nx ny nw nh k HQ3.out HQ4.out hlt
      rw [HMM.out] at hex
      obtain ⟨b5, o5, hA5, hb5, c5⟩ := HRD.out _ s hs
      injection hA5 with hA5
      injection hA5 with t1 t2 t3
      subst t1 t2
      have d5 : wr.cell? ⟨bb, off + ny + k, none⟩ = some (.string s) := by
        rw [Nat.add_assoc]
        exact (hB.cell (p := ⟨bb, off + (ny + k), none⟩) hb5).trans c5
      obtain ⟨r0, r1, r2, r3⟩ := HRB.out _ hbr
      obtain ⟨st, hst⟩ : ∃ st, strB (plineS S 2 0 nx ((ny : Int) + k) nw) = st := ⟨_, rfl⟩
      have hls := plane_succ S 2 0 nx ny nw k
      rw [hst] at hls hex
      have HSL := Lib.hid hls
      have HLN := Lib.hid (plane_len S 2 0 nx ny nw k)
      have k1 : wrap64 ((nx : Int) + nw) = (mm : Int) := by rw [show (nx : Int) + nw = (mm : Int) from by rw [← HMM.out, Int.natCast_add]]; exact w64b (by omega) (by omega)
      have k2 : (nx : Int) ≤ (mm : Int) := Int.ofNat_le.2 hmm2
      have k3 : (mm : Int) ≤ (a : Int) := Int.ofNat_le.2 hmm1
      have k4 : (0 : Int) ≤ (nx : Int) := Int.natCast_nonneg _
      have hbt : Below w4.heap.size w4 wr := hB
      clear hst hls c5 hs t3
      go_wp2_with (at_builtin; clear k1; refine wpList_append_own _ rfl _ _ 35 rfl w4.heap.size 9 i2 (.string ⟨#[]⟩) 1 16 Tryd.underlying35 HJT.out hx0 hx1 hx2 rfl (by decide) _ _ _ rfl (World.ownsRow.alloc HO.out _) ⟨wr.heap.size, 0, none⟩ 1 1 [.string st] rfl rfl (by intro j u hj; match j, hj with | 0, hj => (simp at hj; subst hj; simp [Addr.add]) | j + 1, hj => simp at hj) (by intro u hu; simp at hu; subst hu; rfl) (by have := HLN.out; unfold maxLen; omega) (by have := HLN.out; omega) (by simp; omega) ?_; intro v' w5 hown' hgrow _; have hB5 := below_grown (w1 := wr.alloc (.cells #[.string st] 9)) (hB.alloc (by omega) _) hgrow (fun j hj => (HO.out.lt j hj).1) (by simp; omega); have own5 := ownST_snoc hown' HSL.out; have HOW5 := Lib.hid own5; clear own5 hown' hgrow)
      go_wp2
      go_roundw
      case rel => exact ⟨k + 1, _, rfl, by omega, by go_num, HOW5.out, hB5⟩
      case measure => simp [intOf]; omega
    · obtain rfl : k = nh := by omega
      have hown := HO.out
      obtain ⟨A9, c9, rfl, hr9, hc9, _⟩ := own_rdST hown
      have HF : Hid (WinR S ⟨nx, ny, nw, k⟩ w (.returned (.tuple #[.slice A9 (planeS S 2 0 nx ny nw k).length c9, .bool true])) wr) := HYES.out _ _ (hBa.trans (hbr.mono hBa.size)) ⟨A9, c9, rfl, hr9, hc9⟩
      clear hown hr9 hc9
      go_wp2
      go_ret2
      exact HF.out
end Go.Proofs.YtbcnkcndhgihaaaDoor

namespace Go.Proofs.YtbcnkcndhgihaaaDoor
open Go.RowKit
set_option linter.unusedSimpArgs false

def winB (b : BT) (r : R4) : List ByteArray × Int := match formS b with
  | .error x => ([], x)
  | .ok s => if fitR s.ext r then (winS s r, 0) else ([], 2)
def apartR (r q : R4) : Bool := decide (r.x + r.w ≤ q.x) || (decide (q.x + q.w ≤ r.x) || (decide (r.y + r.h ≤ q.y) || decide (q.y + q.h ≤ r.y)))
def matchB (b : BT) (r q : R4) : Bool × Int := match formS b with
  | .error x => (false, x)
  | .ok s => if fitR s.ext r && fitR s.ext q then (apartR r q && eqfB (winS s r) (winS s q), 0) else (false, 2)
abbrev RBd (r : R4) : Prop := (-9223372036854775808 ≤ r.x ∧ r.x ≤ 9223372036854775807) ∧ (-9223372036854775808 ≤ r.y ∧ r.y ≤ 9223372036854775807) ∧ (-9223372036854775808 ≤ r.w ∧ r.w ≤ 9223372036854775807) ∧ (-9223372036854775808 ≤ r.h ∧ r.h ≤ 9223372036854775807)
/-- A rectangle in a box. -/
def RX (W : World) (k : Nat) (r : R4) : Prop := W.heap[k]? = some (.cells #[.int .i64 r.x, .int .i64 r.y, .int .i64 r.w, .int .i64 r.h] 56 (0, 0))
theorem RX.c {W : World} {k : Nat} {r : R4} (h : RX W k r) : W.cell? ⟨k, 0, none⟩ = some (.int .i64 r.x) ∧ W.cell? ⟨k, 1, none⟩ = some (.int .i64 r.y) ∧ W.cell? ⟨k, 2, none⟩ = some (.int .i64 r.w) ∧ W.cell? ⟨k, 3, none⟩ = some (.int .i64 r.h) := by
  unfold RX at h
  exact ⟨by simp [World.cell?, h], by simp [World.cell?, h], by simp [World.cell?, h], by simp [World.cell?, h]⟩
theorem RX.new (W : World) (r : R4) : RX (W.alloc (.cells #[.int .i64 r.x, .int .i64 r.y, .int .i64 r.w, .int .i64 r.h] 56)) W.heap.size r := heap_alloc_new W _
theorem RX.below {W W' : World} {k B : Nat} {r : R4} (h : RX W k r) (hb : Below B W W') (hk : k < B) : RX W' k r := (hb.block k hk).trans h
set_option maxRecDepth 100000 in
set_option maxHeartbeats 4000000 in
theorem Window_any (b : BT) (r : R4) (w : World) (hr : RBd r) (hb : OkB w w.heap.size b) : Calls Tryd.prog 39 #[valB b, valR r] w (RetTE (winB b r).1 (winB b r).2 w) := by
  obtain ⟨wa, hwa⟩ : ∃ wa, (w.alloc (.cells #[.int .i64 b.op, .int .i64 b.ax, .int .u8 b.co, .int .i64 b.n0, .int .i64 b.n1, .int .i64 b.n2, .slice b.A b.ps.length b.cp] 25)).alloc (.cells #[.int .i64 r.x, .int .i64 r.y, .int .i64 r.w, .int .i64 r.h] 56) = wa := ⟨_, rfl⟩
  have hBa : Below w.heap.size w wa := by rw [← hwa]; (repeat (first | exact Below.refl _ _ | assumption | refine Below.alloc ?_ (by first | exact Nat.le_refl _ | exact Below.size (by assumption) | omega | (simp <;> omega)) _ | refine Below.setCell ?_ (by first | exact Nat.le_refl _ | exact Below.size (by assumption) | omega | (simp <;> omega)) _ | refine below_drewN ?_ _ | refine Below.drew ?_))
  have hza : wa.heap.size = w.heap.size + 2 := by rw [← hwa]; simp
  have hX1 : BxB wa w.heap.size b := (BxB.new w b 25).under (B := w.heap.size + 1) (by rw [← hwa]; (repeat (first | exact Below.refl _ _ | assumption | refine Below.alloc ?_ (by first | exact Nat.le_refl _ | exact Below.size (by assumption) | omega | (simp <;> omega)) _ | refine Below.setCell ?_ (by first | exact Nat.le_refl _ | exact Below.size (by assumption) | omega | (simp <;> omega)) _ | refine below_drewN ?_ _ | refine Below.drew ?_))) (by omega)
  have hX2 : RX wa (w.heap.size + 1) r := by
    have h := RX.new (w.alloc (.cells #[.int .i64 b.op, .int .i64 b.ax, .int .u8 b.co, .int .i64 b.n0, .int .i64 b.n1, .int .i64 b.n2, .slice b.A b.ps.length b.cp] 25)) r
    rw [World.size_alloc, hwa] at h
    exact h
  have HX2 : Hid (∀ W, Below wa.heap.size wa W → RX W (w.heap.size + 1) r) := fun W h => hX2.below h (by omega)
  have HF1 := Lib.hid (form_any b wa (hb.now hBa))
  have HWA := Lib.hid hwa
  clear hb hwa hX2
  obtain ⟨f0, f1, f2, f3, f4, f5, f6⟩ := hX1
  go_enter Tryd.func39, Tryd.ntmps39
  go_wp2_with fail
  rw [HWA.out]
  refine HF1.out.mono ?_
  rintro e w2 ⟨hb2, v, er, rfl, hok, her⟩
  have hB2 := hBa.trans (hb2.mono hBa.size)
  clear f0 f1 f2 f3 f4 f5 f6
  cases hf : formS b with
  | error er2 =>
    obtain rfl := her er2 hf
    have hx := form_err hf
    have HS : Hid (winB b r = ([], er)) := by show _ = _; unfold winB; rw [hf]
    have hne : (er != 0) = true := by simp; omega
    clear hf hx hok her
    go_wp2
    go_ret2
    rw [HS.out]
    exact retTE_nil rfl hB2
  | ok S =>
    obtain ⟨rfl, rfl⟩ := hok S hf
    have HW := Lib.hid (fun W => window_any S r W (form_ok hf) hr)
    have HSP : Hid (winB b r = if fitR S.ext r then (winS S r, 0) else ([], 2)) := by show _ = _; unfold winB; rw [hf]
    clear hf hok her
    obtain ⟨r0, r1, r2, r3⟩ := (HX2.out w2 hb2).c
    go_wp2_with fail
    refine (HW.out _).mono ?_
    rintro e w3 ⟨hb3, he⟩
    have hB3 := hB2.trans (hb3.mono hB2.size)
    clear r0 r1 r2 r3
    by_cases hfit : fitR S.ext r = true
    · rw [if_pos hfit] at he
      obtain ⟨A, c, rfl, hrd, hc⟩ := he
      have HS := Lib.hid (HSP.out.trans (if_pos hfit))
      have HR := Lib.hid hrd; have HC := Lib.hid hc
      clear hfit hrd hc
      go_wp2
      go_ret2
      rw [HS.out]
      exact ⟨A, c, rfl, HR.out, HC.out, hB3⟩
    · rw [if_neg hfit] at he
      obtain rfl := he
      have HS := Lib.hid (HSP.out.trans (if_neg hfit))
      clear hfit
      go_wp2
      go_ret2
      rw [HS.out]
      exact retTE_nil rfl hB3
theorem win_size {S : Sh} {u v : Int} {nw nh : Nat} : ∀ s ∈ planeS S 2 0 u v nw nh, s.size = nw := by
  intro s hs
  unfold planeS at hs
  obtain ⟨j, _, rfl⟩ := List.mem_map.1 hs
  have h : (strB (plineS S 2 0 u (v + (j : Int)) nw)).data.size = nw := by unfold strB; simp [pline_len]
  exact h
set_option maxRecDepth 100000 in
set_option maxHeartbeats 8000000 in
theorem Matches_any (b : BT) (r q : R4) (w : World) (hr : RBd r) (hq : RBd q) (hb : OkB w w.heap.size b) : Calls Tryd.prog 41 #[valB b, valR r, valR q] w (Ret (.tuple #[.bool (matchB b r q).1, .int .i64 (matchB b r q).2]) w) := by
  obtain ⟨wa, hwa⟩ : ∃ wa, ((w.alloc (.cells #[.int .i64 b.op, .int .i64 b.ax, .int .u8 b.co, .int .i64 b.n0, .int .i64 b.n1, .int .i64 b.n2, .slice b.A b.ps.length b.cp] 25)).alloc (.cells #[.int .i64 r.x, .int .i64 r.y, .int .i64 r.w, .int .i64 r.h] 56)).alloc (.cells #[.int .i64 q.x, .int .i64 q.y, .int .i64 q.w, .int .i64 q.h] 56) = wa := ⟨_, rfl⟩
  have hBa : Below w.heap.size w wa := by rw [← hwa]; (repeat (first | exact Below.refl _ _ | assumption | refine Below.alloc ?_ (by first | exact Nat.le_refl _ | exact Below.size (by assumption) | omega | (simp <;> omega)) _ | refine Below.setCell ?_ (by first | exact Nat.le_refl _ | exact Below.size (by assumption) | omega | (simp <;> omega)) _ | refine below_drewN ?_ _ | refine Below.drew ?_))
  have hza : wa.heap.size = w.heap.size + 3 := by rw [← hwa]; simp
  have hX1 : BxB wa w.heap.size b := (BxB.new w b 25).under (B := w.heap.size + 1) (by rw [← hwa]; (repeat (first | exact Below.refl _ _ | assumption | refine Below.alloc ?_ (by first | exact Nat.le_refl _ | exact Below.size (by assumption) | omega | (simp <;> omega)) _ | refine Below.setCell ?_ (by first | exact Nat.le_refl _ | exact Below.size (by assumption) | omega | (simp <;> omega)) _ | refine below_drewN ?_ _ | refine Below.drew ?_))) (by omega)
  have hX2 : RX wa (w.heap.size + 1) r := by
    have h := RX.new (w.alloc (.cells #[.int .i64 b.op, .int .i64 b.ax, .int .u8 b.co, .int .i64 b.n0, .int .i64 b.n1, .int .i64 b.n2, .slice b.A b.ps.length b.cp] 25)) r
    rw [World.size_alloc] at h
    exact h.below (B := w.heap.size + 2) (by rw [← hwa]; (repeat (first | exact Below.refl _ _ | assumption | refine Below.alloc ?_ (by first | exact Nat.le_refl _ | exact Below.size (by assumption) | omega | (simp <;> omega)) _ | refine Below.setCell ?_ (by first | exact Nat.le_refl _ | exact Below.size (by assumption) | omega | (simp <;> omega)) _ | refine below_drewN ?_ _ | refine Below.drew ?_))) (by omega)
  have hX3 : RX wa (w.heap.size + 2) q := by
    have h := RX.new ((w.alloc (.cells #[.int .i64 b.op, .int .i64 b.ax, .int .u8 b.co, .int .i64 b.n0, .int .i64 b.n1, .int .i64 b.n2, .slice b.A b.ps.length b.cp] 25)).alloc (.cells #[.int .i64 r.x, .int .i64 r.y, .int .i64 r.w, .int .i64 r.h] 56)) q
    rw [World.size_alloc, World.size_alloc, hwa] at h
    exact h
  have HX2 : Hid (∀ W, Below wa.heap.size wa W → RX W (w.heap.size + 1) r ∧ RX W (w.heap.size + 2) q) := fun W h => ⟨hX2.below h (by omega), hX3.below h (by omega)⟩
  have HF1 := Lib.hid (form_any b wa (hb.now hBa))
  have HWA := Lib.hid hwa
  clear hb hwa hX2 hX3
  obtain ⟨f0, f1, f2, f3, f4, f5, f6⟩ := hX1
  go_enter Tryd.func41, Tryd.ntmps41
  go_wp2_with fail
  rw [HWA.out]
  refine HF1.out.mono ?_
  rintro e w2 ⟨hb2, v, er, rfl, hok, her⟩
  have hB2 := hBa.trans (hb2.mono hBa.size)
  clear f0 f1 f2 f3 f4 f5 f6
  cases hf : formS b with
  | error er2 =>
    obtain rfl := her er2 hf
    have hx := form_err hf
    have HS : Hid (matchB b r q = (false, er)) := by show _ = _; unfold matchB; rw [hf]
    have hne : (er != 0) = true := by simp; omega
    clear hf hx hok her
    go_wp2
    go_ret2
    exact Ret.mk (by rw [HS.out]; rfl) hB2
  | ok S =>
    obtain ⟨rfl, rfl⟩ := hok S hf
    have hSok := form_ok hf
    have HW := Lib.hid (fun W => window_any S r W hSok hr)
    have HW2 := Lib.hid (fun W => window_any S q W hSok hq)
    have HSP : Hid (matchB b r q = if fitR S.ext r && fitR S.ext q then (apartR r q && eqfB (winS S r) (winS S q), 0) else (false, 2)) := by show _ = _; unfold matchB; rw [hf]
    obtain ⟨a1, b1, c1, he, _, _, _, ha2, hb2', hc2, _⟩ := nat_ext hSok.ext
    clear hf hok her hr hq hSok
    obtain ⟨r0, r1, r2, r3⟩ := (HX2.out w2 hb2).1.c
    go_wp2_with fail
    refine (HW.out _).mono ?_
    rintro e w3 ⟨hb3, he3⟩
    have hba3 := hb2.trans (hb3.mono hb2.size)
    have hB3 := hB2.trans (hb3.mono hB2.size)
    clear r0 r1 r2 r3
    obtain ⟨q0, q1, q2, q3⟩ := (HX2.out w3 hba3).2.c
    by_cases hfit : fitR S.ext r = true
    · rw [if_pos hfit] at he3
      obtain ⟨A, c, rfl, hrd, hc⟩ := he3
      have HR := Lib.hid hrd
      have HFI := Lib.hid hfit
      clear hfit hrd hc
      go_wp2_with fail
      refine (HW2.out _).mono ?_
      rintro e w4 ⟨hb4, he4⟩
      have hba4 := hba3.trans (hb4.mono hba3.size)
      have hB4 := hB3.trans (hb4.mono hB3.size)
      clear q0 q1 q2 q3
      by_cases hfit2 : fitR S.ext q = true
      · rw [if_pos hfit2] at he4
        obtain ⟨A2, c2, rfl, hrd2, hc2'⟩ := he4
        have HS := Lib.hid (HSP.out.trans (if_pos (by rw [HFI.out, hfit2]; rfl)))
        have h1 := HFI.out
        rw [he] at h1 hfit2
        obtain ⟨rx, ry, rw', rh, hrr, q1, q2, q3, q4⟩ := fit_nat h1
        obtain ⟨qx, qy, qw, qh, hqq, p1, p2, p3, p4⟩ := fit_nat hfit2
        have HSZ : Hid (∀ s ∈ winS S q, s.size ≤ 1000000) := fun s hs => by
          unfold winS at hs
          have h5 := win_size s hs
          rw [hqq] at h5
          rw [h5]
          show ((qw : Nat) : Int).toNat ≤ 1000000
          omega
        have HEQ := Lib.hid (fun W (h : Below w4.heap.size w4 W) => EqualFunc_any A A2 c c2 (winS S r) (winS S q) W (HR.out.now (hb4.trans (h.mono hb4.size))) (hrd2.now h) (by unfold winS; rw [plane_len, hrr]; show ((rh : Nat) : Int).toNat ≤ 1000000; omega) HSZ.out)
        subst hrr hqq
        have e1 : wrap64 ((rx : Int) + rw') = (rx : Int) + rw' := w64b (by omega) (by omega)
        have e2 : wrap64 ((qx : Int) + qw) = (qx : Int) + qw := w64b (by omega) (by omega)
        have e3 : wrap64 ((ry : Int) + rh) = (ry : Int) + rh := w64b (by omega) (by omega)
        have e4 : wrap64 ((qy : Int) + qh) = (qy : Int) + qh := w64b (by omega) (by omega)
        have HAP : Hid (apartR ⟨rx, ry, rw', rh⟩ ⟨qx, qy, qw, qh⟩ = (decide ((rx : Int) + rw' ≤ qx) || (decide ((qx : Int) + qw ≤ rx) || (decide ((ry : Int) + rh ≤ qy) || decide ((qy : Int) + qh ≤ ry))))) := rfl
        generalize winS S ⟨rx, ry, rw', rh⟩ = x at *
        generalize winS S ⟨qx, qy, qw, qh⟩ = y at *
        generalize eqfB x y = z at *
        clear h1 hfit2 hrd2 hc2' q1 q2 q3 q4 p1 p2 p3 p4
        obtain ⟨⟨r0, r1, r2, r3⟩, q0, q1, q2, q3⟩ := (HX2.out w4 hba4).imp (fun h => h.c) (fun h => h.c)
        dsimp only at r0 r1 r2 r3 q0 q1 q2 q3
        cases d1 : decide ((rx : Int) + rw' ≤ qx)
        rotate_left
        · have HA : Hid (apartR ⟨rx, ry, rw', rh⟩ ⟨qx, qy, qw, qh⟩ = true) := by show _ = _; rw [HAP.out, d1]; rfl
          rw [HA.out] at HS
          go_wp2_with fail
          refine (HEQ.out _ (Below.refl _ _)).mono ?_
          rintro e w5 ⟨rfl, hb5⟩
          have hB5 := hB4.trans (hb5.mono hB4.size)
          clear r0 r1 r2 r3 q0 q1 q2 q3
          go_wp2
          go_ret2
          exact Ret.mk (by rw [HS.out]; rfl) hB5
        cases d2 : decide ((qx : Int) + qw ≤ rx)
        rotate_left
        · have HA : Hid (apartR ⟨rx, ry, rw', rh⟩ ⟨qx, qy, qw, qh⟩ = true) := by show _ = _; rw [HAP.out, d1, d2]; rfl
          rw [HA.out] at HS
          go_wp2_with fail
          refine (HEQ.out _ (Below.refl _ _)).mono ?_
          rintro e w5 ⟨rfl, hb5⟩
          have hB5 := hB4.trans (hb5.mono hB4.size)
          clear r0 r1 r2 r3 q0 q1 q2 q3
          go_wp2
          go_ret2
          exact Ret.mk (by rw [HS.out]; rfl) hB5
        cases d3 : decide ((ry : Int) + rh ≤ qy)
        rotate_left
        · have HA : Hid (apartR ⟨rx, ry, rw', rh⟩ ⟨qx, qy, qw, qh⟩ = true) := by show _ = _; rw [HAP.out, d1, d2, d3]; rfl
          rw [HA.out] at HS
          go_wp2_with fail
          refine (HEQ.out _ (Below.refl _ _)).mono ?_
          rintro e w5 ⟨rfl, hb5⟩
          have hB5 := hB4.trans (hb5.mono hB4.size)
          clear r0 r1 r2 r3 q0 q1 q2 q3
          go_wp2
          go_ret2
          exact Ret.mk (by rw [HS.out]; rfl) hB5
        cases d4 : decide ((qy : Int) + qh ≤ ry)
        rotate_left
        · have HA : Hid (apartR ⟨rx, ry, rw', rh⟩ ⟨qx, qy, qw, qh⟩ = true) := by show _ = _; rw [HAP.out, d1, d2, d3, d4]; rfl
          rw [HA.out] at HS
          go_wp2_with fail
          refine (HEQ.out _ (Below.refl _ _)).mono ?_
          rintro e w5 ⟨rfl, hb5⟩
          have hB5 := hB4.trans (hb5.mono hB4.size)
          clear r0 r1 r2 r3 q0 q1 q2 q3
          go_wp2
          go_ret2
          exact Ret.mk (by rw [HS.out]; rfl) hB5
        have HA : Hid (apartR ⟨rx, ry, rw', rh⟩ ⟨qx, qy, qw, qh⟩ = false) := by show _ = _; rw [HAP.out, d1, d2, d3, d4]; rfl
        rw [HA.out] at HS
        go_wp2
        go_ret2
        exact Ret.mk (by rw [HS.out]; rfl) hB4
      · rw [if_neg hfit2] at he4
        obtain rfl := he4
        have HS := Lib.hid (HSP.out.trans (if_neg (by rw [HFI.out]; simpa using hfit2)))
        clear hfit2
        go_wp2
        go_ret2
        exact Ret.mk (by rw [HS.out]; rfl) hB4
    · rw [if_neg hfit] at he3
      obtain rfl := he3
      have HS := Lib.hid (HSP.out.trans (if_neg (by simp [hfit])))
      clear hfit
      go_wp2_with fail
      refine (HW2.out _).mono ?_
      rintro e w4 ⟨hb4, he4⟩
      have hB4 := hB3.trans (hb4.mono hB3.size)
      clear q0 q1 q2 q3
      by_cases hfit2 : fitR S.ext q = true
      · rw [if_pos hfit2] at he4
        obtain ⟨A2, c2, rfl, _⟩ := he4
        go_wp2
        go_ret2
        exact Ret.mk (by rw [HS.out]; rfl) hB4
      · rw [if_neg hfit2] at he4
        obtain rfl := he4
        go_wp2
        go_ret2
        exact Ret.mk (by rw [HS.out]; rfl) hB4
end Go.Proofs.YtbcnkcndhgihaaaDoor

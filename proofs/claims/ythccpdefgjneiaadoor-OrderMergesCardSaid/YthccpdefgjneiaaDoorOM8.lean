/- Convert of both: the walks. -/
import Derived.Test.YthccpdefgjneiaaDoorOM6T
import Derived.Test.YthccpdefgjneiaaDoorOM7T
namespace Go.Proofs.YthccpdefgjneiaaDoor
open Go.RowKit Go.Shelf Go.Maps

def convV (l : List RT) (s : ByteArray) (day am : Int) : Int × Int :=
  if isEur s then (am, 0) else match lateI keyT s day l l.length with
    | none => (0, 81)
    | some j => if amt (hup (am * (bestT l (some j)).n) (bestT l (some j)).m) then (hup (am * (bestT l (some j)).n) (bestT l (some j)).m, 0) else (0, 4)
def convS (l : List RT) (s : ByteArray) (day am : Int) : Int × Int :=
  if validRS l then (if curB s && (dayB day && amt am) then convV l s day am else (0, 2)) else (0, 81)
theorem valid_all {l : List RT} (h : validRS l = true) : l.length ≤ 60 ∧ ∀ r ∈ l, rateB r = true := by
  unfold validRS at h
  simp only [Bool.and_eq_true, decide_eq_true_eq, List.all_eq_true] at h
  exact ⟨h.1, h.2.2⟩
theorem hup_num {a n : Int} (h1 : -1099511627776 ≤ a) (h2 : a ≤ 1099511627776) (hn : 1 ≤ n) (hn2 : n ≤ 1000000) : -1099511627776000000 ≤ a * n ∧ a * n ≤ 1099511627776000000 := by
  have := mul_bd (a := a) (b := n) (A := 1099511627776) (B := 1000000) (by omega) (by omega) (by omega) (by omega)
  omega

set_option maxRecDepth 100000 in
set_option maxHeartbeats 2000000 in
theorem Convert_any (A : Option Addr) (c : Nat) (l : List RT) (s : ByteArray) (day am : Int) (w : World) (ho : OkT l) (hs : s.size ≤ 9223372036854775807) (hl : RdT w w.heap.size A l) :
    Calls Tryd.prog 15 #[.slice A l.length c, .string s, .int .i64 day, .int .i64 am] w (Ret (.tuple #[.int .i64 (convS l s day am).1, .int .i64 (convS l s day am).2]) w) := by
  have HL := Lib.hid hl; clear hl
  have HOK := Lib.hid ho; clear ho
  cases hv : validRS l
  · have HS := Lib.hid (show convS l s day am = (0, 81) by unfold convS; rw [hv]; rfl)
    have HV := Lib.hid hv; clear hv
    go_enter Tryd.func15, Tryd.ntmps15
    go_wp2_with fail
    refine (validR_any A c l _ HOK.out HL.out).mono ?_
    rintro e w2 ⟨rfl, hb2⟩
    rw [HV.out]
    go_wp2
    go_ret2
    exact Ret.mk (by rw [HS.out] <;> rfl) hb2
  obtain ⟨hl60, hall⟩ := valid_all hv
  cases h1 : curB s && (dayB day && amt am)
  · have HS := Lib.hid (show convS l s day am = (0, 2) by unfold convS; rw [hv, h1]; rfl)
    have HV := Lib.hid hv; clear hv
    go_enter Tryd.func15, Tryd.ntmps15
    go_wp2_with fail
    refine (validR_any A c l _ HOK.out HL.out).mono ?_
    rintro e w2 ⟨rfl, hb2⟩
    rw [HV.out]
    go_wp2_with fail
    refine (currency_any s _ hs).mono ?_
    rintro e w3 ⟨rfl, hb3⟩
    have hB3 := hb2.trans (hb3.mono hb2.size)
    cases g1 : curB s
    · have G1 := Lib.hid g1; clear g1 h1
      go_wp2_with fail
      go_ret2
      exact Ret.mk (by rw [HS.out] <;> rfl) hB3
    rw [g1, Bool.true_and] at h1
    have G1 := Lib.hid g1; clear g1
    go_wp2_with fail
    refine (day_any day _).mono ?_
    rintro e w4 ⟨rfl, rfl⟩
    cases g2 : dayB day
    · have G2 := Lib.hid g2; clear g2 h1
      go_wp2_with fail
      go_ret2
      exact Ret.mk (by rw [HS.out] <;> rfl) hB3
    rw [g2, Bool.true_and] at h1
    have G2 := Lib.hid g2; clear g2
    have G3 := Lib.hid h1; clear h1
    go_wp2_with fail
    refine (amount_any am _).mono ?_
    rintro e w5 ⟨rfl, rfl⟩
    rw [G3.out]
    go_wp2_with fail
    go_ret2
    exact Ret.mk (by rw [HS.out] <;> rfl) hB3
  have hh := h1
  simp only [Bool.and_eq_true] at hh
  obtain ⟨g1, g2, g3⟩ := hh
  have hab := bet_iff.1 g3
  have G1 := Lib.hid g1; clear g1
  have G2 := Lib.hid g2; clear g2
  have G3 := Lib.hid g3; clear g3
  have HS := Lib.hid (show convS l s day am = convV l s day am by unfold convS; rw [hv, h1]; rfl)
  have HV := Lib.hid hv; clear hv h1
  go_enter Tryd.func15, Tryd.ntmps15
  go_wp2_with fail
  refine (validR_any A c l _ HOK.out HL.out).mono ?_
  rintro e w2 ⟨rfl, hb2⟩
  rw [HV.out]
  go_wp2_with fail
  refine (currency_any s _ hs).mono ?_
  rintro e w3 ⟨rfl, hb3⟩
  rw [G1.out]
  have hB3 := hb2.trans (hb3.mono hb2.size)
  go_wp2_with fail
  refine (day_any day _).mono ?_
  rintro e w4 ⟨rfl, rfl⟩
  rw [G2.out]
  go_wp2_with fail
  refine (amount_any am _).mono ?_
  rintro e w5 ⟨rfl, rfl⟩
  rw [G3.out]
  cases he : isEur s
  rotate_left
  · have HS2 := Lib.hid (show convS l s day am = (am, 0) by rw [HS.out]; unfold convV; rw [he]; rfl)
    have he' : (s.toList == [69, 85, 82]) = true := he
    clear he
    go_wp2_with fail
    go_ret2
    exact Ret.mk (by rw [HS2.out] <;> rfl) hB3
  have hs2 := HS.out
  unfold convV at hs2
  rw [he, if_neg (by simp)] at hs2
  have he' : (s.toList == [69, 85, 82]) = false := he
  clear he
  cases hj : lateI keyT s day l l.length with
  | none =>
    rw [hj] at hs2
    have HS2 := Lib.hid hs2; clear hs2
    have HJ := Lib.hid hj; clear hj
    go_wp2_with fail
    refine (latestT_any A c l s day _ (by omega) (HL.out.now hB3)).mono ?_
    rintro e w6 ⟨rfl, hb6⟩
    rw [HJ.out]
    simp only [Option.isSome_none]
    go_wp2
    go_ret2
    exact Ret.mk (by rw [HS2.out] <;> rfl) ((hB3.trans (hb6.mono hB3.size)).alloc (by have := hb6.size; have := hB3.size; omega) _)
  | some j =>
    rw [hj] at hs2
    dsimp only at hs2
    obtain ⟨_, hjl⟩ := lateI_lt hj
    obtain ⟨r, hr⟩ := getElem?_of_lt hjl
    have hbr : bestT l (some j) = r := by unfold bestT; show (l[j]?).getD _ = r; rw [hr]; rfl
    rw [hbr] at hs2
    obtain ⟨n1, n2, n3, n4⟩ := rate_nums (hall r (List.mem_of_getElem? hr))
    obtain ⟨q1, q2⟩ := hup_num (a := am) (n := r.n) hab.1 hab.2 n1 n2
    obtain ⟨x, hx⟩ : ∃ x, am * r.n = x := ⟨_, rfl⟩
    rw [hx] at hs2 q1 q2
    have e1 : wrap64 (am * r.n) = x := by rw [hx]; exact w64_id (by omega) (by omega)
    obtain ⟨y, hy⟩ : ∃ y, hup x r.m = y := ⟨_, rfl⟩
    rw [hy] at hs2
    have HY := Lib.hid hy; clear hy
    have HS2 := Lib.hid hs2; clear hs2
    have HJ := Lib.hid hj; clear hj
    have HBR := Lib.hid hbr; clear hbr hr hx
    go_wp2_with fail
    refine (latestT_any A c l s day _ (by omega) (HL.out.now hB3)).mono ?_
    rintro e w6 ⟨rfl, hb6⟩
    rw [HJ.out, HBR.out]
    simp only [Option.isSome_some]
    have hB6 := hB3.trans (hb6.mono hB3.size)
    obtain ⟨v6, hv6⟩ : ∃ v6, w6.alloc (.cells #[.string r.c, .int .i64 r.d, .int .i64 r.n, .int .i64 r.m] 70) = v6 := ⟨_, rfl⟩
    have hbv : Below w6.heap.size w6 v6 := by rw [← hv6]; (repeat (first | exact Below.refl _ _ | assumption | refine Below.alloc ?_ (by first | exact Nat.le_refl _ | exact Below.size (by assumption) | omega | (simp <;> omega)) _ | refine Below.setCell ?_ (by first | exact Nat.le_refl _ | exact Below.size (by assumption) | omega | (simp <;> omega)) _ | refine below_drewN ?_ _ | refine Below.drew ?_))
    have hsv : v6.heap.size = w6.heap.size + 1 := by rw [← hv6]; simp
    have HZ := Lib.hid (show AtT v6 w6.heap.size r by rw [← hv6]; exact AtT.new w6 r)
    have HV6 := Lib.hid hv6; clear hv6
    go_upto_region 8 with fail
    rw [HV6.out]
    clear HV6
    obtain ⟨x0, x1, x2, x3⟩ := HZ.out
    have hz1 : w6.heap.size < v6.heap.size := by omega
    have hBv := hB6.trans (hbv.mono hB6.size)
    go_wp2_with fail
    refine (hup_any x r.m _ (by omega) (by omega) (by omega) (by omega)).mono ?_
    rintro e w7 ⟨rfl, rfl⟩
    rw [HY.out]
    cases ha : amt y
    · have HS3 := Lib.hid (show convS l s day am = (0, 4) by rw [HS2.out, ha]; rfl)
      have HA := Lib.hid ha; clear ha
      go_wp2_with fail
      refine (amount_any y _).mono ?_
      rintro e w8 ⟨rfl, rfl⟩
      rw [HA.out]
      go_wp2
      go_ret2
      exact Ret.mk (by rw [HS3.out] <;> rfl) hBv
    · have HS3 := Lib.hid (show convS l s day am = (y, 0) by rw [HS2.out, ha]; rfl)
      have HA := Lib.hid ha; clear ha
      go_wp2_with fail
      refine (amount_any y _).mono ?_
      rintro e w8 ⟨rfl, rfl⟩
      rw [HA.out]
      go_wp2
      go_ret2
      exact Ret.mk (by rw [HS3.out] <;> rfl) hBv

set_option maxRecDepth 100000 in
set_option maxHeartbeats 2000000 in
theorem Convert2_any (A : Option Addr) (c : Nat) (l : List RT) (s : ByteArray) (day am : Int) (w : World) (ho : OkT l) (hs : s.size ≤ 9223372036854775807) (hl : RdT w w.heap.size A l) :
    Calls Tryd.prog 16 #[.slice A l.length c, .string s, .int .i64 day, .int .i64 am] w (Ret (.tuple #[.int .i64 (convS l s day am).1, .int .i64 (convS l s day am).2]) w) := by
  have HL := Lib.hid hl; clear hl
  have HOK := Lib.hid ho; clear ho
  cases hv : validRS l
  · have HS := Lib.hid (show convS l s day am = (0, 81) by unfold convS; rw [hv]; rfl)
    have HV := Lib.hid hv; clear hv
    go_enter Tryd.func16, Tryd.ntmps16
    go_wp2_with fail
    refine (validR2_any A c l _ HOK.out HL.out).mono ?_
    rintro e w2 ⟨rfl, hb2⟩
    rw [HV.out]
    go_wp2
    go_ret2
    exact Ret.mk (by rw [HS.out] <;> rfl) hb2
  obtain ⟨hl60, hall⟩ := valid_all hv
  cases h1 : curB s && (dayB day && amt am)
  · have HS := Lib.hid (show convS l s day am = (0, 2) by unfold convS; rw [hv, h1]; rfl)
    have HV := Lib.hid hv; clear hv
    go_enter Tryd.func16, Tryd.ntmps16
    go_wp2_with fail
    refine (validR2_any A c l _ HOK.out HL.out).mono ?_
    rintro e w2 ⟨rfl, hb2⟩
    rw [HV.out]
    go_wp2_with fail
    refine (isCurrency_any s _ hs).mono ?_
    rintro e w3 ⟨rfl, hb3⟩
    have hB3 := hb2.trans (hb3.mono hb2.size)
    cases g1 : curB s
    · have G1 := Lib.hid g1; clear g1 h1
      go_wp2_with fail
      go_ret2
      exact Ret.mk (by rw [HS.out] <;> rfl) hB3
    rw [g1, Bool.true_and] at h1
    have G1 := Lib.hid g1; clear g1
    go_wp2_with fail
    refine (isDay_any day _).mono ?_
    rintro e w4 ⟨rfl, rfl⟩
    cases g2 : dayB day
    · have G2 := Lib.hid g2; clear g2 h1
      go_wp2_with fail
      go_ret2
      exact Ret.mk (by rw [HS.out] <;> rfl) hB3
    rw [g2, Bool.true_and] at h1
    have G2 := Lib.hid g2; clear g2
    have G3 := Lib.hid h1; clear h1
    go_wp2_with fail
    refine (isAmount_any am _).mono ?_
    rintro e w5 ⟨rfl, rfl⟩
    rw [G3.out]
    go_wp2_with fail
    go_ret2
    exact Ret.mk (by rw [HS.out] <;> rfl) hB3
  have hh := h1
  simp only [Bool.and_eq_true] at hh
  obtain ⟨g1, g2, g3⟩ := hh
  have hab := bet_iff.1 g3
  have G1 := Lib.hid g1; clear g1
  have G2 := Lib.hid g2; clear g2
  have G3 := Lib.hid g3; clear g3
  have HS := Lib.hid (show convS l s day am = convV l s day am by unfold convS; rw [hv, h1]; rfl)
  have HV := Lib.hid hv; clear hv h1
  go_enter Tryd.func16, Tryd.ntmps16
  go_wp2_with fail
  refine (validR2_any A c l _ HOK.out HL.out).mono ?_
  rintro e w2 ⟨rfl, hb2⟩
  rw [HV.out]
  go_wp2_with fail
  refine (isCurrency_any s _ hs).mono ?_
  rintro e w3 ⟨rfl, hb3⟩
  rw [G1.out]
  have hB3 := hb2.trans (hb3.mono hb2.size)
  go_wp2_with fail
  refine (isDay_any day _).mono ?_
  rintro e w4 ⟨rfl, rfl⟩
  rw [G2.out]
  go_wp2_with fail
  refine (isAmount_any am _).mono ?_
  rintro e w5 ⟨rfl, rfl⟩
  rw [G3.out]
  cases he : isEur s
  rotate_left
  · have HS2 := Lib.hid (show convS l s day am = (am, 0) by rw [HS.out]; unfold convV; rw [he]; rfl)
    have he' : (s.toList == [69, 85, 82]) = true := he
    clear he
    go_wp2_with fail
    go_ret2
    exact Ret.mk (by rw [HS2.out] <;> rfl) hB3
  have hs2 := HS.out
  unfold convV at hs2
  rw [he, if_neg (by simp)] at hs2
  have he' : (s.toList == [69, 85, 82]) = false := he
  clear he
  cases hj : lateI keyT s day l l.length with
  | none =>
    rw [hj] at hs2
    have HS2 := Lib.hid hs2; clear hs2
    have HJ := Lib.hid hj; clear hj
    go_wp2_with fail
    refine (rateOf_any A c l s day _ (by omega) (HL.out.now hB3)).mono ?_
    rintro e w6 ⟨rfl, hb6⟩
    rw [HJ.out]
    rw [show atI none = -1 from rfl]
    go_wp2
    go_ret2
    exact Ret.mk (by rw [HS2.out] <;> rfl) (hB3.trans (hb6.mono hB3.size))
  | some j =>
    rw [hj] at hs2
    dsimp only at hs2
    obtain ⟨_, hjl⟩ := lateI_lt hj
    obtain ⟨r, hr⟩ := getElem?_of_lt hjl
    have hbr : bestT l (some j) = r := by unfold bestT; show (l[j]?).getD _ = r; rw [hr]; rfl
    rw [hbr] at hs2
    obtain ⟨n1, n2, n3, n4⟩ := rate_nums (hall r (List.mem_of_getElem? hr))
    obtain ⟨q1, q2⟩ := hup_num (a := am) (n := r.n) hab.1 hab.2 n1 n2
    obtain ⟨y, hy⟩ : ∃ y, hup (am * r.n) r.m = y := ⟨_, rfl⟩
    rw [hy] at hs2
    have hcon : ∀ w', Calls Tryd.prog 52 #[.int .i64 am, .int .i64 r.n, .int .i64 r.m] w' (Ret (.int .i64 y) w') := fun w' => by
      rw [← hy]
      exact (hupRef_any am r.n r.m w' (by omega) (by omega) (by omega) (by omega) hab.1 hab.2).mono (fun e w2 h => ⟨h.1, by rw [h.2]; exact Below.refl _ _⟩)
    have HCON := Lib.hid hcon; clear hcon hy
    have HS2 := Lib.hid hs2; clear hs2
    have HJ := Lib.hid hj; clear hj
    obtain ⟨b, off, hA, hbb, _⟩ := HL.out j r hr
    subst hA
    have HR := Lib.hid hr; clear hbr hr
    have hmx : Tryd.prog.follows .mixedOrders = true := by kernel_rfl
    go_wp2_with fail
    refine (rateOf_any (some ⟨b, off, none⟩) c l s day _ (by omega) (HL.out.now hB3)).mono ?_
    rintro e w6 ⟨rfl, hb6⟩
    rw [HJ.out]
    rw [show atI (some j) = (j : Int) from rfl]
    have hB6 := hB3.trans (hb6.mono hB3.size)
    have hj0 : ¬ (j : Int) < 0 := by omega
    have HC : Hid (∀ w', Below w6.heap.size w6 w' → w'.cell? ⟨b, off + j * 4 + 2, none⟩ = some (.int .i64 r.n) ∧ w'.cell? ⟨b, off + j * 4 + 3, none⟩ = some (.int .i64 r.m)) := fun w' hC => by
      obtain ⟨b', off', hA', _, _, _, f2, f3⟩ := ((HL.out.now hB6).now hC) j r HR.out
      obtain ⟨rfl, rfl⟩ : b = b' ∧ off = off' := by simpa using hA'
      exact ⟨f2, f3⟩
    go_wp2
    refine region_qw (fun w' => Below w6.heap.size w6 w') hmx (by kernel_rfl) (by (repeat (first | exact Below.refl _ _ | assumption | refine Below.alloc ?_ (by first | exact Nat.le_refl _ | exact Below.size (by assumption) | omega | (simp <;> omega)) _ | refine Below.setCell ?_ (by first | exact Nat.le_refl _ | exact Below.size (by assumption) | omega | (simp <;> omega)) _ | refine below_drewN ?_ _ | refine Below.drew ?_))) ?_
    repeat (refine qw_read rfl (fun w' hC => by obtain ⟨f2, f3⟩ := HC.out w' hC; clear hC; go_simp; rfl) ?_; simp only [Act.put, List.setIfInBounds_toArray, List.set_cons_succ, List.set_cons_zero])
    (refine qw_call rfl (fun w' hC => by (go_simp; try rfl)) (fun w' hC => (HCON.out w').mono (fun e w2 hr => ⟨hr.1, hC.trans (hr.2.mono hC.size)⟩)) ?_; simp only [Act.put, List.setIfInBounds_toArray, List.set_cons_succ, List.set_cons_zero])
    repeat (refine qw_read rfl (fun w' hC => by obtain ⟨f2, f3⟩ := HC.out w' hC; clear hC; go_simp; rfl) ?_; simp only [Act.put, List.setIfInBounds_toArray, List.set_cons_succ, List.set_cons_zero])
    refine qw_nil ?_
    intro w7 hb7
    have hB7 := hB6.trans (hb7.mono hB6.size)
    cases ha : amt y
    · have HS3 := Lib.hid (show convS l s day am = (0, 4) by rw [HS2.out, ha]; rfl)
      have HA := Lib.hid ha; clear ha
      go_wp2_with fail
      refine (isAmount_any y _).mono ?_
      rintro e w8 ⟨rfl, rfl⟩
      rw [HA.out]
      go_wp2
      go_ret2
      exact Ret.mk (by rw [HS3.out] <;> rfl) hB7
    · have HS3 := Lib.hid (show convS l s day am = (y, 0) by rw [HS2.out, ha]; rfl)
      have HA := Lib.hid ha; clear ha
      go_wp2_with fail
      refine (isAmount_any y _).mono ?_
      rintro e w8 ⟨rfl, rfl⟩
      rw [HA.out]
      go_wp2
      go_ret2
      exact Ret.mk (by rw [HS3.out] <;> rfl) hB7
end Go.Proofs.YthccpdefgjneiaaDoor

/- slices.Equal at corners, and the reference's Equal: the walks. Being inside, in the reference: the walks. Which lists are outlines, in the program: the walk. Which lists are outlines, in the reference: the walk. -/
import Derived.Test.YtcbphodkaiknmaaWA
import Derived.StillTailTactics
import Derived.BigRegion
import Derived.Deep.DeepCutAuto
namespace Go.Proofs.Ytcbphodkaiknmaa
open Go.RowKit

theorem eq_of_takes {l m : List XY} (hlen : l.length = m.length) (h : ∀ i, i < l.length → l[i]? = m[i]?) : l = m := by
  apply List.ext_getElem? ; intro i
  rcases Nat.lt_or_ge i l.length with hi | hi
  · exact h i hi
  · rw [List.getElem?_eq_none hi, List.getElem?_eq_none (by omega)]

set_option maxRecDepth 100000 in
set_option maxHeartbeats 400000 in
theorem equal2_any (A A2 : Option Addr) (c c2 : Nat) (l l2 : List XY) (w : World) (hm : l.length ≤ 1000000) (hl : Rd w w.heap.size A l) (hl2 : Rd w w.heap.size A2 l2) :
    Calls Try.prog 21 #[.slice A l.length c, .slice A2 l2.length c2] w (Ret (.bool (decide (l = l2))) w) := by
  have HL := Lib.hid hl; clear hl
  have HL2 := Lib.hid hl2; clear hl2
  by_cases hlen : l.length = l2.length
  case neg =>
    have hne : ¬ l = l2 := fun e => hlen (by rw [e])
    have hbn : (((l.length : Nat) : Int) != ((l2.length : Nat) : Int)) = true := by rw [bne_iff_ne]; omega
    have hlen' : ¬ l.length = l2.length := hlen
    clear hlen
    go_enter Try.func21, Try.ntmps21
    go_wp2
    go_ret
    exact Ret.mk (by simp [hne]) (by (repeat (first | exact Below.refl _ _ | assumption | refine Below.alloc ?_ (by first | exact Nat.le_refl _ | exact Below.size (by assumption) | omega | (simp <;> omega)) _ | refine Below.setCell ?_ (by first | exact Nat.le_refl _ | exact Below.size (by assumption) | omega | (simp <;> omega)) _ | refine below_drewN ?_ _ | refine Below.drew ?_)))
  case pos =>
    have HE := Lib.hid hlen; clear hlen
    have hbn : (((l.length : Nat) : Int) != ((l2.length : Nat) : Int)) = false := by rw [bne_eq_false_iff_eq, HE.out]
    have hne := run_neXY
    have hgd := guardXY
    go_enter Try.func21, Try.ntmps21
    go_wp2
    go_loopw [5, 13] (fun _ i wr => ∃ k : Nat, k ≤ l.length ∧ i = .int .i64 k ∧ (∀ i, i < k → l[i]? = l2[i]?) ∧ Below w.heap.size w wr) (fun _ i _ => l.length - (intOf i).toNat)
    case atStart => exact ⟨0, Nat.zero_le _, rfl, by simp, Below.refl _ _⟩
    case round =>
      obtain ⟨k, hk, rfl, hno, hB⟩ := hrel
      have HN := Lib.hid hno; clear hno
      by_cases hlt : k < l.length
      · have hlt2 : k < l2.length := by have := HE.out; omega
        obtain ⟨q, hq⟩ := getElem?_of_lt hlt
        obtain ⟨b, off, hA, hb, hcx, hcy⟩ := (HL.out.below hB) k q hq
        subst hA
        obtain ⟨r, hr⟩ := getElem?_of_lt hlt2
        obtain ⟨b1, off1, hA, hb1, hdx, hdy⟩ := (HL2.out.below hB) k r hr
        subst hA
        have HQ := Lib.hid hq; clear hq
        have HR := Lib.hid hr; clear hr
        go_wp2
        go_quiet (fail)
        cases hqr : decide (q = r)
        · have hqr' : ¬ q = r := of_decide_eq_false hqr
          go_wp2
          go_ret
          have hne2 : ¬ l = l2 := by rintro e; have h1 := HQ.out; rw [e, HR.out] at h1; exact hqr' (Option.some.inj h1).symm
          exact Ret.mk (by simp [hne2]) (by (repeat (first | exact Below.refl _ _ | assumption | refine Below.alloc ?_ (by first | exact Nat.le_refl _ | exact Below.size (by assumption) | omega | (simp <;> omega)) _ | refine Below.setCell ?_ (by first | exact Nat.le_refl _ | exact Below.size (by assumption) | omega | (simp <;> omega)) _ | refine below_drewN ?_ _ | refine Below.drew ?_)))
        · have hqr' : q = r := of_decide_eq_true hqr
          have HE2 := Lib.hid hqr'; clear hqr'
          go_wp2
          go_roundw
          case rel =>
            refine ⟨k + 1, by omega, by go_num, ?_, by (repeat (first | exact Below.refl _ _ | assumption | refine Below.alloc ?_ (by first | exact Nat.le_refl _ | exact Below.size (by assumption) | omega | (simp <;> omega)) _ | refine Below.setCell ?_ (by first | exact Nat.le_refl _ | exact Below.size (by assumption) | omega | (simp <;> omega)) _ | refine below_drewN ?_ _ | refine Below.drew ?_))⟩
            intro i hi
            rcases Nat.lt_succ_iff_lt_or_eq.1 hi with h1 | h1
            · exact HN.out i h1
            · rw [h1, HQ.out, HR.out, HE2.out]
          case measure => simp [intOf]; omega
      · go_wp2
        go_ret
        have he2 : l = l2 := eq_of_takes HE.out (fun i hi => HN.out i (by omega))
        exact Ret.mk (by simp [he2]) (by (repeat (first | exact Below.refl _ _ | assumption | refine Below.alloc ?_ (by first | exact Nat.le_refl _ | exact Below.size (by assumption) | omega | (simp <;> omega)) _ | refine Below.setCell ?_ (by first | exact Nat.le_refl _ | exact Below.size (by assumption) | omega | (simp <;> omega)) _ | refine below_drewN ?_ _ | refine Below.drew ?_)))
end Go.Proofs.Ytcbphodkaiknmaa

namespace Go.Proofs.Ytcbphodkaiknmaa
open Go.RowKit

theorem all_range_succ {f : Nat → Bool} {k : Nat} (h : ∀ i, i < k → f i = true) (hk : f k = true) : ∀ i, i < k + 1 → f i = true := by
  intro i hi
  rcases Nat.lt_succ_iff_lt_or_eq.1 hi with h1 | h1
  · exact h i h1
  · rw [h1]; exact hk
theorem all_range_true {f : Nat → Bool} {n : Nat} (h : ∀ i, i < n → f i = true) : (List.range n).all f = true := by
  simp only [List.all_eq_true, List.mem_range]; exact h
theorem all_range_false {f : Nat → Bool} {n k : Nat} (hk : k < n) (h : f k = false) : (List.range n).all f = false := by
  rw [List.all_eq_false]; exact ⟨k, List.mem_range.2 hk, by rw [h]; simp⟩
theorem cy_lt {l : List XY} {k : Nat} {q : XY} (h : l[k]? = some q) : cy l k = q := by
  have hlt : k < l.length := (List.getElem?_eq_some_iff.1 h).1
  simp [cy, Nat.mod_eq_of_lt hlt, h]

theorem all_take_succ {f : XY → Bool} {l : List XY} {k : Nat} {q : XY} (hno : ∀ x ∈ l.take k, f x = true) (h : l[k]? = some q) (hq : f q = true) : ∀ x ∈ l.take (k + 1), f x = true := by
  rw [take_succ_of h]
  intro x hx
  rcases List.mem_append.1 hx with hx | hx
  · exact hno x hx
  · simp at hx; rw [hx]; exact hq
theorem all_of_take {f : XY → Bool} {l : List XY} {k : Nat} (hno : ∀ x ∈ l.take k, f x = true) (hk : ¬ k < l.length) : l.all f = true := by
  rw [List.take_of_length_le (by omega)] at hno; exact List.all_eq_true.2 hno
theorem all_false_of {f : XY → Bool} {l : List XY} {k : Nat} {q : XY} (h : l[k]? = some q) (hq : f q = false) : l.all f = false :=
  List.all_eq_false.2 ⟨q, List.mem_of_getElem? h, by rw [hq]; simp⟩

end Go.Proofs.Ytcbphodkaiknmaa

namespace Go.Proofs.Ytcbphodkaiknmaa
open Go.RowKit Go.Shelf

set_option maxRecDepth 100000 in
set_option maxHeartbeats 400000 in
theorem valid1_any (p : XY) (w : World) : Calls Try.prog 37 #[xyv p] w (Ret (.bool (!rangedB p)) w) := by
  go_enter Try.func37, Try.ntmps37
  go_wp2_with fail
  refine (ranged_any p _).mono ?_
  rintro e w2 ⟨rfl, hb2⟩
  go_wp2
  go_ret
  exact ⟨rfl, ((Below.refl _ _).alloc (Nat.le_refl _) _).trans (hb2.mono (by simp))⟩

theorem valid1_tells (w : World) : Tells 37 #[] (fun p => !rangedB p) w :=
  ⟨enters_of Try.func37 (by kernel_rfl) rfl, fun W p _ => valid1_any p W⟩

theorem upsTo_succ (l : List XY) (k : Nat) : upsTo l (k + 1) = upsTo l k + if upB l k then 1 else 0 := by
  unfold upsTo
  rw [List.range_succ, List.filter_append, List.length_append]
  cases h : upB l k <;> simp [h]

theorem upsTo_le (l : List XY) (k : Nat) : upsTo l k ≤ k := by
  unfold upsTo; exact Nat.le_trans (List.length_filter_le _ _) (by simp)

set_option maxRecDepth 100000 in
set_option maxHeartbeats 1000000 in
theorem valid_any (A : Option Addr) (c : Nat) (l : List XY) (w : World) (hl : Rd w w.heap.size A l) :
    Calls Try.prog 24 #[.slice A l.length c] w (Ret (.bool (validB l)) w) := by
  by_cases h3 : l.length < 3
  · have HV : Hid (validB l = false) := by simp [Hid, validB]; omega
    clear hl
    go_enter Try.func24, Try.ntmps24
    go_wp2
    go_ret
    exact Ret.mk (by rw [HV.out]; rfl) (by (repeat (first | exact Below.refl _ _ | assumption | refine Below.alloc ?_ (by first | exact Nat.le_refl _ | exact Below.size (by assumption) | omega | (simp <;> omega)) _ | refine Below.setCell ?_ (by first | exact Nat.le_refl _ | exact Below.size (by assumption) | omega | (simp <;> omega)) _ | refine below_drewN ?_ _ | refine Below.drew ?_)))
  by_cases h64 : 64 < l.length
  · have HV : Hid (validB l = false) := by simp [Hid, validB]; omega
    clear hl
    go_enter Try.func24, Try.ntmps24
    go_wp2
    go_ret
    exact Ret.mk (by rw [HV.out]; rfl) (by (repeat (first | exact Below.refl _ _ | assumption | refine Below.alloc ?_ (by first | exact Nat.le_refl _ | exact Below.size (by assumption) | omega | (simp <;> omega)) _ | refine Below.setCell ?_ (by first | exact Nat.le_refl _ | exact Below.size (by assumption) | omega | (simp <;> omega)) _ | refine below_drewN ?_ _ | refine Below.drew ?_)))
  have HCF := Lib.hid (containsFunc_any 37 #[] (fun p => !rangedB p) A c l w (valid1_tells w) (by omega) hl)
  have HL := Lib.hid hl; clear hl
  cases hr : l.any (fun p => !rangedB p)
  case true =>
    have HV : Hid (validB l = false) := by
      have : l.all rangedB = false := by
        rw [List.all_eq_false]; obtain ⟨x, hx, h⟩ := List.any_eq_true.1 hr; exact ⟨x, hx, by simpa using h⟩
      simp [Hid, validB, this]
    have HR := Lib.hid hr; clear hr
    go_enter Try.func24, Try.ntmps24
    go_wp2_with fail
    refine HCF.out.mono ?_
    rintro e w2 ⟨rfl, hb2⟩
    rw [HR.out]
    go_wp2
    go_ret
    exact Ret.mk (by rw [HV.out]; rfl) hb2
  case false =>
    have HR := Lib.hid hr; clear hr
    go_enter Try.func24, Try.ntmps24
    go_wp2_with fail
    refine HCF.out.mono ?_
    rintro e w1 ⟨rfl, hB0⟩
    rw [HR.out]
    go_wp2
    go_loopw [3, 22] (fun m i wr => ∃ k : Nat, k ≤ l.length ∧ i = .int .i64 k ∧ m = .int .i64 ((upsTo l k : Nat) : Int) ∧ (∀ i, i < k → turnB l i = true) ∧ Below w.heap.size w wr) (fun _ i _ => l.length - (intOf i).toNat)
    case atStart => exact ⟨0, Nat.zero_le _, rfl, rfl, by simp, hB0⟩
    case round =>
      obtain ⟨k, hk, rfl, rfl, hno, hB⟩ := hrel
      have HN := Lib.hid hno; clear hno
      by_cases hlt : k < l.length
      · obtain ⟨q, hq⟩ := getElem?_of_lt hlt
        obtain ⟨b, off, hA, hb, hcx, hcy⟩ := (HL.out.below hB) k q hq
        subst hA
        have hlt2 : (k + 1) % l.length < l.length := Nat.mod_lt _ (by omega)
        obtain ⟨r, hr⟩ := getElem?_of_lt hlt2
        obtain ⟨b1, off1, hA, hb1, hdx, hdy⟩ := (HL.out.below hB) _ r hr
        obtain ⟨rfl, rfl⟩ : b = b1 ∧ off = off1 := by simpa using hA
        clear hA
        have hlt3 : (k + 2) % l.length < l.length := Nat.mod_lt _ (by omega)
        obtain ⟨s, hs⟩ := getElem?_of_lt hlt3
        obtain ⟨b1, off1, hA, hb2, hex, hey⟩ := (HL.out.below hB) _ s hs
        obtain ⟨rfl, rfl⟩ : b = b1 ∧ off = off1 := by simpa using hA
        clear hA
        have HQ := Lib.hid (cy_lt hq); clear hq
        have HRr := Lib.hid (cy_of hr); clear hr
        have HS := Lib.hid (cy_of hs); clear hs
        have e1 : IntKind.i64.wrap ((k : Int) + 1) = (k : Int) + 1 := IntWalk.i64_in _ (by omega)
        have e2 : ((k : Int) + 1).tmod (l.length : Int) = ((k : Int) + 1) % (l.length : Int) := tmod_pos (by omega)
        obtain ⟨e4, e5⟩ := emod_bd (x := (k : Int) + 1) (n := l.length) (by omega)
        have e6 : (((k : Int) + 1) % (l.length : Int)).toNat = (k + 1) % l.length := emod_toNat rfl
        have g1 : IntKind.i64.wrap ((k : Int) + 2) = (k : Int) + 2 := IntWalk.i64_in _ (by omega)
        have g2 : ((k : Int) + 2).tmod (l.length : Int) = ((k : Int) + 2) % (l.length : Int) := tmod_pos (by omega)
        obtain ⟨g4, g5⟩ := emod_bd (x := (k : Int) + 2) (n := l.length) (by omega)
        have g6 : (((k : Int) + 2) % (l.length : Int)).toNat = (k + 2) % l.length := emod_toNat rfl
        have e3 : ¬ l = [] := ne_nil_of_lt hlt
        have hbw : b < wr.heap.size := by have := hB.size; omega
        go_upto_region 7 with fail
        obtain ⟨wa, hwa⟩ : ∃ wa : World, wr.alloc (.cells #[.int .i64 q.X, .int .i64 q.Y] 29) = wa := ⟨_, rfl⟩
        have hBa : Below w.heap.size w wa := hwa ▸ hB.alloc hB.size _
        have hsa := hBa.size
        have hba : b < wa.heap.size := by have := hBa.size; omega
        have hpq : Pt wa wr.heap.size q := by rw [← hwa]; exact ⟨by simp, by simp⟩
        have hwra : wr.heap.size < wa.heap.size := by rw [← hwa]; simp
        rw [hwa]
        have hdx : wa.cell? ⟨b, off + (k + 1) % l.length * 2, none⟩ = some (.int .i64 r.X) := by rw [← hwa, World.cell?_alloc_lt _ _ _ hbw]; exact hdx
        have hdy : wa.cell? ⟨b, off + (k + 1) % l.length * 2 + 1, none⟩ = some (.int .i64 r.Y) := by rw [← hwa, World.cell?_alloc_lt _ _ _ hbw]; exact hdy
        have hex : wa.cell? ⟨b, off + (k + 2) % l.length * 2, none⟩ = some (.int .i64 s.X) := by rw [← hwa, World.cell?_alloc_lt _ _ _ hbw]; exact hex
        have hey : wa.cell? ⟨b, off + (k + 2) % l.length * 2 + 1, none⟩ = some (.int .i64 s.Y) := by rw [← hwa, World.cell?_alloc_lt _ _ _ hbw]; exact hey
        clear hwa
        have HPQ := Lib.hid hpq; clear hpq
        go_cut [6, 7] (fun v6 v7 wx => ∃ B C : Nat, v6 = .pointer (some ⟨B, 0, none⟩) ∧ v7 = .pointer (some ⟨C, 0, none⟩) ∧ Pt wx B r ∧ Pt wx C s ∧ Pt wx wr.heap.size q ∧ B < wx.heap.size ∧ C < wx.heap.size ∧ wr.heap.size < wx.heap.size ∧ Below w.heap.size w wx)
        case first =>
          go_region
          all_goals
            go_wp2_with fail
            go_meet
            refine ⟨_, _, rfl, rfl, ⟨by simp, by simp⟩, ⟨by simp, by simp⟩, HPQ.out.below (C := wa.heap.size) ?_ hwra, by simp <;> omega, by simp <;> omega, by simp; omega, by (repeat (first | exact Below.refl _ _ | assumption | refine Below.alloc ?_ (by first | exact Nat.le_refl _ | exact Below.size (by assumption) | omega | (simp <;> omega)) _ | refine Below.setCell ?_ (by first | exact Nat.le_refl _ | exact Below.size (by assumption) | omega | (simp <;> omega)) _ | refine below_drewN ?_ _ | refine Below.drew ?_))⟩
            (repeat (first | exact Below.refl _ _ | assumption | refine Below.alloc ?_ (by first | exact Nat.le_refl _ | exact Below.size (by assumption) | omega | (simp <;> omega)) _ | refine Below.setCell ?_ (by first | exact Nat.le_refl _ | exact Below.size (by assumption) | omega | (simp <;> omega)) _ | refine below_drewN ?_ _ | refine Below.drew ?_))
        case rest =>
          obtain ⟨B, C, rfl, rfl, ⟨hrx, hry⟩, ⟨hsx, hsy⟩, ⟨hqx, hqy⟩, hzB, hzC, hzq, hBx⟩ := hcut
          have hB3 := Lib.hid hBx; clear hBx
          go_wp2_with fail
          refine (cross_any q r s _).mono ?_
          rintro e w2 ⟨rfl, hb2⟩
          have hB2 := hB3.out.trans (hb2.mono hB3.out.size)
          obtain ⟨hrx2, hry2⟩ := (show Pt _ B r from ⟨hrx, hry⟩).below hb2 hzB
          obtain ⟨hsx2, hsy2⟩ := (show Pt _ C s from ⟨hsx, hsy⟩).below hb2 hzC
          obtain ⟨hqx2, hqy2⟩ := (show Pt _ wr.heap.size q from ⟨hqx, hqy⟩).below hb2 hzq
          have hzB2 := Nat.lt_of_lt_of_le hzB hb2.size
          have hzC2 := Nat.lt_of_lt_of_le hzC hb2.size
          have hzq2 := Nat.lt_of_lt_of_le hzq hb2.size
          clear hb2
          have HT : Hid (turnB l k = decide (0 < crossW q r s)) := by unfold turnB; rw [HQ.out, HRr.out, HS.out]; exact rfl
          by_cases hpos : crossW q r s ≤ 0
          · have HD := Lib.hid (decide_eq_false (Int.not_lt.2 hpos))
            go_wp2
            go_ret
            refine Ret.mk ?_ hB2
            have : (List.range l.length).all (turnB l) = false := all_range_false hlt (by rw [HT.out, HD.out])
            simp [validB, this]
          · have HD := Lib.hid (decide_eq_true (Int.not_le.1 hpos))
            have HT2 : Hid (turnB l k = true) := by rw [Hid, HT.out, HD.out]
            go_wp2_with fail
            refine (half_any _ _ _).mono ?_
            rintro e w3 ⟨rfl, hb3⟩
            have hB4 := hB2.trans (hb3.mono hB2.size)
            obtain ⟨hrx3, hry3⟩ := (show Pt _ B r from ⟨hrx2, hry2⟩).below hb3 hzB2
            obtain ⟨hsx3, hsy3⟩ := (show Pt _ C s from ⟨hsx2, hsy2⟩).below hb3 hzC2
            clear hb3
            have HU : Hid (upB l k = (!halfB (wrap64 (r.X - q.X)) (wrap64 (r.Y - q.Y)) && halfB (wrap64 (s.X - r.X)) (wrap64 (s.Y - r.Y)))) := by unfold upB; rw [HQ.out, HRr.out, HS.out]; exact rfl
            have HUP := Lib.hid (upsTo_succ l k)
            cases hh : halfB (wrap64 (r.X - q.X)) (wrap64 (r.Y - q.Y))
            · have HH := Lib.hid hh; clear hh
              go_wp2_with fail
              refine (half_any _ _ _).mono ?_
              rintro e w4 ⟨rfl, hb4⟩
              have hB5 := hB4.trans (hb4.mono hB4.size)
              clear hb4
              cases hh2 : halfB (wrap64 (s.X - r.X)) (wrap64 (s.Y - r.Y))
              · have HH2 := Lib.hid hh2; clear hh2
                go_wp2
                go_roundw
                case rel => exact ⟨k + 1, by omega, by go_num, by rw [HUP.out, HU.out, HH.out, HH2.out]; rfl, all_range_succ HN.out HT2.out, hB5⟩
                case measure => simp [intOf]; omega
              · have HH2 := Lib.hid hh2; clear hh2
                have hsm : IntKind.i64.wrap (((upsTo l k : Nat) : Int) + 1) = ((upsTo l k : Nat) : Int) + 1 := IntWalk.i64_in _ (by have := upsTo_le l k; omega)
                go_wp2
                go_roundw
                case rel => exact ⟨k + 1, by omega, by go_num, by rw [HUP.out, HU.out, HH.out, HH2.out]; simp, all_range_succ HN.out HT2.out, hB5⟩
                case measure => simp [intOf]; omega
            · have HH := Lib.hid hh; clear hh
              go_wp2
              go_roundw
              case rel => exact ⟨k + 1, by omega, by go_num, by rw [HUP.out, HU.out, HH.out]; rfl, all_range_succ HN.out HT2.out, hB4⟩
              case measure => simp [intOf]; omega
      · obtain rfl : k = l.length := by omega
        go_wp2
        go_ret
        refine Ret.mk ?_ (by (repeat (first | exact Below.refl _ _ | assumption | refine Below.alloc ?_ (by first | exact Nat.le_refl _ | exact Below.size (by assumption) | omega | (simp <;> omega)) _ | refine Below.setCell ?_ (by first | exact Nat.le_refl _ | exact Below.size (by assumption) | omega | (simp <;> omega)) _ | refine below_drewN ?_ _ | refine Below.drew ?_)))
        have h1 : (List.range l.length).all (turnB l) = true := all_range_true HN.out
        have h2 : l.all rangedB = true := by
          rw [List.all_eq_true]; intro x hx
          have := List.any_eq_false.1 HR.out x hx
          simpa using this
        have h5 : (((upsTo l l.length : Nat) : Int) == 1) = decide (upsTo l l.length = 1) := by
          rw [Bool.eq_iff_iff]; simp; omega
        simp only [validB, decide_eq_true (show 3 ≤ l.length by omega), decide_eq_true (show l.length ≤ 64 by omega), h1, h2, Bool.true_and]
        exact congrArg Value.bool h5
end Go.Proofs.Ytcbphodkaiknmaa

namespace Go.Proofs.Ytcbphodkaiknmaa
open Go.RowKit Go.Shelf

end Go.Proofs.Ytcbphodkaiknmaa

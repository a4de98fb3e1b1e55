/- Which lists are outlines, in the reference: the walk. -/
import Derived.Test.YtimehkeaeffcaaaW7
import Derived.BigRegion
import Derived.StillTailTactics
import Derived.Deep.DeepCutAuto
namespace Go.Proofs.Ytimehkeaeffcaaa
open Go.RowKit Go.Shelf

set_option maxRecDepth 100000 in
set_option maxHeartbeats 1000000 in
theorem validR_any (A : Option Addr) (c : Nat) (l : List XY) (w : World) (hl : Rd w w.heap.size A l) :
    Calls Try.prog 34 #[.slice A l.length c] w (Ret (.bool (validRB l)) w) := by
  by_cases h3 : l.length < 3
  · have HV : Hid (validRB l = false) := by simp [Hid, validRB]; omega
    clear hl
    go_enter Try.func34, Try.ntmps34
    go_wp2
    go_ret
    exact Ret.mk (by rw [HV.out]; rfl) (by (repeat (first | exact Below.refl _ _ | assumption | refine Below.alloc ?_ (by first | exact Nat.le_refl _ | exact Below.size (by assumption) | omega | (simp <;> omega)) _ | refine Below.setCell ?_ (by first | exact Nat.le_refl _ | exact Below.size (by assumption) | omega | (simp <;> omega)) _ | refine below_drewN ?_ _ | refine Below.drew ?_)))
  by_cases h64 : 64 < l.length
  · have HV : Hid (validRB l = false) := by simp [Hid, validRB]; omega
    clear hl
    go_enter Try.func34, Try.ntmps34
    go_wp2
    go_ret
    exact Ret.mk (by rw [HV.out]; rfl) (by (repeat (first | exact Below.refl _ _ | assumption | refine Below.alloc ?_ (by first | exact Nat.le_refl _ | exact Below.size (by assumption) | omega | (simp <;> omega)) _ | refine Below.setCell ?_ (by first | exact Nat.le_refl _ | exact Below.size (by assumption) | omega | (simp <;> omega)) _ | refine below_drewN ?_ _ | refine Below.drew ?_)))
  have HL := Lib.hid hl; clear hl
  go_enter Try.func34, Try.ntmps34
  go_wp2
  go_loopw [19] (fun i wr => ∃ k : Nat, k ≤ l.length ∧ i = .int .i64 k ∧ (∀ x ∈ l.take k, rangedB x = true) ∧ Below w.heap.size w wr) (fun i _ => l.length - (intOf i).toNat)
  case atStart => exact ⟨0, Nat.zero_le _, rfl, by simp, Below.refl _ _⟩
  case round =>
    obtain ⟨k, hk, rfl, hno, hB⟩ := hrel
    have HN := Lib.hid hno; clear hno
    by_cases hlt : k < l.length
    · obtain ⟨q, hq⟩ := getElem?_of_lt hlt
      obtain ⟨b, off, hA, hb, hcx, hcy⟩ := (HL.out.below hB) k q hq
      subst hA
      have HQ := Lib.hid hq; clear hq
      go_wp2_with fail
      refine (in_any q _).mono ?_
      rintro e w2 ⟨rfl, hb2⟩
      have hB2 : Below w.heap.size w w2 := (hB.alloc hB.size _).trans (hb2.mono (by have := hB.size; simp; omega))
      cases hi : rangedB q
      · go_wp2
        go_ret
        have : l.all rangedB = false := all_false_of HQ.out hi
        exact Ret.mk (by simp [validRB, this]) hB2
      · go_wp2
        go_roundw
        case rel => exact ⟨k + 1, by omega, by go_num, all_take_succ HN.out HQ.out hi, hB2⟩
        case measure => simp [intOf]; omega
    · have HRg : Hid (l.all rangedB = true) := all_of_take HN.out hlt
      clear HN
      obtain rfl : k = l.length := by omega
      go_wp2
      go_loopw [5, 6, 29] (fun _ _ i wr => ∃ k : Nat, k ≤ l.length ∧ i = .int .i64 k ∧ (∀ i, i < k → (List.range l.length).all (leftB l i) = true) ∧ Below w.heap.size w wr) (fun _ _ i _ => l.length - (intOf i).toNat)
      case atStart => exact ⟨0, Nat.zero_le _, rfl, by simp, hB⟩
      case round =>
        obtain ⟨k, hk, rfl, hno, hB⟩ := hrel
        have HN := Lib.hid hno; clear hno
        by_cases hlt : k < l.length
        · obtain ⟨q, hq⟩ := getElem?_of_lt hlt
          have hlt2 : (k + 1) % l.length < l.length := Nat.mod_lt _ (by omega)
          obtain ⟨r, hr⟩ := getElem?_of_lt hlt2
          have HQ := Lib.hid hq; clear hq
          have HR := Lib.hid hr; clear hr
          have e2 : ((k : Int) + 1).tmod (l.length : Int) = ((k : Int) + 1) % (l.length : Int) := tmod_pos (by omega)
          obtain ⟨e4, e5⟩ := emod_bd (x := (k : Int) + 1) (n := l.length) (by omega)
          have e6 : (((k : Int) + 1) % (l.length : Int)).toNat = (k + 1) % l.length := emod_toNat rfl
          have e3 : ¬ l = [] := ne_nil_of_lt hlt
          go_wp2
          obtain ⟨wo, rfl⟩ : ∃ wo : World, wo = wr := ⟨_, rfl⟩
          go_loopw [7, 39] (fun _ j wr => ∃ m : Nat, m ≤ l.length ∧ j = .int .i64 m ∧ (∀ j, j < m → leftB l k j = true) ∧ Below w.heap.size w wr) (fun _ j _ => l.length - (intOf j).toNat)
          case atStart => exact ⟨0, Nat.zero_le _, rfl, by simp, hB⟩
          case round =>
            obtain ⟨m, hm, rfl, hno, hB⟩ := hrel
            have HN2 := Lib.hid hno; clear hno
            by_cases hltm : m < l.length
            · obtain ⟨p, hp⟩ := getElem?_of_lt hltm
              obtain ⟨b, off, hA, hb, hpx, hpy⟩ := (HL.out.below hB) m p hp
              have hbw : b < wr.heap.size := by have := hB.size; omega
              subst hA
              have HP := Lib.hid hp; clear hp
              obtain ⟨b1, off1, hA, hb1, hqx, hqy⟩ := (HL.out.below hB) k q HQ.out
              obtain ⟨rfl, rfl⟩ : b = b1 ∧ off = off1 := by simpa using hA
              clear hA hb1
              obtain ⟨b1, off1, hA, hb1, hrx, hry⟩ := (HL.out.below hB) _ r HR.out
              obtain ⟨rfl, rfl⟩ : b = b1 ∧ off = off1 := by simpa using hA
              clear hA hb1
              have hcy : Hid (leftB l k m = (decide (m = k) || decide (m = (k + 1) % l.length) || decide (0 < cross2W q r p))) := by
                unfold leftB; rw [cy_lt HQ.out, cy_of HR.out, cy_lt HP.out]; exact rfl
              by_cases hmk : m = k
              · have h1 : (((m : Nat) : Int) != ((k : Nat) : Int)) = false := by rw [bne_eq_false_iff_eq]; omega
                have HD := Lib.hid (decide_eq_true hmk); clear hmk
                go_wp2
                go_quiet (fail)
                go_wp2
                go_roundw
                case rel => exact ⟨m + 1, by omega, by go_num, all_range_succ HN2.out (by rw [hcy.out, HD.out]; rfl), by (repeat (first | exact Below.refl _ _ | assumption | refine Below.alloc ?_ (by first | exact Nat.le_refl _ | exact Below.size (by assumption) | omega | (simp <;> omega)) _ | refine Below.setCell ?_ (by first | exact Nat.le_refl _ | exact Below.size (by assumption) | omega | (simp <;> omega)) _ | refine below_drewN ?_ _ | refine Below.drew ?_))⟩
                case measure => simp [intOf]; omega
              have h1 : (((m : Nat) : Int) != ((k : Nat) : Int)) = true := by rw [bne_iff_ne]; omega
              have HD := Lib.hid (decide_eq_false hmk); clear hmk
              by_cases hmr : m = (k + 1) % l.length
              · have h2 : (((m : Nat) : Int) != ((k : Int) + 1) % (l.length : Int)) = false := by rw [bne_eq_false_iff_eq]; omega
                have HD2 := Lib.hid (decide_eq_true hmr); clear hmr
                go_wp2
                go_quiet (fail)
                go_wp2
                go_roundw
                case rel => exact ⟨m + 1, by omega, by go_num, all_range_succ HN2.out (by rw [hcy.out, HD.out, HD2.out]; rfl), by (repeat (first | exact Below.refl _ _ | assumption | refine Below.alloc ?_ (by first | exact Nat.le_refl _ | exact Below.size (by assumption) | omega | (simp <;> omega)) _ | refine Below.setCell ?_ (by first | exact Nat.le_refl _ | exact Below.size (by assumption) | omega | (simp <;> omega)) _ | refine below_drewN ?_ _ | refine Below.drew ?_))⟩
                case measure => simp [intOf]; omega
              have h2 : (((m : Nat) : Int) != ((k : Int) + 1) % (l.length : Int)) = true := by rw [bne_iff_ne]; omega
              have HD2 := Lib.hid (decide_eq_false hmr); clear hmr
              go_upto_region 16 with fail
              obtain ⟨wa, hwa⟩ : ∃ wa : World, wr.alloc (.cells #[.int .i64 p.X, .int .i64 p.Y] 37) = wa := ⟨_, rfl⟩
              have hBa : Below w.heap.size w wa := hwa ▸ hB.alloc hB.size _
              have hwra : wr.heap.size < wa.heap.size := by rw [← hwa]; simp
              rw [hwa]
              have cqx : wa.cell? ⟨b, off + k * 2, none⟩ = some (.int .i64 q.X) := by rw [← hwa, World.cell?_alloc_lt _ _ _ hbw]; exact hqx
              have cqy : wa.cell? ⟨b, off + k * 2 + 1, none⟩ = some (.int .i64 q.Y) := by rw [← hwa, World.cell?_alloc_lt _ _ _ hbw]; exact hqy
              have crx : wa.cell? ⟨b, off + (k + 1) % l.length * 2, none⟩ = some (.int .i64 r.X) := by rw [← hwa, World.cell?_alloc_lt _ _ _ hbw]; exact hrx
              have cry : wa.cell? ⟨b, off + (k + 1) % l.length * 2 + 1, none⟩ = some (.int .i64 r.Y) := by rw [← hwa, World.cell?_alloc_lt _ _ _ hbw]; exact hry
              have cpx : wa.cell? ⟨wr.heap.size, 0, none⟩ = some (.int .i64 p.X) := by rw [← hwa]; simp
              have cpy : wa.cell? ⟨wr.heap.size, 1, none⟩ = some (.int .i64 p.Y) := by rw [← hwa]; simp
              clear hwa
              go_still_tail 18, (by kernel_rfl)
              change wpList _ _ _ _ _ wa.drew
              go_wp2_with fail
              refine (cross2_any q r p _).mono ?_
              rintro e w2 ⟨rfl, hb2⟩
              have hB2 := hBa.trans ((below_of_drew hb2).mono hBa.size)
              clear hb2
              by_cases hpos : cross2W q r p ≤ 0
              · have HP2 := Lib.hid (decide_eq_false (Int.not_lt.2 hpos))
                go_wp2
                go_ret
                refine Ret.mk ?_ hB2
                have h8 : (List.range l.length).all (leftB l k) = false := all_range_false hltm (by rw [hcy.out, HD.out, HD2.out, HP2.out]; rfl)
                have h9 : (List.range l.length).all (fun i => (List.range l.length).all (leftB l i)) = false := all_range_false hlt h8
                simp [validRB, h9]
              · have HP2 := Lib.hid (decide_eq_true (Int.not_le.1 hpos))
                go_wp2
                go_roundw
                case rel => exact ⟨m + 1, by omega, by go_num, all_range_succ HN2.out (by rw [hcy.out, HP2.out, Bool.or_true]), hB2⟩
                case measure => simp [intOf]; omega
            · obtain rfl : m = l.length := by omega
              go_wp2
              go_roundw
              case rel => exact ⟨k + 1, by omega, by go_num, all_range_succ HN.out (all_range_true HN2.out), hB⟩
              case measure => simp [intOf]; omega
        · obtain rfl : k = l.length := by omega
          go_wp2
          go_ret
          have h7 : (List.range l.length).all (fun i => (List.range l.length).all (leftB l i)) = true := all_range_true HN.out
          refine Ret.mk ?_ hB
          simp only [validRB, decide_eq_true (show 3 ≤ l.length by omega), decide_eq_true (show l.length ≤ 64 by omega), HRg.out, h7, Bool.true_and]
          rfl
end Go.Proofs.Ytimehkeaeffcaaa

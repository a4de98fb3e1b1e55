/- The latest rate in the reference: the walk. Printed by genom5.py. -/
import Derived.Test.YthccpdefgjneiaaDoorOM5
import Derived.Test.YthccpdefgjneiaaDoorRound2
namespace Go.Proofs.YthccpdefgjneiaaDoor
open Go.RowKit Go.Shelf Go.Maps


set_option maxRecDepth 100000 in
set_option maxHeartbeats 1000000 in
theorem rateOf_any (A : Option Addr) (c : Nat) (l : List RT) (name : ByteArray) (day : Int) (w : World) (hm : l.length ≤ 1000000) (hl : RdT w w.heap.size A l) :
    Calls Tryd.prog 51 #[.slice A l.length c, .string name, .int .i64 day] w (Ret (.int .i64 (atI (lateI keyT name day l l.length))) w) := by
  have HL := Lib.hid hl; clear hl
  have hmx : Tryd.prog.follows .mixedOrders = true := by kernel_rfl
  go_enter Tryd.func51, Tryd.ntmps51
  go_wp2
  go_loopw [7, 8] (fun a i wr => ∃ (k : Nat) (oo : Option Nat), oo = lateI keyT name day l k ∧ k ≤ l.length ∧ i = .int .i64 k ∧ a = .int .i64 (atI oo) ∧ Below w.heap.size w wr) (fun _ i _ => l.length - (intOf i).toNat)
  case atStart => exact ⟨0, none, rfl, Nat.zero_le _, rfl, rfl, Below.refl _ _⟩
  case round =>
    obtain ⟨k, oo, hoo, hk, rfl, rfl, hB⟩ := hrel
    have HO := Lib.hid hoo; clear hoo
    have hsB := hB.size
    by_cases hlt : k < l.length
    · obtain ⟨x, hx⟩ := getElem?_of_lt hlt
      obtain ⟨b, off, hA, hb, d0, d1, d2, d3⟩ := (HL.out.now hB) k x hx
      have HX := Lib.hid hx; clear hx
      subst hA
      have hstr := str_eq x.c name
      by_cases hname : x.c = name
      case neg =>
        have HM := Lib.hid (late_miss1 (key := keyT) (name := name) (day := day) HX.out hname)
        rw [decide_eq_false hname] at hstr
        clear hname
        go_wp2
        go_quiet (fail)
        go_wp2
        go_roundw
        case rel => exact ⟨k + 1, oo, by rw [HM.out]; exact HO.out, by omega, by go_num, rfl, by (repeat (first | exact Below.refl _ _ | assumption | refine Below.alloc ?_ (by first | exact Nat.le_refl _ | exact Below.size (by assumption) | omega | (simp <;> omega)) _ | refine Below.setCell ?_ (by first | exact Nat.le_refl _ | exact Below.size (by assumption) | omega | (simp <;> omega)) _ | refine below_drewN ?_ _ | refine Below.drew ?_))⟩
        case measure => simp [intOf]; omega
      rw [decide_eq_true hname] at hstr
      have HNM := Lib.hid hname; clear hname
      by_cases hday : x.d ≤ day
      case neg =>
        have HM := Lib.hid (late_miss2 (key := keyT) (name := name) (day := day) HX.out hday)
        have hdb : decide (x.d ≤ day) = false := decide_eq_false hday
        go_wp2
        go_quiet (fail)
        go_wp2
        go_roundw
        case rel => exact ⟨k + 1, oo, by rw [HM.out]; exact HO.out, by omega, by go_num, rfl, by (repeat (first | exact Below.refl _ _ | assumption | refine Below.alloc ?_ (by first | exact Nat.le_refl _ | exact Below.size (by assumption) | omega | (simp <;> omega)) _ | refine Below.setCell ?_ (by first | exact Nat.le_refl _ | exact Below.size (by assumption) | omega | (simp <;> omega)) _ | refine below_drewN ?_ _ | refine Below.drew ?_))⟩
        case measure => simp [intOf]; omega
      have hdb : decide (x.d ≤ day) = true := decide_eq_true hday
      cases oo with
      | none =>
        have HM := Lib.hid (late_hit1 (key := keyT) HX.out HNM.out hday HO.out.symm)
        dsimp only [atI]
        go_wp2
        go_quiet (fail)
        go_wp2
        go_roundw
        case rel => exact ⟨k + 1, some k, HM.out.symm, by omega, by go_num, rfl, by (repeat (first | exact Below.refl _ _ | assumption | refine Below.alloc ?_ (by first | exact Nat.le_refl _ | exact Below.size (by assumption) | omega | (simp <;> omega)) _ | refine Below.setCell ?_ (by first | exact Nat.le_refl _ | exact Below.size (by assumption) | omega | (simp <;> omega)) _ | refine below_drewN ?_ _ | refine Below.drew ?_))⟩
        case measure => simp [intOf]; omega
      | some j =>
        obtain ⟨_, hjl⟩ := lateI_lt HO.out.symm
        obtain ⟨y, hy⟩ := getElem?_of_lt hjl
        obtain ⟨b', off', hA', hb', e0, e1, e2, e3⟩ := (HL.out.now hB) j y hy
        obtain ⟨rfl, rfl⟩ : b = b' ∧ off = off' := by simpa using hA'
        clear hA'
        have hj0 : ¬ (j : Int) < 0 := by omega
        have hj0b : decide ((j : Int) < 0) = false := decide_eq_false hj0
        dsimp only [atI]
        by_cases hd : y.d < x.d
        case neg =>
          have HM := Lib.hid (late_miss3 (key := keyT) HX.out HO.out.symm hy hd)
          have hdd : decide (y.d < x.d) = false := decide_eq_false hd
          clear hy
          go_wp2
          go_quiet (fail)
          go_wp2
          go_roundw
          case rel => exact ⟨k + 1, some j, by rw [HM.out]; exact HO.out, by omega, by go_num, rfl, by (repeat (first | exact Below.refl _ _ | assumption | refine Below.alloc ?_ (by first | exact Nat.le_refl _ | exact Below.size (by assumption) | omega | (simp <;> omega)) _ | refine Below.setCell ?_ (by first | exact Nat.le_refl _ | exact Below.size (by assumption) | omega | (simp <;> omega)) _ | refine below_drewN ?_ _ | refine Below.drew ?_))⟩
          case measure => simp [intOf]; omega
        have HM := Lib.hid (late_hit2 (key := keyT) HX.out HNM.out hday HO.out.symm hy hd)
        have hdd : decide (y.d < x.d) = true := decide_eq_true hd
        clear hy
        go_wp2
        go_quiet (fail)
        go_wp2
        go_roundw
        case rel => exact ⟨k + 1, some k, HM.out.symm, by omega, by go_num, rfl, by (repeat (first | exact Below.refl _ _ | assumption | refine Below.alloc ?_ (by first | exact Nat.le_refl _ | exact Below.size (by assumption) | omega | (simp <;> omega)) _ | refine Below.setCell ?_ (by first | exact Nat.le_refl _ | exact Below.size (by assumption) | omega | (simp <;> omega)) _ | refine below_drewN ?_ _ | refine Below.drew ?_))⟩
        case measure => simp [intOf]; omega
    · obtain rfl : k = l.length := by omega
      go_wp2
      go_ret
      exact Ret.mk (by rw [← HO.out] <;> rfl) hB

end Go.Proofs.YthccpdefgjneiaaDoor

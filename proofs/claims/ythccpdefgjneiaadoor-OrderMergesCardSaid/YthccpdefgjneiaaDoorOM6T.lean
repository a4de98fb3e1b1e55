/- The latest rate in the program: the walk. Printed by genom5.py. -/
import Derived.Test.YthccpdefgjneiaaDoorOM5
import Derived.Test.YthccpdefgjneiaaDoorRound2
namespace Go.Proofs.YthccpdefgjneiaaDoor
open Go.RowKit Go.Shelf Go.Maps


set_option maxRecDepth 100000 in
set_option maxHeartbeats 1000000 in
theorem latestT_any (A : Option Addr) (c : Nat) (l : List RT) (name : ByteArray) (day : Int) (w : World) (hm : l.length ≤ 1000000) (hl : RdT w w.heap.size A l) :
    Calls Tryd.prog 45 #[.slice A l.length c, .func (.func 46) #[] #[], .string name, .int .i64 day] w (Ret (.tuple #[valT (bestT l (lateI keyT name day l l.length)), .bool (lateI keyT name day l l.length).isSome]) w) := by
  have HL := Lib.hid hl; clear hl
  have hmx : Tryd.prog.follows .mixedOrders = true := by kernel_rfl
  have eg : ∀ args W, (callFunc 46 args).run Tryd.prog W = .ok (.enter 46 args) W := enters_of Tryd.func46 (by kernel_rfl) rfl
  have hb0 := BlT.new w zeroT
  have hb1 := BlT.new (w.alloc (.cells #[.string ⟨#[]⟩, .int .i64 0, .int .i64 0, .int .i64 0] 70)) zeroT
  rw [World.size_alloc] at hb1
  have hb0' : BlT ((w.alloc (.cells #[.string ⟨#[]⟩, .int .i64 0, .int .i64 0, .int .i64 0] 70)).alloc (.cells #[.string ⟨#[]⟩, .int .i64 0, .int .i64 0, .int .i64 0] 70)) w.heap.size zeroT := hb0.below (C := w.heap.size + 1) (by (repeat (first | exact Below.refl _ _ | assumption | refine Below.alloc ?_ (by first | exact Nat.le_refl _ | exact Below.size (by assumption) | omega | (simp <;> omega)) _ | refine Below.setCell ?_ (by first | exact Nat.le_refl _ | exact Below.size (by assumption) | omega | (simp <;> omega)) _ | refine below_drewN ?_ _ | refine Below.drew ?_))) (by omega)
  have H0 := Lib.hid (And.intro hb0' hb1); clear hb0 hb0' hb1
  go_enter Tryd.func45, Tryd.ntmps45
  go_wp2
  go_loopw [11, 13, 14, 17] (fun fd _ _ i wr => ∃ (k : Nat) (oo : Option Nat), oo = lateI keyT name day l k ∧ k ≤ l.length ∧ i = .int .i64 k ∧ fd = .bool oo.isSome ∧ BlT wr (w.heap.size + 1) (bestT l oo) ∧ BlT wr w.heap.size zeroT ∧ Below w.heap.size w wr) (fun _ _ _ i _ => l.length - (intOf i).toNat)
  case atStart => exact ⟨0, none, rfl, Nat.zero_le _, rfl, rfl, H0.out.2, H0.out.1, by (repeat (first | exact Below.refl _ _ | assumption | refine Below.alloc ?_ (by first | exact Nat.le_refl _ | exact Below.size (by assumption) | omega | (simp <;> omega)) _ | refine Below.setCell ?_ (by first | exact Nat.le_refl _ | exact Below.size (by assumption) | omega | (simp <;> omega)) _ | refine below_drewN ?_ _ | refine Below.drew ?_))⟩
  case round =>
    obtain ⟨k, oo, hoo, hk, rfl, rfl, hbt, hbr, hB⟩ := hrel
    have HO := Lib.hid hoo; clear hoo
    have HBT := Lib.hid hbt; clear hbt
    have HBR := Lib.hid hbr; clear hbr
    have hsB := hB.size
    have hs1 : w.heap.size + 1 < wr.heap.size := (Array.getElem?_eq_some_iff.1 HBT.out).1
    by_cases hlt : k < l.length
    · obtain ⟨x, hx⟩ := getElem?_of_lt hlt
      obtain ⟨b, off, hA, hb, d0, d1, d2, d3⟩ := (HL.out.now hB) k x hx
      have HX := Lib.hid hx; clear hx
      subst hA
      obtain ⟨wz, hwz⟩ : ∃ wz, wr.alloc (.cells #[.string x.c, .int .i64 x.d, .int .i64 x.n, .int .i64 x.m] 70) = wz := ⟨_, rfl⟩
      have hbz : Below wr.heap.size wr wz := by rw [← hwz]; (repeat (first | exact Below.refl _ _ | assumption | refine Below.alloc ?_ (by first | exact Nat.le_refl _ | exact Below.size (by assumption) | omega | (simp <;> omega)) _ | refine Below.setCell ?_ (by first | exact Nat.le_refl _ | exact Below.size (by assumption) | omega | (simp <;> omega)) _ | refine below_drewN ?_ _ | refine Below.drew ?_))
      have hsz : wz.heap.size = wr.heap.size + 1 := by rw [← hwz]; simp
      have HZ := Lib.hid (show AtT wz wr.heap.size x by rw [← hwz]; exact AtT.new wr x)
      have HW := Lib.hid hwz; clear hwz
      go_upto_region 6 with fail
      rw [HW.out]
      clear HW d0 d1 d2 d3
      obtain ⟨x0, x1, x2, x3⟩ := HZ.out
      have hz1 : wr.heap.size < wz.heap.size := by omega
      go_wp2_with fail
      refine (money_any x _).mono ?_
      rintro e w2 ⟨rfl, hb2⟩
      have hs2 := hb2.size
      obtain ⟨wy, hwy⟩ : ∃ wy, w2.alloc (.cells #[.string x.c, .int .i64 x.d] 102) = wy := ⟨_, rfl⟩
      have hby : Below w2.heap.size w2 wy := by rw [← hwy]; (repeat (first | exact Below.refl _ _ | assumption | refine Below.alloc ?_ (by first | exact Nat.le_refl _ | exact Below.size (by assumption) | omega | (simp <;> omega)) _ | refine Below.setCell ?_ (by first | exact Nat.le_refl _ | exact Below.size (by assumption) | omega | (simp <;> omega)) _ | refine below_drewN ?_ _ | refine Below.drew ?_))
      have hsy : wy.heap.size = w2.heap.size + 1 := by rw [← hwy]; simp
      have k0 : wy.cell? ⟨w2.heap.size, 0, none⟩ = some (.string x.c) := by rw [← hwy]; simp
      have k1 : wy.cell? ⟨w2.heap.size, 1, none⟩ = some (.int .i64 x.d) := by rw [← hwy]; simp
      have HKD := Lib.hid (And.intro k0 k1); clear k0 k1
      have HWY := Lib.hid hwy; clear hwy x0 x1 x2 x3
      go_upto_region 7 with fail
      rw [HWY.out]
      clear HWY
      have hbry : Below wr.heap.size wr wy := (hbz.trans (hb2.mono hbz.size)).trans (hby.mono (by omega))
      have hBy := hB.trans (hbry.mono hB.size)
      have hz2 : w2.heap.size < wy.heap.size := by omega
      have HZY := Lib.hid ((HZ.out.below hb2 hz1).below hby (by omega))
      have HBTY := Lib.hid (HBT.out.below hbry (by omega))
      have HBRY := Lib.hid (HBR.out.below hbry (by omega))
      have hz3 : w.heap.size + 1 < wy.heap.size := by have := hbry.size; omega
      have hz4 : wr.heap.size < wy.heap.size := by omega
      have HC : Hid (∀ w', Below wy.heap.size wy w' → w'.cell? ⟨w2.heap.size, 0, none⟩ = some (.string x.c) ∧ w'.cell? ⟨w2.heap.size, 1, none⟩ = some (.int .i64 x.d) ∧ AtT w' (w.heap.size + 1) (bestT l oo)) := fun w' hC =>
        ⟨(hC.cell (p := ⟨w2.heap.size, 0, none⟩) hz2).trans HKD.out.1, (hC.cell (p := ⟨w2.heap.size, 1, none⟩) hz2).trans HKD.out.2, HBTY.out.c.below hC hz3⟩
      have hstr := str_eq x.c name
      by_cases hname : x.c = name
      case neg =>
        have HM := Lib.hid (late_miss1 (key := keyT) (name := name) (day := day) HX.out hname)
        rw [decide_eq_false hname] at hstr
        clear hname
        go_wp2
        refine region_qw (fun w' => Below wy.heap.size wy w') hmx (by kernel_rfl) (by (repeat (first | exact Below.refl _ _ | assumption | refine Below.alloc ?_ (by first | exact Nat.le_refl _ | exact Below.size (by assumption) | omega | (simp <;> omega)) _ | refine Below.setCell ?_ (by first | exact Nat.le_refl _ | exact Below.size (by assumption) | omega | (simp <;> omega)) _ | refine below_drewN ?_ _ | refine Below.drew ?_))) ?_
        repeat (first | (refine qw_read rfl (fun w' hC => by obtain ⟨f0, f1, ⟨y0, y1, y2, y3⟩⟩ := HC.out w' hC; clear hC; go_simp; rfl) ?_; simp only [Act.put, List.setIfInBounds_toArray, List.set_cons_succ, List.set_cons_zero]) | (refine qw_pass (by first | (simp [Region.wanted, yielded]; done) | (simp [Region.wanted, yielded]; intro h; cases h)) ?_; simp only [Act.put, List.setIfInBounds_toArray, List.set_cons_succ, List.set_cons_zero]))
        refine qw_nil ?_
        intro w9 hb9
        go_wp2
        go_roundw
        case rel => exact ⟨k + 1, oo, by rw [HM.out]; exact HO.out, by omega, by go_num, rfl, HBTY.out.below hb9 hz3, HBRY.out.below hb9 (by omega), hBy.trans (hb9.mono hBy.size)⟩
        case measure => simp [intOf]; omega
      rw [decide_eq_true hname] at hstr
      have HNM := Lib.hid hname; clear hname
      by_cases hday : x.d ≤ day
      case neg =>
        have HM := Lib.hid (late_miss2 (key := keyT) (name := name) (day := day) HX.out hday)
        have hdb : decide (x.d ≤ day) = false := decide_eq_false hday
        go_wp2
        refine region_qw (fun w' => Below wy.heap.size wy w') hmx (by kernel_rfl) (by (repeat (first | exact Below.refl _ _ | assumption | refine Below.alloc ?_ (by first | exact Nat.le_refl _ | exact Below.size (by assumption) | omega | (simp <;> omega)) _ | refine Below.setCell ?_ (by first | exact Nat.le_refl _ | exact Below.size (by assumption) | omega | (simp <;> omega)) _ | refine below_drewN ?_ _ | refine Below.drew ?_))) ?_
        repeat (first | (refine qw_read rfl (fun w' hC => by obtain ⟨f0, f1, ⟨y0, y1, y2, y3⟩⟩ := HC.out w' hC; clear hC; go_simp; rfl) ?_; simp only [Act.put, List.setIfInBounds_toArray, List.set_cons_succ, List.set_cons_zero]) | (refine qw_pass (by first | (simp [Region.wanted, yielded]; done) | (simp [Region.wanted, yielded]; intro h; cases h)) ?_; simp only [Act.put, List.setIfInBounds_toArray, List.set_cons_succ, List.set_cons_zero]))
        refine qw_nil ?_
        intro w9 hb9
        go_wp2
        go_roundw
        case rel => exact ⟨k + 1, oo, by rw [HM.out]; exact HO.out, by omega, by go_num, rfl, HBTY.out.below hb9 hz3, HBRY.out.below hb9 (by omega), hBy.trans (hb9.mono hBy.size)⟩
        case measure => simp [intOf]; omega
      have hdb : decide (x.d ≤ day) = true := decide_eq_true hday
      cases oo with
      | none =>
        have HM := Lib.hid (late_hit1 (key := keyT) HX.out HNM.out hday HO.out.symm)
        simp only [Option.isSome_none]
        go_wp2
        refine region_qw (fun w' => Below wy.heap.size wy w') hmx (by kernel_rfl) (by (repeat (first | exact Below.refl _ _ | assumption | refine Below.alloc ?_ (by first | exact Nat.le_refl _ | exact Below.size (by assumption) | omega | (simp <;> omega)) _ | refine Below.setCell ?_ (by first | exact Nat.le_refl _ | exact Below.size (by assumption) | omega | (simp <;> omega)) _ | refine below_drewN ?_ _ | refine Below.drew ?_))) ?_
        repeat (first | (refine qw_read rfl (fun w' hC => by obtain ⟨f0, f1, ⟨y0, y1, y2, y3⟩⟩ := HC.out w' hC; clear hC; go_simp; rfl) ?_; simp only [Act.put, List.setIfInBounds_toArray, List.set_cons_succ, List.set_cons_zero]) | (refine qw_pass (by first | (simp [Region.wanted, yielded]; done) | (simp [Region.wanted, yielded]; intro h; cases h)) ?_; simp only [Act.put, List.setIfInBounds_toArray, List.set_cons_succ, List.set_cons_zero]))
        refine qw_nil ?_
        intro w9 hb9
        obtain ⟨x0, x1, x2, x3⟩ := HZY.out.below hb9 hz4
        obtain ⟨g0, g1, g2, g3⟩ := (HBTY.out.below hb9 hz3).f
        obtain ⟨e0, e1, e2, e3⟩ := (HBTY.out.below hb9 hz3).c
        have HB9 := Lib.hid (And.intro (HBTY.out.below hb9 hz3) (HBRY.out.below hb9 (by omega)))
        have hz5 : wr.heap.size < w9.heap.size := by have := hb9.size; omega
        have hz6 : w.heap.size + 1 < w9.heap.size := by have := hb9.size; omega
        have hB9 := hBy.trans (hb9.mono hBy.size)
        go_wp2
        go_roundw
        case rel => exact ⟨k + 1, some k, HM.out.symm, by omega, by go_num, rfl, by rw [show bestT l (some k) = x by unfold bestT; show (l[k]?).getD _ = x; rw [HX.out]; rfl]; exact HB9.out.1.put x, ((putT_grown w9 (w.heap.size + 1) x).block w.heap.size (by omega) (by simp)).trans HB9.out.2, below_grown hB9 (putT_grown w9 (w.heap.size + 1) x) (fun j hj => by cases hj; omega) hB9.size⟩
        case measure => simp [intOf]; omega
      | some j =>
        obtain ⟨_, hjl⟩ := lateI_lt HO.out.symm
        obtain ⟨y, hy⟩ := getElem?_of_lt hjl
        have hby2 : bestT l (some j) = y := by unfold bestT; show (l[j]?).getD _ = y; rw [hy]; rfl
        rw [hby2] at HC
        simp only [Option.isSome_some]
        by_cases hd : y.d < x.d
        case neg =>
          have HM := Lib.hid (late_miss3 (key := keyT) HX.out HO.out.symm hy hd)
          have hdd : decide (y.d < x.d) = false := decide_eq_false hd
          go_wp2
          refine region_qw (fun w' => Below wy.heap.size wy w') hmx (by kernel_rfl) (by (repeat (first | exact Below.refl _ _ | assumption | refine Below.alloc ?_ (by first | exact Nat.le_refl _ | exact Below.size (by assumption) | omega | (simp <;> omega)) _ | refine Below.setCell ?_ (by first | exact Nat.le_refl _ | exact Below.size (by assumption) | omega | (simp <;> omega)) _ | refine below_drewN ?_ _ | refine Below.drew ?_))) ?_
          repeat (first | (refine qw_read rfl (fun w' hC => by obtain ⟨f0, f1, ⟨y0, y1, y2, y3⟩⟩ := HC.out w' hC; clear hC; go_simp; rfl) ?_; simp only [Act.put, List.setIfInBounds_toArray, List.set_cons_succ, List.set_cons_zero]) | (refine qw_pass (by first | (simp [Region.wanted, yielded]; done) | (simp [Region.wanted, yielded]; intro h; cases h)) ?_; simp only [Act.put, List.setIfInBounds_toArray, List.set_cons_succ, List.set_cons_zero]) | (refine qw_call rfl (fun w' hC => by (go_simp; try rfl)) (fun w' hC => (money_any y w').mono (fun e w2 hr => ⟨hr.1, hC.trans (hr.2.mono hC.size)⟩)) ?_; simp only [Act.put, List.setIfInBounds_toArray, List.set_cons_succ, List.set_cons_zero]))
          refine qw_nil ?_
          intro w9 hb9
          go_wp2
          go_roundw
          case rel => exact ⟨k + 1, some j, by rw [HM.out]; exact HO.out, by omega, by go_num, rfl, HBTY.out.below hb9 hz3, HBRY.out.below hb9 (by omega), hBy.trans (hb9.mono hBy.size)⟩
          case measure => simp [intOf]; omega
        have HM := Lib.hid (late_hit2 (key := keyT) HX.out HNM.out hday HO.out.symm hy hd)
        have hdd : decide (y.d < x.d) = true := decide_eq_true hd
        go_wp2
        refine region_qw (fun w' => Below wy.heap.size wy w') hmx (by kernel_rfl) (by (repeat (first | exact Below.refl _ _ | assumption | refine Below.alloc ?_ (by first | exact Nat.le_refl _ | exact Below.size (by assumption) | omega | (simp <;> omega)) _ | refine Below.setCell ?_ (by first | exact Nat.le_refl _ | exact Below.size (by assumption) | omega | (simp <;> omega)) _ | refine below_drewN ?_ _ | refine Below.drew ?_))) ?_
        repeat (first | (refine qw_read rfl (fun w' hC => by obtain ⟨f0, f1, ⟨y0, y1, y2, y3⟩⟩ := HC.out w' hC; clear hC; go_simp; rfl) ?_; simp only [Act.put, List.setIfInBounds_toArray, List.set_cons_succ, List.set_cons_zero]) | (refine qw_pass (by first | (simp [Region.wanted, yielded]; done) | (simp [Region.wanted, yielded]; intro h; cases h)) ?_; simp only [Act.put, List.setIfInBounds_toArray, List.set_cons_succ, List.set_cons_zero]) | (refine qw_call rfl (fun w' hC => by (go_simp; try rfl)) (fun w' hC => (money_any y w').mono (fun e w2 hr => ⟨hr.1, hC.trans (hr.2.mono hC.size)⟩)) ?_; simp only [Act.put, List.setIfInBounds_toArray, List.set_cons_succ, List.set_cons_zero]))
        refine qw_nil ?_
        intro w9 hb9
        obtain ⟨x0, x1, x2, x3⟩ := HZY.out.below hb9 hz4
        obtain ⟨g0, g1, g2, g3⟩ := (HBTY.out.below hb9 hz3).f
        obtain ⟨e0, e1, e2, e3⟩ := (HBTY.out.below hb9 hz3).c
        have HB9 := Lib.hid (And.intro (HBTY.out.below hb9 hz3) (HBRY.out.below hb9 (by omega)))
        have hz5 : wr.heap.size < w9.heap.size := by have := hb9.size; omega
        have hz6 : w.heap.size + 1 < w9.heap.size := by have := hb9.size; omega
        have hB9 := hBy.trans (hb9.mono hBy.size)
        go_wp2
        go_roundw
        case rel => exact ⟨k + 1, some k, HM.out.symm, by omega, by go_num, rfl, by rw [show bestT l (some k) = x by unfold bestT; show (l[k]?).getD _ = x; rw [HX.out]; rfl]; exact HB9.out.1.put x, ((putT_grown w9 (w.heap.size + 1) x).block w.heap.size (by omega) (by simp)).trans HB9.out.2, below_grown hB9 (putT_grown w9 (w.heap.size + 1) x) (fun j hj => by cases hj; omega) hB9.size⟩
        case measure => simp [intOf]; omega
    · obtain rfl : k = l.length := by omega
      obtain ⟨x0, x1, x2, x3⟩ := HBT.out.c
      obtain ⟨g0, g1, g2, g3⟩ := HBR.out.f
      obtain ⟨e0, e1, e2, e3⟩ := HBR.out.c
      have hz5 : w.heap.size < wr.heap.size := by omega
      go_wp2
      obtain ⟨q0, q1, q2, q3⟩ := HBR.out.rd (bestT l oo)
      refine bodyPost_ret (v := .tuple #[valT (bestT l oo), .bool oo.isSome]) (by simp [results, Tryd.results45, go_sem, q0, q1, q2, q3]) rfl ?_
      exact Ret.mk (by rw [← HO.out]) (below_grown hB (putT_grown wr w.heap.size (bestT l oo)) (fun j hj => by cases hj; exact Nat.le_refl _) hB.size)

end Go.Proofs.YthccpdefgjneiaaDoor

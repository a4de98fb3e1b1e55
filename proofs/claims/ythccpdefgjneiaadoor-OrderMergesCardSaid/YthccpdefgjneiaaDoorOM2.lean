/- No name and day twice: once at rates and at prices: the walks. Printed by genom2.py. -/
import Derived.Test.YthccpdefgjneiaaDoorOM1
import Derived.Deep.DeepCutAuto
namespace Go.Proofs.YthccpdefgjneiaaDoor
open Go.RowKit Go.Shelf Go.Maps

theorem below_grew {w w' : World} (h : Below w.heap.size w w') : w.grownBy w' none := ⟨h.os, h.tape, h.output, h.size, fun k hk _ => h.block k hk⟩
theorem nodup_take {l : List NK} {k : Nat} {p : NK} (h : l[k]? = some p) (hn : (l.take k).Nodup) (hp : p ∉ l.take k) : (l.take (k + 1)).Nodup := by
  rw [take_succ_of h, List.nodup_append]
  refine ⟨hn, by simp, ?_⟩
  intro a ha b hb
  simp at hb
  subst hb
  intro e
  subst e
  exact hp ha
theorem not_nodup {l : List NK} {k : Nat} {p : NK} (h : l[k]? = some p) (hp : p ∈ l.take k) : ¬ l.Nodup := by
  intro hn
  have hlt := (List.getElem?_eq_some_iff.1 h).1
  rw [← List.take_append_drop k l, List.nodup_append] at hn
  refine hn.2.2 p hp p ?_ rfl
  rw [List.drop_eq_getElem_cons hlt, (List.getElem?_eq_some_iff.1 h).2]
  exact List.mem_cons_self


def keyT (r : RT) : NK := ⟨r.c, r.d⟩
set_option maxRecDepth 100000 in
set_option maxHeartbeats 2000000 in
theorem onceT_any (A : Option Addr) (c : Nat) (l : List RT) (w : World) (hm : l.length ≤ 1000000) (hk : ∀ p ∈ l.map keyT, OkK p) (hl : RdT w w.heap.size A l) :
    Calls Tryd.prog 66 #[.slice A l.length c, .func (.func 46) #[] #[]] w (Ret (.bool (decide (l.map keyT).Nodup)) w) := by
  have HL := Lib.hid hl; clear hl
  have HK := Lib.hid hk; clear hk
  have hmm := @run_makeMap Tryd.prog
  have eg : ∀ args W, (callFunc 46 args).run Tryd.prog W = .ok (.enter 46 args) W := enters_of Tryd.func46 (by kernel_rfl) rfl
  have HO0 := Lib.hid (World.ownsMap_made (H := Unit) w Tryd.prog 102 (plainElem Tryd.prog 4))
  go_enter Tryd.func66, Tryd.ntmps66
  go_wp2
  go_loopw [7, 11] (fun _ i wr => ∃ k : Nat, k ≤ l.length ∧ i = .int .i64 k ∧ ((l.map keyT).take k).Nodup ∧ wr.ownsMap Tryd.prog 102 (plainElem Tryd.prog 4) w.heap.size k (KS (l.map keyT) k) ∧ Below w.heap.size w wr) (fun _ i _ => l.length - (intOf i).toNat)
  case atStart => exact ⟨0, Nat.zero_le _, rfl, by simp, HO0.out, by (repeat (first | exact Below.refl _ _ | assumption | refine Below.alloc ?_ (by first | exact Nat.le_refl _ | exact Below.size (by assumption) | omega | (simp <;> omega)) _ | refine Below.setCell ?_ (by first | exact Nat.le_refl _ | exact Below.size (by assumption) | omega | (simp <;> omega)) _ | refine below_drewN ?_ _ | refine Below.drew ?_))⟩
  case round =>
    obtain ⟨k, hk, rfl, hnd, hown, hB⟩ := hrel
    have HN := Lib.hid hnd; clear hnd
    have HO := Lib.hid hown; clear hown
    have hsB := hB.size
    have hlB := HO.out.lt
    by_cases hlt : k < l.length
    · obtain ⟨r, hr⟩ := getElem?_of_lt hlt
      obtain ⟨b, off, hA, hb, d0, d1, d2, d3⟩ := (HL.out.now hB) k r hr
      have hkr : (l.map keyT)[k]? = some (keyT r) := by rw [List.getElem?_map, hr]; rfl
      have hok := HK.out _ (List.mem_of_getElem? hkr)
      have hat := KS_at (l := l.map keyT) (k := k) HK.out hok
      have hks := key_some hok
      have hsu := KS_succ hkr
      have HKR := Lib.hid hkr; clear hkr
      have HOK := Lib.hid hok; clear hok
      have HAT := Lib.hid hat; clear hat
      have HKS := Lib.hid hks; clear hks
      have HSU := Lib.hid hsu; clear hsu
      subst hA
      clear hr
      obtain ⟨wz, hwz⟩ : ∃ wz, wr.alloc (.cells #[.string r.c, .int .i64 r.d, .int .i64 r.n, .int .i64 r.m] 70) = wz := ⟨_, rfl⟩
      have hbz : Below wr.heap.size wr wz := by rw [← hwz]; (repeat (first | exact Below.refl _ _ | assumption | refine Below.alloc ?_ (by first | exact Nat.le_refl _ | exact Below.size (by assumption) | omega | (simp <;> omega)) _ | refine Below.setCell ?_ (by first | exact Nat.le_refl _ | exact Below.size (by assumption) | omega | (simp <;> omega)) _ | refine below_drewN ?_ _ | refine Below.drew ?_))
      have hsz : wz.heap.size = wr.heap.size + 1 := by rw [← hwz]; simp
      have HZ := Lib.hid (show AtT wz wr.heap.size r by rw [← hwz]; exact AtT.new wr r)
      have HOZ := Lib.hid (show wz.ownsMap Tryd.prog 102 (plainElem Tryd.prog 4) w.heap.size k (KS (l.map keyT) k) by rw [← hwz]; exact HO.out.alloc _)
      have HW := Lib.hid hwz; clear hwz
      go_upto_region 5 with fail
      rw [HW.out]
      clear HW d0 d1 d2 d3
      obtain ⟨x0, x1, x2, x3⟩ := HZ.out
      have hz1 : wr.heap.size < wz.heap.size := by omega
      go_wp2_with fail
      refine (money_any r _).mono ?_
      rintro e w2 ⟨rfl, hb2⟩
      have hbr2 := hbz.trans (hb2.mono hbz.size)
      have hO2 : w2.ownsMap Tryd.prog 102 (plainElem Tryd.prog 4) w.heap.size k (KS (l.map keyT) k) := HOZ.out.kept (row := none) (below_grew hb2) (by simp)
      have HO2 := Lib.hid hO2; clear hO2 x0 x1 x2 x3
      by_cases hin : keyT r ∈ (l.map keyT).take k
      · have HNO := Lib.hid (show decide (l.map keyT).Nodup = false from decide_eq_false (not_nodup HKR.out hin))
        go_wp2_with (at_lookup; refine wpList_lookup_own_bool _ rfl _ _ 104 rfl 102 4 keyK Tryd.underlying104 Tryd.underlying4 (zeroB _) w.heap.size k _ rfl HO2.out _ _ rfl HKS.out ?_; intro cc hat; obtain rfl : cc = true := by (have h1 := HAT.out.symm.trans hat; rw [decide_eq_true hin] at h1; simpa using h1.symm))
        go_ret
        exact Ret.mk (by rw [HNO.out] <;> rfl) (hB.trans (hbr2.mono hB.size))
      · have hz2 : wr.heap.size < w2.heap.size := by have := hb2.size; omega
        obtain ⟨x0, x1, x2, x3⟩ := HZ.out.below hb2 hz1
        go_wp2_with (at_lookup; refine wpList_lookup_own_bool _ rfl _ _ 104 rfl 102 4 keyK Tryd.underlying104 Tryd.underlying4 (zeroB _) w.heap.size k _ rfl HO2.out _ _ rfl HKS.out ?_; intro cc hat; obtain rfl : cc = false := by (have h1 := HAT.out.symm.trans hat; rw [decide_eq_false hin] at h1; simpa using h1.symm))
        refine (money_any r _).mono ?_
        rintro e w3 ⟨rfl, hb3⟩
        have hbr3 := hbr2.trans (hb3.mono hbr2.size)
        have hO3 : w3.ownsMap Tryd.prog 102 (plainElem Tryd.prog 4) w.heap.size k (KS (l.map keyT) k) := HO2.out.kept (row := none) (below_grew hb3) (by simp)
        have HO3 := Lib.hid hO3; clear hO3 x0 x1 x2 x3
        go_wp2_with (at_mapUpdate; refine wpList_mapUpdate_own _ rfl _ _ _ 104 rfl 102 4 keyK Tryd.underlying104 _ w.heap.size k _ rfl HO3.out (by unfold maxLen; omega) _ _ _ rfl rfl HKS.out _ [] (plainElem_bool Tryd.underlying4 true) ?_; intro w4 hown4 hgrow4)
        have hB3 := hB.trans (hbr3.mono hB.size)
        have hB4 : Below w.heap.size w w4 := below_grown hB3 hgrow4 (fun j hj => by cases hj; exact Nat.le_refl _) hB3.size
        have HO4 := Lib.hid hown4; clear hown4 hgrow4
        go_wp2
        go_roundw
        case rel => exact ⟨k + 1, by omega, by go_num, nodup_take HKR.out HN.out hin, by rw [HSU.out]; exact HO4.out, hB4⟩
        case measure => simp [intOf]; omega
    · obtain rfl : k = l.length := by omega
      have HNO := Lib.hid (show decide (l.map keyT).Nodup = true from decide_eq_true (by have := HN.out; rwa [List.take_of_length_le (by simp)] at this))
      go_wp2
      go_ret
      exact Ret.mk (by rw [HNO.out] <;> rfl) hB


def keyQ (r : QT) : NK := ⟨r.m, r.d⟩
set_option maxRecDepth 100000 in
set_option maxHeartbeats 2000000 in
theorem onceQ_any (A : Option Addr) (c : Nat) (l : List QT) (w : World) (hm : l.length ≤ 1000000) (hk : ∀ p ∈ l.map keyQ, OkK p) (hl : RdQ w w.heap.size A l) :
    Calls Tryd.prog 58 #[.slice A l.length c, .func (.func 59) #[] #[]] w (Ret (.bool (decide (l.map keyQ).Nodup)) w) := by
  have HL := Lib.hid hl; clear hl
  have HK := Lib.hid hk; clear hk
  have hmm := @run_makeMap Tryd.prog
  have eg : ∀ args W, (callFunc 59 args).run Tryd.prog W = .ok (.enter 59 args) W := enters_of Tryd.func59 (by kernel_rfl) rfl
  have HO0 := Lib.hid (World.ownsMap_made (H := Unit) w Tryd.prog 102 (plainElem Tryd.prog 4))
  go_enter Tryd.func58, Tryd.ntmps58
  go_wp2
  go_loopw [7, 11] (fun _ i wr => ∃ k : Nat, k ≤ l.length ∧ i = .int .i64 k ∧ ((l.map keyQ).take k).Nodup ∧ wr.ownsMap Tryd.prog 102 (plainElem Tryd.prog 4) w.heap.size k (KS (l.map keyQ) k) ∧ Below w.heap.size w wr) (fun _ i _ => l.length - (intOf i).toNat)
  case atStart => exact ⟨0, Nat.zero_le _, rfl, by simp, HO0.out, by (repeat (first | exact Below.refl _ _ | assumption | refine Below.alloc ?_ (by first | exact Nat.le_refl _ | exact Below.size (by assumption) | omega | (simp <;> omega)) _ | refine Below.setCell ?_ (by first | exact Nat.le_refl _ | exact Below.size (by assumption) | omega | (simp <;> omega)) _ | refine below_drewN ?_ _ | refine Below.drew ?_))⟩
  case round =>
    obtain ⟨k, hk, rfl, hnd, hown, hB⟩ := hrel
    have HN := Lib.hid hnd; clear hnd
    have HO := Lib.hid hown; clear hown
    have hsB := hB.size
    have hlB := HO.out.lt
    by_cases hlt : k < l.length
    · obtain ⟨r, hr⟩ := getElem?_of_lt hlt
      obtain ⟨b, off, hA, hb, d0, d1, d2⟩ := (HL.out.now hB) k r hr
      have hkr : (l.map keyQ)[k]? = some (keyQ r) := by rw [List.getElem?_map, hr]; rfl
      have hok := HK.out _ (List.mem_of_getElem? hkr)
      have hat := KS_at (l := l.map keyQ) (k := k) HK.out hok
      have hks := key_some hok
      have hsu := KS_succ hkr
      have HKR := Lib.hid hkr; clear hkr
      have HOK := Lib.hid hok; clear hok
      have HAT := Lib.hid hat; clear hat
      have HKS := Lib.hid hks; clear hks
      have HSU := Lib.hid hsu; clear hsu
      subst hA
      clear hr
      obtain ⟨wz, hwz⟩ : ∃ wz, wr.alloc (.cells #[.string r.m, .int .i64 r.d, .slice r.A r.st.length r.cp] 54) = wz := ⟨_, rfl⟩
      have hbz : Below wr.heap.size wr wz := by rw [← hwz]; (repeat (first | exact Below.refl _ _ | assumption | refine Below.alloc ?_ (by first | exact Nat.le_refl _ | exact Below.size (by assumption) | omega | (simp <;> omega)) _ | refine Below.setCell ?_ (by first | exact Nat.le_refl _ | exact Below.size (by assumption) | omega | (simp <;> omega)) _ | refine below_drewN ?_ _ | refine Below.drew ?_))
      have hsz : wz.heap.size = wr.heap.size + 1 := by rw [← hwz]; simp
      have HZ := Lib.hid (show AtQ wz wr.heap.size r by rw [← hwz]; exact AtQ.new wr r)
      have HOZ := Lib.hid (show wz.ownsMap Tryd.prog 102 (plainElem Tryd.prog 4) w.heap.size k (KS (l.map keyQ) k) by rw [← hwz]; exact HO.out.alloc _)
      have HW := Lib.hid hwz; clear hwz
      go_upto_region 5 with fail
      rw [HW.out]
      clear HW d0 d1 d2
      obtain ⟨x0, x1, x2⟩ := HZ.out
      have hz1 : wr.heap.size < wz.heap.size := by omega
      go_wp2_with fail
      refine (model_any r _).mono ?_
      rintro e w2 ⟨rfl, hb2⟩
      have hbr2 := hbz.trans (hb2.mono hbz.size)
      have hO2 : w2.ownsMap Tryd.prog 102 (plainElem Tryd.prog 4) w.heap.size k (KS (l.map keyQ) k) := HOZ.out.kept (row := none) (below_grew hb2) (by simp)
      have HO2 := Lib.hid hO2; clear hO2 x0 x1 x2
      by_cases hin : keyQ r ∈ (l.map keyQ).take k
      · have HNO := Lib.hid (show decide (l.map keyQ).Nodup = false from decide_eq_false (not_nodup HKR.out hin))
        go_wp2_with (at_lookup; refine wpList_lookup_own_bool _ rfl _ _ 104 rfl 102 4 keyK Tryd.underlying104 Tryd.underlying4 (zeroB _) w.heap.size k _ rfl HO2.out _ _ rfl HKS.out ?_; intro cc hat; obtain rfl : cc = true := by (have h1 := HAT.out.symm.trans hat; rw [decide_eq_true hin] at h1; simpa using h1.symm))
        go_ret
        exact Ret.mk (by rw [HNO.out] <;> rfl) (hB.trans (hbr2.mono hB.size))
      · have hz2 : wr.heap.size < w2.heap.size := by have := hb2.size; omega
        obtain ⟨x0, x1, x2⟩ := HZ.out.below hb2 hz1
        go_wp2_with (at_lookup; refine wpList_lookup_own_bool _ rfl _ _ 104 rfl 102 4 keyK Tryd.underlying104 Tryd.underlying4 (zeroB _) w.heap.size k _ rfl HO2.out _ _ rfl HKS.out ?_; intro cc hat; obtain rfl : cc = false := by (have h1 := HAT.out.symm.trans hat; rw [decide_eq_false hin] at h1; simpa using h1.symm))
        refine (model_any r _).mono ?_
        rintro e w3 ⟨rfl, hb3⟩
        have hbr3 := hbr2.trans (hb3.mono hbr2.size)
        have hO3 : w3.ownsMap Tryd.prog 102 (plainElem Tryd.prog 4) w.heap.size k (KS (l.map keyQ) k) := HO2.out.kept (row := none) (below_grew hb3) (by simp)
        have HO3 := Lib.hid hO3; clear hO3 x0 x1 x2
        go_wp2_with (at_mapUpdate; refine wpList_mapUpdate_own _ rfl _ _ _ 104 rfl 102 4 keyK Tryd.underlying104 _ w.heap.size k _ rfl HO3.out (by unfold maxLen; omega) _ _ _ rfl rfl HKS.out _ [] (plainElem_bool Tryd.underlying4 true) ?_; intro w4 hown4 hgrow4)
        have hB3 := hB.trans (hbr3.mono hB.size)
        have hB4 : Below w.heap.size w w4 := below_grown hB3 hgrow4 (fun j hj => by cases hj; exact Nat.le_refl _) hB3.size
        have HO4 := Lib.hid hown4; clear hown4 hgrow4
        go_wp2
        go_roundw
        case rel => exact ⟨k + 1, by omega, by go_num, nodup_take HKR.out HN.out hin, by rw [HSU.out]; exact HO4.out, hB4⟩
        case measure => simp [intOf]; omega
    · obtain rfl : k = l.length := by omega
      have HNO := Lib.hid (show decide (l.map keyQ).Nodup = true from decide_eq_true (by have := HN.out; rwa [List.take_of_length_le (by simp)] at this))
      go_wp2
      go_ret
      exact Ret.mk (by rw [HNO.out] <;> rfl) hB

end Go.Proofs.YthccpdefgjneiaaDoor

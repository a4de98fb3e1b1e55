/- What the small functions of both texts return: the walks. The loops over corners that only read: the walks. slices.IndexFunc, ContainsFunc, MinFunc, Index, Equal at corners: the walks. slices.MinFunc at the canonical order. -/
import Derived.Test.YtcbphodkaiknmaaBaseM
import Derived.Deep.RegionWith
namespace Go.Proofs.Ytcbphodkaiknmaa
open Go.RowKit

set_option maxRecDepth 100000 in
set_option maxHeartbeats 400000 in
theorem cross_any (a b c : XY) (w : World) : Calls Try.prog 29 #[xyv a, xyv b, xyv c] w (Ret (.int .i64 (crossW a b c)) w) := by
  go_enter Try.func29, Try.ntmps29
  go_wp2
  go_ret
  exact ⟨rfl, by (repeat (first | exact Below.refl _ _ | assumption | refine Below.alloc ?_ (by first | exact Nat.le_refl _ | exact Below.size (by assumption) | omega | (simp <;> omega)) _ | refine Below.setCell ?_ (by first | exact Nat.le_refl _ | exact Below.size (by assumption) | omega | (simp <;> omega)) _ | refine below_drewN ?_ _ | refine Below.drew ?_))⟩

set_option maxRecDepth 100000 in
set_option maxHeartbeats 400000 in
theorem cross2_any (a b c : XY) (w : World) : Calls Try.prog 33 #[xyv a, xyv b, xyv c] w (Ret (.int .i64 (cross2W a b c)) w) := by
  go_enter Try.func33, Try.ntmps33
  go_wp2
  go_ret
  exact ⟨rfl, by (repeat (first | exact Below.refl _ _ | assumption | refine Below.alloc ?_ (by first | exact Nat.le_refl _ | exact Below.size (by assumption) | omega | (simp <;> omega)) _ | refine Below.setCell ?_ (by first | exact Nat.le_refl _ | exact Below.size (by assumption) | omega | (simp <;> omega)) _ | refine below_drewN ?_ _ | refine Below.drew ?_))⟩

set_option maxRecDepth 100000 in
set_option maxHeartbeats 400000 in
theorem ranged_any (p : XY) (w : World) : Calls Try.prog 11 #[xyv p] w (Ret (.bool (rangedB p)) w) := by
  go_enter Try.func11, Try.ntmps11
  go_wp2
  all_goals
    go_ret
    refine ⟨?_, by (repeat (first | exact Below.refl _ _ | assumption | refine Below.alloc ?_ (by first | exact Nat.le_refl _ | exact Below.size (by assumption) | omega | (simp <;> omega)) _ | refine Below.setCell ?_ (by first | exact Nat.le_refl _ | exact Below.size (by assumption) | omega | (simp <;> omega)) _ | refine below_drewN ?_ _ | refine Below.drew ?_))⟩
    simp [rangedB, *] <;> omega

set_option maxRecDepth 100000 in
set_option maxHeartbeats 400000 in
theorem in_any (p : XY) (w : World) : Calls Try.prog 19 #[xyv p] w (Ret (.bool (rangedB p)) w) := by
  go_enter Try.func19, Try.ntmps19
  go_wp2
  all_goals
    go_ret
    refine ⟨?_, by (repeat (first | exact Below.refl _ _ | assumption | refine Below.alloc ?_ (by first | exact Nat.le_refl _ | exact Below.size (by assumption) | omega | (simp <;> omega)) _ | refine Below.setCell ?_ (by first | exact Nat.le_refl _ | exact Below.size (by assumption) | omega | (simp <;> omega)) _ | refine below_drewN ?_ _ | refine Below.drew ?_))⟩
    simp [rangedB, *] <;> omega

set_option maxRecDepth 100000 in
set_option maxHeartbeats 400000 in
theorem half_any (x y : Int) (w : World) : Calls Try.prog 38 #[.int .i64 x, .int .i64 y] w (Ret (.bool (halfB x y)) w) := by
  go_enter Try.func38, Try.ntmps38
  go_wp2
  all_goals
    go_ret
    refine ⟨?_, by (repeat (first | exact Below.refl _ _ | assumption | refine Below.alloc ?_ (by first | exact Nat.le_refl _ | exact Below.size (by assumption) | omega | (simp <;> omega)) _ | refine Below.setCell ?_ (by first | exact Nat.le_refl _ | exact Below.size (by assumption) | omega | (simp <;> omega)) _ | refine below_drewN ?_ _ | refine Below.drew ?_))⟩
    simp [halfB, *]

set_option maxRecDepth 100000 in
set_option maxHeartbeats 400000 in
theorem lower_any (a b : XY) (w : World) : Calls Try.prog 14 #[xyv a, xyv b] w (Ret (.int .i64 (lowerW a b)) w) := by
  go_enter Try.func14, Try.ntmps14
  go_wp2
  all_goals
    go_ret
    refine ⟨?_, by (repeat (first | exact Below.refl _ _ | assumption | refine Below.alloc ?_ (by first | exact Nat.le_refl _ | exact Below.size (by assumption) | omega | (simp <;> omega)) _ | refine Below.setCell ?_ (by first | exact Nat.le_refl _ | exact Below.size (by assumption) | omega | (simp <;> omega)) _ | refine below_drewN ?_ _ | refine Below.drew ?_))⟩
    simp_all [lowerW]

set_option maxRecDepth 100000 in
set_option maxHeartbeats 400000 in
theorem low_any (p q : XY) (w : World) : Calls Try.prog 50 #[xyv p, xyv q] w (Ret (.bool (lowB p q)) w) := by
  go_enter Try.func50, Try.ntmps50
  go_wp2
  all_goals
    go_ret
    refine ⟨?_, by (repeat (first | exact Below.refl _ _ | assumption | refine Below.alloc ?_ (by first | exact Nat.le_refl _ | exact Below.size (by assumption) | omega | (simp <;> omega)) _ | refine Below.setCell ?_ (by first | exact Nat.le_refl _ | exact Below.size (by assumption) | omega | (simp <;> omega)) _ | refine below_drewN ?_ _ | refine Below.drew ?_))⟩
    simp [lowB, *]

set_option maxRecDepth 100000 in
set_option maxHeartbeats 400000 in
theorem farther_any (o p q : XY) (w : World) : Calls Try.prog 34 #[xyv o, xyv p, xyv q] w (Ret (.bool (fartherB o p q)) w) := by
  go_enter Try.func34, Try.ntmps34
  go_wp2
  go_quiet (fail)
  go_wp2
  go_quiet (fail)
  go_wp2
  go_ret
  refine ⟨?_, by (repeat (first | exact Below.refl _ _ | assumption | refine Below.alloc ?_ (by first | exact Nat.le_refl _ | exact Below.size (by assumption) | omega | (simp <;> omega)) _ | refine Below.setCell ?_ (by first | exact Nat.le_refl _ | exact Below.size (by assumption) | omega | (simp <;> omega)) _ | refine below_drewN ?_ _ | refine Below.drew ?_))⟩
  simp [fartherB]
end Go.Proofs.Ytcbphodkaiknmaa

namespace Go.Proofs.Ytcbphodkaiknmaa
open Go.RowKit

end Go.Proofs.Ytcbphodkaiknmaa

namespace Go.Proofs.Ytcbphodkaiknmaa
open Go.RowKit

/-- The first place at which f holds, or -1. -/
def idxF (f : XY → Bool) (l : List XY) : Int := if l.any f then (l.findIdx f : Nat) else -1
theorem idxF_hit {f : XY → Bool} {l : List XY} {k : Nat} {q : XY} (hno : ∀ x ∈ l.take k, f x = false) (h : l[k]? = some q) (hq : f q = true) : idxF f l = k := by
  have hmem : q ∈ l := List.mem_of_getElem? h
  have hlt : k < l.length := (List.getElem?_eq_some_iff.1 h).1
  have hqe : l[k] = q := (List.getElem?_eq_some_iff.1 h).2
  unfold idxF
  rw [if_pos (List.any_eq_true.2 ⟨q, hmem, hq⟩)]
  have : l.findIdx f = k := by
    rw [List.findIdx_eq hlt]
    refine ⟨by rw [hqe]; exact hq, fun j hj => ?_⟩
    exact hno _ (List.mem_take_iff_getElem.2 ⟨j, by omega, rfl⟩)
  rw [this]
theorem idxF_none {f : XY → Bool} {l : List XY} (hno : ∀ x ∈ l, f x = false) : idxF f l = -1 := by
  unfold idxF
  rw [if_neg (by simp only [List.any_eq_true, not_exists, not_and]; intro x hx; rw [hno x hx]; simp)]
theorem no_take_succ {f : XY → Bool} {l : List XY} {k : Nat} {q : XY} (hno : ∀ x ∈ l.take k, f x = false) (h : l[k]? = some q) (hq : f q = false) : ∀ x ∈ l.take (k + 1), f x = false := by
  rw [take_succ_of h]
  intro x hx
  rcases List.mem_append.1 hx with hx | hx
  · exact hno x hx
  · simp at hx; rw [hx]; exact hq

/-- A function value that answers f and leaves all that lay in w. -/
def Tells (g : Nat) (cb : Array Value) (f : XY → Bool) (w : World) : Prop :=
  (∀ args W, (callFunc g args).run Try.prog W = .ok (.enter g args) W) ∧ ∀ (W : World) (p : XY), Below w.heap.size w W → Calls Try.prog g (#[xyv p] ++ cb) W (Ret (.bool (f p)) W)

set_option maxRecDepth 100000 in
set_option maxHeartbeats 400000 in
theorem indexFunc_any (g : Nat) (cb : Array Value) (f : XY → Bool) (A : Option Addr) (c : Nat) (l : List XY) (w : World) (hf : Tells g cb f w) (hm : l.length ≤ 1000000) (hl : Rd w w.heap.size A l) :
    Calls Try.prog 26 #[.slice A l.length c, .func (.func g) #[] cb] w (Ret (.int .i64 (idxF f l)) w) := by
  have eg := hf.1
  have HF := Lib.hid hf.2; clear hf
  have HL := Lib.hid hl; clear hl
  go_enter Try.func26, Try.ntmps26
  go_wp2
  go_loopw [5, 8] (fun _ i wr => ∃ k : Nat, k ≤ l.length ∧ i = .int .i64 k ∧ (∀ x ∈ l.take k, f x = false) ∧ Below w.heap.size w wr) (fun _ i _ => l.length - (intOf i).toNat)
  case atStart => exact ⟨0, Nat.zero_le _, rfl, by simp, Below.refl _ _⟩
  case round =>
    obtain ⟨k, hk, rfl, hno, hB⟩ := hrel
    have HN := Lib.hid hno; clear hno
    by_cases hlt : k < l.length
    · obtain ⟨q, hq⟩ := getElem?_of_lt hlt
      obtain ⟨b, off, hA, hb, hcx, hcy⟩ := (HL.out.below hB) k q hq
      subst hA
      have HQ := Lib.hid hq; clear hq
      go_wp2_with fail
      refine (HF.out _ _ hB).mono ?_
      rintro e w2 ⟨rfl, hb2⟩
      have hB2 := hB.trans (hb2.mono hB.size)
      cases hfq : f q
      · go_wp2
        go_roundw
        case rel => exact ⟨k + 1, by omega, by go_num, no_take_succ HN.out HQ.out hfq, hB2⟩
        case measure => simp [intOf]; omega
      · go_wp2
        go_ret
        exact Ret.mk (by rw [idxF_hit HN.out HQ.out hfq]; rfl) hB2
    · go_wp2
      go_ret
      exact Ret.mk (by rw [idxF_none (fun x hx => HN.out x (by rw [List.take_of_length_le (by omega)]; exact hx))]; rfl) hB

set_option maxRecDepth 100000 in
set_option maxHeartbeats 400000 in
theorem containsFunc_any (g : Nat) (cb : Array Value) (f : XY → Bool) (A : Option Addr) (c : Nat) (l : List XY) (w : World) (hf : Tells g cb f w) (hm : l.length ≤ 1000000) (hl : Rd w w.heap.size A l) :
    Calls Try.prog 9 #[.slice A l.length c, .func (.func g) #[] cb] w (Ret (.bool (l.any f)) w) := by
  have HI := Lib.hid (indexFunc_any g cb f A c l w hf hm hl)
  clear hf hl
  go_enter Try.func9, Try.ntmps9
  go_wp2_with fail
  refine HI.out.mono ?_
  rintro e w2 ⟨rfl, hb2⟩
  go_wp2
  go_ret
  refine ⟨?_, hb2⟩
  show _ = Ending.returned (Value.bool (l.any f))
  cases h : l.any f <;> simp [idxF, h]

/-- A function value that compares as f and leaves all that lay in w. -/
def Tells2 (g : Nat) (cb : Array Value) (f : XY → XY → Int) (w : World) : Prop :=
  (∀ args W, (callFunc g args).run Try.prog W = .ok (.enter g args) W) ∧ ∀ (W : World) (p q : XY), Below w.heap.size w W → Calls Try.prog g (#[xyv p, xyv q] ++ cb) W (Ret (.int .i64 (f p q)) W)

theorem minTo_succ {l : List XY} {k : Nat} {q : XY} (h : l[k]? = some q) : minTo l (k + 1) = if lowerW q (minTo l k) < 0 then q else minTo l k := by
  unfold minTo
  rw [take_succ_of h, List.foldl_append]
  rfl
theorem lowerW_self (p : XY) : lowerW p p = 0 := by simp [lowerW, wrap64]
theorem minTo_one {l : List XY} {p : XY} (h : l[0]? = some p) : minTo l 1 = p := by
  rw [minTo_succ (k := 0) h]
  simp [minTo, hd_of h]

set_option maxRecDepth 100000 in
set_option maxHeartbeats 400000 in
theorem index_any (A : Option Addr) (c : Nat) (l : List XY) (p : XY) (w : World) (hm : l.length ≤ 1000000) (hl : Rd w w.heap.size A l) :
    Calls Try.prog 30 #[.slice A l.length c, xyv p] w (Ret (.int .i64 (idxF (fun q => decide (p = q)) l)) w) := by
  have HL := Lib.hid hl; clear hl
  have heq := run_eqXY p
  have hgd := guardXY
  go_enter Try.func30, Try.ntmps30
  go_wp2
  go_loopw [5, 8] (fun _ i wr => ∃ k : Nat, k ≤ l.length ∧ i = .int .i64 k ∧ (∀ x ∈ l.take k, decide (p = x) = false) ∧ Below w.heap.size w wr ∧ wr.cell? ⟨w.heap.size, 0, none⟩ = some (.int .i64 p.X) ∧ wr.cell? ⟨w.heap.size, 1, none⟩ = some (.int .i64 p.Y)) (fun _ i _ => l.length - (intOf i).toNat)
  case atStart => exact ⟨0, Nat.zero_le _, rfl, by simp, by (repeat (first | exact Below.refl _ _ | assumption | refine Below.alloc ?_ (by first | exact Nat.le_refl _ | exact Below.size (by assumption) | omega | (simp <;> omega)) _ | refine Below.setCell ?_ (by first | exact Nat.le_refl _ | exact Below.size (by assumption) | omega | (simp <;> omega)) _ | refine below_drewN ?_ _ | refine Below.drew ?_)), by simp, by simp⟩
  case round =>
    obtain ⟨k, hk, rfl, hno, hB, hpx, hpy⟩ := hrel
    have HN := Lib.hid hno; clear hno
    by_cases hlt : k < l.length
    · obtain ⟨q, hq⟩ := getElem?_of_lt hlt
      obtain ⟨b, off, hA, hb, hcx, hcy⟩ := (HL.out.below hB) k q hq
      subst hA
      have HQ := Lib.hid hq; clear hq
      go_wp2
      go_quiet (fail)
      cases hpq : decide (p = q)
      · have hpq' : ¬ p = q := of_decide_eq_false hpq
        go_wp2
        go_roundw
        case rel => exact ⟨k + 1, by omega, by go_num, no_take_succ (f := fun x => decide (p = x)) HN.out HQ.out hpq, by (repeat (first | exact Below.refl _ _ | assumption | refine Below.alloc ?_ (by first | exact Nat.le_refl _ | exact Below.size (by assumption) | omega | (simp <;> omega)) _ | refine Below.setCell ?_ (by first | exact Nat.le_refl _ | exact Below.size (by assumption) | omega | (simp <;> omega)) _ | refine below_drewN ?_ _ | refine Below.drew ?_)), hpx, hpy⟩
        case measure => simp [intOf]; omega
      · have hpq' : p = q := of_decide_eq_true hpq
        go_wp2
        go_ret
        exact Ret.mk (by rw [idxF_hit (f := fun x => decide (p = x)) HN.out HQ.out hpq]; rfl) (by (repeat (first | exact Below.refl _ _ | assumption | refine Below.alloc ?_ (by first | exact Nat.le_refl _ | exact Below.size (by assumption) | omega | (simp <;> omega)) _ | refine Below.setCell ?_ (by first | exact Nat.le_refl _ | exact Below.size (by assumption) | omega | (simp <;> omega)) _ | refine below_drewN ?_ _ | refine Below.drew ?_)))
    · go_wp2
      go_ret
      exact Ret.mk (by rw [idxF_none (f := fun x => decide (p = x)) (fun x hx => HN.out x (by rw [List.take_of_length_le (by omega)]; exact hx))]; rfl) (by (repeat (first | exact Below.refl _ _ | assumption | refine Below.alloc ?_ (by first | exact Nat.le_refl _ | exact Below.size (by assumption) | omega | (simp <;> omega)) _ | refine Below.setCell ?_ (by first | exact Nat.le_refl _ | exact Below.size (by assumption) | omega | (simp <;> omega)) _ | refine below_drewN ?_ _ | refine Below.drew ?_)))
end Go.Proofs.Ytcbphodkaiknmaa

namespace Go.Proofs.Ytcbphodkaiknmaa
open Go.RowKit

set_option maxRecDepth 100000 in
set_option maxHeartbeats 400000 in
theorem minFunc_any (A : Option Addr) (c : Nat) (l : List XY) (w : World) (h0 : 0 < l.length) (hm : l.length ≤ 1000000) (hl : Rd w w.heap.size A l) :
    Calls Try.prog 31 #[.slice A l.length c, .func (.func 14) #[] #[]] w (Ret (xyv (minW l)) w) := by
  obtain ⟨p, hp⟩ := getElem?_of_lt h0
  obtain ⟨b, off, hA, hb, hx, hy⟩ := hl 0 p hp
  simp only [Nat.zero_mul, Nat.add_zero] at hx hy
  subst hA
  have HP := Lib.hid (minTo_one hp); clear hp
  have HL := Lib.hid hl; clear hl
  go_enter Try.func31, Try.ntmps31
  go_wp2
  go_loopw [6] (fun i wr => ∃ k : Nat, 1 ≤ k ∧ k ≤ l.length ∧ i = .int .i64 k ∧ Below w.heap.size w wr ∧ w.heap.size + 1 < wr.heap.size ∧ (∃ zx zy, wr.cell? ⟨w.heap.size, 0, none⟩ = some (.int .i64 zx) ∧ wr.cell? ⟨w.heap.size, 1, none⟩ = some (.int .i64 zy)) ∧ wr.frozen? ⟨w.heap.size, 0, none⟩ = false ∧ wr.frozen? ⟨w.heap.size, 1, none⟩ = false ∧
     wr.cell? ⟨w.heap.size + 1, 0, none⟩ = some (.int .i64 (minTo l k).X) ∧ wr.cell? ⟨w.heap.size + 1, 1, none⟩ = some (.int .i64 (minTo l k).Y) ∧ wr.frozen? ⟨w.heap.size + 1, 0, none⟩ = false ∧ wr.frozen? ⟨w.heap.size + 1, 1, none⟩ = false) (fun i _ => l.length - (intOf i).toNat)
  case atStart => exact ⟨1, by omega, by omega, rfl, by (repeat (first | exact Below.refl _ _ | assumption | refine Below.alloc ?_ (by first | exact Nat.le_refl _ | exact Below.size (by assumption) | omega | (simp <;> omega)) _ | refine Below.setCell ?_ (by first | exact Nat.le_refl _ | exact Below.size (by assumption) | omega | (simp <;> omega)) _ | refine below_drewN ?_ _ | refine Below.drew ?_)), by simp, ⟨0, 0, by simp, by simp⟩, by simp, by simp, by rw [HP.out]; simp, by rw [HP.out]; simp, by simp, by simp⟩
  case round =>
    obtain ⟨k, hk1, hk, rfl, hB, hsz, ⟨zx, zy, hzx, hzy⟩, hf0, hf1, hmx, hmy, hg0, hg1⟩ := hrel
    by_cases hlt : k < l.length
    · obtain ⟨q, hq⟩ := getElem?_of_lt hlt
      obtain ⟨b1, off1, hA, hb1, hcx, hcy⟩ := (HL.out.below hB) k q hq
      obtain ⟨rfl, rfl⟩ : b = b1 ∧ off = off1 := by simpa using hA
      clear hA
      have HQ := Lib.hid (minTo_succ hq); clear hq
      have hbW : b < wr.heap.size := by have := hB.size; omega
      have hwW : w.heap.size < wr.heap.size := by omega
      go_wp2
      go_region_with (go_at_call 14; refine (lower_any q (minTo l k) _).mono ?_; rintro e w2 ⟨rfl, hb2⟩; have hcx2 := (hb2.cell (p := ⟨b, off + k * 2, none⟩) hbW).trans hcx; have hcy2 := (hb2.cell (p := ⟨b, off + k * 2 + 1, none⟩) hbW).trans hcy; have hm2 := (hb2.cell (p := ⟨w.heap.size + 1, 0, none⟩) hsz).trans hmx; have hn2 := (hb2.cell (p := ⟨w.heap.size + 1, 1, none⟩) hsz).trans hmy; have hg2 := (hb2.frozen (p := ⟨w.heap.size + 1, 0, none⟩) hsz).trans hg0; have hh2 := (hb2.frozen (p := ⟨w.heap.size + 1, 1, none⟩) hsz).trans hg1)
      all_goals go_wp2
      all_goals
        have hb3 : Below wr.heap.size wr w2 := below_of_drew hb2
        have hB2 : Below w.heap.size w w2 := hB.trans (hb3.mono (by omega))
        have hs2 : w.heap.size + 1 < w2.heap.size := by have := hb3.size; omega
        have hzx2 := (hb3.cell (p := ⟨w.heap.size, 0, none⟩) hwW).trans hzx
        have hzy2 := (hb3.cell (p := ⟨w.heap.size, 1, none⟩) hwW).trans hzy
        have hf02 := (hb3.frozen (p := ⟨w.heap.size, 0, none⟩) hwW).trans hf0
        have hf12 := (hb3.frozen (p := ⟨w.heap.size, 1, none⟩) hwW).trans hf1
        go_roundw
        case rel =>
          refine ⟨k + 1, by omega, by omega, by go_num, by (repeat (first | exact Below.refl _ _ | assumption | refine Below.alloc ?_ (by first | exact Nat.le_refl _ | exact Below.size (by assumption) | omega | (simp <;> omega)) _ | refine Below.setCell ?_ (by first | exact Nat.le_refl _ | exact Below.size (by assumption) | omega | (simp <;> omega)) _ | refine below_drewN ?_ _ | refine Below.drew ?_)), by simpa using hs2, ⟨zx, zy, ?_, ?_⟩, ?_, ?_, ?_, ?_, ?_, ?_⟩
          all_goals (try rw [HQ.out])
          all_goals (first | rw [if_pos (by assumption)] | rw [if_neg (by omega)] | skip)
          all_goals (first | assumption | (go_simp; done) | simp [*])
        case measure => simp [intOf]; omega
    · obtain rfl : k = l.length := by omega
      go_wp2
      refine bodyPost_ret (v := xyv (minW l)) (by simp [results, Try.results31, go_sem, *]; exact ⟨rfl, rfl⟩) rfl ⟨rfl, by (repeat (first | exact Below.refl _ _ | assumption | refine Below.alloc ?_ (by first | exact Nat.le_refl _ | exact Below.size (by assumption) | omega | (simp <;> omega)) _ | refine Below.setCell ?_ (by first | exact Nat.le_refl _ | exact Below.size (by assumption) | omega | (simp <;> omega)) _ | refine below_drewN ?_ _ | refine Below.drew ?_))⟩
end Go.Proofs.Ytcbphodkaiknmaa

/- Blocks: the reference's allFormed: the walk. Blocks: the reference's exchanged: the walk. -/
import Derived.Test.YtbcnkcndhgihaaaDoorSC3
import Derived.Test.YtbcnkcndhgihaaaDoorSB
namespace Go.Proofs.YtbcnkcndhgihaaaDoor
open Go.RowKit
set_option linter.unusedSimpArgs false

set_option maxRecDepth 100000 in
set_option maxHeartbeats 1000000 in
theorem allFormed_any : ∀ (b : BT) (w : World), OkB w w.heap.size b → Calls Tryd.prog 54 #[valB b] w (Ret (.bool (wholeS b)) w) := by
  refine BT.ind ?_
  intro b ih w hb
  have IH := Lib.hid ih; clear ih
  have HB := Lib.hid hb; clear hb
  have HS := Lib.hid (wholeS_eq b)
  have HF := Lib.hid (formed_any b)
  have hlen := HB.out.len
  have hlm : b.ps.length ≤ 9223372036854775807 := by unfold maxLen at hlen; omega
  clear hlen
  have HBX := Lib.hid (BxB.new w b 25)
  obtain ⟨wa, hwa⟩ : ∃ wa, w.alloc (.cells #[.int .i64 b.op, .int .i64 b.ax, .int .u8 b.co, .int .i64 b.n0, .int .i64 b.n1, .int .i64 b.n2, .slice b.A b.ps.length b.cp] 25) = wa := ⟨_, rfl⟩
  have hBa : Below w.heap.size w wa := by rw [← hwa]; (repeat (first | exact Below.refl _ _ | assumption | refine Below.alloc ?_ (by first | exact Nat.le_refl _ | exact Below.size (by assumption) | omega | (simp <;> omega)) _ | refine Below.setCell ?_ (by first | exact Nat.le_refl _ | exact Below.size (by assumption) | omega | (simp <;> omega)) _ | refine below_drewN ?_ _ | refine Below.drew ?_))
  have hza : w.heap.size < wa.heap.size := by rw [← hwa]; simp
  have HXA : Hid (∀ W, Below wa.heap.size wa W → BxB W w.heap.size b) := by
    intro W hW
    have := HBX.out
    rw [hwa] at this
    exact this.under hW hza
  have HWA := Lib.hid hwa
  clear hwa
  obtain ⟨f0, f1, f2, f3, f4, f5, f6⟩ := HBX.out
  go_enter Tryd.func54, Tryd.ntmps54
  go_wp2_with fail
  rw [HWA.out]
  refine (HF.out wa).mono ?_
  rintro e w2 ⟨rfl, hb2⟩
  clear f0 f1 f2 f3 f4 f5 f6
  have hB2 := hBa.trans (hb2.mono hBa.size)
  obtain ⟨f0, f1, f2, f3, f4, f5, f6⟩ := HXA.out w2 hb2
  cases h1 : oneS b
  · have HS2 : Hid (wholeS b = false) := by show _ = _; rw [HS.out, h1]; rfl
    go_wp2
    go_ret
    exact Ret.mk (by rw [HS2.out]; rfl) hB2
  · have HO := Lib.hid h1
    clear h1
    go_wp2
    clear f0 f1 f2 f3 f4 f5 f6
    go_loopw [3] (fun i wr => ∃ k : Nat, k ≤ b.ps.length ∧ i = .int .i64 k ∧ (∀ x ∈ b.ps.take k, wholeS x = true) ∧ Below wa.heap.size wa wr) (fun i _ => b.ps.length - (intOf i).toNat)
    case atStart => exact ⟨0, Nat.zero_le _, rfl, by simp, hb2⟩
    case round =>
      obtain ⟨k, hk, rfl, hno, hB⟩ := hrel
      have HN := Lib.hid hno; clear hno
      obtain ⟨f0, f1, f2, f3, f4, f5, f6⟩ := HXA.out wr hB
      have hBw := hBa.trans (hB.mono hBa.size)
      by_cases hlt : k < b.ps.length
      · obtain ⟨q, hq⟩ := getElem?_of_lt hlt
        have hk1 := HB.out.now hBw
        obtain ⟨bb, off, hA, hbb, c0, c1, c2, c3, c4, c5, c6⟩ := hk1.rd.at hq
        have HM := Lib.hid (List.mem_of_getElem? hq)
        have HK := Lib.hid (hk1.kid HM.out); clear hk1
        have HQ := Lib.hid hq; clear hq
        rw [hA] at f6
        clear hA
        go_wp2_with fail
        refine (IH.out q HM.out _ HK.out).mono ?_
        rintro e w3 ⟨rfl, hb3⟩
        have hB3 : Below wa.heap.size wa w3 := hB.trans (hb3.mono hB.size)
        clear c0 c1 c2 c3 c4 c5 c6 f0 f1 f2 f3 f4 f5 f6
        cases hd : wholeS q
        · have HS2 : Hid (wholeS b = false) := by show _ = _; rw [HS.out, all_hit HQ.out hd]; simp
          go_wp2
          go_ret
          exact Ret.mk (by rw [HS2.out]; rfl) (hBa.trans (hB3.mono hBa.size))
        · go_wp2
          go_roundw
          case rel => exact ⟨k + 1, by omega, by go_num, all_take_more HN.out HQ.out hd, hB3⟩
          case measure => simp [intOf]; omega
      · have HS2 : Hid (wholeS b = true) := by show _ = _; rw [HS.out, HO.out, all_take_all HN.out hlt]; rfl
        go_wp2
        go_ret
        exact Ret.mk (by rw [HS2.out]; rfl) hBw
end Go.Proofs.YtbcnkcndhgihaaaDoor

namespace Go.Proofs.YtbcnkcndhgihaaaDoor
open Go.RowKit
set_option linter.unusedSimpArgs false

theorem cx_three (p q r : T3) (w : World) : CX (((w.alloc (.cells #[.int .i64 p.x, .int .i64 p.y, .int .i64 p.z] 22)).alloc (.cells #[.int .i64 q.x, .int .i64 q.y, .int .i64 q.z] 22)).alloc (.cells #[.int .i64 r.x, .int .i64 r.y, .int .i64 r.z] 22)).drew (w.heap.size + 1) q := by
  have h := CX.new (w.alloc (.cells #[.int .i64 p.x, .int .i64 p.y, .int .i64 p.z] 22)) q
  rw [World.size_alloc] at h
  have hb : Below ((w.alloc (.cells #[.int .i64 p.x, .int .i64 p.y, .int .i64 p.z] 22)).alloc (.cells #[.int .i64 q.x, .int .i64 q.y, .int .i64 q.z] 22)).heap.size ((w.alloc (.cells #[.int .i64 p.x, .int .i64 p.y, .int .i64 p.z] 22)).alloc (.cells #[.int .i64 q.x, .int .i64 q.y, .int .i64 q.z] 22)) (((w.alloc (.cells #[.int .i64 p.x, .int .i64 p.y, .int .i64 p.z] 22)).alloc (.cells #[.int .i64 q.x, .int .i64 q.y, .int .i64 q.z] 22)).alloc (.cells #[.int .i64 r.x, .int .i64 r.y, .int .i64 r.z] 22)).drew := by (repeat (first | exact Below.refl _ _ | assumption | refine Below.alloc ?_ (by first | exact Nat.le_refl _ | exact Below.size (by assumption) | omega | (simp <;> omega)) _ | refine Below.setCell ?_ (by first | exact Nat.le_refl _ | exact Below.size (by assumption) | omega | (simp <;> omega)) _ | refine below_drewN ?_ _ | refine Below.drew ?_))
  exact h.below hb (by simp)
set_option maxRecDepth 100000 in
set_option maxHeartbeats 4000000 in
theorem exch_any (t : T3) (a : Int) (ha : Ax a) (w : World) : Calls Tryd.prog 85 #[val3 t, .int .i64 a] w (Ret (val3 (exch t a)) w) := by
  have hmx : Tryd.prog.follows .mixedOrders = true := by kernel_rfl
  obtain ⟨x, y, z⟩ := t
  rcases ha with rfl | rfl | rfl
  · obtain ⟨y0, y1, y2, _⟩ := (cx_three ⟨x, y, z⟩ ⟨x, z, y⟩ ⟨x, z, y⟩ w).c
    go_enter Tryd.func85, Tryd.ntmps85
    go_wp2
    go_region
    all_goals
      go_wp2
      refine bodyPost_ret (v := val3 ⟨x, z, y⟩) (by simp [results, Tryd.results85, go_sem, y0, y1, y2]) rfl ?_
      exact Ret.mk rfl (by (repeat (first | exact Below.refl _ _ | assumption | refine Below.alloc ?_ (by first | exact Nat.le_refl _ | exact Below.size (by assumption) | omega | (simp <;> omega)) _ | refine Below.setCell ?_ (by first | exact Nat.le_refl _ | exact Below.size (by assumption) | omega | (simp <;> omega)) _ | refine below_drewN ?_ _ | refine Below.drew ?_)))
  · obtain ⟨y0, y1, y2, _⟩ := (cx_three ⟨x, y, z⟩ ⟨z, y, x⟩ ⟨z, y, x⟩ w).c
    go_enter Tryd.func85, Tryd.ntmps85
    go_wp2
    go_region
    all_goals
      go_wp2
      refine bodyPost_ret (v := val3 ⟨z, y, x⟩) (by simp [results, Tryd.results85, go_sem, y0, y1, y2]) rfl ?_
      exact Ret.mk rfl (by (repeat (first | exact Below.refl _ _ | assumption | refine Below.alloc ?_ (by first | exact Nat.le_refl _ | exact Below.size (by assumption) | omega | (simp <;> omega)) _ | refine Below.setCell ?_ (by first | exact Nat.le_refl _ | exact Below.size (by assumption) | omega | (simp <;> omega)) _ | refine below_drewN ?_ _ | refine Below.drew ?_)))
  · obtain ⟨y0, y1, y2, _⟩ := (cx_three ⟨x, y, z⟩ ⟨y, x, z⟩ ⟨y, x, z⟩ w).c
    go_enter Tryd.func85, Tryd.ntmps85
    go_wp2
    go_region
    all_goals
      go_wp2
      refine bodyPost_ret (v := val3 ⟨y, x, z⟩) (by simp [results, Tryd.results85, go_sem, y0, y1, y2]) rfl ?_
      exact Ret.mk rfl (by (repeat (first | exact Below.refl _ _ | assumption | refine Below.alloc ?_ (by first | exact Nat.le_refl _ | exact Below.size (by assumption) | omega | (simp <;> omega)) _ | refine Below.setCell ?_ (by first | exact Nat.le_refl _ | exact Below.size (by assumption) | omega | (simp <;> omega)) _ | refine below_drewN ?_ _ | refine Below.drew ?_)))
end Go.Proofs.YtbcnkcndhgihaaaDoor

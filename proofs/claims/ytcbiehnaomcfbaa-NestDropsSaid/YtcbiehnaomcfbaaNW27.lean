/- The law NestDrops: the walk. -/
import Derived.Test.YtcbiehnaomcfbaaWK
import Derived.Test.YtcbiehnaomcfbaaNW17
namespace Go.Proofs.Ytcbiehnaomcfbaa
open Go.RowKit Go.Shelf

set_option maxRecDepth 100000 in
set_option maxHeartbeats 4000000 in
theorem lawDrops_any (b : BD) (A A2 A3 : Option Addr) (c c2 c3 : Nat) (ps : List PT) (L : List PL) (p : PL) (w : World) (hm : ps.length ≤ Go.maxLen) (hc3 : L.length ≤ c3) (hF : RdR w w.heap.size A b.F) (hp : RdPP w w.heap.size A2 ps) (hl : RdL w w.heap.size A3 L) :
    Calls Try.prog 7 #[deskw b A c A2 ps.length c2 A3 L.length c3, valL p] w (Ret (.bool true) w) := by
  have HF := Lib.hid hF; clear hF
  have HP := Lib.hid hp; clear hp
  have HL := Lib.hid hl; clear hl
  obtain ⟨w0, hw0⟩ : ∃ w0, (w.alloc (.cells #[.int .i64 b.W, .int .i64 b.H, .int .i64 b.G, .slice A b.F.length c, .slice A2 ps.length c2, .slice A3 L.length c3] 39)).alloc (.cells #[.int .i64 p.part, .int .i64 p.X, .int .i64 p.Y, .bool p.t] 48) = w0 := ⟨_, rfl⟩
  have hB0 : Below w.heap.size w w0 := by rw [← hw0]; (repeat (first | exact Below.refl _ _ | assumption | refine Below.alloc ?_ (by first | exact Nat.le_refl _ | exact Below.size (by assumption) | omega | (simp <;> omega)) _ | refine Below.setCell ?_ (by first | exact Nat.le_refl _ | exact Below.size (by assumption) | omega | (simp <;> omega)) _ | refine below_drewN ?_ _ | refine Below.drew ?_))
  have hz0 : w0.heap.size = w.heap.size + 2 := by rw [← hw0]; simp
  have HDK := Lib.hid (show DkAt w0 w.heap.size b A c A2 ps.length c2 A3 L.length c3 by rw [← hw0]; exact (DkAt.new w b A A2 A3 c _ c2 _ c3).below (C := w.heap.size + 1) (by (repeat (first | exact Below.refl _ _ | assumption | refine Below.alloc ?_ (by first | exact Nat.le_refl _ | exact Below.size (by assumption) | omega | (simp <;> omega)) _ | refine Below.setCell ?_ (by first | exact Nat.le_refl _ | exact Below.size (by assumption) | omega | (simp <;> omega)) _ | refine below_drewN ?_ _ | refine Below.drew ?_))) (by omega))
  have HPL := Lib.hid (show PlAt w0 (w.heap.size + 1) p by
    rw [← hw0]
    have := PlAt.new (w.alloc (.cells #[.int .i64 b.W, .int .i64 b.H, .int .i64 b.G, .slice A b.F.length c, .slice A2 ps.length c2, .slice A3 L.length c3] 39)) p
    rwa [World.size_alloc] at this)
  obtain ⟨k0, k1, k2, k3, k4, k5⟩ := HDK.out
  obtain ⟨⟨x, e⟩, hx⟩ : ∃ r, freeS b ps L p = r := ⟨_, rfl⟩
  have HX := Lib.hid hx; clear hx
  obtain ⟨⟨q, fl, er⟩, hq⟩ : ∃ r, dropS b ps L p = r := ⟨_, rfl⟩
  have HQ := Lib.hid hq; clear hq
  have heq := run_eqPL q q
  have hgd := guardPL
  go_enter Try.func7, Try.ntmps7
  go_wp2_with fail
  clear hw0
  refine (few_any b A A2 A3 c c2 c3 ps L _ (HP.out.now hB0) (HL.out.now hB0)).mono ?_
  rintro e' w1 ⟨rfl, hb1⟩
  have hB1 := hB0.trans (hb1.mono hB0.size)
  have hs1 := hb1.size
  clear k0 k1 k2 k3 k4 k5
  obtain ⟨k0, k1, k2, k3, k4, k5⟩ := HDK.out.below hb1 (by omega)
  have hz1 : w.heap.size < w1.heap.size := by omega
  cases hf : fewB ps L
  · have HFW := Lib.hid hf; clear hf
    go_wp2_with fail
    refine (nawake_any _).mono ?_
    rintro e' w2 ⟨rfl, hb2⟩
    go_wp2
    go_ret
    exact Ret.mk rfl (hB1.trans (hb2.mono hB1.size))
  have HFW := Lib.hid hf; clear hf
  by_cases h10 : 10 < L.length
  · have h10I : 10 < (L.length : Int) := by omega
    go_wp2_with fail
    refine (nawake_any _).mono ?_
    rintro e' w2 ⟨rfl, hb2⟩
    go_wp2
    go_ret
    exact Ret.mk rfl (hB1.trans (hb2.mono hB1.size))
  have h10I : ¬ 10 < (L.length : Int) := by omega
  obtain ⟨q0, q1, q2, q3⟩ := HPL.out.below hb1 (by omega)
  have hy1 : w.heap.size + 1 < w1.heap.size := by omega
  go_wp2_with fail
  refine (Free_any b A A2 A3 c c2 c3 ps L p _ (HF.out.now hB1) (HP.out.now hB1) (HL.out.now hB1)).mono ?_
  rintro e' w2 ⟨rfl, hb2⟩
  rw [HX.out]
  have hB2 := hB1.trans (hb2.mono hB1.size)
  have hb02 := hb1.trans (hb2.mono hb1.size)
  have hs2 := hb02.size
  clear k0 k1 k2 k3 k4 k5 q0 q1 q2 q3
  obtain ⟨k0, k1, k2, k3, k4, k5⟩ := HDK.out.below hb02 (by omega)
  obtain ⟨q0, q1, q2, q3⟩ := HPL.out.below hb02 (by omega)
  have hz2 : w.heap.size < w2.heap.size := by omega
  have hy2 : w.heap.size + 1 < w2.heap.size := by omega
  go_wp2_with fail
  refine (Free2_any b A A2 A3 c c2 c3 ps L p _ hm hc3 (HF.out.now hB2) (HP.out.now hB2) (HL.out.now hB2)).mono ?_
  rintro e' w3 ⟨rfl, hb3⟩
  rw [HX.out]
  have hB3 := hB2.trans (hb3.mono hB2.size)
  have hb03 := hb02.trans (hb3.mono hb02.size)
  have hs3 := hb03.size
  clear k0 k1 k2 k3 k4 k5 q0 q1 q2 q3
  obtain ⟨k0, k1, k2, k3, k4, k5⟩ := HDK.out.below hb03 (by omega)
  obtain ⟨q0, q1, q2, q3⟩ := HPL.out.below hb03 (by omega)
  have hz3 : w.heap.size < w3.heap.size := by omega
  have hy3 : w.heap.size + 1 < w3.heap.size := by omega
  go_wp2_with fail
  refine (Drop_any b A A2 A3 c c2 c3 ps L p _ (HF.out.now hB3) (HP.out.now hB3) (HL.out.now hB3)).mono ?_
  rintro e' w4 ⟨rfl, hb4⟩
  rw [HQ.out]
  have hB4 := hB3.trans (hb4.mono hB3.size)
  have hb04 := hb03.trans (hb4.mono hb03.size)
  have hs4 := hb04.size
  clear k0 k1 k2 k3 k4 k5 q0 q1 q2 q3
  obtain ⟨w5, hw5⟩ : ∃ w5, w4.alloc (.cells #[.int .i64 q.part, .int .i64 q.X, .int .i64 q.Y, .bool q.t] 48) = w5 := ⟨_, rfl⟩
  have hb45 : Below w4.heap.size w4 w5 := by rw [← hw5]; (repeat (first | exact Below.refl _ _ | assumption | refine Below.alloc ?_ (by first | exact Nat.le_refl _ | exact Below.size (by assumption) | omega | (simp <;> omega)) _ | refine Below.setCell ?_ (by first | exact Nat.le_refl _ | exact Below.size (by assumption) | omega | (simp <;> omega)) _ | refine below_drewN ?_ _ | refine Below.drew ?_))
  have hz45 : w5.heap.size = w4.heap.size + 1 := by rw [← hw5]; simp
  have HQ5 := Lib.hid (show PlAt w5 w4.heap.size q by rw [← hw5]; exact PlAt.new w4 q)
  have hB5 := hB4.trans (hb45.mono hB4.size)
  have hb05 := hb04.trans (hb45.mono hb04.size)
  have HW5 := Lib.hid hw5; clear hw5
  go_upto_region 8 with fail
  rw [HW5.out]
  clear HW5
  obtain ⟨k0, k1, k2, k3, k4, k5⟩ := HDK.out.below hb05 (by omega)
  obtain ⟨q0, q1, q2, q3⟩ := HPL.out.below hb05 (by omega)
  have hz5 : w.heap.size < w5.heap.size := by omega
  have hy5 : w.heap.size + 1 < w5.heap.size := by omega
  go_wp2_with fail
  refine (Drop2_any b A A2 A3 c c2 c3 ps L p _ hm hc3 (HF.out.now hB5) (HP.out.now hB5) (HL.out.now hB5)).mono ?_
  rintro e' w6 ⟨rfl, hb6⟩
  rw [HQ.out]
  have hB6 := hB5.trans (hb6.mono hB5.size)
  have hs6 := hb6.size
  obtain ⟨r0, r1, r2, r3⟩ := HQ5.out.below hb6 (by omega)
  have hz6 : w4.heap.size < w6.heap.size := by omega
  clear k0 k1 k2 k3 k4 k5 q0 q1 q2 q3
  go_wp2_with fail
  refine (nawake_any _).mono ?_
  rintro e' w7 ⟨rfl, hb7⟩
  have hB6' : Below w.heap.size w (w6.alloc (.cells #[.int .i64 q.part, .int .i64 q.X, .int .i64 q.Y, .bool q.t] 48)) := by (repeat (first | exact Below.refl _ _ | assumption | refine Below.alloc ?_ (by first | exact Nat.le_refl _ | exact Below.size (by assumption) | omega | (simp <;> omega)) _ | refine Below.setCell ?_ (by first | exact Nat.le_refl _ | exact Below.size (by assumption) | omega | (simp <;> omega)) _ | refine below_drewN ?_ _ | refine Below.drew ?_))
  go_wp2
  go_ret
  exact Ret.mk rfl (hB6'.trans (hb7.mono hB6'.size))
end Go.Proofs.Ytcbiehnaomcfbaa

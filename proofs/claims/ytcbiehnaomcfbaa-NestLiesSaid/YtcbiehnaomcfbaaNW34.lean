/- The law NestLies: the walk. -/
import Derived.Test.YtcbiehnaomcfbaaNW33
import Derived.Test.YtcbiehnaomcfbaaNW17
namespace Go.Proofs.Ytcbiehnaomcfbaa
open Go.RowKit Go.Shelf

/-- '==' at two rectangles. -/
theorem run_eqRC (p q : RC) (w : World) : (binOp .eql 51 (valR p) (valR q)).run Try.prog w = .ok (.bool (decide (p = q))) w := by
  have u3 := Try.underlying3
  have a3 := Try.isAgg3
  have z3 := Try.sizeOf3
  have hS : Try.prog.underlying 51 = some (.struct (Try.prog.fieldsOf 51)) := by kernel_rfl
  have hp : Try.prog.stoodInHeld 51 = false := by kernel_rfl
  obtain ⟨p1, p2, p3, p4⟩ := p
  obtain ⟨q1, q2, q3, q4⟩ := q
  rw [run_eql_struct, show (10000 : Nat) = 9999 + 1 from rfl, run_equalIn_agg w 9999 51 _ _ hS hp]
  simp only [Program.fieldsOf, Try.underlying51]
  go_simp
  by_cases h1 : p1 = q1 <;> by_cases h2 : p2 = q2 <;> by_cases h3 : p3 = q3 <;> by_cases h4 : p4 = q4 <;> simp [h1, h2, h3, h4]
theorem guardRC : Try.prog.eqGuardType Try.prog.depth 51 = false := by kernel_rfl
theorem lyingS_len (ps : List PT) (p : PL) : (lyingS ps p).1.length ≤ 64 := by
  unfold lyingS
  cases hv : partsB ps
  · simp
  cases hp : placedB ps.length p
  · simp
  · exact (lyP_len hv hp).2

set_option maxRecDepth 100000 in
set_option maxHeartbeats 4000000 in
theorem lawLies_any (b : BD) (A A2 A3 : Option Addr) (c c2 c3 : Nat) (ps : List PT) (L : List PL) (w : World) (hm : ps.length ≤ Go.maxLen) (hmL : L.length ≤ Go.maxLen) (hp : RdPP w w.heap.size A2 ps) (hl : RdL w w.heap.size A3 L) :
    Calls Try.prog 6 #[deskw b A c A2 ps.length c2 A3 L.length c3] w (Ret (.bool true) w) := by
  have HP := Lib.hid hp; clear hp
  have HL := Lib.hid hl; clear hl
  obtain ⟨w0, hw0⟩ : ∃ w0, w.alloc (.cells #[.int .i64 b.W, .int .i64 b.H, .int .i64 b.G, .slice A b.F.length c, .slice A2 ps.length c2, .slice A3 L.length c3] 39) = w0 := ⟨_, rfl⟩
  have hB0 : Below w.heap.size w w0 := by rw [← hw0]; (repeat (first | exact Below.refl _ _ | assumption | refine Below.alloc ?_ (by first | exact Nat.le_refl _ | exact Below.size (by assumption) | omega | (simp <;> omega)) _ | refine Below.setCell ?_ (by first | exact Nat.le_refl _ | exact Below.size (by assumption) | omega | (simp <;> omega)) _ | refine below_drewN ?_ _ | refine Below.drew ?_))
  have hz0 : w0.heap.size = w.heap.size + 1 := by rw [← hw0]; simp
  have HDK := Lib.hid (show DkAt w0 w.heap.size b A c A2 ps.length c2 A3 L.length c3 by rw [← hw0]; exact DkAt.new w b A A2 A3 c _ c2 _ c3)
  obtain ⟨k0, k1, k2, k3, k4, k5⟩ := HDK.out
  obtain ⟨⟨r, e⟩, hx⟩ : ∃ r, extS ps L = r := ⟨_, rfl⟩
  have HX := Lib.hid hx; clear hx
  unfold Go.maxLen at hmL
  have heq := run_eqRC r r
  have hgd := guardRC
  go_enter Try.func6, Try.ntmps6
  go_wp2_with fail
  clear hw0
  refine (few_any b A A2 A3 c c2 c3 ps L _ (HP.out.now hB0) (HL.out.now hB0)).mono ?_
  rintro e' w1 ⟨rfl, hb1⟩
  have hB1 := hB0.trans (hb1.mono hB0.size)
  cases hf : fewB ps L
  · have HFW := Lib.hid hf; clear hf
    go_wp2_with fail
    refine (nawake_any _).mono ?_
    rintro e' w2 ⟨rfl, hb2⟩
    go_wp2
    go_ret
    exact Ret.mk rfl (hB1.trans (hb2.mono hB1.size))
  have HFW := Lib.hid hf; clear hf k0 k1 k2 k3 k4 k5
  have hs1 := hb1.size
  obtain ⟨k0, k1, k2, k3, k4, k5⟩ := HDK.out.below hb1 (by omega)
  have HD1 := Lib.hid (HDK.out.below hb1 (by omega))
  have hz1 : w.heap.size < w1.heap.size := by omega
  go_wp2
  clear k0 k1 k2 k3 k4 k5
  go_loopw [4, 5, 6, 7, 8, 20] (fun _ _ _ _ _ i wr => ∃ k : Nat, k ≤ L.length ∧ i = .int .i64 k ∧ Below w1.heap.size w1 wr) (fun _ _ _ _ _ i _ => L.length - (intOf i).toNat)
  case atStart => exact ⟨0, Nat.zero_le _, rfl, Below.refl _ _⟩
  case round =>
    obtain ⟨k, hk, rfl, hB⟩ := hrel
    have hBw := hB1.trans (hB.mono hB1.size)
    have hsB := hB.size
    by_cases hlt : k < L.length
    · obtain ⟨q, hq⟩ := getElem?_of_lt hlt
      obtain ⟨bb, off, hA, hbb, d0, d1, d2, d3⟩ := (HL.out.below hBw) k q hq
      subst hA
      clear hq
      have hlyl := lyingS_len ps q
      obtain ⟨⟨l, f⟩, hlf⟩ : ∃ r, lyingS ps q = r := ⟨_, rfl⟩
      rw [hlf] at hlyl
      dsimp only at hlyl
      have HLF := Lib.hid hlf; clear hlf
      obtain ⟨wa, hwa⟩ : ∃ wa, wr.alloc (.cells #[.int .i64 q.part, .int .i64 q.X, .int .i64 q.Y, .bool q.t] 48) = wa := ⟨_, rfl⟩
      have hba : Below wr.heap.size wr wa := by rw [← hwa]; (repeat (first | exact Below.refl _ _ | assumption | refine Below.alloc ?_ (by first | exact Nat.le_refl _ | exact Below.size (by assumption) | omega | (simp <;> omega)) _ | refine Below.setCell ?_ (by first | exact Nat.le_refl _ | exact Below.size (by assumption) | omega | (simp <;> omega)) _ | refine below_drewN ?_ _ | refine Below.drew ?_))
      have hza : wa.heap.size = wr.heap.size + 1 := by rw [← hwa]; simp
      have HPA := Lib.hid (show PlAt wa wr.heap.size q by rw [← hwa]; exact PlAt.new wr q)
      have HWA := Lib.hid hwa; clear hwa
      have hb1a := hB.trans (hba.mono hsB)
      have hBa := hB1.trans (hb1a.mono hB1.size)
      go_upto_region 6 with fail
      rw [HWA.out]
      clear HWA d0 d1 d2 d3
      obtain ⟨k0, k1, k2, k3, k4, k5⟩ := HD1.out.below hb1a hz1
      obtain ⟨q0, q1, q2, q3⟩ := HPA.out
      have hwa1 : w.heap.size < wa.heap.size := by omega
      have hwa2 : wr.heap.size < wa.heap.size := by omega
      go_wp2_with fail
      refine (Lying_any A2 c2 ps q _ (HP.out.now hBa)).mono ?_
      rintro e' w5 ⟨v5, rfl, hown5, hb5⟩
      obtain ⟨A5, c5, rfl, hr5⟩ := own_rd hown5
      rw [HLF.out] at hr5 ⊢
      dsimp only at hr5 ⊢
      have HR5 := Lib.hid hr5; clear hr5 hown5
      have hb15 := hb1a.trans (hb5.mono hb1a.size)
      have hB5 := hBa.trans (hb5.mono hBa.size)
      have hs5 := hb5.size
      clear k0 k1 k2 k3 k4 k5 q0 q1 q2 q3
      obtain ⟨k0, k1, k2, k3, k4, k5⟩ := HD1.out.below hb15 hz1
      obtain ⟨q0, q1, q2, q3⟩ := HPA.out.below hb5 hwa2
      have hwb1 : w.heap.size < w5.heap.size := by omega
      have hwb2 : wr.heap.size < w5.heap.size := by omega
      go_wp2_with fail
      refine (Lying2_any A2 c2 ps q _ hm (HP.out.now hB5)).mono ?_
      rintro e' w6 ⟨v6, rfl, hown6, hb6⟩
      obtain ⟨A6, c6, rfl, hr6⟩ := own_rd hown6
      rw [HLF.out] at hr6 ⊢
      dsimp only at hr6 ⊢
      have HR6 := Lib.hid (And.intro (HR5.out.now hb6) hr6); clear hr6 hown6 HR5
      have hb16 := hb15.trans (hb6.mono hb15.size)
      clear k0 k1 k2 k3 k4 k5 q0 q1 q2 q3
      go_wp2_with fail
      refine (equal2_any A5 A6 c5 c6 l l _ (by omega) HR6.out.1 HR6.out.2).mono ?_
      rintro e' w7 ⟨rfl, hb7⟩
      rw [show decide (l = l) = true by simp]
      have hb17 := hb16.trans (hb7.mono hb16.size)
      go_wp2
      go_roundw
      case rel => exact ⟨k + 1, by omega, by go_num, hb17⟩
      case measure => simp [intOf]; omega
    · obtain rfl : k = L.length := by omega
      obtain ⟨k0, k1, k2, k3, k4, k5⟩ := HD1.out.below hB hz1
      have hzr : w.heap.size < wr.heap.size := by omega
      go_wp2_with fail
      refine (Extent_any A2 A3 c2 c3 ps L _ (HP.out.now hBw) (HL.out.now hBw)).mono ?_
      rintro e' w5 ⟨rfl, hb5⟩
      rw [HX.out]
      have hb15 := hB.trans (hb5.mono hB.size)
      have hB5 := hBw.trans (hb5.mono hBw.size)
      have hs5 := hb5.size
      clear k0 k1 k2 k3 k4 k5
      obtain ⟨w6, hw6⟩ : ∃ w6, w5.alloc (.cells #[.int .i64 r.X, .int .i64 r.Y, .int .i64 r.W, .int .i64 r.H] 51) = w6 := ⟨_, rfl⟩
      have hb56 : Below w5.heap.size w5 w6 := by rw [← hw6]; (repeat (first | exact Below.refl _ _ | assumption | refine Below.alloc ?_ (by first | exact Nat.le_refl _ | exact Below.size (by assumption) | omega | (simp <;> omega)) _ | refine Below.setCell ?_ (by first | exact Nat.le_refl _ | exact Below.size (by assumption) | omega | (simp <;> omega)) _ | refine below_drewN ?_ _ | refine Below.drew ?_))
      have hz56 : w6.heap.size = w5.heap.size + 1 := by rw [← hw6]; simp
      have HR6 := Lib.hid (show Rx w6 w5.heap.size r by rw [← hw6]; exact Rx.new w5 r)
      have hB6 := hB5.trans (hb56.mono hB5.size)
      have hb16 := hb15.trans (hb56.mono hb15.size)
      have HW6 := Lib.hid hw6; clear hw6
      go_upto_region 12 with fail
      rw [HW6.out]
      clear HW6
      obtain ⟨k0, k1, k2, k3, k4, k5⟩ := HD1.out.below hb16 hz1
      have hz6 : w.heap.size < w6.heap.size := by omega
      go_wp2_with fail
      refine (Extent2_any A2 A3 c2 c3 ps L _ hm (HP.out.now hB6) (HL.out.now hB6)).mono ?_
      rintro e' w7 ⟨rfl, hb7⟩
      rw [HX.out]
      have hB7 := hB6.trans (hb7.mono hB6.size)
      have hs7 := hb7.size
      obtain ⟨r0, r1, r2, r3⟩ := (HR6.out.below hb7 (by omega)).c
      have hz7 : w5.heap.size < w7.heap.size := by omega
      clear k0 k1 k2 k3 k4 k5
      go_wp2_with fail
      refine (nawake_any _).mono ?_
      rintro e' w8 ⟨rfl, hb8⟩
      have hB7' : Below w.heap.size w (w7.alloc (.cells #[.int .i64 r.X, .int .i64 r.Y, .int .i64 r.W, .int .i64 r.H] 51)) := by (repeat (first | exact Below.refl _ _ | assumption | refine Below.alloc ?_ (by first | exact Nat.le_refl _ | exact Below.size (by assumption) | omega | (simp <;> omega)) _ | refine Below.setCell ?_ (by first | exact Nat.le_refl _ | exact Below.size (by assumption) | omega | (simp <;> omega)) _ | refine below_drewN ?_ _ | refine Below.drew ?_))
      go_wp2
      go_ret
      exact Ret.mk rfl (hB7'.trans (hb8.mono hB7'.size))
end Go.Proofs.Ytcbiehnaomcfbaa

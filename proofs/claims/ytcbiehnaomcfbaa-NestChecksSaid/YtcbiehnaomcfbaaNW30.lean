/- The law NestChecks: the walk. -/
import Derived.Test.YtcbiehnaomcfbaaNW29
import Derived.Test.YtcbiehnaomcfbaaNW17
namespace Go.Proofs.Ytcbiehnaomcfbaa
open Go.RowKit Go.Shelf

theorem countS_len (b : BD) (ps : List PT) (L : List PL) : (countS b ps L).1.length ≤ 60 := by
  unfold countS
  by_cases h : (checkS b ps L).2 = 0
  · rw [if_pos h]
    show (cntTo _ _ _).length ≤ 60
    rw [cntTo_len _ _ _ (Nat.le_refl _)]
    exact partsB_len (checkS_ok h).hp
  · rw [if_neg h]; simp

set_option maxRecDepth 100000 in
set_option maxHeartbeats 4000000 in
theorem lawChecks_any (b : BD) (A A2 A3 : Option Addr) (c c2 c3 : Nat) (ps : List PT) (L : List PL) (w : World) (hm : ps.length ≤ Go.maxLen) (hc3 : L.length ≤ c3) (hF : RdR w w.heap.size A b.F) (hp : RdPP w w.heap.size A2 ps) (hl : RdL w w.heap.size A3 L) :
    Calls Try.prog 9 #[deskw b A c A2 ps.length c2 A3 L.length c3] w (Ret (.bool true) w) := by
  have HF := Lib.hid hF; clear hF
  have HP := Lib.hid hp; clear hp
  have HL := Lib.hid hl; clear hl
  have hmx : Try.prog.follows .mixedOrders = true := by kernel_rfl
  obtain ⟨w0, hw0⟩ : ∃ w0, w.alloc (.cells #[.int .i64 b.W, .int .i64 b.H, .int .i64 b.G, .slice A b.F.length c, .slice A2 ps.length c2, .slice A3 L.length c3] 39) = w0 := ⟨_, rfl⟩
  have hB0 : Below w.heap.size w w0 := by rw [← hw0]; (repeat (first | exact Below.refl _ _ | assumption | refine Below.alloc ?_ (by first | exact Nat.le_refl _ | exact Below.size (by assumption) | omega | (simp <;> omega)) _ | refine Below.setCell ?_ (by first | exact Nat.le_refl _ | exact Below.size (by assumption) | omega | (simp <;> omega)) _ | refine below_drewN ?_ _ | refine Below.drew ?_))
  have hz0 : w0.heap.size = w.heap.size + 1 := by rw [← hw0]; simp
  have HDK := Lib.hid (show DkAt w0 w.heap.size b A c A2 ps.length c2 A3 L.length c3 by rw [← hw0]; exact DkAt.new w b A A2 A3 c _ c2 _ c3)
  obtain ⟨k0, k1, k2, k3, k4, k5⟩ := HDK.out
  obtain ⟨⟨x, e⟩, hx⟩ : ∃ r, checkS b ps L = r := ⟨_, rfl⟩
  have HX := Lib.hid hx; clear hx
  have hcl := countS_len b ps L
  obtain ⟨⟨N, f⟩, hN⟩ : ∃ r, countS b ps L = r := ⟨_, rfl⟩
  rw [hN] at hcl
  dsimp only at hcl
  have HN := Lib.hid hN; clear hN
  obtain ⟨⟨z, g⟩, hZ⟩ : ∃ r, wasteS b ps L = r := ⟨_, rfl⟩
  have HZ := Lib.hid hZ; clear hZ
  obtain ⟨vd, hvd⟩ : ∃ vd, (boardB b && partsB ps) = vd := ⟨_, rfl⟩
  have HVD := Lib.hid hvd; clear hvd
  go_enter Try.func9, Try.ntmps9
  go_wp2_with fail
  clear hw0
  refine (few_any b A A2 A3 c c2 c3 ps L _ (HP.out.now hB0) (HL.out.now hB0)).mono ?_
  rintro e' w1 ⟨rfl, hb1⟩
  have hB1 := hB0.trans (hb1.mono hB0.size)
  cases hf : fewB ps L
  · have HFW := Lib.hid hf; clear hf
    go_wp2_with fail
    refine (nawake_any _).mono ?_
    rintro e' w2 ⟨rfl, hb2⟩
    go_wp2
    go_ret
    exact Ret.mk rfl (hB1.trans (hb2.mono hB1.size))
  have HFW := Lib.hid hf; clear hf k0 k1 k2 k3 k4 k5
  obtain ⟨k0, k1, k2, k3, k4, k5⟩ := HDK.out.below hb1 (by omega)
  have hz1 : w.heap.size < w1.heap.size := by have := hb1.size; omega
  go_wp2_with fail
  refine (Check_any b A A2 A3 c c2 c3 ps L _ (HF.out.now hB1) (HP.out.now hB1) (HL.out.now hB1)).mono ?_
  rintro e' w2 ⟨rfl, hb2⟩
  rw [HX.out]
  have hb02 := hb1.trans (hb2.mono hb1.size)
  have hB2 := hB1.trans (hb2.mono hB1.size)
  clear k0 k1 k2 k3 k4 k5
  obtain ⟨k0, k1, k2, k3, k4, k5⟩ := HDK.out.below hb02 (by omega)
  have hz2 : w.heap.size < w2.heap.size := by have := hb02.size; omega
  go_wp2_with fail
  refine (Check2_any b A A2 A3 c c2 c3 ps L _ hm hc3 (HF.out.now hB2) (HP.out.now hB2) (HL.out.now hB2)).mono ?_
  rintro e' w3 ⟨rfl, hb3⟩
  rw [HX.out]
  have hb03 := hb02.trans (hb3.mono hb02.size)
  have hB3 := hB2.trans (hb3.mono hB2.size)
  clear k0 k1 k2 k3 k4 k5
  have hz3 : w.heap.size < w3.heap.size := by have := hb03.size; omega
  have HD3 := Lib.hid (HDK.out.below hb03 (by omega))
  have HC : Hid (∀ w', Below w3.heap.size w3 w' → w'.cell? ⟨w.heap.size, 0, none⟩ = some (.int .i64 b.W) ∧ w'.cell? ⟨w.heap.size, 1, none⟩ = some (.int .i64 b.H) ∧ w'.cell? ⟨w.heap.size, 2, none⟩ = some (.int .i64 b.G) ∧ w'.cell? ⟨w.heap.size, 3, none⟩ = some (.slice A b.F.length c) ∧ w'.cell? ⟨w.heap.size, 4, none⟩ = some (.slice A2 ps.length c2)) := fun w' hC => by
    obtain ⟨a0, a1, a2, a3, a4, a5⟩ := HD3.out.below hC hz3
    exact ⟨a0, a1, a2, a3, a4⟩
  have hv1 : ∀ w', Below w3.heap.size w3 w' → Calls Try.prog 36 #[bdv b A c, .slice A2 ps.length c2] w' (Ret (.bool vd) w') := fun w' hC => by
    rw [← HVD.out]; exact nvalid_any b A A2 c c2 ps w' (HF.out.now (hB3.trans (hC.mono hB3.size))) (HP.out.now (hB3.trans (hC.mono hB3.size)))
  have hv2 : ∀ w', Below w3.heap.size w3 w' → Calls Try.prog 37 #[bdv b A c, .slice A2 ps.length c2] w' (Ret (.bool vd) w') := fun w' hC => by
    rw [← HVD.out]; exact nvalid2_any b A A2 c c2 ps w' hm (HF.out.now (hB3.trans (hC.mono hB3.size))) (HP.out.now (hB3.trans (hC.mono hB3.size)))
  have HV1 := Lib.hid hv1; clear hv1
  have HV2 := Lib.hid hv2; clear hv2
  go_wp2
  refine region_class (fun w' => Below w3.heap.size w3 w') hmx (by kernel_rfl) (by (repeat (first | exact Below.refl _ _ | assumption | refine Below.alloc ?_ (by first | exact Nat.le_refl _ | exact Below.size (by assumption) | omega | (simp <;> omega)) _ | refine Below.setCell ?_ (by first | exact Nat.le_refl _ | exact Below.size (by assumption) | omega | (simp <;> omega)) _ | refine below_drewN ?_ _ | refine Below.drew ?_))) ?_
  repeat (refine quiet_read rfl (fun w' hC => by obtain ⟨f0, f1, f2, f3, f4⟩ := HC.out w' hC; clear hC; go_simp; rfl) ?_; simp only [Act.put, List.setIfInBounds_toArray, List.set_cons_succ, List.set_cons_zero])
  (refine quiet_call rfl (fun w' hC => by (go_simp; try rfl)) (fun w' hC => (HV1.out w' hC).mono (fun e w2 hr => ⟨hr.1, hC.trans (hr.2.mono hC.size)⟩)) ?_; simp only [Act.put, List.setIfInBounds_toArray, List.set_cons_succ, List.set_cons_zero])
  repeat (refine quiet_read rfl (fun w' hC => by obtain ⟨f0, f1, f2, f3, f4⟩ := HC.out w' hC; clear hC; go_simp; rfl) ?_; simp only [Act.put, List.setIfInBounds_toArray, List.set_cons_succ, List.set_cons_zero])
  (refine quiet_call rfl (fun w' hC => by (go_simp; try rfl)) (fun w' hC => (HV2.out w' hC).mono (fun e w2 hr => ⟨hr.1, hC.trans (hr.2.mono hC.size)⟩)) ?_; simp only [Act.put, List.setIfInBounds_toArray, List.set_cons_succ, List.set_cons_zero])
  repeat (refine quiet_read rfl (fun w' hC => by obtain ⟨f0, f1, f2, f3, f4⟩ := HC.out w' hC; clear hC; go_simp; rfl) ?_; simp only [Act.put, List.setIfInBounds_toArray, List.set_cons_succ, List.set_cons_zero])
  refine wpQuiet_nil ?_
  intro w4 hb4
  have hb04 := hb03.trans (hb4.mono hb03.size)
  have hB4 := hB3.trans (hb4.mono hB3.size)
  obtain ⟨k0, k1, k2, k3, k4, k5⟩ := HDK.out.below hb04 (by omega)
  have hz4 : w.heap.size < w4.heap.size := by have := hb04.size; omega
  go_wp2_with fail
  refine (Count_any b A A2 A3 c c2 c3 ps L _ (HF.out.now hB4) (HP.out.now hB4) (HL.out.now hB4)).mono ?_
  rintro e' w5 ⟨A5, c5, rfl, hr5, hb5⟩
  rw [HN.out] at hr5 ⊢
  dsimp only at hr5 ⊢
  have hb05 := hb04.trans (hb5.mono hb04.size)
  have hB5 := hB4.trans (hb5.mono hB4.size)
  have HR5 := Lib.hid hr5; clear hr5 k0 k1 k2 k3 k4 k5
  obtain ⟨k0, k1, k2, k3, k4, k5⟩ := HDK.out.below hb05 (by omega)
  have hz5 : w.heap.size < w5.heap.size := by have := hb05.size; omega
  go_wp2_with fail
  refine (Count2_any b A A2 A3 c c2 c3 ps L _ hm hc3 (HF.out.now hB5) (HP.out.now hB5) (HL.out.now hB5)).mono ?_
  rintro e' w6 ⟨A6, c6, rfl, hr6, hb6⟩
  rw [HN.out] at hr6 ⊢
  dsimp only at hr6 ⊢
  have hb06 := hb05.trans (hb6.mono hb05.size)
  have hB6 := hB5.trans (hb6.mono hB5.size)
  have HR6 := Lib.hid (And.intro (HR5.out.now hb6) hr6); clear hr6 HR5 k0 k1 k2 k3 k4 k5
  go_wp2_with fail
  refine (sameNumbers_any A5 A6 c5 c6 N N _ (by omega) HR6.out.1 HR6.out.2).mono ?_
  rintro e' w7 ⟨rfl, hb7⟩
  rw [show decide (N = N) = true by simp]
  have hb07 := hb06.trans (hb7.mono hb06.size)
  have hB7 := hB6.trans (hb7.mono hB6.size)
  obtain ⟨k0, k1, k2, k3, k4, k5⟩ := HDK.out.below hb07 (by omega)
  have hz7 : w.heap.size < w7.heap.size := by have := hb07.size; omega
  go_wp2_with fail
  refine (Waste_any b A A2 A3 c c2 c3 ps L _ (HF.out.now hB7) (HP.out.now hB7) (HL.out.now hB7)).mono ?_
  rintro e' w8 ⟨rfl, hb8⟩
  rw [HZ.out]
  have hb08 := hb07.trans (hb8.mono hb07.size)
  have hB8 := hB7.trans (hb8.mono hB7.size)
  clear k0 k1 k2 k3 k4 k5
  obtain ⟨k0, k1, k2, k3, k4, k5⟩ := HDK.out.below hb08 (by omega)
  have hz8 : w.heap.size < w8.heap.size := by have := hb08.size; omega
  go_wp2_with fail
  refine (Waste2_any b A A2 A3 c c2 c3 ps L _ hm hc3 (HF.out.now hB8) (HP.out.now hB8) (HL.out.now hB8)).mono ?_
  rintro e' w9 ⟨rfl, hb9⟩
  rw [HZ.out]
  have hB9 := hB8.trans (hb9.mono hB8.size)
  go_wp2_with fail
  refine (nawake_any _).mono ?_
  rintro e' w10 ⟨rfl, hb10⟩
  go_wp2
  go_ret
  exact Ret.mk rfl (hB9.trans (hb10.mono hB9.size))
end Go.Proofs.Ytcbiehnaomcfbaa

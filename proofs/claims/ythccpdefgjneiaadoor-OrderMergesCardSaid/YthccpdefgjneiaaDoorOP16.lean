/- Line of the reference: the walk. -/
import Derived.Test.YthccpdefgjneiaaDoorOP15
namespace Go.Proofs.YthccpdefgjneiaaDoor
open Go.RowKit Go.Shelf Go.Maps
set_option linter.unusedSimpArgs false

set_option maxRecDepth 100000 in
set_option maxHeartbeats 2000000 in
theorem Line2_any (A1 A2 : Option Addr) (c1 c2 : Nat) (lp : List QT) (lr : List RT) (f : FT) (i : Int) (w : World) (h : OkA w A1 A2 lp lr f) :
    Calls Tryd.prog 36 #[.slice A1 lp.length c1, .slice A2 lr.length c2, valF f, .int .i64 i] w (Ret (.tuple #[.int .i64 (lineV lp lr f i).1, .int .i64 (lineV lp lr f i).2]) w) := by
  have HA := Lib.hid h; clear h
  have hmx : Tryd.prog.follows .mixedOrders = true := by kernel_rfl
  obtain ⟨w0, hw0⟩ : ∃ w0, w.alloc (.cells #[.string f.cu, .int .i64 f.d, .string f.cr, .slice f.A f.ls.length f.cp] 30) = w0 := ⟨_, rfl⟩
  have hB0 : Below w.heap.size w w0 := by rw [← hw0]; (repeat (first | exact Below.refl _ _ | assumption | refine Below.alloc ?_ (by first | exact Nat.le_refl _ | exact Below.size (by assumption) | omega | (simp <;> omega)) _ | refine Below.setCell ?_ (by first | exact Nat.le_refl _ | exact Below.size (by assumption) | omega | (simp <;> omega)) _ | refine below_drewN ?_ _ | refine Below.drew ?_))
  have hz0 : w.heap.size < w0.heap.size := by rw [← hw0]; simp
  have HF := Lib.hid (show AtF w0 w.heap.size f by rw [← hw0]; exact AtF.new w f)
  cases h1 : validPS lp
  · have HS := Lib.hid (show lineV lp lr f i = (0, 80) by unfold lineV checkE; rw [h1]; rfl)
    have H1 := Lib.hid h1; clear h1
    go_enter Tryd.func36, Tryd.ntmps36
    go_wp2_with fail
    clear hw0
    refine (validP2_any A1 c1 lp _ (HA.out.q.now hB0) (HA.out.p.now hB0)).mono ?_
    rintro e w2 ⟨rfl, hb2⟩
    rw [H1.out]
    go_wp2
    go_ret2
    exact Ret.mk (by rw [HS.out] <;> rfl) (hB0.trans (hb2.mono hB0.size))
  have H1 := Lib.hid h1; clear h1
  cases h2 : validRS lr
  · have HS := Lib.hid (show lineV lp lr f i = (0, 81) by unfold lineV checkE; rw [H1.out, h2]; rfl)
    have H2 := Lib.hid h2; clear h2
    go_enter Tryd.func36, Tryd.ntmps36
    go_wp2_with fail
    clear hw0
    refine (validP2_any A1 c1 lp _ (HA.out.q.now hB0) (HA.out.p.now hB0)).mono ?_
    rintro e w2 ⟨rfl, hb2⟩
    rw [H1.out]
    have hB2 := hB0.trans (hb2.mono hB0.size)
    go_wp2_with fail
    refine (validR2_any A2 c2 lr _ HA.out.t (HA.out.r.now hB2)).mono ?_
    rintro e w3 ⟨rfl, hb3⟩
    rw [H2.out]
    go_wp2
    go_ret2
    exact Ret.mk (by rw [HS.out] <;> rfl) (hB2.trans (hb3.mono hB2.size))
  have H2 := Lib.hid h2; clear h2
  obtain ⟨v, hv⟩ : ∃ v, validFS f = v := ⟨_, rfl⟩
  have hcv : v = false → lineV lp lr f i = (0, 3) := fun h => by unfold lineV checkE; rw [H1.out, H2.out, hv, h]; rfl
  have hct : v = true → checkE lp lr f = 0 := fun h => by unfold checkE; rw [H1.out, H2.out, hv, h]; rfl
  have HCV := Lib.hid hcv; clear hcv
  have HCT := Lib.hid hct; clear hct
  have HV := Lib.hid hv; clear hv
  go_enter Tryd.func36, Tryd.ntmps36
  go_wp2_with fail
  clear hw0
  refine (validP2_any A1 c1 lp _ (HA.out.q.now hB0) (HA.out.p.now hB0)).mono ?_
  rintro e w2 ⟨rfl, hb2⟩
  rw [H1.out]
  have hB2 := hB0.trans (hb2.mono hB0.size)
  go_wp2_with fail
  refine (validR2_any A2 c2 lr _ HA.out.t (HA.out.r.now hB2)).mono ?_
  rintro e w3 ⟨rfl, hb3⟩
  rw [H2.out]
  have hb23 := hb2.trans (hb3.mono hb2.size)
  have hB3 := hB0.trans (hb23.mono hB0.size)
  obtain ⟨f0, f1, f2, f3⟩ := HF.out.below hb23 hz0
  go_wp2_with fail
  refine (validF2_any f _ (HA.out.f.now hB3)).mono ?_
  rintro e w4 ⟨rfl, hb4⟩
  rw [HV.out]
  have hb24 := hb23.trans (hb4.mono hb23.size)
  have hB4 := hB0.trans (hb24.mono hB0.size)
  clear f0 f1 f2 f3
  obtain ⟨f0, f1, f2, f3⟩ := HF.out.below hb24 hz0
  cases v
  · have HS := Lib.hid (HCV.out rfl)
    go_wp2
    go_ret2
    exact Ret.mk (by rw [HS.out] <;> rfl) hB4
  have HE0 := Lib.hid (HCT.out rfl)
  by_cases hi0 : i < 0
  · have HS := Lib.hid (lineV_out HE0.out (show ¬ (0 ≤ i ∧ i < (f.ls.length : Int)) by omega))
    go_wp2
    go_ret2
    exact Ret.mk (by rw [HS.out] <;> rfl) hB4
  by_cases hi1 : (f.ls.length : Int) ≤ i
  · have HS := Lib.hid (lineV_out HE0.out (show ¬ (0 ≤ i ∧ i < (f.ls.length : Int)) by omega))
    go_wp2
    go_ret2
    exact Ret.mk (by rw [HS.out] <;> rfl) hB4
  obtain ⟨k, rfl⟩ : ∃ k : Nat, i = (k : Int) := ⟨i.toNat, by omega⟩
  have hkl : k < f.ls.length := by omega
  obtain ⟨x, hx⟩ := getElem?_of_lt hkl
  have HX := Lib.hid hx
  have HLV := Lib.hid (lineV_get HE0.out hx)
  have hxm := HA.out.f.ml x (List.mem_of_getElem? hx)
  clear hx
  obtain ⟨b, off, hA, hb, d0, d1, d2, d3⟩ := (HA.out.f.rd.now hB4) k x HX.out
  rw [hA] at f3
  obtain ⟨wz, hwz⟩ : ∃ wz, w4.alloc (.cells #[.string x.m, .int .i64 x.c, .int .i64 x.z, .int .i64 x.n] 64) = wz := ⟨_, rfl⟩
  have hbz : Below w4.heap.size w4 wz := by rw [← hwz]; (repeat (first | exact Below.refl _ _ | assumption | refine Below.alloc ?_ (by first | exact Nat.le_refl _ | exact Below.size (by assumption) | omega | (simp <;> omega)) _ | refine Below.setCell ?_ (by first | exact Nat.le_refl _ | exact Below.size (by assumption) | omega | (simp <;> omega)) _ | refine below_drewN ?_ _ | refine Below.drew ?_))
  have hzz : w4.heap.size < wz.heap.size := by rw [← hwz]; simp
  have hBz := hB4.trans (hbz.mono hB4.size)
  have hb0z := hb24.trans (hbz.mono hb24.size)
  have HZ := Lib.hid (show AtG wz w4.heap.size x by rw [← hwz]; exact AtG.new w4 x)
  have HW := Lib.hid hwz; clear hwz
  have HAA := Lib.hid hA; clear hA
  go_upto_region 10 with fail
  rw [HW.out]
  clear HW d0 d1 d2 d3 f0 f1 f2 f3
  rw [← HAA.out]
  have hz6 : w.heap.size < wz.heap.size := by have := hb0z.size; omega
  have HC : Hid (∀ w', Below wz.heap.size wz w' → (w'.cell? ⟨w.heap.size, 0, none⟩ = some (.string f.cu) ∧ w'.cell? ⟨w.heap.size, 1, none⟩ = some (.int .i64 f.d) ∧ w'.cell? ⟨w.heap.size, 2, none⟩ = some (.string f.cr) ∧ w'.cell? ⟨w.heap.size, 3, none⟩ = some (.slice f.A f.ls.length f.cp)) ∧ AtG w' w4.heap.size x) := fun w' hC =>
    ⟨by obtain ⟨f0, f1, f2, f3⟩ := HF.out.below (hb0z.trans (hC.mono hb0z.size)) hz0; exact ⟨f0, f1, f2, f3⟩, HZ.out.below hC hzz⟩
  obtain ⟨⟨p, e1⟩, hpv⟩ : ∃ r, priceV lp x.m f.d (ofM f.ls x.m) = r := ⟨_, rfl⟩
  have hlv := HLV.out
  unfold lineG at hlv
  rw [hpv] at hlv
  have hpc := fun w' (hC : Below wz.heap.size wz w') => Price2_any A1 c1 lp x.m f.d (ofM f.ls x.m) w' (HA.out.q.now (hBz.trans (hC.mono hBz.size))) (HA.out.p.now (hBz.trans (hC.mono hBz.size)))
  rw [hpv] at hpc
  have HPC := Lib.hid hpc; clear hpc hpv
  have HL2 := Lib.hid hlv; clear hlv
  refine region_qw (fun w' => Below wz.heap.size wz w') hmx (by kernel_rfl) (by (repeat (first | exact Below.refl _ _ | assumption | refine Below.alloc ?_ (by first | exact Nat.le_refl _ | exact Below.size (by assumption) | omega | (simp <;> omega)) _ | refine Below.setCell ?_ (by first | exact Nat.le_refl _ | exact Below.size (by assumption) | omega | (simp <;> omega)) _ | refine below_drewN ?_ _ | refine Below.drew ?_))) ?_
  repeat (first | (refine qw_read rfl (fun w' hC => by obtain ⟨⟨f0, f1, f2, f3⟩, ⟨x0, x1, x2, x3⟩⟩ := HC.out w' hC; clear hC; go_simp; rfl) ?_; simp only [Act.put, List.setIfInBounds_toArray, List.set_cons_succ, List.set_cons_zero]) | (refine qw_pass (by first | (simp [Region.wanted, yielded]; done) | (simp [Region.wanted, yielded]; intro h; cases h)) ?_; simp only [Act.put, List.setIfInBounds_toArray, List.set_cons_succ, List.set_cons_zero]))
  (refine qw_call rfl (fun w' hC => by (go_simp; try rfl)) (fun w' hC => (ofModel_any f x.m w' (HA.out.f.now (hBz.trans (hC.mono hBz.size)))).mono (fun e w2 hr => ⟨hr.1, hC.trans (hr.2.mono hC.size)⟩)) ?_; simp only [Act.put, List.setIfInBounds_toArray, List.set_cons_succ, List.set_cons_zero])
  repeat (first | (refine qw_read rfl (fun w' hC => by obtain ⟨⟨f0, f1, f2, f3⟩, ⟨x0, x1, x2, x3⟩⟩ := HC.out w' hC; clear hC; go_simp; rfl) ?_; simp only [Act.put, List.setIfInBounds_toArray, List.set_cons_succ, List.set_cons_zero]) | (refine qw_pass (by first | (simp [Region.wanted, yielded]; done) | (simp [Region.wanted, yielded]; intro h; cases h)) ?_; simp only [Act.put, List.setIfInBounds_toArray, List.set_cons_succ, List.set_cons_zero]))
  (refine qw_call rfl (fun w' hC => by (go_simp; try rfl)) (fun w' hC => (HPC.out w' hC).mono (fun e w2 hr => ⟨hr.1, hC.trans (hr.2.mono hC.size)⟩)) ?_; simp only [Act.put, List.setIfInBounds_toArray, List.set_cons_succ, List.set_cons_zero])
  repeat (first | (refine qw_read rfl (fun w' hC => by obtain ⟨⟨f0, f1, f2, f3⟩, ⟨x0, x1, x2, x3⟩⟩ := HC.out w' hC; clear hC; go_simp; rfl) ?_; simp only [Act.put, List.setIfInBounds_toArray, List.set_cons_succ, List.set_cons_zero]) | (refine qw_pass (by first | (simp [Region.wanted, yielded]; done) | (simp [Region.wanted, yielded]; intro h; cases h)) ?_; simp only [Act.put, List.setIfInBounds_toArray, List.set_cons_succ, List.set_cons_zero]))
  refine qw_nil ?_
  intro w9 hb9
  have hB9 := hBz.trans (hb9.mono hBz.size)
  obtain ⟨⟨f0, f1, f2, f3⟩, ⟨x0, x1, x2, x3⟩⟩ := HC.out w9 hb9
  have hz8 : w4.heap.size < w9.heap.size := by have := hb9.size; omega
  by_cases he : e1 = 0
  case neg =>
    have HS := Lib.hid (HL2.out.trans (if_neg he))
    have hne : (e1 != 0) = true := by simpa using he
    clear he
    go_wp2
    go_ret2
    exact Ret.mk (by rw [HS.out] <;> rfl) hB9
  subst he
  have HS := Lib.hid (HL2.out.trans (if_pos rfl))
  go_wp2_with fail
  refine (Convert2_any A2 c2 lr f.cr f.d (wrap64 (p * x.n)) _ HA.out.t HA.out.f.cr (HA.out.r.now hB9)).mono ?_
  rintro e w6 ⟨rfl, hb6⟩
  go_wp2
  go_ret2
  exact Ret.mk (by rw [HS.out] <;> rfl) (hB9.trans (hb6.mono hB9.size))
end Go.Proofs.YthccpdefgjneiaaDoor

/- The law OrderMerges: the walk. -/
import Derived.Test.YthccpdefgjneiaaDoorOP26
namespace Go.Proofs.YthccpdefgjneiaaDoor
open Go.RowKit Go.Shelf Go.Maps
set_option linter.unusedSimpArgs false

/-- The call returns a form with given lines, and an error. -/
def RetH (H : FT) (MM : List GT) (e0 : Int) (w : World) (e : Ending) (w' : World) : Prop := ∃ A c, e = .returned (.tuple #[.agg #[.string H.cu, .int .i64 H.d, .string H.cr, .slice A MM.length c], .int .i64 e0]) ∧ RdG w' w'.heap.size A MM ∧ Below w.heap.size w w'
theorem retM_form (f : FT) : ∃ (H : FT) (MM : List GT), MM.length ≤ f.ls.length ∧ (mergeE f = 0 → H = f ∧ MM = mergeK f.ls f.ls.length) ∧ ∀ w e w', RetM f w e w' → RetH H MM (mergeE f) w e w' := by
  by_cases h : mergeE f = 0
  · refine ⟨f, mergeK f.ls f.ls.length, merge_len _ _, fun _ => ⟨rfl, rfl⟩, ?_⟩
    rintro w e w' ⟨G, rfl, hG, hb⟩
    rcases hG with ⟨_, A, c, rfl, hr⟩ | ⟨hn, _⟩
    · exact ⟨A, c, rfl, hr, hb⟩
    · exact absurd h hn
  · refine ⟨zeroF, [], Nat.zero_le _, fun h0 => absurd h0 h, ?_⟩
    rintro w e w' ⟨G, rfl, hG, hb⟩
    rcases hG with ⟨h0, _⟩ | ⟨_, rfl⟩
    · exact absurd h0 h
    · exact ⟨none, 0, rfl, fun i p hp => by simp at hp, hb⟩
set_option maxRecDepth 100000 in
set_option maxHeartbeats 4000000 in
theorem lawMerges_any (Ap Ar : Option Addr) (cp cr : Nat) (lp : List QT) (lr : List RT) (f : FT) (w : World) (h : OkA w Ap Ar lp lr f) :
    Calls Tryd.prog 12 #[.agg #[.slice Ap lp.length cp, .slice Ar lr.length cr], valF f] w (Ret (.bool true) w) := by
  have HA := Lib.hid h; clear h
  obtain ⟨w0, hw0⟩ : ∃ w0, (w.alloc (.cells #[.slice Ap lp.length cp, .slice Ar lr.length cr] 25)).alloc (.cells #[.string f.cu, .int .i64 f.d, .string f.cr, .slice f.A f.ls.length f.cp] 30) = w0 := ⟨_, rfl⟩
  have hB0 : Below w.heap.size w w0 := by rw [← hw0]; (repeat (first | exact Below.refl _ _ | assumption | refine Below.alloc ?_ (by first | exact Nat.le_refl _ | exact Below.size (by assumption) | omega | (simp <;> omega)) _ | refine Below.setCell ?_ (by first | exact Nat.le_refl _ | exact Below.size (by assumption) | omega | (simp <;> omega)) _ | refine below_drewN ?_ _ | refine Below.drew ?_))
  have hz0 : w0.heap.size = w.heap.size + 2 := by rw [← hw0]; simp
  have m0 : w0.cell? ⟨w.heap.size, 0, none⟩ = some (.slice Ap lp.length cp) := by rw [← hw0]; simp
  have m1 : w0.cell? ⟨w.heap.size, 1, none⟩ = some (.slice Ar lr.length cr) := by rw [← hw0]; simp
  have f0 : w0.cell? ⟨w.heap.size + 1, 0, none⟩ = some (.string f.cu) := by rw [← hw0]; simp
  have f1 : w0.cell? ⟨w.heap.size + 1, 1, none⟩ = some (.int .i64 f.d) := by rw [← hw0]; simp
  have f2 : w0.cell? ⟨w.heap.size + 1, 2, none⟩ = some (.string f.cr) := by rw [← hw0]; simp
  have f3 : w0.cell? ⟨w.heap.size + 1, 3, none⟩ = some (.slice f.A f.ls.length f.cp) := by rw [← hw0]; simp
  have HM := Lib.hid (And.intro m0 (And.intro m1 (And.intro f0 (And.intro f1 (And.intro f2 f3)))))
  have HC : Hid (∀ w', Below w0.heap.size w0 w' → w'.cell? ⟨w.heap.size, 0, none⟩ = some (.slice Ap lp.length cp) ∧ w'.cell? ⟨w.heap.size, 1, none⟩ = some (.slice Ar lr.length cr) ∧ w'.cell? ⟨w.heap.size + 1, 0, none⟩ = some (.string f.cu) ∧ w'.cell? ⟨w.heap.size + 1, 1, none⟩ = some (.int .i64 f.d) ∧ w'.cell? ⟨w.heap.size + 1, 2, none⟩ = some (.string f.cr) ∧ w'.cell? ⟨w.heap.size + 1, 3, none⟩ = some (.slice f.A f.ls.length f.cp)) := fun w' h =>
    ⟨(h.cell (p := ⟨w.heap.size, 0, none⟩) (by show w.heap.size < _; omega)).trans HM.out.1, (h.cell (p := ⟨w.heap.size, 1, none⟩) (by show w.heap.size < _; omega)).trans HM.out.2.1,
     (h.cell (p := ⟨w.heap.size + 1, 0, none⟩) (by show w.heap.size + 1 < _; omega)).trans HM.out.2.2.1, (h.cell (p := ⟨w.heap.size + 1, 1, none⟩) (by show w.heap.size + 1 < _; omega)).trans HM.out.2.2.2.1,
     (h.cell (p := ⟨w.heap.size + 1, 2, none⟩) (by show w.heap.size + 1 < _; omega)).trans HM.out.2.2.2.2.1, (h.cell (p := ⟨w.heap.size + 1, 3, none⟩) (by show w.heap.size + 1 < _; omega)).trans HM.out.2.2.2.2.2⟩
  have hsane : ∀ (w2 : World), Below w.heap.size w w2 → Calls Tryd.prog 14 #[] w2 (fun e w' => e = .returned (.bool true) ∧ Below w2.heap.size w2 w') := fun w2 h2 => (sane_any w2).mono fun e w' h => ⟨h.1, h.2⟩
  have HSA := Lib.hid hsane; clear hsane
  obtain ⟨H, MM, hml, hH, hret⟩ := retM_form f
  have HH := Lib.hid hH
  have HRT := Lib.hid hret
  have HML := Lib.hid hml
  obtain ⟨e0, he0⟩ : ∃ e0, mergeE f = e0 := ⟨_, rfl⟩
  rw [he0] at HH HRT
  have HE0 := Lib.hid he0
  clear hH hret hml he0
  go_enter Tryd.func12, Tryd.ntmps12
  go_wp2_with fail
  clear hw0
  refine (Wide2_any Ap Ar cp cr lp lr f _ (HA.out.p.now hB0) (HA.out.r.now hB0) (HA.out.f.rd.now hB0)).mono ?_
  rintro e' w1 ⟨b, rfl, hbd, hb1⟩
  have HBD := Lib.hid hbd; clear hbd
  have hB1 := hB0.trans (hb1.mono hB0.size)
  clear m0 m1 f0 f1 f2 f3
  cases b
  case true =>
    go_wp2_with fail
    refine (HSA.out _ hB1).mono ?_
    rintro e' w2 ⟨rfl, hb2⟩
    go_wp2
    go_ret
    exact Ret.mk rfl (hB1.trans (hb2.mono hB1.size))
  have HM70 := Lib.hid (Nat.le_trans HML.out (HBD.out rfl).2.2)
  obtain ⟨m0, m1, f0, f1, f2, f3⟩ := HC.out w1 hb1
  go_wp2_with fail
  refine (Merge_any f _ (HA.out.f.now hB1)).mono ?_
  intro e' w2 hr2
  obtain ⟨A5, c5, rfl, hr5, hb2⟩ := HRT.out _ _ _ hr2
  clear hr2
  have HR5 := Lib.hid hr5; clear hr5
  have hb02 := hb1.trans (hb2.mono hb1.size)
  have hB2 := hB0.trans (hb02.mono hB0.size)
  clear m0 m1 f0 f1 f2 f3
  have hs2 : w.heap.size + 1 < w2.heap.size := by have := hb02.size; omega
  obtain ⟨wz, hwz⟩ : ∃ wz, w2.alloc (.cells #[.string H.cu, .int .i64 H.d, .string H.cr, .slice A5 MM.length c5] 30) = wz := ⟨_, rfl⟩
  have hbz : Below w2.heap.size w2 wz := by rw [← hwz]; (repeat (first | exact Below.refl _ _ | assumption | refine Below.alloc ?_ (by first | exact Nat.le_refl _ | exact Below.size (by assumption) | omega | (simp <;> omega)) _ | refine Below.setCell ?_ (by first | exact Nat.le_refl _ | exact Below.size (by assumption) | omega | (simp <;> omega)) _ | refine below_drewN ?_ _ | refine Below.drew ?_))
  have HZ := Lib.hid (show BlF wz w2.heap.size H (.slice A5 MM.length c5) by rw [← hwz]; exact BlF.new w2 H _)
  have hzz : w2.heap.size < wz.heap.size := by rw [← hwz]; simp
  have HWZ := Lib.hid hwz; clear hwz
  have hb0z := hb02.trans (hbz.mono hb02.size)
  have hBz := hB0.trans (hb0z.mono hB0.size)
  go_upto_region 4 with fail
  rw [HWZ.out]
  obtain ⟨m0, m1, f0, f1, f2, f3⟩ := HC.out wz hb0z
  have hs3 : w.heap.size + 1 < wz.heap.size := by omega
  go_wp2_with fail
  refine (Merge2_any f _ (HA.out.f.now hBz)).mono ?_
  intro e' w3 hr3
  obtain ⟨A7, c7, rfl, hr7, hb3⟩ := HRT.out _ _ _ hr3
  clear hr3
  have HR7 := Lib.hid hr7; clear hr7
  have hbz3 := hbz.trans (hb3.mono hbz.size)
  have hb03 := hb0z.trans (hb3.mono hb0z.size)
  have hB3 := hB0.trans (hb03.mono hB0.size)
  clear m0 m1 f0 f1 f2 f3
  have hs4 : w2.heap.size < w3.heap.size := by have := hb3.size; omega
  obtain ⟨wy, hwy⟩ : ∃ wy, w3.alloc (.cells #[.string H.cu, .int .i64 H.d, .string H.cr, .slice A7 MM.length c7] 30) = wy := ⟨_, rfl⟩
  have hby : Below w3.heap.size w3 wy := by rw [← hwy]; (repeat (first | exact Below.refl _ _ | assumption | refine Below.alloc ?_ (by first | exact Nat.le_refl _ | exact Below.size (by assumption) | omega | (simp <;> omega)) _ | refine Below.setCell ?_ (by first | exact Nat.le_refl _ | exact Below.size (by assumption) | omega | (simp <;> omega)) _ | refine below_drewN ?_ _ | refine Below.drew ?_))
  have HY := Lib.hid (show BlF wy w3.heap.size H (.slice A7 MM.length c7) by rw [← hwy]; exact BlF.new w3 H _)
  have hzy : w3.heap.size < wy.heap.size := by rw [← hwy]; simp
  have HWY := Lib.hid hwy; clear hwy
  have hb0y := hb03.trans (hby.mono hb03.size)
  have hBy := hB0.trans (hb0y.mono hB0.size)
  have hbzy := hb3.trans (hby.mono hb3.size)
  have HZY := Lib.hid (HZ.out.below hbzy hzz)
  go_upto_region 5 with fail
  rw [HWY.out]
  obtain ⟨x0, x1, x2, x3⟩ := HZY.out.c
  obtain ⟨y0, y1, y2, y3⟩ := HY.out.c
  have hs5 : w2.heap.size < wy.heap.size := by omega
  have se : (e0 != e0) = false := by simp
  have hR5y := Lib.hid ((HR5.out.now hbz).now hbzy)
  go_wp2_with fail
  refine (SameForm_any H A5 A7 c5 c7 MM _ (by have := HM70.out; omega) hR5y.out (HR7.out.now hby)).mono ?_
  rintro e' w6 ⟨rfl, hb6⟩
  have hb06 := hb0y.trans (hb6.mono hb0y.size)
  have hB6 := hB0.trans (hb06.mono hB0.size)
  clear x0 x1 x2 x3 y0 y1 y2 y3
  go_wp2_with fail
  refine (HSA.out _ hB6).mono ?_
  rintro e' w7 ⟨rfl, hb7⟩
  clear se
  have hb67 := hb6.trans (hb7.mono hb6.size)
  have hb07 := hb06.trans (hb7.mono hb06.size)
  have hB7 := hB0.trans (hb07.mono hB0.size)
  obtain ⟨m0, m1, f0, f1, f2, f3⟩ := HC.out w7 hb07
  obtain ⟨⟨R, s, g⟩, hinv⟩ : ∃ r, invV lp lr f = r := ⟨_, rfl⟩
  have HIV := Lib.hid hinv; clear hinv
  have hs7 : w.heap.size + 1 < w7.heap.size := by have := hb07.size; omega
  go_wp2_with fail
  refine (Invoice_any Ap Ar cp cr lp lr f _ (HA.out.now hB7)).mono ?_
  rintro e' w8 ⟨A8, c8, rfl, _, _, hb8⟩
  rw [HIV.out]
  have hb68 := hb67.trans (hb8.mono hb67.size)
  have hb08 := hb07.trans (hb8.mono hb07.size)
  have hB8 := hB0.trans (hb08.mono hB0.size)
  clear m0 m1 f0 f1 f2 f3
  obtain ⟨m0, m1, f0, f1, f2, f3⟩ := HC.out w8 hb08
  have hs8 : w.heap.size + 1 < w8.heap.size := by have := hb08.size; omega
  by_cases c1 : e0 = 0
  case neg =>
    have c1b : (e0 != 0) = true := by simpa using c1
    clear c1
    go_wp2
    go_ret
    exact Ret.mk rfl hB8
  by_cases c2 : g = 0
  case neg =>
    subst c1
    have c2b : (g != 0) = true := by simpa using c2
    clear c2
    go_wp2
    go_ret
    exact Ret.mk rfl hB8
  cases he : isEur f.cr
  · have he1 : (f.cr.toList == [69, 85, 82]) = false := he
    have he2 : (f.cr.toList != [69, 85, 82]) = true := by rw [bne, he1]; rfl
    subst c1 c2
    clear he
    go_wp2
    go_ret
    exact Ret.mk rfl hB8
  have he1 : (f.cr.toList == [69, 85, 82]) = true := he
  have he2 : (f.cr.toList != [69, 85, 82]) = false := by rw [bne, he1]; rfl
  subst c1 c2
  obtain ⟨hHf, hMM⟩ := HH.out rfl
  subst hHf
  have hlaw := merges_law (lp := lp) (lr := lr) A5 c5 HE0.out (by rw [HIV.out]) he
  rw [← hMM, HIV.out] at hlaw
  obtain ⟨⟨R2, s2, g2⟩, hinv2⟩ : ∃ r, invV lp lr (withL H A5 c5 MM) = r := ⟨_, rfl⟩
  rw [hinv2] at hlaw
  dsimp only at hlaw
  obtain ⟨rfl, rfl⟩ := hlaw
  have HIV2 := Lib.hid hinv2; clear hinv2
  have hmods : ∀ q ∈ MM, q.m.size ≤ 9223372036854775807 := fun q hq => by
    rw [hMM] at hq
    obtain ⟨x, hx, e⟩ := merge_models _ _ q hq
    rw [e]; exact HA.out.f.ml x hx
  have hOG : Hid (OkA w8 Ap Ar lp lr (withL H A5 c5 MM)) := ⟨HA.out.q.now hB8, HA.out.t, HA.out.p.now hB8, HA.out.r.now hB8, ⟨HA.out.f.cu, HA.out.f.cr, hmods, by show MM.length ≤ maxLen; have := HM70.out; unfold maxLen; omega, hR5y.out.now hb68⟩⟩
  clear hmods hMM he
  obtain ⟨x0, x1, x2, x3⟩ := (HZY.out.below hb68 hs5).c
  have hs9 : w2.heap.size < w8.heap.size := by have := hb68.size; omega
  go_wp2_with fail
  refine (Invoice_any Ap Ar cp cr lp lr (withL H A5 c5 MM) _ hOG.out).mono ?_
  rintro e' w9 ⟨A9, c9, rfl, _, _, hb9⟩
  rw [HIV2.out]
  dsimp only
  go_wp2
  go_ret
  exact Ret.mk (by simp) (hB8.trans (hb9.mono hB8.size))
end Go.Proofs.YthccpdefgjneiaaDoor

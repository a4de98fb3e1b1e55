/- What is found, Price of both: the walks. -/
import Derived.Test.YthccpdefgjneiaaDoorOP8
namespace Go.Proofs.YthccpdefgjneiaaDoor
open Go.RowKit Go.Shelf Go.Maps

set_option maxRecDepth 100000 in
set_option maxHeartbeats 2000000 in
theorem found_any (A : Option Addr) (c : Nat) (l : List QT) (s : ByteArray) (day n : Int) (w : World) (ho : OkQ w l) (hl : RdQ w w.heap.size A l) :
    Calls Tryd.prog 69 #[.slice A l.length c, .string s, .int .i64 day, .int .i64 n] w (Ret (.tuple #[valQ (bestQ l (foundE l s day n).1), .int .i64 (foundE l s day n).2]) w) := by
  have HL := Lib.hid hl; clear hl
  have HO := Lib.hid ho; clear ho
  obtain ⟨w0, hw0⟩ : ∃ w0, w.alloc (.cells #[.string ⟨#[]⟩, .int .i64 0, .slice none 0 0] 54) = w0 := ⟨_, rfl⟩
  have hB0 : Below w.heap.size w w0 := by rw [← hw0]; (repeat (first | exact Below.refl _ _ | assumption | refine Below.alloc ?_ (by first | exact Nat.le_refl _ | exact Below.size (by assumption) | omega | (simp <;> omega)) _ | refine Below.setCell ?_ (by first | exact Nat.le_refl _ | exact Below.size (by assumption) | omega | (simp <;> omega)) _ | refine below_drewN ?_ _ | refine Below.drew ?_))
  have HB0 : Hid (BlQ w0 w.heap.size zeroQ) := by rw [← hw0]; exact BlQ.new w zeroQ
  have hz0 : w.heap.size < w0.heap.size := by rw [← hw0]; simp
  cases hv : validPS l
  · have HS := Lib.hid (show foundE l s day n = (none, 80) by unfold foundE; rw [hv]; rfl)
    have HV := Lib.hid hv; clear hv
    go_enter Tryd.func69, Tryd.ntmps69
    go_wp2_with fail
    clear hw0
    refine (validP_any A c l _ (HO.out.now hB0) (HL.out.now hB0)).mono ?_
    rintro e w2 ⟨rfl, hb2⟩
    rw [HV.out]
    have hBB2 := hB0.trans (hb2.mono hB0.size)
    have hz2 : w.heap.size < w2.heap.size := by have := hb2.size; omega
    have HB2 := Lib.hid (HB0.out.below hb2 hz0)
    obtain ⟨g0, g1, g2⟩ := HB2.out.f
    obtain ⟨e0, e1, e2⟩ := HB2.out.c
    go_wp2
    obtain ⟨q0, q1, q2⟩ := HB2.out.rd zeroQ
    simp only [zeroQ, List.length_nil] at q0 q1 q2
    refine bodyPost_ret (v := .tuple #[valQ zeroQ, .int .i64 80]) (by simp [results, Tryd.results69, go_sem, q0, q1, q2, zeroQ]) rfl ?_
    exact Ret.mk (by rw [HS.out] <;> rfl) (below_grown hBB2 (putQ_grown w2 w.heap.size zeroQ) (fun j hj => by cases hj; exact Nat.le_refl _) hBB2.size)
  obtain ⟨hl60, _⟩ := validP_all hv
  have hl6 : l.length ≤ 1000000 := by omega
  clear hl60
  have HV := Lib.hid hv; clear hv
  cases hd : dayB day
  · have HS := Lib.hid (show foundE l s day n = (none, 2) by unfold foundE; rw [HV.out, hd]; rfl)
    have HD := Lib.hid hd; clear hd
    go_enter Tryd.func69, Tryd.ntmps69
    go_wp2_with fail
    clear hw0
    refine (validP_any A c l _ (HO.out.now hB0) (HL.out.now hB0)).mono ?_
    rintro e w2 ⟨rfl, hb2⟩
    rw [HV.out]
    have hBB2 := hB0.trans (hb2.mono hB0.size)
    have hz2 : w.heap.size < w2.heap.size := by have := hb2.size; omega
    have HB2 := Lib.hid (HB0.out.below hb2 hz0)
    obtain ⟨g0, g1, g2⟩ := HB2.out.f
    obtain ⟨e0, e1, e2⟩ := HB2.out.c
    go_wp2_with fail
    refine (day_any day _).mono ?_
    rintro e w3 ⟨rfl, rfl⟩
    rw [HD.out]
    go_wp2
    obtain ⟨q0, q1, q2⟩ := HB2.out.rd zeroQ
    simp only [zeroQ, List.length_nil] at q0 q1 q2
    refine bodyPost_ret (v := .tuple #[valQ zeroQ, .int .i64 2]) (by simp [results, Tryd.results69, go_sem, q0, q1, q2, zeroQ]) rfl ?_
    exact Ret.mk (by rw [HS.out] <;> rfl) (below_grown hBB2 (putQ_grown w3 w.heap.size zeroQ) (fun j hj => by cases hj; exact Nat.le_refl _) hBB2.size)
  have HD := Lib.hid hd; clear hd
  cases hn : bet 1 n 100000
  · have HS := Lib.hid (show foundE l s day n = (none, 2) by unfold foundE; rw [HV.out, HD.out, hn]; rfl)
    have HN := Lib.hid hn; clear hn
    go_enter Tryd.func69, Tryd.ntmps69
    go_wp2_with fail
    clear hw0
    refine (validP_any A c l _ (HO.out.now hB0) (HL.out.now hB0)).mono ?_
    rintro e w2 ⟨rfl, hb2⟩
    rw [HV.out]
    have hBB2 := hB0.trans (hb2.mono hB0.size)
    have hz2 : w.heap.size < w2.heap.size := by have := hb2.size; omega
    have HB2 := Lib.hid (HB0.out.below hb2 hz0)
    obtain ⟨g0, g1, g2⟩ := HB2.out.f
    obtain ⟨e0, e1, e2⟩ := HB2.out.c
    go_wp2_with fail
    refine (day_any day _).mono ?_
    rintro e w3 ⟨rfl, rfl⟩
    rw [HD.out]
    go_wp2_with fail
    refine (bet_any 1 n 100000 _).mono ?_
    rintro e w4 ⟨rfl, rfl⟩
    rw [HN.out]
    go_wp2
    obtain ⟨q0, q1, q2⟩ := HB2.out.rd zeroQ
    simp only [zeroQ, List.length_nil] at q0 q1 q2
    refine bodyPost_ret (v := .tuple #[valQ zeroQ, .int .i64 2]) (by simp [results, Tryd.results69, go_sem, q0, q1, q2, zeroQ]) rfl ?_
    exact Ret.mk (by rw [HS.out] <;> rfl) (below_grown hBB2 (putQ_grown w4 w.heap.size zeroQ) (fun j hj => by cases hj; exact Nat.le_refl _) hBB2.size)
  have HN := Lib.hid hn; clear hn
  have hSS : foundE l s day n = (match lateI keyQ s day l l.length with | none => (none, 82) | some j => (some j, 0)) := by unfold foundE; rw [HV.out, HD.out, HN.out]; rfl
  have HSS := Lib.hid hSS; clear hSS
  go_enter Tryd.func69, Tryd.ntmps69
  go_wp2_with fail
  clear hw0
  refine (validP_any A c l _ (HO.out.now hB0) (HL.out.now hB0)).mono ?_
  rintro e w2 ⟨rfl, hb2⟩
  rw [HV.out]
  have hBB2 := hB0.trans (hb2.mono hB0.size)
  have hz2 : w.heap.size < w2.heap.size := by have := hb2.size; omega
  go_wp2_with fail
  refine (day_any day _).mono ?_
  rintro e w3 ⟨rfl, rfl⟩
  rw [HD.out]
  go_wp2_with fail
  refine (bet_any 1 n 100000 _).mono ?_
  rintro e w4 ⟨rfl, rfl⟩
  rw [HN.out]
  go_wp2_with fail
  refine (latestQ_any A c l s day _ hl6 (HL.out.now hBB2)).mono ?_
  rintro e w6 ⟨rfl, hb6⟩
  have hb26 := hb2.trans (hb6.mono hb2.size)
  have hB6 := hBB2.trans (hb6.mono hBB2.size)
  have hz6 : w.heap.size < w6.heap.size := by have := hb6.size; omega
  obtain ⟨wz, hwz⟩ : ∃ wz, w6.alloc (.cells #[.string (bestQ l (lateI keyQ s day l l.length)).m, .int .i64 (bestQ l (lateI keyQ s day l l.length)).d, .slice (bestQ l (lateI keyQ s day l l.length)).A (bestQ l (lateI keyQ s day l l.length)).st.length (bestQ l (lateI keyQ s day l l.length)).cp] 54) = wz := ⟨_, rfl⟩
  have hbz : Below w6.heap.size w6 wz := by rw [← hwz]; (repeat (first | exact Below.refl _ _ | assumption | refine Below.alloc ?_ (by first | exact Nat.le_refl _ | exact Below.size (by assumption) | omega | (simp <;> omega)) _ | refine Below.setCell ?_ (by first | exact Nat.le_refl _ | exact Below.size (by assumption) | omega | (simp <;> omega)) _ | refine below_drewN ?_ _ | refine Below.drew ?_))
  have hzz : w.heap.size < wz.heap.size := by have := hbz.size; omega
  have hBz := hB6.trans (hbz.mono hB6.size)
  have HZ := Lib.hid (show BlQ wz w6.heap.size (bestQ l (lateI keyQ s day l l.length)) by rw [← hwz]; exact BlQ.new w6 _)
  have HBz := Lib.hid ((HB0.out.below hb26 hz0).below hbz hz6)
  have HW := Lib.hid hwz; clear hwz
  have HSS' := HSS.out
  cases hj : lateI keyQ s day l l.length with
  | none =>
    rw [hj] at HSS' HW HZ
    have HS := Lib.hid HSS'; clear HSS'
    clear hj
    simp only [Option.isSome_none]
    go_upto_region 6 with fail
    rw [HW.out]
    obtain ⟨g0, g1, g2⟩ := HBz.out.f
    obtain ⟨e0, e1, e2⟩ := HBz.out.c
    go_wp2
    obtain ⟨q0, q1, q2⟩ := HBz.out.rd zeroQ
    simp only [zeroQ, List.length_nil] at q0 q1 q2
    refine bodyPost_ret (v := .tuple #[valQ zeroQ, .int .i64 82]) (by simp [results, Tryd.results69, go_sem, q0, q1, q2, zeroQ]) rfl ?_
    exact Ret.mk (by rw [HS.out] <;> rfl) (below_grown hBz (putQ_grown wz w.heap.size zeroQ) (fun j hj => by cases hj; exact Nat.le_refl _) hBz.size)
  | some j =>
    rw [hj] at HSS' HW HZ
    have HS := Lib.hid HSS'; clear HSS'
    clear hj
    simp only [Option.isSome_some]
    go_upto_region 6 with fail
    rw [HW.out]
    obtain ⟨p, hp⟩ : ∃ p, bestQ l (some j) = p := ⟨_, rfl⟩
    rw [hp] at HZ HW ⊢
    obtain ⟨g0, g1, g2⟩ := HBz.out.f
    obtain ⟨e0, e1, e2⟩ := HBz.out.c
    obtain ⟨x0, x1, x2⟩ := HZ.out.c
    have HPP := Lib.hid hp; clear hp
    go_wp2
    obtain ⟨q0, q1, q2⟩ := HBz.out.rd p
    refine bodyPost_ret (v := .tuple #[valQ p, .int .i64 0]) (by simp [results, Tryd.results69, go_sem, q0, q1, q2]) rfl ?_
    exact Ret.mk (by rw [HS.out, HPP.out] <;> rfl) (below_grown hBz (putQ_grown wz w.heap.size p) (fun j hj => by cases hj; exact Nat.le_refl _) hBz.size)
end Go.Proofs.YthccpdefgjneiaaDoor

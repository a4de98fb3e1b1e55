/- Valid forms of the reference: the walk. Printed by genop6.py. -/
import Derived.Test.YthccpdefgjneiaaDoorOP5
namespace Go.Proofs.YthccpdefgjneiaaDoor
open Go.RowKit Go.Shelf Go.Maps

set_option maxRecDepth 100000 in
set_option maxHeartbeats 4000000 in
theorem validF2_any (f : FT) (w : World) (ho : OkF w f) : Calls Tryd.prog 30 #[valF f] w (Ret (.bool (validFS f)) w) := by
  have HO := Lib.hid ho; clear ho
  obtain ⟨w0, hw0⟩ : ∃ w0, w.alloc (.cells #[.string f.cu, .int .i64 f.d, .string f.cr, .slice f.A f.ls.length f.cp] 30) = w0 := ⟨_, rfl⟩
  have hB0 : Below w.heap.size w w0 := by rw [← hw0]; (repeat (first | exact Below.refl _ _ | assumption | refine Below.alloc ?_ (by first | exact Nat.le_refl _ | exact Below.size (by assumption) | omega | (simp <;> omega)) _ | refine Below.setCell ?_ (by first | exact Nat.le_refl _ | exact Below.size (by assumption) | omega | (simp <;> omega)) _ | refine below_drewN ?_ _ | refine Below.drew ?_))
  have hz0 : w0.heap.size = w.heap.size + 1 := by rw [← hw0]; simp
  have k0 : w0.cell? ⟨w.heap.size, 0, none⟩ = some (.string f.cu) := by rw [← hw0]; simp
  have k1 : w0.cell? ⟨w.heap.size, 1, none⟩ = some (.int .i64 f.d) := by rw [← hw0]; simp
  have k2 : w0.cell? ⟨w.heap.size, 2, none⟩ = some (.string f.cr) := by rw [← hw0]; simp
  have k3 : w0.cell? ⟨w.heap.size, 3, none⟩ = some (.slice f.A f.ls.length f.cp) := by rw [← hw0]; simp
  have HC : Hid (∀ w', Below w0.heap.size w0 w' → w'.cell? ⟨w.heap.size, 0, none⟩ = some (.string f.cu) ∧ w'.cell? ⟨w.heap.size, 1, none⟩ = some (.int .i64 f.d) ∧ w'.cell? ⟨w.heap.size, 2, none⟩ = some (.string f.cr) ∧ w'.cell? ⟨w.heap.size, 3, none⟩ = some (.slice f.A f.ls.length f.cp)) := fun w' h =>
    ⟨(h.cell (p := ⟨w.heap.size, 0, none⟩) (by show w.heap.size < _; omega)).trans k0, (h.cell (p := ⟨w.heap.size, 1, none⟩) (by show w.heap.size < _; omega)).trans k1, (h.cell (p := ⟨w.heap.size, 2, none⟩) (by show w.heap.size < _; omega)).trans k2, (h.cell (p := ⟨w.heap.size, 3, none⟩) (by show w.heap.size < _; omega)).trans k3⟩
  have hlm : (f.ls.length : Int) ≤ 9223372036854775807 := by have := HO.out.len; unfold maxLen at this; omega
  clear k0 k1 k2
  have k3' := k3
  obtain ⟨k0, k1, k2, _⟩ := HC.out w0 (Below.refl _ _)
  go_enter Tryd.func30, Tryd.ntmps30
  go_wp2_with (first | (rw [hw0]; fail) | fail)
  clear hw0
  refine (isWord_any f.cu _ HO.out.cu).mono ?_
  rintro e w2 ⟨rfl, hb2⟩
  have hBB2 := hB0.trans (hb2.mono hB0.size)
  clear k0 k1 k2 k3 k3'
  obtain ⟨k0, k1, k2, k3⟩ := HC.out w2 hb2
  cases h0 : wordB f.cu
  · have HS := Lib.hid (show validFS f = false by unfold validFS; rw [h0]; simp)
    have H0 := Lib.hid h0; clear h0
    go_wp2
    go_ret
    exact Ret.mk (by rw [HS.out] <;> rfl) hBB2
  have H0 := Lib.hid h0; clear h0
  go_wp2_with fail
  refine (isDay_any f.d _).mono ?_
  rintro e w3 ⟨rfl, rfl⟩
  cases h1 : dayB f.d
  · have HS := Lib.hid (show validFS f = false by unfold validFS; rw [h1]; simp)
    have H1 := Lib.hid h1; clear h1
    go_wp2
    go_ret
    exact Ret.mk (by rw [HS.out] <;> rfl) hBB2
  have H1 := Lib.hid h1; clear h1
  go_wp2_with fail
  refine (isCurrency_any f.cr _ HO.out.cr).mono ?_
  rintro e w4 ⟨rfl, hb4⟩
  have hb24 := hb2.trans (hb4.mono hb2.size)
  have hBB4 := hB0.trans (hb24.mono hB0.size)
  clear k0 k1 k2 k3
  obtain ⟨k0, k1, k2, k3⟩ := HC.out w4 hb24
  cases h2 : curB f.cr
  · have HS := Lib.hid (show validFS f = false by unfold validFS; rw [h2]; simp)
    have H2 := Lib.hid h2; clear h2
    go_wp2
    go_ret
    exact Ret.mk (by rw [HS.out] <;> rfl) hBB4
  have H2 := Lib.hid h2; clear h2
  by_cases g1 : (f.ls.length : Int) < 1
  · have HS := Lib.hid (show validFS f = false by unfold validFS; rw [bet_false.2 (by omega)]; simp)
    go_wp2
    go_ret
    exact Ret.mk (by rw [HS.out] <;> rfl) hBB4
  by_cases g2 : (40 : Int) < (f.ls.length : Int)
  · have HS := Lib.hid (show validFS f = false by unfold validFS; rw [bet_false.2 (by omega)]; simp)
    go_wp2
    go_ret
    exact Ret.mk (by rw [HS.out] <;> rfl) hBB4
  have HLN : Hid (bet 1 (f.ls.length : Int) 40 = true) := bet_iff.2 (by omega)
  go_wp2
  clear k0 k1 k2 k3
  go_loopw [3, 4] (fun i _ wr => ∃ k : Nat, k ≤ f.ls.length ∧ i = .int .i64 k ∧ (∀ g ∈ f.ls.take k, lineB g = true) ∧ Below w4.heap.size w4 wr) (fun i _ _ => f.ls.length - (intOf i).toNat)
  case atStart => exact ⟨0, Nat.zero_le _, rfl, fun x hx => by simp at hx, Below.refl _ _⟩
  case round =>
    obtain ⟨k, hk, rfl, hgood, hB⟩ := hrel
    have HG := Lib.hid hgood; clear hgood
    have hBw := hBB4.trans (hB.mono hBB4.size)
    have hbw := hb24.trans (hB.mono hb24.size)
    have hsB := hB.size
    obtain ⟨_, _, _, k3⟩ := HC.out wr hbw
    by_cases hlt : k < f.ls.length
    · obtain ⟨g, hg⟩ := getElem?_of_lt hlt
      obtain ⟨b, off, hA, hb, d0, d1, d2, d3⟩ := (HO.out.rd.now hBw) k g hg
      have hs := HO.out.ml g (List.mem_of_getElem? hg)
      have HGG := Lib.hid hg; clear hg
      rw [hA] at k3 ⊢
      obtain ⟨wz, hwz⟩ : ∃ wz, wr.alloc (.cells #[.string g.m, .int .i64 g.c, .int .i64 g.z, .int .i64 g.n] 64) = wz := ⟨_, rfl⟩
      have hbz : Below wr.heap.size wr wz := by rw [← hwz]; (repeat (first | exact Below.refl _ _ | assumption | refine Below.alloc ?_ (by first | exact Nat.le_refl _ | exact Below.size (by assumption) | omega | (simp <;> omega)) _ | refine Below.setCell ?_ (by first | exact Nat.le_refl _ | exact Below.size (by assumption) | omega | (simp <;> omega)) _ | refine below_drewN ?_ _ | refine Below.drew ?_))
      have hsz : wz.heap.size = wr.heap.size + 1 := by rw [← hwz]; simp
      have HZ := Lib.hid (show AtG wz wr.heap.size g by rw [← hwz]; exact AtG.new wr g)
      have HW := Lib.hid hwz; clear hwz
      have hBz := hB.trans (hbz.mono hB.size)
      have hz1 : wr.heap.size < wz.heap.size := by omega
      have HBAD := Lib.hid (fun h => form_bad HGG.out h)
      go_upto_region 7 with fail
      rw [HW.out]
      clear HW d0 d1 d2 d3 k3
      obtain ⟨x0, x1, x2, x3⟩ := HZ.out
      go_wp2_with fail
      refine (isWord_any g.m _ hs).mono ?_
      rintro e w2' ⟨rfl, hb2'⟩
      clear x0 x1 x2 x3
      obtain ⟨x0, x1, x2, x3⟩ := HZ.out.below hb2' hz1
      have hz2 : wr.heap.size < w2'.heap.size := by have := hb2'.size; omega
      have hB2 := hBz.trans (hb2'.mono hBz.size)
      have hBB2' := hBB4.trans (hB2.mono hBB4.size)
      cases h3 : wordB g.m
      · have HS := Lib.hid (HBAD.out (by unfold lineB; simp [h3]))
        have H3 := Lib.hid h3; clear h3
        go_wp2
        go_ret
        exact Ret.mk (by rw [HS.out] <;> rfl) hBB2'
      have H3 := Lib.hid h3; clear h3
      by_cases m0 : g.c < 1
      · have HS := Lib.hid (HBAD.out (by unfold lineB; rw [show bet 1 g.c 9 = false from bet_false.2 (by omega)]; simp))
        go_wp2
        go_ret
        exact Ret.mk (by rw [HS.out] <;> rfl) hBB2'
      by_cases m1 : 9 < g.c
      · have HS := Lib.hid (HBAD.out (by unfold lineB; rw [show bet 1 g.c 9 = false from bet_false.2 (by omega)]; simp))
        go_wp2
        go_ret
        exact Ret.mk (by rw [HS.out] <;> rfl) hBB2'
      by_cases m2 : g.z < 1
      · have HS := Lib.hid (HBAD.out (by unfold lineB; rw [show bet 1 g.z 1000000000 = false from bet_false.2 (by omega)]; simp))
        go_wp2
        go_ret
        exact Ret.mk (by rw [HS.out] <;> rfl) hBB2'
      by_cases m3 : 1000000000 < g.z
      · have HS := Lib.hid (HBAD.out (by unfold lineB; rw [show bet 1 g.z 1000000000 = false from bet_false.2 (by omega)]; simp))
        go_wp2
        go_ret
        exact Ret.mk (by rw [HS.out] <;> rfl) hBB2'
      by_cases m4 : g.n < 1
      · have HS := Lib.hid (HBAD.out (by unfold lineB; rw [show bet 1 g.n 1000 = false from bet_false.2 (by omega)]; simp))
        go_wp2
        go_ret
        exact Ret.mk (by rw [HS.out] <;> rfl) hBB2'
      by_cases m5 : 1000 < g.n
      · have HS := Lib.hid (HBAD.out (by unfold lineB; rw [show bet 1 g.n 1000 = false from bet_false.2 (by omega)]; simp))
        go_wp2
        go_ret
        exact Ret.mk (by rw [HS.out] <;> rfl) hBB2'
      have HL := Lib.hid (show lineB g = true by unfold lineB; rw [H3.out, show bet 1 g.c 9 = true from bet_iff.2 (by omega), show bet 1 g.z 1000000000 = true from bet_iff.2 (by omega), show bet 1 g.n 1000 = true from bet_iff.2 (by omega)]; rfl)
      go_wp2
      go_roundw
      case rel =>
        refine ⟨k + 1, by omega, by go_num, fun x hx => ?_, hB2⟩
        rw [take_succ_of HGG.out] at hx
        rcases List.mem_append.1 hx with hx | hx
        · exact HG.out x hx
        · simp at hx; subst hx; exact HL.out
      case measure => simp [intOf]; omega
    · obtain rfl : k = f.ls.length := by omega
      have HS := Lib.hid (show validFS f = true by
        unfold validFS
        rw [show f.ls.all lineB = true from List.all_eq_true.2 fun x hx => HG.out x (by rw [List.take_length]; exact hx), H0.out, H1.out, H2.out, HLN.out]; rfl)
      go_wp2
      go_ret
      exact Ret.mk (by rw [HS.out] <;> rfl) hBw
end Go.Proofs.YthccpdefgjneiaaDoor

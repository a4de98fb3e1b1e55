/- Valid forms of both: the walks. Printed by genop5.py. -/
import Derived.Test.YthccpdefgjneiaaDoorOM9
namespace Go.Proofs.YthccpdefgjneiaaDoor
open Go.RowKit Go.Shelf Go.Maps

def lineB (g : GT) : Bool := wordB g.m && (bet 1 g.c 9 && (bet 1 g.z 1000000000 && bet 1 g.n 1000))
def validFS (f : FT) : Bool := f.ls.all lineB && (wordB f.cu && (dayB f.d && (curB f.cr && bet 1 (f.ls.length : Int) 40)))
structure OkF (w : World) (f : FT) : Prop where
  cu : f.cu.size ≤ 9223372036854775807
  cr : f.cr.size ≤ 9223372036854775807
  ml : ∀ g ∈ f.ls, g.m.size ≤ 9223372036854775807
  len : f.ls.length ≤ maxLen
  rd : RdG w w.heap.size f.A f.ls
theorem OkF.now {w w' : World} {f : FT} (h : OkF w f) (hb : Below w.heap.size w w') : OkF w' f := ⟨h.cu, h.cr, h.ml, h.len, h.rd.now hb⟩
theorem form_bad {f : FT} {k : Nat} {g : GT} (h : f.ls[k]? = some g) (hb : lineB g = false) : validFS f = false := by
  unfold validFS
  rw [show f.ls.all lineB = false from List.all_eq_false.2 ⟨g, List.mem_of_getElem? h, by rw [hb]; simp⟩]; rfl
theorem line_nums {g : GT} (h : lineB g = true) : wordB g.m = true ∧ 1 ≤ g.c ∧ g.c ≤ 9 ∧ 1 ≤ g.z ∧ g.z ≤ 1000000000 ∧ 1 ≤ g.n ∧ g.n ≤ 1000 := by
  unfold lineB at h
  simp only [Bool.and_eq_true] at h
  have h1 := bet_iff.1 h.2.1
  have h2 := bet_iff.1 h.2.2.1
  have h3 := bet_iff.1 h.2.2.2
  exact ⟨h.1, by omega⟩

set_option maxRecDepth 100000 in
set_option maxHeartbeats 4000000 in
theorem validF_any (f : FT) (w : World) (ho : OkF w f) : Calls Tryd.prog 29 #[valF f] w (Ret (.bool (validFS f)) w) := by
  have HO := Lib.hid ho; clear ho
  obtain ⟨w0, hw0⟩ : ∃ w0, w.alloc (.cells #[.string f.cu, .int .i64 f.d, .string f.cr, .slice f.A f.ls.length f.cp] 30) = w0 := ⟨_, rfl⟩
  have hB0 : Below w.heap.size w w0 := by rw [← hw0]; (repeat (first | exact Below.refl _ _ | assumption | refine Below.alloc ?_ (by first | exact Nat.le_refl _ | exact Below.size (by assumption) | omega | (simp <;> omega)) _ | refine Below.setCell ?_ (by first | exact Nat.le_refl _ | exact Below.size (by assumption) | omega | (simp <;> omega)) _ | refine below_drewN ?_ _ | refine Below.drew ?_))
  have hz0 : w0.heap.size = w.heap.size + 1 := by rw [← hw0]; simp
  have k0 : w0.cell? ⟨w.heap.size, 0, none⟩ = some (.string f.cu) := by rw [← hw0]; simp
  have k1 : w0.cell? ⟨w.heap.size, 1, none⟩ = some (.int .i64 f.d) := by rw [← hw0]; simp
  have k2 : w0.cell? ⟨w.heap.size, 2, none⟩ = some (.string f.cr) := by rw [← hw0]; simp
  have k3 : w0.cell? ⟨w.heap.size, 3, none⟩ = some (.slice f.A f.ls.length f.cp) := by rw [← hw0]; simp
  have HC : Hid (∀ w', Below w0.heap.size w0 w' → w'.cell? ⟨w.heap.size, 0, none⟩ = some (.string f.cu) ∧ w'.cell? ⟨w.heap.size, 1, none⟩ = some (.int .i64 f.d) ∧ w'.cell? ⟨w.heap.size, 2, none⟩ = some (.string f.cr) ∧ w'.cell? ⟨w.heap.size, 3, none⟩ = some (.slice f.A f.ls.length f.cp)) := fun w' h =>
    ⟨(h.cell (p := ⟨w.heap.size, 0, none⟩) (by show w.heap.size < _; omega)).trans k0, (h.cell (p := ⟨w.heap.size, 1, none⟩) (by show w.heap.size < _; omega)).trans k1, (h.cell (p := ⟨w.heap.size, 2, none⟩) (by show w.heap.size < _; omega)).trans k2, (h.cell (p := ⟨w.heap.size, 3, none⟩) (by show w.heap.size < _; omega)).trans k3⟩
  have hlm : (f.ls.length : Int) ≤ 9223372036854775807 := by have := HO.out.len; unfold maxLen at this; omega
  clear k0 k1 k2
  go_enter Tryd.func29, Tryd.ntmps29
  go_wp2
  clear hw0 k3
  go_loopw [4, 8] (fun _ i wr => ∃ k : Nat, k ≤ f.ls.length ∧ i = .int .i64 k ∧ (∀ g ∈ f.ls.take k, lineB g = true) ∧ Below w0.heap.size w0 wr) (fun _ i _ => f.ls.length - (intOf i).toNat)
  case atStart => exact ⟨0, Nat.zero_le _, rfl, fun x hx => by simp at hx, Below.refl _ _⟩
  case round =>
    obtain ⟨k, hk, rfl, hgood, hB⟩ := hrel
    have HG := Lib.hid hgood; clear hgood
    have hBw := hB0.trans (hB.mono hB0.size)
    have hsB := hB.size
    by_cases hlt : k < f.ls.length
    · obtain ⟨g, hg⟩ := getElem?_of_lt hlt
      obtain ⟨b, off, hA, hb, d0, d1, d2, d3⟩ := (HO.out.rd.now hBw) k g hg
      have hs := HO.out.ml g (List.mem_of_getElem? hg)
      have HGG := Lib.hid hg; clear hg
      rw [hA]
      obtain ⟨wz, hwz⟩ : ∃ wz, wr.alloc (.cells #[.string g.m, .int .i64 g.c, .int .i64 g.z, .int .i64 g.n] 64) = wz := ⟨_, rfl⟩
      have hbz : Below wr.heap.size wr wz := by rw [← hwz]; (repeat (first | exact Below.refl _ _ | assumption | refine Below.alloc ?_ (by first | exact Nat.le_refl _ | exact Below.size (by assumption) | omega | (simp <;> omega)) _ | refine Below.setCell ?_ (by first | exact Nat.le_refl _ | exact Below.size (by assumption) | omega | (simp <;> omega)) _ | refine below_drewN ?_ _ | refine Below.drew ?_))
      have hsz : wz.heap.size = wr.heap.size + 1 := by rw [← hwz]; simp
      have HZ := Lib.hid (show AtG wz wr.heap.size g by rw [← hwz]; exact AtG.new wr g)
      have HW := Lib.hid hwz; clear hwz
      have hBz := hB.trans (hbz.mono hB.size)
      have hz1 : wr.heap.size < wz.heap.size := by omega
      have HBAD := Lib.hid (fun h => form_bad HGG.out h)
      go_upto_region 4 with fail
      rw [HW.out]
      clear HW d0 d1 d2 d3
      obtain ⟨x0, x1, x2, x3⟩ := HZ.out
      go_wp2_with fail
      refine (word_any g.m _ hs).mono ?_
      rintro e w2 ⟨rfl, hb2⟩
      clear x0 x1 x2 x3
      obtain ⟨x0, x1, x2, x3⟩ := HZ.out.below hb2 hz1
      have hz2 : wr.heap.size < w2.heap.size := by have := hb2.size; omega
      have hB2 := hBz.trans (hb2.mono hBz.size)
      have hBB2 := hB0.trans (hB2.mono hB0.size)
      cases h0 : wordB g.m
      · have HS := Lib.hid (HBAD.out (by unfold lineB; simp [h0]))
        have H0 := Lib.hid h0; clear h0
        go_wp2_with fail
        go_ret
        exact Ret.mk (by rw [HS.out] <;> rfl) hBB2
      have H0 := Lib.hid h0; clear h0
      go_wp2_with fail
      refine (bet_any 1 g.c 9 _).mono ?_
      rintro e w10 ⟨rfl, rfl⟩
      cases h1 : bet 1 g.c 9
      · have HS := Lib.hid (HBAD.out (by unfold lineB; simp [h1]))
        have H1 := Lib.hid h1; clear h1
        go_wp2_with fail
        go_ret
        exact Ret.mk (by rw [HS.out] <;> rfl) hBB2
      have H1 := Lib.hid h1; clear h1
      go_wp2_with fail
      refine (bet_any 1 g.z 1000000000 _).mono ?_
      rintro e w11 ⟨rfl, rfl⟩
      cases h2 : bet 1 g.z 1000000000
      · have HS := Lib.hid (HBAD.out (by unfold lineB; simp [h2]))
        have H2 := Lib.hid h2; clear h2
        go_wp2_with fail
        go_ret
        exact Ret.mk (by rw [HS.out] <;> rfl) hBB2
      have H2 := Lib.hid h2; clear h2
      go_wp2_with fail
      refine (bet_any 1 g.n 1000 _).mono ?_
      rintro e w12 ⟨rfl, rfl⟩
      cases h3 : bet 1 g.n 1000
      · have HS := Lib.hid (HBAD.out (by unfold lineB; simp [h3]))
        have H3 := Lib.hid h3; clear h3
        go_wp2_with fail
        go_ret
        exact Ret.mk (by rw [HS.out] <;> rfl) hBB2
      have H3 := Lib.hid h3; clear h3
      have HL := Lib.hid (show lineB g = true by unfold lineB; rw [H0.out, H1.out, H2.out, H3.out]; rfl)
      go_wp2_with fail
      go_roundw
      case rel =>
        refine ⟨k + 1, by omega, by go_num, fun x hx => ?_, hB2⟩
        rw [take_succ_of HGG.out] at hx
        rcases List.mem_append.1 hx with hx | hx
        · exact HG.out x hx
        · simp at hx; subst hx; exact HL.out
      case measure => simp [intOf]; omega
    · obtain rfl : k = f.ls.length := by omega
      have hal : validFS f = (wordB f.cu && (dayB f.d && (curB f.cr && bet 1 (f.ls.length : Int) 40))) := by
        unfold validFS
        rw [show f.ls.all lineB = true from List.all_eq_true.2 fun x hx => HG.out x (by rw [List.take_length]; exact hx)]; rfl
      have HAL := Lib.hid hal; clear hal
      obtain ⟨c0, c1, c2, c3⟩ := HC.out wr hB
      go_wp2_with fail
      refine (word_any f.cu _ HO.out.cu).mono ?_
      rintro e w2 ⟨rfl, hb2⟩
      have hB2 := hB.trans (hb2.mono hB.size)
      have hBB2 := hB0.trans (hB2.mono hB0.size)
      clear c0 c1 c2 c3
      obtain ⟨c0, c1, c2, c3⟩ := HC.out w2 hB2
      cases h0 : wordB f.cu
      · have HS := Lib.hid (show validFS f = false by rw [HAL.out, h0]; rfl)
        have H0 := Lib.hid h0; clear h0
        go_wp2_with fail
        go_ret
        exact Ret.mk (by rw [HS.out] <;> rfl) hBB2
      have H0 := Lib.hid h0; clear h0
      go_wp2_with fail
      refine (day_any f.d _).mono ?_
      rintro e w3 ⟨rfl, rfl⟩
      cases h1 : dayB f.d
      · have HS := Lib.hid (show validFS f = false by rw [HAL.out, h1]; simp)
        have H1 := Lib.hid h1; clear h1
        go_wp2_with fail
        go_ret
        exact Ret.mk (by rw [HS.out] <;> rfl) hBB2
      have H1 := Lib.hid h1; clear h1
      go_wp2_with fail
      refine (currency_any f.cr _ HO.out.cr).mono ?_
      rintro e w4 ⟨rfl, hb4⟩
      have hB4 := hB2.trans (hb4.mono hB2.size)
      have hBB4 := hB0.trans (hB4.mono hB0.size)
      clear c0 c1 c2 c3
      obtain ⟨c0, c1, c2, c3⟩ := HC.out w4 hB4
      cases h2 : curB f.cr
      · have HS := Lib.hid (show validFS f = false by rw [HAL.out, h2]; simp)
        have H2 := Lib.hid h2; clear h2
        go_wp2_with fail
        go_ret
        exact Ret.mk (by rw [HS.out] <;> rfl) hBB4
      have H2 := Lib.hid h2; clear h2
      have HS := Lib.hid (show validFS f = bet 1 (f.ls.length : Int) 40 by rw [HAL.out, H0.out, H1.out, H2.out]; rfl)
      go_wp2_with fail
      refine (bet_any 1 (f.ls.length : Int) 40 _).mono ?_
      rintro e w5 ⟨rfl, rfl⟩
      rw [← HS.out]
      go_wp2_with fail
      go_ret
      exact Ret.mk rfl hBB4
end Go.Proofs.YthccpdefgjneiaaDoor

/- Line of the program: the walk. -/
import Derived.Test.YthccpdefgjneiaaDoorOP14
namespace Go.Proofs.YthccpdefgjneiaaDoor
open Go.RowKit Go.Shelf Go.Maps
set_option linter.unusedSimpArgs false

set_option maxRecDepth 100000 in
set_option maxHeartbeats 2000000 in
theorem Line_any (A1 A2 : Option Addr) (c1 c2 : Nat) (lp : List QT) (lr : List RT) (f : FT) (i : Int) (w : World) (h : OkA w A1 A2 lp lr f) :
    Calls Tryd.prog 35 #[.slice A1 lp.length c1, .slice A2 lr.length c2, valF f, .int .i64 i] w (Ret (.tuple #[.int .i64 (lineV lp lr f i).1, .int .i64 (lineV lp lr f i).2]) w) := by
  have HA := Lib.hid h; clear h
  have hlm : (f.ls.length : Int) ≤ 9223372036854775807 := by have := HA.out.f.len; unfold maxLen at this; omega
  obtain ⟨w0, hw0⟩ : ∃ w0, w.alloc (.cells #[.string f.cu, .int .i64 f.d, .string f.cr, .slice f.A f.ls.length f.cp] 30) = w0 := ⟨_, rfl⟩
  have hB0 : Below w.heap.size w w0 := by rw [← hw0]; (repeat (first | exact Below.refl _ _ | assumption | refine Below.alloc ?_ (by first | exact Nat.le_refl _ | exact Below.size (by assumption) | omega | (simp <;> omega)) _ | refine Below.setCell ?_ (by first | exact Nat.le_refl _ | exact Below.size (by assumption) | omega | (simp <;> omega)) _ | refine below_drewN ?_ _ | refine Below.drew ?_))
  have hz0 : w.heap.size < w0.heap.size := by rw [← hw0]; simp
  have HF := Lib.hid (show AtF w0 w.heap.size f by rw [← hw0]; exact AtF.new w f)
  obtain ⟨e0, he0⟩ : ∃ e0, checkE lp lr f = e0 := ⟨_, rfl⟩
  have hck := fun W (hW : Below w.heap.size w W) => checked_any A1 A2 c1 c2 lp lr f W (HA.out.now hW)
  rw [he0] at hck
  have HCK := Lib.hid hck; clear hck
  obtain ⟨f0, f1, f2, f3⟩ := HF.out
  by_cases hc : e0 = 0
  case neg =>
    have HS := Lib.hid (show lineV lp lr f i = (0, e0) by unfold lineV; rw [he0, if_neg hc])
    have hne : (e0 != 0) = true := by simpa using hc
    clear hc he0
    go_enter Tryd.func35, Tryd.ntmps35
    go_wp2_with fail
    clear hw0
    refine (HCK.out _ hB0).mono ?_
    rintro e w2 ⟨rfl, hb2⟩
    go_wp2
    go_ret2
    exact Ret.mk (by rw [HS.out] <;> rfl) (hB0.trans (hb2.mono hB0.size))
  subst hc
  have HE0 := Lib.hid he0; clear he0
  have w1 : wrap64 ((f.ls.length : Int) - 1) = (f.ls.length : Int) - 1 := w64_id (by omega) (by omega)
  cases hbt : bet 0 i ((f.ls.length : Int) - 1)
  · have HS := Lib.hid (lineV_out HE0.out (show ¬ (0 ≤ i ∧ i < (f.ls.length : Int)) by have := bet_false.1 hbt; omega))
    have HBT := Lib.hid hbt; clear hbt
    go_enter Tryd.func35, Tryd.ntmps35
    go_wp2_with fail
    clear hw0
    refine (HCK.out _ hB0).mono ?_
    rintro e w2 ⟨rfl, hb2⟩
    clear f0 f1 f2 f3
    obtain ⟨f0, f1, f2, f3⟩ := HF.out.below hb2 hz0
    go_wp2_with fail
    refine (bet_any 0 i ((f.ls.length : Int) - 1) _).mono ?_
    rintro e w3 ⟨rfl, rfl⟩
    rw [HBT.out]
    go_wp2
    go_ret2
    exact Ret.mk (by rw [HS.out] <;> rfl) (hB0.trans (hb2.mono hB0.size))
  have hbi := bet_iff.1 hbt
  have HBT := Lib.hid hbt; clear hbt
  obtain ⟨k, rfl⟩ : ∃ k : Nat, i = (k : Int) := ⟨i.toNat, by omega⟩
  have hkl : k < f.ls.length := by omega
  obtain ⟨x, hx⟩ := getElem?_of_lt hkl
  have HX := Lib.hid hx
  have HLV := Lib.hid (lineV_get HE0.out hx)
  have hxm := HA.out.f.ml x (List.mem_of_getElem? hx)
  clear hx hbi
  go_enter Tryd.func35, Tryd.ntmps35
  go_wp2_with fail
  clear hw0
  refine (HCK.out _ hB0).mono ?_
  rintro e w2 ⟨rfl, hb2⟩
  have hB2 := hB0.trans (hb2.mono hB0.size)
  clear f0 f1 f2 f3
  obtain ⟨f0, f1, f2, f3⟩ := HF.out.below hb2 hz0
  go_wp2_with fail
  refine (bet_any 0 (k : Int) ((f.ls.length : Int) - 1) _).mono ?_
  rintro e w3 ⟨rfl, rfl⟩
  rw [HBT.out]
  obtain ⟨b, off, hA, hb, d0, d1, d2, d3⟩ := (HA.out.f.rd.now hB2) k x HX.out
  have HF0 := Lib.hid f3
  rw [hA] at f3
  obtain ⟨wz, hwz⟩ : ∃ wz, w3.alloc (.cells #[.string x.m, .int .i64 x.c, .int .i64 x.z, .int .i64 x.n] 64) = wz := ⟨_, rfl⟩
  have hbz : Below w3.heap.size w3 wz := by rw [← hwz]; (repeat (first | exact Below.refl _ _ | assumption | refine Below.alloc ?_ (by first | exact Nat.le_refl _ | exact Below.size (by assumption) | omega | (simp <;> omega)) _ | refine Below.setCell ?_ (by first | exact Nat.le_refl _ | exact Below.size (by assumption) | omega | (simp <;> omega)) _ | refine below_drewN ?_ _ | refine Below.drew ?_))
  have hzz : w3.heap.size < wz.heap.size := by rw [← hwz]; simp
  have hBz := hB2.trans (hbz.mono hB2.size)
  have hb0z := hb2.trans (hbz.mono hb2.size)
  have HZ := Lib.hid (show AtG wz w3.heap.size x by rw [← hwz]; exact AtG.new w3 x)
  have HW := Lib.hid hwz; clear hwz
  have HAA := Lib.hid hA; clear hA
  go_upto_region 7 with fail
  rw [HW.out]
  clear HW d0 d1 d2 d3 f0 f1 f2 f3
  rw [← HAA.out]
  obtain ⟨f0, f1, f2, f3⟩ := HF.out.below hb0z hz0
  obtain ⟨x0, x1, x2, x3⟩ := HZ.out
  go_wp2
  clear f0 f1 f2 f3 x0 x1 x2 x3
  go_loopw [12, 14, 39] (fun c _ i wr => ∃ m : Nat, m ≤ f.ls.length ∧ i = .int .i64 m ∧ c = .int .i64 (ofM (f.ls.take m) x.m) ∧ Below wz.heap.size wz wr) (fun _ _ i _ => f.ls.length - (intOf i).toNat)
  case atStart => exact ⟨0, Nat.zero_le _, rfl, rfl, Below.refl _ _⟩
  case round =>
    obtain ⟨m, hm, rfl, rfl, hB⟩ := hrel
    have hBw := hBz.trans (hB.mono hBz.size)
    have hsB := hB.size
    obtain ⟨x0, x1, x2, x3⟩ := HZ.out.below hB hzz
    have hz5 : w3.heap.size < wr.heap.size := by omega
    by_cases hlt : m < f.ls.length
    · obtain ⟨g, hg⟩ := getElem?_of_lt hlt
      obtain ⟨b', off', hA, hb', d0, d1, d2, d3⟩ := (HA.out.f.rd.now hBw) m g hg
      have HSN := Lib.hid (ofM_snoc hg x.m)
      clear hg x1 x2 x3
      rw [hA]; clear hA
      have hstr := str_eq g.m x.m
      by_cases hn : g.m = x.m
      · rw [decide_eq_true hn] at hstr
        have HE := Lib.hid (HSN.out.trans (if_pos hn))
        clear hn
        go_wp2
        go_roundw
        case rel => exact ⟨m + 1, by omega, by go_num, by rw [HE.out], by (repeat (first | exact Below.refl _ _ | assumption | refine Below.alloc ?_ (by first | exact Nat.le_refl _ | exact Below.size (by assumption) | omega | (simp <;> omega)) _ | refine Below.setCell ?_ (by first | exact Nat.le_refl _ | exact Below.size (by assumption) | omega | (simp <;> omega)) _ | refine below_drewN ?_ _ | refine Below.drew ?_))⟩
        case measure => simp [intOf]; omega
      · rw [decide_eq_false hn] at hstr
        have HE := Lib.hid (HSN.out.trans (if_neg hn))
        clear hn
        go_wp2
        go_roundw
        case rel => exact ⟨m + 1, by omega, by go_num, by rw [HE.out], by (repeat (first | exact Below.refl _ _ | assumption | refine Below.alloc ?_ (by first | exact Nat.le_refl _ | exact Below.size (by assumption) | omega | (simp <;> omega)) _ | refine Below.setCell ?_ (by first | exact Nat.le_refl _ | exact Below.size (by assumption) | omega | (simp <;> omega)) _ | refine below_drewN ?_ _ | refine Below.drew ?_))⟩
        case measure => simp [intOf]; omega
    · obtain rfl : m = f.ls.length := by omega
      rw [List.take_length]
      obtain ⟨f0, f1, f2, f3⟩ := HF.out.below (hb0z.trans (hB.mono hb0z.size)) hz0
      have hz6 : w.heap.size < wr.heap.size := by have := (hb0z.trans (hB.mono hb0z.size)).size; omega
      obtain ⟨⟨p, e1⟩, hpv⟩ : ∃ r, priceV lp x.m f.d (ofM f.ls x.m) = r := ⟨_, rfl⟩
      have hlv := HLV.out
      unfold lineG at hlv
      rw [hpv] at hlv
      have HPV := Lib.hid hpv; clear hpv
      have HL2 := Lib.hid hlv; clear hlv
      go_wp2_with fail
      refine (Price_any A1 c1 lp x.m f.d (ofM f.ls x.m) _ (HA.out.q.now hBw) (HA.out.p.now hBw)).mono ?_
      rintro e w5 ⟨rfl, hb5⟩
      rw [HPV.out]
      have hB5 := hB.trans (hb5.mono hB.size)
      have hBw5 := hBw.trans (hb5.mono hBw.size)
      clear f0 f1 f2 f3 x0 x1 x2 x3
      obtain ⟨f0, f1, f2, f3⟩ := HF.out.below (hb0z.trans (hB5.mono hb0z.size)) hz0
      obtain ⟨x0, x1, x2, x3⟩ := HZ.out.below hB5 hzz
      by_cases he : e1 = 0
      case neg =>
        have HS := Lib.hid (HL2.out.trans (if_neg he))
        have hne : (e1 != 0) = true := by simpa using he
        clear he
        go_wp2
        go_ret2
        exact Ret.mk (by rw [HS.out] <;> rfl) hBw5
      subst he
      have HS := Lib.hid (HL2.out.trans (if_pos rfl))
      go_wp2_with fail
      refine (Convert_any A2 c2 lr f.cr f.d (wrap64 (p * x.n)) _ HA.out.t HA.out.f.cr (HA.out.r.now hBw5)).mono ?_
      rintro e w6 ⟨rfl, hb6⟩
      go_wp2
      go_ret2
      exact Ret.mk (by rw [HS.out] <;> rfl) (hBw5.trans (hb6.mono hBw5.size))
end Go.Proofs.YthccpdefgjneiaaDoor

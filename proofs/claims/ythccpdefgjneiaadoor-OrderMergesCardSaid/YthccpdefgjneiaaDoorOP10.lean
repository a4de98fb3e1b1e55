/- Price of both: the walks. -/
import Derived.Test.YthccpdefgjneiaaDoorOP9
namespace Go.Proofs.YthccpdefgjneiaaDoor
open Go.RowKit Go.Shelf Go.Maps

theorem okQ_get {w : World} {l : List QT} (h : OkQ w l) {j : Nat} {p : QT} (hp : l[j]? = some p) : RdT2 w w.heap.size p.A p.st ∧ p.st.length ≤ maxLen := (h p (List.mem_of_getElem? hp)).2
set_option maxRecDepth 100000 in
set_option maxHeartbeats 2000000 in
theorem Price_any (A : Option Addr) (c : Nat) (l : List QT) (s : ByteArray) (day n : Int) (w : World) (ho : OkQ w l) (hl : RdQ w w.heap.size A l) :
    Calls Tryd.prog 31 #[.slice A l.length c, .string s, .int .i64 day, .int .i64 n] w (Ret (.tuple #[.int .i64 (priceV l s day n).1, .int .i64 (priceV l s day n).2]) w) := by
  have HL := Lib.hid hl; clear hl
  have HO := Lib.hid ho; clear ho
  obtain ⟨⟨o, e0⟩, hf⟩ : ∃ r, foundE l s day n = r := ⟨_, rfl⟩
  have hfd := found_any A c l s day n w HO.out HL.out
  rw [hf] at hfd
  dsimp only at hfd
  have HFD := Lib.hid hfd; clear hfd
  cases o with
  | none =>
    have hne := found_none hf
    have HS := Lib.hid (show priceV l s day n = (0, e0) by unfold priceV; rw [hf])
    clear hf
    go_enter Tryd.func31, Tryd.ntmps31
    go_wp2_with fail
    refine HFD.out.mono ?_
    rintro e w2 ⟨rfl, hb2⟩
    go_wp2
    go_ret2
    exact Ret.mk (by rw [HS.out] <;> rfl) (hb2.alloc (by exact hb2.size) _)
  | some j =>
    obtain ⟨rfl, _, _, _, _, p, hp, hbp⟩ := found_inv hf
    have HS := Lib.hid (show priceV l s day n = (centsP p.st n, 0) by unfold priceV; rw [hf, ← hbp])
    rw [hbp] at HFD
    obtain ⟨hr, hlen⟩ := okQ_get HO.out hp
    have HR := Lib.hid hr
    have HN := Lib.hid hlen
    clear hf hp hbp hr hlen
    go_enter Tryd.func31, Tryd.ntmps31
    go_wp2_with fail
    refine HFD.out.mono ?_
    rintro e w2 ⟨rfl, hb2⟩
    obtain ⟨wz, hwz⟩ : ∃ wz, w2.alloc (.cells #[.string p.m, .int .i64 p.d, .slice p.A p.st.length p.cp] 54) = wz := ⟨_, rfl⟩
    have hbz : Below w2.heap.size w2 wz := by rw [← hwz]; (repeat (first | exact Below.refl _ _ | assumption | refine Below.alloc ?_ (by first | exact Nat.le_refl _ | exact Below.size (by assumption) | omega | (simp <;> omega)) _ | refine Below.setCell ?_ (by first | exact Nat.le_refl _ | exact Below.size (by assumption) | omega | (simp <;> omega)) _ | refine below_drewN ?_ _ | refine Below.drew ?_))
    have hBz := hb2.trans (hbz.mono hb2.size)
    have HZ := Lib.hid (show AtQ wz w2.heap.size p by rw [← hwz]; exact AtQ.new w2 p)
    have hzz : w2.heap.size < wz.heap.size := by rw [← hwz]; simp
    have HW := Lib.hid hwz; clear hwz
    go_upto_region 2 with fail
    rw [HW.out]
    obtain ⟨x0, x1, x2⟩ := HZ.out
    go_wp2_with fail
    refine (priced_any p n _ (HR.out.now hBz) HN.out).mono ?_
    rintro e w3 ⟨rfl, hb3⟩
    go_wp2
    go_ret2
    exact Ret.mk (by rw [HS.out] <;> rfl) (hBz.trans (hb3.mono hBz.size))
set_option maxRecDepth 100000 in
set_option maxHeartbeats 2000000 in
theorem Price2_any (A : Option Addr) (c : Nat) (l : List QT) (s : ByteArray) (day n : Int) (w : World) (ho : OkQ w l) (hl : RdQ w w.heap.size A l) :
    Calls Tryd.prog 32 #[.slice A l.length c, .string s, .int .i64 day, .int .i64 n] w (Ret (.tuple #[.int .i64 (priceV l s day n).1, .int .i64 (priceV l s day n).2]) w) := by
  have HL := Lib.hid hl; clear hl
  have HO := Lib.hid ho; clear ho
  cases hv : validPS l
  · have HS := Lib.hid (show priceV l s day n = (0, 80) by unfold priceV foundE; rw [hv]; rfl)
    have HV := Lib.hid hv; clear hv
    go_enter Tryd.func32, Tryd.ntmps32
    go_wp2_with fail
    refine (validP2_any A c l _ HO.out HL.out).mono ?_
    rintro e w2 ⟨rfl, hb2⟩
    rw [HV.out]
    go_wp2
    go_ret2
    exact Ret.mk (by rw [HS.out] <;> rfl) hb2
  obtain ⟨hl60, _⟩ := validP_all hv
  have hl6 : l.length ≤ 1000000 := by omega
  clear hl60
  have HV := Lib.hid hv; clear hv
  cases hd : dayB day
  · have HS := Lib.hid (show priceV l s day n = (0, 2) by unfold priceV foundE; rw [HV.out, hd]; rfl)
    have HD := Lib.hid hd; clear hd
    go_enter Tryd.func32, Tryd.ntmps32
    go_wp2_with fail
    refine (validP2_any A c l _ HO.out HL.out).mono ?_
    rintro e w2 ⟨rfl, hb2⟩
    rw [HV.out]
    go_wp2_with fail
    refine (isDay_any day _).mono ?_
    rintro e w3 ⟨rfl, rfl⟩
    rw [HD.out]
    go_wp2
    go_ret2
    exact Ret.mk (by rw [HS.out] <;> rfl) hb2
  have HD := Lib.hid hd; clear hd
  by_cases hn : bet 1 n 100000 = true
  case neg =>
    have hnf : bet 1 n 100000 = false := by simpa using hn
    have HS := Lib.hid (show priceV l s day n = (0, 2) by unfold priceV foundE; rw [HV.out, HD.out, hnf]; rfl)
    have hb := bet_false.1 hnf
    clear hn hnf
    by_cases n1 : n < 1
    · clear hb
      go_enter Tryd.func32, Tryd.ntmps32
      go_wp2_with fail
      refine (validP2_any A c l _ HO.out HL.out).mono ?_
      rintro e w2 ⟨rfl, hb2⟩
      rw [HV.out]
      go_wp2_with fail
      refine (isDay_any day _).mono ?_
      rintro e w3 ⟨rfl, rfl⟩
      rw [HD.out]
      go_wp2
      go_ret2
      exact Ret.mk (by rw [HS.out] <;> rfl) hb2
    · have n2 : 100000 < n := by omega
      clear hb
      go_enter Tryd.func32, Tryd.ntmps32
      go_wp2_with fail
      refine (validP2_any A c l _ HO.out HL.out).mono ?_
      rintro e w2 ⟨rfl, hb2⟩
      rw [HV.out]
      go_wp2_with fail
      refine (isDay_any day _).mono ?_
      rintro e w3 ⟨rfl, rfl⟩
      rw [HD.out]
      go_wp2
      go_ret2
      exact Ret.mk (by rw [HS.out] <;> rfl) hb2
  have hb := bet_iff.1 hn
  have n1 : ¬ n < 1 := by omega
  have n2 : ¬ 100000 < n := by omega
  have HN := Lib.hid hn; clear hn
  clear hb
  cases hj : lateI keyQ s day l l.length with
  | none =>
    have HS := Lib.hid (show priceV l s day n = (0, 82) by unfold priceV foundE; rw [HV.out, HD.out, HN.out, hj]; rfl)
    have HJ := Lib.hid hj; clear hj
    go_enter Tryd.func32, Tryd.ntmps32
    go_wp2_with fail
    refine (validP2_any A c l _ HO.out HL.out).mono ?_
    rintro e w2 ⟨rfl, hb2⟩
    rw [HV.out]
    go_wp2_with fail
    refine (isDay_any day _).mono ?_
    rintro e w3 ⟨rfl, rfl⟩
    rw [HD.out]
    go_wp2_with fail
    refine (priceOf_any A c l s day _ hl6 (HL.out.now hb2)).mono ?_
    rintro e w4 ⟨rfl, hb4⟩
    rw [HJ.out]
    simp only [atI]
    go_wp2
    go_ret2
    exact Ret.mk (by rw [HS.out] <;> rfl) (hb2.trans (hb4.mono hb2.size))
  | some j =>
    obtain ⟨_, hjl⟩ := lateI_lt hj
    obtain ⟨p, hp⟩ := getElem?_of_lt hjl
    have hbp : bestQ l (some j) = p := by unfold bestQ; show (l[j]?).getD _ = p; rw [hp]; rfl
    have HS := Lib.hid (show priceV l s day n = (centsP p.st n, 0) by unfold priceV foundE; rw [HV.out, HD.out, HN.out, hj]; show (centsP (bestQ l (some j)).st n, 0) = _; rw [hbp])
    have HJ := Lib.hid hj; clear hj
    obtain ⟨hr, hlen⟩ := okQ_get HO.out hp
    have HR := Lib.hid hr
    have HLN := Lib.hid hlen
    have HPP := Lib.hid hp
    clear hp hbp hr hlen
    go_enter Tryd.func32, Tryd.ntmps32
    go_wp2_with fail
    refine (validP2_any A c l _ HO.out HL.out).mono ?_
    rintro e w2 ⟨rfl, hb2⟩
    rw [HV.out]
    go_wp2_with fail
    refine (isDay_any day _).mono ?_
    rintro e w3 ⟨rfl, rfl⟩
    rw [HD.out]
    go_wp2_with fail
    refine (priceOf_any A c l s day _ hl6 (HL.out.now hb2)).mono ?_
    rintro e w4 ⟨rfl, hb4⟩
    have hB4 := hb2.trans (hb4.mono hb2.size)
    rw [HJ.out]
    simp only [atI]
    obtain ⟨b, off, hA, hbb, d0, d1, d2⟩ := (HL.out.now hB4) j p HPP.out
    subst hA
    go_wp2_with fail
    refine (cents_any p n _ (HR.out.now hB4) HLN.out).mono ?_
    rintro e w5 ⟨rfl, hb5⟩
    go_wp2
    go_ret2
    exact Ret.mk (by rw [HS.out] <;> rfl) (hB4.trans (hb5.mono hB4.size))
end Go.Proofs.YthccpdefgjneiaaDoor

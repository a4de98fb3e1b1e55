/- mapped, turning round, and Mirror, in the program: the walks. -/
import Derived.Test.YtimehkeaeffcaaaW36
import Derived.Test.YtimehkeaeffcaaaW41
namespace Go.Proofs.Ytimehkeaeffcaaa
open Go.RowKit

theorem own_form {w : World} {B : Nat} {v : Value} {l : List XY} (h : OwnL w B v l) (h0 : 0 < l.length) : ∃ g c, v = .slice (some ⟨g, 0, none⟩) l.length c ∧ B ≤ g := by
  rcases h.2 with ⟨_, hn⟩ | ⟨g, cap, cur, hv, hB, _⟩
  · omega
  · exact ⟨g, cap, hv, hB⟩
theorem rev_bd {l : List XY} (h0 : 0 < l.length) (hb : ∀ j, Bd 100000 (cy l j)) (j : Nat) : Bd 100000 (cy l.reverse j) := by
  have hj := Nat.mod_lt j h0
  have e : cy l.reverse j = cy l (l.length - 1 - j % l.length) := by
    unfold cy
    rw [List.length_reverse, List.getElem?_reverse hj, Nat.mod_eq_of_lt (show l.length - 1 - j % l.length < l.length by omega)]
  rw [e]; exact hb _
def mirrorS (va : List XY → Bool) (can : List XY → List XY) (l : List XY) : List XY × Int := if va l then (can (l.map fMir).reverse, 0) else ([], 10)

set_option maxRecDepth 100000 in
set_option maxHeartbeats 1000000 in
theorem mappedR_any (g : Nat) (cb : Array Value) (f : XY → XY) (A : Option Addr) (c : Nat) (l : List XY) (w : World) (hf : Maps g cb f w) (h0 : 0 < l.length) (hm : l.length ≤ 1000000) (hl : Rd w w.heap.size A l) (hb : ∀ j, Bd 100000 (cy (l.map f).reverse j)) :
    Calls Try.prog 76 #[.slice A l.length c, .func (.func g) #[] cb, .bool true] w (RetO (canonL (l.map f).reverse) w) := by
  have eg := hf.1
  have HF := Lib.hid hf.2; clear hf
  have HL := Lib.hid hl; clear hl
  obtain ⟨k0, hk0, hi0, hc0, _⟩ := canon_facts (l := (l.map f).reverse) (by simpa using h0) hb
  have HI0 := Lib.hid hi0; clear hi0
  have HC0 := Lib.hid hc0; clear hc0
  obtain ⟨i0, hi, hz0, hz1, hz2⟩ := info_parts Try.infoXY
  have HJ := Lib.hid hi; clear hi
  have HE := Lib.hid eg; clear eg
  go_enter Try.func76, Try.ntmps76
  go_wp2_with (at_make; refine wpList_make_own _ rfl _ _ 22 rfl w.heap.size 37 i0 (.agg #[.int .i64 0, .int .i64 0]) 2 Try.underlying22 HJ.out hz0 hz1 _ _ _ l.length rfl rfl rfl (by rw [hz2]; omega) (by unfold maxLen; omega) (Nat.le_refl _) ?_; intro w1 hown1 hgrow1)
  have hB1 : Below w.heap.size w w1 := below_grown (Below.refl _ w) hgrow1 (fun k h => by cases h) (Nat.le_refl _)
  have HO1 := Lib.hid hown1; clear hown1 hgrow1
  go_wp2
  go_loopw [7, 9, 15] (fun v _ i wr => ∃ k : Nat, k ≤ l.length ∧ i = .int .i64 k ∧ OwnL wr w.heap.size v ((l.take k).map f) ∧ Below w.heap.size w wr) (fun _ _ i _ => l.length - (intOf i).toNat)
  case atStart => exact ⟨0, Nat.zero_le _, rfl, HO1.out, hB1⟩
  case round =>
    obtain ⟨k, hk, rfl, hown, hB⟩ := hrel
    have HO := Lib.hid hown; clear hown
    by_cases hlt : k < l.length
    · obtain ⟨q, hq⟩ := getElem?_of_lt hlt
      obtain ⟨b, off, hA, hb, hcx, hcy⟩ := (HL.out.below hB) k q hq
      subst hA
      have HQ := Lib.hid (take_map_succ f hq); clear hq
      have hsB := hB.size
      have eg := HE.out
      have hlen : ((l.take k).map f).length = k := by simp; omega
      go_wp2_with fail
      refine (HF.out (wr.alloc (.cells #[.int .i64 q.X, .int .i64 q.Y] 37)) q (by (repeat (first | exact Below.refl _ _ | assumption | refine Below.alloc ?_ (by first | exact Nat.le_refl _ | exact Below.size (by assumption) | omega | (simp <;> omega)) _ | refine Below.setCell ?_ (by first | exact Nat.le_refl _ | exact Below.size (by assumption) | omega | (simp <;> omega)) _ | refine below_drewN ?_ _ | refine Below.drew ?_)))).mono ?_
      rintro e w2 ⟨rfl, hb2⟩
      have hB2 : Below w.heap.size w w2 := Below.trans (b := wr.alloc (.cells #[.int .i64 q.X, .int .i64 q.Y] 37)) (by (repeat (first | exact Below.refl _ _ | assumption | refine Below.alloc ?_ (by first | exact Nat.le_refl _ | exact Below.size (by assumption) | omega | (simp <;> omega)) _ | refine Below.setCell ?_ (by first | exact Nat.le_refl _ | exact Below.size (by assumption) | omega | (simp <;> omega)) _ | refine below_drewN ?_ _ | refine Below.drew ?_))) (hb2.mono (by simp; omega))
      have hO2 := own_below (HO.out.alloc (.cells #[.int .i64 q.X, .int .i64 q.Y] 37)) hb2
      have HO2 := Lib.hid hO2; clear hO2
      have hs2 := hB2.size
      obtain ⟨r, hr⟩ : ∃ r, f q = r := ⟨_, rfl⟩
      have hq2 := HQ.out
      rw [hr] at hq2 ⊢
      have HQ2 := Lib.hid hq2; clear hq2 hr
      clear hb2 hcx hcy hb
      go_wp2_with (at_builtin; refine wpList_append_own _ rfl _ _ 22 rfl w.heap.size 37 i0 (.agg #[.int .i64 0, .int .i64 0]) 2 16 Try.underlying22 HJ.out hz0 hz1 hz2 rfl (by decide) _ _ _ rfl (HO2.out.alloc _) ⟨w2.heap.size, 0, none⟩ 1 1 [.int .i64 r.X, .int .i64 r.Y] rfl rfl (by intro j u hj; match j, hj with | 0, hj => (simp at hj; subst hj; simp [Addr.add]) | 1, hj => (simp at hj; subst hj; simp [Addr.add]) | j + 2, hj => simp at hj) (by intro u hu; simp at hu; rcases hu with rfl | rfl <;> rfl) (by rw [hlen]; unfold maxLen; omega) (by rw [hlen]; omega) (by simp; omega) ?_; intro v' w3 hown' hgrow _)
      go_wp2
      go_roundw
      case rel =>
        refine ⟨k + 1, by omega, by go_num, ?_, below_grown (w1 := w2.alloc (.cells #[.int .i64 r.X, .int .i64 r.Y] 37)) (by (repeat (first | exact Below.refl _ _ | assumption | refine Below.alloc ?_ (by first | exact Nat.le_refl _ | exact Below.size (by assumption) | omega | (simp <;> omega)) _ | refine Below.setCell ?_ (by first | exact Nat.le_refl _ | exact Below.size (by assumption) | omega | (simp <;> omega)) _ | refine below_drewN ?_ _ | refine Below.drew ?_))) hgrow (fun j hj => (HO2.out.lt j hj).1) (by simp; omega)⟩
        rw [HQ2.out]
        have e := hown'
        unfold OwnL
        rw [flat_append]
        simpa [flat_cons, flat_nil] using e
      case measure => simp [intOf]; omega
    · obtain rfl : k = l.length := by omega
      have hown := HO.out
      rw [List.take_length] at hown
      obtain ⟨g2, c2, rfl, hg2⟩ := own_form hown (by simpa using h0)
      have hrv := reverse_any g2 c2 (l.map f) wr w.heap.size (by simpa using h0) (by simpa using hm) hown
      rw [List.length_map] at hrv
      have HRV := Lib.hid hrv; clear hrv hown
      go_wp2_with fail
      refine HRV.out.mono ?_
      rintro e w2 ⟨⟨ve, rfl⟩, hown2, hgr2⟩
      have hB2 : Below w.heap.size w w2 := below_grown hB hgr2 (fun j hj => by cases hj; exact hg2) hB.size
      have hown2' : OwnL w2 w.heap.size (.slice (some ⟨g2, 0, none⟩) (l.map f).reverse.length c2) (l.map f).reverse := by
        rw [List.length_reverse, List.length_map]; exact hown2
      obtain ⟨A3, c3, he, hr2, hc2⟩ := own_rdc hown2'
      have hcall := canonical_any A3 c3 (l.map f).reverse w2 (by simpa using h0) (by simpa using hm) hc2 hr2 k0 hk0 HI0.out HC0.out
      rw [← he, List.length_reverse, List.length_map] at hcall
      have HCL := Lib.hid hcall; clear hcall hr2 hown2 hown2' he
      go_wp2_with fail
      refine HCL.out.mono ?_
      rintro e w3 ⟨v3, rfl, hown3, hb3⟩
      go_wp2
      go_ret
      exact ⟨v3, rfl, own_base hown3 hB2.size, hB2.trans (hb3.mono hB2.size)⟩

set_option maxHeartbeats 400000 in
theorem Mirror_any (A : Option Addr) (c : Nat) (l : List XY) (w : World) (hl : Rd w w.heap.size A l) :
    Calls Try.prog 44 #[.slice A l.length c] w (RetO2 (mirrorS validB canonL l).1 (mirrorS validB canonL l).2 w) := by
  have HL := Lib.hid hl; clear hl
  cases hv : validB l
  · have HS : Hid (mirrorS validB canonL l = ([], 10)) := by simp [Hid, mirrorS, hv]
    have HV := Lib.hid hv; clear hv
    go_enter Try.func44, Try.ntmps44
    go_wp2_with fail
    refine (valid_any A c l _ HL.out).mono ?_
    rintro e w1 ⟨rfl, hb1⟩
    rw [HV.out]
    go_wp2
    go_ret2
    rw [HS.out]
    exact ⟨_, rfl, World.ownsRow_nil _ _ _ _, hb1⟩
  · have HS : Hid (mirrorS validB canonL l = (canonL (l.map fMir).reverse, 0)) := by simp [Hid, mirrorS, hv]
    have hlen := validB_len' hv
    have hbd := Lib.hid (rev_bd (l := l.map fMir) (by simp; omega) (map_bd (l := l) (by omega) (validB_ranged hv) (f := fMir) (fun p => fMir_bd)))
    have HV := Lib.hid hv; clear hv
    go_enter Try.func44, Try.ntmps44
    go_wp2_with fail
    refine (valid_any A c l _ HL.out).mono ?_
    rintro e w1 ⟨rfl, hb1⟩
    rw [HV.out]
    go_wp2_with fail
    have hT : Maps 81 #[] fMir w1 := ⟨enters_of Try.func81 (by kernel_rfl) rfl, fun W p _ => mirror1_any p W⟩
    refine (mappedR_any 81 #[] fMir A c l _ hT (by omega) (by omega) (HL.out.now hb1) hbd.out).mono ?_
    rintro e w2 ⟨v, rfl, hown, hb2⟩
    go_wp2
    go_ret2
    rw [HS.out]
    exact ⟨v, rfl, own_base hown hb1.size, hb1.trans (hb2.mono hb1.size)⟩
end Go.Proofs.Ytimehkeaeffcaaa

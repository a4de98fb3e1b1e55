/- The law OutlineBack: the walk. -/
import Derived.Test.YtimehkeaeffcaaaW33
import Derived.Test.YtimehkeaeffcaaaW46
import Derived.Test.YtimehkeaeffcaaaMathQ
import Derived.Deep.RegionWith
import Derived.BigRegion
import Derived.Deep.AppendLies
import Derived.Deep.RegionLaw
namespace Go.Proofs.Ytimehkeaeffcaaa
open Go.RowKit Go.Shelf

theorem five_eq {l o : List XY} (h1 : validB l = true) (h2 : validB o = true) (ha : area2S l = area2S o) (hb : boxS l = boxS o) (hc : aroundS validB l = aroundS validB o) : fiveV l = fiveV o := by
  have e : areaW l = areaW o := by simpa [area2S, h1, h2] using ha
  unfold fiveV
  rw [e, hb, hc]

theorem around_bd {o : List XY} (h : validB o = true) : 0 ≤ (aroundS validB o).1 ∧ (aroundS validB o).1 ≤ 2000000 := by
  have hl := validB_len' h
  have e : (aroundS validB o).1 = arTo isqrt o o.length := by unfold aroundS; rw [if_pos h]
  obtain ⟨e1, b1, b2⟩ := ar_sides (l := o) (f := isqrt) (fun n hn => by have := isqrt_small hn; omega) (bd_cy (by omega) (validB_ranged h)) o.length (by omega)
  rw [e, e1]
  omega

/-- Five numbers in a block of their own. -/
structure Fv (W : World) (B : Nat) (a b c d e : Int) : Prop where
  c0 : W.cell? ⟨B, 0, none⟩ = some (.int .i64 a)
  c1 : W.cell? ⟨B, 1, none⟩ = some (.int .i64 b)
  c2 : W.cell? ⟨B, 2, none⟩ = some (.int .i64 c)
  c3 : W.cell? ⟨B, 3, none⟩ = some (.int .i64 d)
  c4 : W.cell? ⟨B, 4, none⟩ = some (.int .i64 e)
theorem Fv.below {W W' : World} {B C : Nat} {a b c d e : Int} (h : Fv W B a b c d e) (hb : Below C W W') (hB : B < C) : Fv W' B a b c d e :=
  ⟨(hb.cell (p := ⟨B, 0, none⟩) hB).trans h.c0, (hb.cell (p := ⟨B, 1, none⟩) hB).trans h.c1, (hb.cell (p := ⟨B, 2, none⟩) hB).trans h.c2, (hb.cell (p := ⟨B, 3, none⟩) hB).trans h.c3, (hb.cell (p := ⟨B, 4, none⟩) hB).trans h.c4⟩
theorem Fv.new (W : World) (a b c d e : Int) : Fv (W.alloc (.cells #[.int .i64 a, .int .i64 b, .int .i64 c, .int .i64 d, .int .i64 e] 47)) W.heap.size a b c d e :=
  ⟨by simp, by simp, by simp, by simp, by simp⟩

set_option maxRecDepth 100000 in
set_option maxHeartbeats 4000000 in
theorem lawBack_any (A : Option Addr) (c : Nat) (o : List XY) (n0 : Int) (w : World) (hn0 : 0 ≤ n0) (hn1 : n0 ≤ 255) (hc : o.length ≤ c) (hl : Rd w w.heap.size A o) :
    Calls Try.prog 13 #[.slice A o.length c, .int .u8 n0] w (Ret (.bool true) w) := by
  cases hv : validB o
  · have HL := Lib.hid hl; clear hl
    have HS : Hid (canonS validB canonL o = ([], 10)) := by simp [Hid, canonS, hv]
    clear hv
    go_enter Try.func13, Try.ntmps13
    go_wp2_with fail
    refine (Canonical_any A c o _ hc HL.out).mono ?_
    rintro e w1 ⟨v1, rfl, hown1, hb1⟩
    obtain ⟨A1, c1, rfl, hr1⟩ := own_rd hown1
    rw [HS.out] at hr1 ⊢
    dsimp only [List.length_nil]
    clear hown1
    go_wp2_with fail
    refine (awake_any _).mono ?_
    rintro e w2 ⟨rfl, hb2⟩
    go_wp2
    go_ret
    exact Ret.mk rfl (hb1.trans (hb2.mono hb1.size))
  have hlen := validB_len' hv
  obtain ⟨m, t, hvm, hvt, hm1, hm2, ht1, ht2, am, at', bm, bt, rm, rt, lo1, lo2⟩ := back_facts hv
  have f1 := five_eq hvm hv am bm rm
  have f2 := five_eq hvt hv at' bt rt
  have hcs : canonS validB canonL o = (canonL o, 0) := by simp [canonS, hv]
  obtain ⟨p0, hp0⟩ := getElem?_of_lt (show 0 < o.length by omega)
  obtain ⟨b, off, hA, hb, hx, hy⟩ := hl 0 p0 hp0
  subst hA
  clear hx hy hp0 am at' bm bt rm rt
  obtain ⟨n, hn⟩ : ∃ n, n0.toNat % o.length = n := ⟨_, rfl⟩
  have hnl : n < o.length := by rw [← hn]; exact Nat.mod_lt _ (by omega)
  have e2 : n0.tmod (o.length : Int) = (n : Int) := by
    rw [tmod_pos hn0, ← hn, Int.natCast_emod]
    congr 1
    omega
  have hvr : validB (rotL o n) = true := valid_rot hnl hv
  have hcr : canonS validB canonL (rotL o n) = (canonL o, 0) := by simp [canonS, hvr, canon_rot_any hv hnl]
  have hcl : (canonL o).length ≤ 64 := by rw [canonL_turnL hv]; simp [turnL]; omega
  have h5 : fiveV o = .agg #[.int .i64 (areaW o), .int .i64 (boxS o).1, .int .i64 (boxS o).2.1, .int .i64 (aroundS validB o).1, .int .i64 (aroundS validB o).2.1] := rfl
  rw [h5] at f1 f2
  obtain ⟨lo3, lo4⟩ := around_bd hv
  have HVO := Lib.hid hv; clear hv
  have HVM := Lib.hid hvm; clear hvm
  have HVT := Lib.hid hvt; clear hvt
  generalize areaW o = x1 at f1 f2 h5
  generalize (boxS o).1 = x2 at f1 f2 h5
  generalize (boxS o).2.1 = x3 at f1 f2 h5
  generalize (aroundS validB o).1 = x4 at f1 f2 h5 lo1 lo2 lo3 lo4
  generalize (aroundS validB o).2.1 = x5 at f1 f2 h5 lo1 lo2
  have H5 := Lib.hid h5; clear h5
  have HF1 := Lib.hid f1; clear f1
  have HF2 := Lib.hid f2; clear f2
  have HCS := Lib.hid hcs; clear hcs
  have HCR := Lib.hid hcr; clear hcr
  have HM1 := Lib.hid hm1; clear hm1
  have HM2 := Lib.hid hm2; clear hm2
  have HT1 := Lib.hid ht1; clear ht1
  have HT2 := Lib.hid ht2; clear ht2
  clear hvr
  obtain ⟨i0, hi, hz0, hz1, hz2⟩ := info_parts Try.infoXY
  have HJ := Lib.hid hi; clear hi
  have HL := Lib.hid hl; clear hl
  have HN := Lib.hid hn; clear hn
  have hmx : Try.prog.follows .mixedOrders = true := by kernel_rfl
  have hne0 : ¬ o = [] := ne_nil_of_lt hnl
  have hkl : n ≤ o.length := by omega
  have hkc : n ≤ c := by omega
  have hne : ¬ c = n := by omega
  generalize hcc : canonL o = C at hcl HCS HCR HM2 HT2
  clear hcc
  go_enter Try.func13, Try.ntmps13
  go_wp2_with fail
  refine (Canonical_any _ c o _ hc HL.out).mono ?_
  rintro e w1 ⟨v1, rfl, hown1, hb1⟩
  obtain ⟨A1, c1, rfl, hr1⟩ := own_rd hown1
  rw [HCS.out] at hr1 ⊢
  clear hown1
  dsimp only at hr1
  have HR1 := Lib.hid hr1; clear hr1
  have hs1 := hb1.size
  have own0 : ((w1.alloc (.cells #[] 37)).drew).ownsRow w1.heap.size 37 2 (.slice (some ⟨w1.heap.size, 0, none⟩) 0 0) 0 [] := (World.ownsRow_made (e := 37) (size := 2) w1 #[] 0 (Nat.le_refl _) (by unfold maxLen; omega) rfl).drew
  have HO0 := Lib.hid own0; clear own0
  have hsE : ((w1.alloc (.cells #[] 37)).drew).heap.size = w1.heap.size + 1 := by show (w1.alloc (.cells #[] 37)).heap.size = _; simp
  have hBE : Below w1.heap.size w1 ((w1.alloc (.cells #[] 37)).drew) := by (repeat (first | exact Below.refl _ _ | assumption | refine Below.alloc ?_ (by first | exact Nat.le_refl _ | exact Below.size (by assumption) | omega | (simp <;> omega)) _ | refine Below.setCell ?_ (by first | exact Nat.le_refl _ | exact Below.size (by assumption) | omega | (simp <;> omega)) _ | refine below_drewN ?_ _ | refine Below.drew ?_))
  have hrA : Rd ((w1.alloc (.cells #[] 37)).drew) w1.heap.size (some ⟨b, off, none⟩) o := (HL.out.now hb1).below hBE
  have hrC : Rd ((w1.alloc (.cells #[] 37)).drew) w1.heap.size A1 C := HR1.out.below hBE
  have HRA := Lib.hid hrA; clear hrA
  have HRC := Lib.hid hrC; clear hrC
  have hkeep : ∀ (A' : Option Addr) (l' : List XY) (w3 : World), Rd ((w1.alloc (.cells #[] 37)).drew) w1.heap.size A' l' → ((w1.alloc (.cells #[] 37)).drew).grownBy w3 (some w1.heap.size) → Rd w3 w1.heap.size A' l' := fun A' l' w3 hr hg => hr.keep (fun p hp => World.cell?_of_block (hg.block p.block (by rw [hsE]; omega) (by
    intro he
    have e3 : p.block = w1.heap.size := by simpa using he
    omega)))
  have HKP := Lib.hid hkeep; clear hkeep
  have HSE := Lib.hid hsE; clear hsE
  have HBE := Lib.hid hBE; clear hBE
  go_wp2
  go_region_law (first | (refine step_append_own _ rfl (.tmp 46) (.tmp 49) 22 rfl w1.heap.size 37 i0 (.agg #[.int .i64 0, .int .i64 0]) 2 16 Try.underlying22 HJ.out hz0 hz1 hz2 rfl (by decide) _ 0 [] rfl HO0.out ⟨b, off + n * 2, none⟩ (o.length - n) (c - n) (flat (o.drop n)) rfl (by rw [flat_length, List.length_drop]) (rd_cells (rd_drop HRA.out n)) (fun u hu => flat_one hu) (by unfold maxLen; omega) (by omega) (by have := HSE.out; omega) ?_; intro v3 w3 hown3 hgrow3 _) | (refine step_append_own _ rfl (.tmp 50) (.tmp 53) 22 rfl w1.heap.size 37 i0 (.agg #[.int .i64 0, .int .i64 0]) 2 16 Try.underlying22 HJ.out hz0 hz1 hz2 rfl (by decide) v3 _ _ rfl hown3 ⟨b, off, none⟩ n c (flat (o.take n)) rfl (by rw [flat_length, List.length_take]; omega) (rd_cells (rd_take (HKP.out _ _ _ HRA.out hgrow3) n)) (fun u hu => flat_one hu) (by unfold maxLen; omega) (by omega) (by have := hgrow3.size; have := HSE.out; omega) ?_; intro v4 w4 hown4 hgrow4 _))
  have hB3 : Below w1.heap.size w1 w3 := below_grown HBE.out hgrow3 (fun j hj => by cases hj; exact Nat.le_refl _) (by have := HSE.out; omega)
  have hr3 : Rd w3 w1.heap.size A1 C := HKP.out _ _ _ HRC.out hgrow3
  have hB4 : Below w1.heap.size w1 w4 := below_grown hB3 hgrow4 (fun j hj => (hown3.lt j hj).1) hB3.size
  have hr4 : Rd w4 w4.heap.size A1 C := HR1.out.now hB4
  have hownR : OwnL w4 w1.heap.size v4 (rotL o n) := by
    have e1 : (rotL o n).length = 0 + (o.length - n) + n := by rw [rotL_length]; omega
    have e3 : flat (rotL o n) = ([] ++ flat (o.drop n)) ++ flat (o.take n) := by unfold rotL; rw [flat_append]; rfl
    unfold OwnL
    rw [e1, e3]
    exact hown4
  clear hr3 hown3 hown4 hgrow3 hgrow4 hB3
  have hW4 := hb1.trans (hB4.mono hs1)
  clear hB4
  obtain ⟨A4, c4, rfl, hq4, hc4⟩ := own_rdc hownR
  clear hownR
  have HR4 := Lib.hid hr4; clear hr4
  have HQ4 := Lib.hid hq4; clear hq4
  go_wp2_with fail
  refine (Canonical_any A4 c4 (rotL o n) _ hc4 HQ4.out).mono ?_
  rintro e w5 ⟨v5, rfl, hown5, hb5⟩
  obtain ⟨A5, c5, rfl, hr5⟩ := own_rd hown5
  rw [HCR.out] at hr5 ⊢
  clear hown5
  dsimp only at hr5
  have HR5 := Lib.hid hr5; clear hr5
  have hW5 := hW4.trans (hb5.mono hW4.size)
  have HR4b := Lib.hid (HR4.out.now hb5)
  clear HR4 hb5
  go_wp2_with fail
  refine (Mirror_any _ c o _ (HL.out.now hW5)).mono ?_
  rintro e w6 ⟨v6, rfl, hown6, hb6⟩
  obtain ⟨A6, c6, rfl, hr6⟩ := own_rd hown6
  rw [HM1.out] at hr6 ⊢
  clear hown6
  dsimp only at hr6
  have HR6 := Lib.hid hr6; clear hr6
  have hW6 := hW5.trans (hb6.mono hW5.size)
  have HR4c := Lib.hid (HR4b.out.now hb6)
  have HR5c := Lib.hid (HR5.out.now hb6)
  clear HR4b HR5 hb6
  go_wp2_with fail
  refine (Mirror_any A6 c6 m _ HR6.out).mono ?_
  rintro e w7 ⟨v7, rfl, hown7, hb7⟩
  obtain ⟨A7, c7, rfl, hr7⟩ := own_rd hown7
  rw [HM2.out] at hr7 ⊢
  clear hown7
  dsimp only at hr7
  have HR7 := Lib.hid hr7; clear hr7
  have hW7 := hW6.trans (hb7.mono hW6.size)
  have HR4d := Lib.hid (HR4c.out.now hb7)
  have HR5d := Lib.hid (HR5c.out.now hb7)
  have HR6d := Lib.hid (HR6.out.now hb7)
  clear HR4c HR5c HR6 hb7
  go_wp2_with fail
  refine (Turned_any _ c o _ (HL.out.now hW7)).mono ?_
  rintro e w8 ⟨v8, rfl, hown8, hb8⟩
  obtain ⟨A8, c8, rfl, hr8⟩ := own_rd hown8
  rw [HT1.out] at hr8 ⊢
  clear hown8
  dsimp only at hr8
  have HR8 := Lib.hid hr8; clear hr8
  have hW8 := hW7.trans (hb8.mono hW7.size)
  have HR4e := Lib.hid (HR4d.out.now hb8)
  have HR5e := Lib.hid (HR5d.out.now hb8)
  have HR6e := Lib.hid (HR6d.out.now hb8)
  have HR7e := Lib.hid (HR7.out.now hb8)
  clear HR4d HR5d HR6d HR7 hb8
  go_wp2_with fail
  refine (Turned_any A8 c8 t _ HR8.out).mono ?_
  rintro e w9 ⟨v9, rfl, hown9, hb9⟩
  obtain ⟨A9, c9, rfl, hr9⟩ := own_rd hown9
  rw [HT2.out] at hr9 ⊢
  clear hown9
  dsimp only at hr9
  have hW9 := hW8.trans (hb9.mono hW8.size)
  have hr4 := HR4e.out.now hb9
  have hr5 := HR5e.out.now hb9
  have hr6 := HR6e.out.now hb9
  have hr7 := HR7e.out.now hb9
  have hr8 := HR8.out.now hb9
  clear HR4e HR5e HR6e HR7e HR8 hb9
  have ALL := Lib.hid (And.intro hr4 (And.intro hr5 (And.intro hr6 (And.intro hr7 (And.intro hr8 hr9)))))
  clear hr4 hr5 hr6 hr7 hr8 hr9
  go_wp2_with fail
  refine (same_any A1 A5 c1 c5 C C _ (by omega) ALL.out.1 ALL.out.2.1).mono ?_
  rintro e w10 ⟨rfl, hb10⟩
  have hW10 := hW9.trans (hb10.mono hW9.size)
  go_wp2_with fail
  refine (same_any A1 A7 c1 c7 C C _ (by omega) (ALL.out.1.now hb10) (ALL.out.2.2.2.1.now hb10)).mono ?_
  rintro e w11 ⟨rfl, hb11⟩
  have hW11 := hW10.trans (hb11.mono hW10.size)
  have hb11' := hb10.trans (hb11.mono hb10.size)
  go_wp2_with fail
  refine (same_any A1 A9 c1 c9 C C _ (by omega) (ALL.out.1.now hb11') (ALL.out.2.2.2.2.2.now hb11')).mono ?_
  rintro e w12 ⟨rfl, hb12⟩
  have hW12 := hW11.trans (hb12.mono hW11.size)
  have hb12' := hb11'.trans (hb12.mono hb11'.size)
  clear hb10 hb11 hb12 hb11' hW10 hW11
  go_wp2_with fail
  refine (measures_any _ c o _ HVO.out (HL.out.now hW12)).mono ?_
  rintro e w13 ⟨rfl, hb13⟩
  rw [H5.out]
  have hW13 := hW12.trans (hb13.mono hW12.size)
  have hb13' := hb12'.trans (hb13.mono hb12'.size)
  clear hb12' hb13 hW12
  go_wp2_with fail
  obtain ⟨wA, hwA⟩ : ∃ wA, w13.alloc (.cells #[.int .i64 x1, .int .i64 x2, .int .i64 x3, .int .i64 x4, .int .i64 x5] 47) = wA := ⟨_, rfl⟩
  have fA : Fv wA w13.heap.size x1 x2 x3 x4 x5 := by rw [← hwA]; exact Fv.new _ _ _ _ _ _
  have hzA : wA.heap.size = w13.heap.size + 1 := by rw [← hwA]; simp
  have hWA : Below w.heap.size w wA := by rw [← hwA]; exact hW13.alloc hW13.size _
  have hbA : Below w9.heap.size w9 wA := by rw [← hwA]; exact hb13'.alloc hb13'.size _
  rw [hwA]
  clear hwA
  refine (measures_any A6 c6 m _ HVM.out (ALL.out.2.2.1.now hbA)).mono ?_
  rintro e w14 ⟨rfl, hb14⟩
  rw [HF1.out]
  have fA2 := fA.below hb14 (by omega)
  have hW14 := hWA.trans (hb14.mono hWA.size)
  have hbB := hbA.trans (hb14.mono hbA.size)
  have hz14 := hb14.size
  clear fA hb14
  go_wp2_with fail
  obtain ⟨wB, hwB⟩ : ∃ wB, w14.alloc (.cells #[.int .i64 x1, .int .i64 x2, .int .i64 x3, .int .i64 x4, .int .i64 x5] 47) = wB := ⟨_, rfl⟩
  have fB : Fv wB w14.heap.size x1 x2 x3 x4 x5 := by rw [← hwB]; exact Fv.new _ _ _ _ _ _
  have hzB : wB.heap.size = w14.heap.size + 1 := by rw [← hwB]; simp
  have hbb : Below w14.heap.size w14 wB := by rw [← hwB]; (repeat (first | exact Below.refl _ _ | assumption | refine Below.alloc ?_ (by first | exact Nat.le_refl _ | exact Below.size (by assumption) | omega | (simp <;> omega)) _ | refine Below.setCell ?_ (by first | exact Nat.le_refl _ | exact Below.size (by assumption) | omega | (simp <;> omega)) _ | refine below_drewN ?_ _ | refine Below.drew ?_))
  have fA3 := fA2.below hbb (by omega)
  have hWB := hW14.trans (hbb.mono hW14.size)
  have hbC := hbB.trans (hbb.mono hbB.size)
  rw [hwB]
  clear hwB fA2
  refine (measures_any A8 c8 t _ HVT.out (ALL.out.2.2.2.2.1.now hbC)).mono ?_
  rintro e w15 ⟨rfl, hb15⟩
  rw [HF2.out]
  have fA4 := fA3.below hb15 (by omega)
  have fB2 := fB.below hb15 (by omega)
  have hW15 := hWB.trans (hb15.mono hWB.size)
  have hz15 := hb15.size
  clear fA3 fB hb15 hbB hbC hbb hbA hb13' hW13 hWA hW14 hWB
  obtain ⟨p1, p2, p3, p4, p5⟩ := fA4
  obtain ⟨q1, q2, q3, q4, q5⟩ := fB2
  have l13 : w13.heap.size < w15.heap.size := by omega
  have l14 : w14.heap.size < w15.heap.size := by omega
  have heq := run_eqFive x1 x2 x3 x4 x5
  have g1 : decide (x4 ≤ x5) = true := decide_eq_true lo1
  have g2 : decide (x5 ≤ x4 + (o.length : Int)) = true := decide_eq_true lo2
  go_wp2_with fail
  refine (awake_any _).mono ?_
  rintro e w16 ⟨rfl, hb16⟩
  go_wp2
  go_ret
  exact Ret.mk rfl (Below.trans (b := w15.alloc (.cells #[.int .i64 x1, .int .i64 x2, .int .i64 x3, .int .i64 x4, .int .i64 x5] 47)) (hW15.alloc hW15.size _) (hb16.mono (by have := hW15.size; simp; omega)))
end Go.Proofs.Ytimehkeaeffcaaa

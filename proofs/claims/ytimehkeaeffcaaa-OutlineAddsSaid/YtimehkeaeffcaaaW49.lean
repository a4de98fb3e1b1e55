/- Sum, in the program: the walk. -/
import Derived.Test.YtimehkeaeffcaaaMathS6
import Derived.Test.YtimehkeaeffcaaaWC
import Derived.Test.YtimehkeaeffcaaaWB
import Derived.BigRegion
import Derived.Deep.DeepCutAuto
import Derived.Deep.RegionLaw
namespace Go.Proofs.Ytimehkeaeffcaaa
open Go.RowKit

def sumRes (out : List XY) : List XY × Int := if 64 < out.length ∨ validB out = false then ([], 4) else (canonL out, 0)

theorem outL_succ (a b : List XY) (j : Nat) : outL a b (j + 1) = outL a b j ++ [pt a b (st a b j)] := by
  unfold outL; rw [List.range_succ, List.map_append]; rfl

set_option maxRecDepth 100000 in
set_option maxHeartbeats 4000000 in
theorem Sum_no (A A2 : Option Addr) (c c2 : Nat) (l l2 : List XY) (w : World) (hv : (validB l && validB l2) = false) (hl : Rd w w.heap.size A l) (hl2 : Rd w w.heap.size A2 l2) :
    Calls Try.prog 36 #[.slice A l.length c, .slice A2 l2.length c2] w (RetO2 [] 10 w) := by
  have HL := Lib.hid hl; clear hl
  have HL2 := Lib.hid hl2; clear hl2
  cases hv1 : validB l
  · have HV := Lib.hid hv1; clear hv1 hv
    go_enter Try.func36, Try.ntmps36
    go_wp2_with fail
    refine (valid_any A c l _ HL.out).mono ?_
    rintro e w1 ⟨rfl, hb1⟩
    rw [HV.out]
    go_wp2
    go_ret2
    exact ⟨_, rfl, World.ownsRow_nil _ _ _ _, hb1⟩
  · have hv2 : validB l2 = false := by simpa [hv1] using hv
    have HV := Lib.hid hv1; clear hv1 hv
    have HV2 := Lib.hid hv2; clear hv2
    go_enter Try.func36, Try.ntmps36
    go_wp2_with fail
    refine (valid_any A c l _ HL.out).mono ?_
    rintro e w1 ⟨rfl, hb1⟩
    rw [HV.out]
    go_wp2_with fail
    refine (valid_any A2 c2 l2 _ (HL2.out.now hb1)).mono ?_
    rintro e w2 ⟨rfl, hb2⟩
    rw [HV2.out]
    go_wp2
    go_ret2
    exact ⟨_, rfl, World.ownsRow_nil _ _ _ _, hb1.trans (hb2.mono hb1.size)⟩

/-- The loop, from the two canonical lists on. -/
structure SumIn (w : World) (B : Nat) (A A2 : Option Addr) (a b : List XY) : Prop where
  ra : Rd w B A a
  rb : Rd w B A2 b

set_option maxRecDepth 100000 in
set_option maxHeartbeats 8000000 in
theorem Sum_yes (A A2 : Option Addr) (c c2 : Nat) (l l2 : List XY) (w : World) (hv1 : validB l = true) (hv2 : validB l2 = true) (hc : l.length ≤ c) (hc2 : l2.length ≤ c2) (N : Nat) (S : SumPath (canonL l) (canonL l2) N)
    (hl : Rd w w.heap.size A l) (hl2 : Rd w w.heap.size A2 l2) :
    Calls Try.prog 36 #[.slice A l.length c, .slice A2 l2.length c2] w (RetO2 (sumRes (outL (canonL l) (canonL l2) N)).1 (sumRes (outL (canonL l) (canonL l2) N)).2 w) := by
  have HL := Lib.hid hl; clear hl
  have HL2 := Lib.hid hl2; clear hl2
  obtain ⟨out, hout, hlen, _, hcan, _, hbd, _, _, _⟩ := sum_facts hv1 hv2 S
  obtain ⟨_, _, ba, lena, _, _, _, _⟩ := sorted_canon hv1
  obtain ⟨_, _, bb, lenb, _, _, _, _⟩ := sorted_canon hv2
  have lo := validB_len' hv1
  have lo2 := validB_len' hv2
  have hca := canon_any (w := w) (A := A) (c := c) hv1 hc HL.out
  have hca2 : ∀ w', Below w.heap.size w w' → Calls Try.prog 62 #[.slice A2 l2.length c2] w' (RetO (canonL l2) w') := fun w' hb => canon_any hv2 hc2 (HL2.out.now hb)
  have hca1 : ∀ w', Below w.heap.size w w' → Calls Try.prog 62 #[.slice A l.length c] w' (RetO (canonL l) w') := fun w' hb => canon_any hv1 hc (HL.out.now hb)
  clear hca
  have HC1 := Lib.hid hca1; clear hca1
  have HC2 := Lib.hid hca2; clear hca2
  have HV := Lib.hid hv1; clear hv1
  have HV2 := Lib.hid hv2; clear hv2
  obtain ⟨i0, hi, hz0, hz1, hz2⟩ := info_parts Try.infoXY
  have HJ := Lib.hid hi; clear hi
  have hN64 : N ≤ 128 := by have := S.hi; omega
  have hla0 : 0 < (canonL l).length := by omega
  have hlb0 : 0 < (canonL l2).length := by omega
  have hla1 : (canonL l).length ≤ 64 := by omega
  have hlb1 : (canonL l2).length ≤ 64 := by omega
  generalize canonL l = a at *
  generalize canonL l2 = b at *
  have htn : ∀ i k, tnW a b i k = tn a b i k := tnW_eq ba bb
  clear lena lenb lo lo2
  have HS := Lib.hid S; clear S
  have HT := Lib.hid htn; clear htn
  have HBA := Lib.hid ba; clear ba
  have HBB := Lib.hid bb; clear bb
  have HOUT := Lib.hid hout; clear hout
  have HLEN := Lib.hid hlen; clear hlen
  have HCAN := Lib.hid hcan; clear hcan
  have HBD := Lib.hid hbd; clear hbd
  have hmx : Try.prog.follows .mixedOrders = true := by kernel_rfl
  go_enter Try.func36, Try.ntmps36
  go_wp2_with fail
  refine (valid_any A c l _ HL.out).mono ?_
  rintro e w1 ⟨rfl, hb1⟩
  rw [HV.out]
  go_wp2_with fail
  refine (valid_any A2 c2 l2 _ (HL2.out.now hb1)).mono ?_
  rintro e w2 ⟨rfl, hb2⟩
  rw [HV2.out]
  have hB2 := hb1.trans (hb2.mono hb1.size)
  clear hb1 hb2
  go_wp2_with fail
  refine (HC1.out _ hB2).mono ?_
  rintro e w3 ⟨v3, rfl, hown3, hb3⟩
  have hB3 := hB2.trans (hb3.mono hB2.size)
  clear hb3
  obtain ⟨A3, c3, rfl, hr3⟩ := own_rd hown3
  clear hown3
  have HR3 := Lib.hid hr3; clear hr3
  go_wp2_with fail
  refine (HC2.out _ hB3).mono ?_
  rintro e w4 ⟨v4, rfl, hown4, hb4⟩
  have hB4 := hB3.trans (hb4.mono hB3.size)
  obtain ⟨A4, c4, rfl, hr4⟩ := own_rd hown4
  clear hown4
  have HR4 := Lib.hid hr4; clear hr4
  have HR3b := Lib.hid (HR3.out.now hb4)
  clear HR3 hb4
  go_wp2
  obtain ⟨wE, hwE⟩ : ∃ wE, (w4.alloc (.cells #[] 37)) = wE := ⟨_, rfl⟩
  have hs4 := hB4.size
  have hBE : Below w4.heap.size w4 wE := by rw [← hwE]; (repeat (first | exact Below.refl _ _ | assumption | refine Below.alloc ?_ (by first | exact Nat.le_refl _ | exact Below.size (by assumption) | omega | (simp <;> omega)) _ | refine Below.setCell ?_ (by first | exact Nat.le_refl _ | exact Below.size (by assumption) | omega | (simp <;> omega)) _ | refine below_drewN ?_ _ | refine Below.drew ?_))
  have hown0 : OwnL wE w4.heap.size (.slice (some ⟨w4.heap.size, 0, none⟩) 0 0) [] := by rw [← hwE]; exact World.ownsRow_made (e := 37) (size := 2) w4 #[] 0 (Nat.le_refl _) (by unfold maxLen; omega) rfl
  have HRA := Lib.hid HR3b.out
  have HRB := Lib.hid HR4.out
  rw [hwE]
  clear hwE HR3b HR4 hB2 hB3
  go_loopw [8, 9, 10, 11, 12, 13, 14, 15] (fun v i k _ _ _ _ _ wr => ∃ j : Nat, j ≤ N ∧ i = .int .i64 ((st a b j).1 : Nat) ∧ k = .int .i64 ((st a b j).2 : Nat) ∧ OwnL wr w4.heap.size v (outL a b j) ∧ Below w4.heap.size w4 wr) (fun _ i k _ _ _ _ _ _ => a.length + b.length - (intOf i).toNat - (intOf k).toNat)
  case atStart => exact ⟨0, Nat.zero_le _, rfl, rfl, hown0, hBE⟩
  case round =>
    obtain ⟨j, hj, rfl, rfl, hown, hB⟩ := hrel
    have hI := HS.out.hI j hj
    have hia := hI.ia
    have hkb := hI.kb
    have hend : ¬ ((st a b j).1 < a.length ∨ (st a b j).2 < b.length) → j = N := fun hn => by
      rcases Nat.lt_or_ge j N with h | h
      · exact absurd (HS.out.hu j h) hn
      · omega
    have hstep : ((st a b j).1 < a.length ∨ (st a b j).2 < b.length) → j < N := fun hn => by
      rcases Nat.lt_or_ge j N with h | h
      · exact h
      · have e : j = N := by omega
        rw [e, HS.out.hN] at hn
        simp only at hn
        omega
    have hsucc := outL_succ a b j
    have hnx : st a b (j + 1) = nxt a b (st a b j) := rfl
    have hlenj := outL_length (a := a) (b := b) j
    obtain ⟨i, hi⟩ : ∃ i, (st a b j).1 = i := ⟨_, rfl⟩
    obtain ⟨k, hk⟩ : ∃ k, (st a b j).2 = k := ⟨_, rfl⟩
    have eij : st a b j = (i, k) := Prod.ext hi hk
    rw [eij] at hsucc hnx
    simp only [hi, hk] at hia hkb hend hstep ⊢
    have HO := Lib.hid hown; clear hown
    have HSU := Lib.hid hsucc; clear hsucc
    have HNX := Lib.hid hnx; clear hnx
    have HLJ := Lib.hid hlenj; clear hlenj
    clear hi hk eij hI
    by_cases hgo : i < a.length ∨ k < b.length
    · have hjN := hstep hgo
      clear hend hstep
      have hli : i % a.length < a.length := Nat.mod_lt _ hla0
      have hlk : k % b.length < b.length := Nat.mod_lt _ hlb0
      have hli1 : (i + 1) % a.length < a.length := Nat.mod_lt _ hla0
      have hlk1 : (k + 1) % b.length < b.length := Nat.mod_lt _ hlb0
      obtain ⟨x, hx⟩ := getElem?_of_lt hli
      obtain ⟨y, hy⟩ := getElem?_of_lt hlk
      obtain ⟨x1, hx1⟩ := getElem?_of_lt hli1
      obtain ⟨y1, hy1⟩ := getElem?_of_lt hlk1
      obtain ⟨ba, offa, hA, hba, cxx, cxy⟩ := (HRA.out.below hB) _ x hx
      subst hA
      obtain ⟨bb', offb, hA, hbb, cyx, cyy⟩ := (HRB.out.below hB) _ y hy
      subst hA
      have cx := cy_of hx
      have cx1 := cy_of hx1
      have cyk := cy_of hy
      have cyk1 := cy_of hy1
      have bx := HBA.out i
      have by' := HBB.out k
      have htn := HT.out i k
      have hpt : pt a b (i, k) = ad x y := by unfold pt; simp only; rw [cx, cyk]
      unfold tnW at htn
      rw [cx, cx1, cyk, cyk1] at htn
      rw [cx] at bx
      rw [cyk] at by'
      have hax : wrap64 (x.X + y.X) = (ad x y).X := w64_id (by have := ad_bd bx by'; unfold Bd at this; unfold ad at this; simp only at this; omega) (by have := ad_bd bx by'; unfold Bd at this; unfold ad at this; simp only at this; omega)
      have hay : wrap64 (x.Y + y.Y) = (ad x y).Y := w64_id (by have := ad_bd bx by'; unfold Bd at this; unfold ad at this; simp only at this; omega) (by have := ad_bd bx by'; unfold Bd at this; unfold ad at this; simp only at this; omega)
      have HPT := Lib.hid hpt; clear hpt
      have HTN := Lib.hid htn; clear htn
      have HAX := Lib.hid hax; clear hax
      have HAY := Lib.hid hay; clear hay
      have HX1 := Lib.hid hx1; clear hx1
      have HY1 := Lib.hid hy1; clear hy1
      clear hx hy cx cx1 cyk cyk1 bx by'
      have e1 : IntKind.i64.wrap ((i : Int) + 1) = (i : Int) + 1 := IntWalk.i64_in _ (by omega)
      have e2 : ((i : Int) + 1).tmod (a.length : Int) = ((i : Int) + 1) % (a.length : Int) := tmod_pos (by omega)
      have e3 : (i : Int).tmod (a.length : Int) = (i : Int) % (a.length : Int) := tmod_pos (by omega)
      obtain ⟨e4, e5⟩ := emod_bd (x := (i : Int) + 1) (n := a.length) hla0
      obtain ⟨e6, e7⟩ := emod_bd (x := (i : Int)) (n := a.length) hla0
      have e8 : (((i : Int) + 1) % (a.length : Int)).toNat = (i + 1) % a.length := emod_toNat rfl
      have e9 : ((i : Int) % (a.length : Int)).toNat = i % a.length := emod_toNat rfl
      have g1 : IntKind.i64.wrap ((k : Int) + 1) = (k : Int) + 1 := IntWalk.i64_in _ (by omega)
      have g2 : ((k : Int) + 1).tmod (b.length : Int) = ((k : Int) + 1) % (b.length : Int) := tmod_pos (by omega)
      have g3 : (k : Int).tmod (b.length : Int) = (k : Int) % (b.length : Int) := tmod_pos (by omega)
      obtain ⟨g4, g5⟩ := emod_bd (x := (k : Int) + 1) (n := b.length) hlb0
      obtain ⟨g6, g7⟩ := emod_bd (x := (k : Int)) (n := b.length) hlb0
      have g8 : (((k : Int) + 1) % (b.length : Int)).toNat = (k + 1) % b.length := emod_toNat rfl
      have g9 : ((k : Int) % (b.length : Int)).toNat = k % b.length := emod_toNat rfl
      have e10 : ¬ a = [] := ne_nil_of_lt hli
      have g10 : ¬ b = [] := ne_nil_of_lt hlk
      have hsB := hB.size
      have hbaw : ba < wr.heap.size := by omega
      have hbbw : bb' < wr.heap.size := by omega
      have HGO := Lib.hid hgo
      have hc1 : (decide ((i : Int) < (a.length : Int)) || decide ((k : Int) < (b.length : Int))) = true := by simp; omega
      go_upto_region 6 with fail
      go_cut [38] (fun v38 wx => v38 = .bool true ∧ wx = wr)
      case first =>
        go_wp2_with fail
        all_goals
          go_meet
          first
            | exact ⟨congrArg Value.bool (by simp [hgo]), rfl⟩
            | exact ⟨rfl, rfl⟩
      case rest =>
        obtain ⟨rfl, hwc⟩ := hcut
        obtain rfl : wr = _ := hwc.symm
        go_upto_region 7 with fail
        go_cut [11, 12] (fun v11 v12 wx => ∃ B C : Nat, v11 = .pointer (some ⟨B, 0, none⟩) ∧ v12 = .pointer (some ⟨C, 0, none⟩) ∧ Pt wx B x ∧ Pt wx C y ∧ wr.heap.size ≤ B ∧ wr.heap.size ≤ C ∧ B < wx.heap.size ∧ C < wx.heap.size ∧ Below wr.heap.size wr wx)
        case first =>
          go_region
          all_goals
            go_wp2_with fail
            go_meet
            refine ⟨_, _, rfl, rfl, ⟨by simp, by simp⟩, ⟨by simp, by simp⟩, by simp <;> omega, by simp <;> omega, by simp <;> omega, by simp <;> omega, by (repeat (first | exact Below.refl _ _ | assumption | refine Below.alloc ?_ (by first | exact Nat.le_refl _ | exact Below.size (by assumption) | omega | (simp <;> omega)) _ | refine Below.setCell ?_ (by first | exact Nat.le_refl _ | exact Below.size (by assumption) | omega | (simp <;> omega)) _ | refine below_drewN ?_ _ | refine Below.drew ?_))⟩
        case rest =>
          obtain ⟨B, C, rfl, rfl, ⟨hxx, hxy⟩, ⟨hyx, hyy⟩, hB1, hC1, hB2, hC2, hBx⟩ := hcut
          obtain ⟨wf, rfl⟩ : ∃ wf : World, wf = wc := ⟨_, rfl⟩
          have hown1 : OwnL wf w4.heap.size u8 (outL a b j) := own_below HO.out hBx
          have HO2 := Lib.hid hown1; clear hown1
          have hlj := HLJ.out
          have hzc := hBx.size
          go_wp2_with (at_builtin; refine wpList_append_own _ rfl _ _ 22 rfl w4.heap.size 37 i0 (.agg #[.int .i64 0, .int .i64 0]) 2 16 Try.underlying22 HJ.out hz0 hz1 hz2 rfl (by decide) _ _ _ rfl (HO2.out.alloc _) ⟨wf.heap.size, 0, none⟩ 1 1 [.int .i64 (wrap64 (x.X + y.X)), .int .i64 (wrap64 (x.Y + y.Y))] rfl rfl (by intro j u hj; match j, hj with | 0, hj => (simp at hj; subst hj; simp [Addr.add]) | 1, hj => (simp at hj; subst hj; simp [Addr.add]) | j + 2, hj => simp at hj) (by intro u hu; simp at hu; rcases hu with rfl | rfl <;> rfl) (by rw [hlj]; unfold maxLen; omega) (by rw [hlj]; omega) (by simp; omega) ?_; intro v' w5 hown' hgrow _)
          have hown2 : OwnL w5 w4.heap.size v' (outL a b (j + 1)) := by
            rw [HSU.out, HPT.out]
            have e := hown'
            unfold OwnL
            rw [flat_append]
            rw [HAX.out, HAY.out] at e
            simpa [flat_cons, flat_nil] using e
          have hk5 : ∀ p : Addr, (p.block < w4.heap.size ∨ (wr.heap.size ≤ p.block ∧ p.block < wf.heap.size)) → w5.cell? p = wf.cell? p := fun p hp => by
            refine (World.cell?_of_block (hgrow.block p.block (by simp; omega) (fun e => ?_))).trans (World.cell?_alloc_lt _ _ _ (by omega))
            have := HO.out.lt _ e.symm
            omega
          have hB5 : Below w4.heap.size w4 w5 := below_grown (w1 := wf.alloc (.cells #[.int .i64 (wrap64 (x.X + y.X)), .int .i64 (wrap64 (x.Y + y.Y))] 37)) ((hB.trans (hBx.mono hsB)).alloc (by omega) _) hgrow (fun j hj => (HO.out.lt j hj).1) (by simp; omega)
          obtain ⟨ba', offa', hA, _, dxx, dxy⟩ := (HRA.out.below hB5) _ x1 HX1.out
          obtain ⟨rfl, rfl⟩ : ba = ba' ∧ offa = offa' := by simpa using hA
          clear hA
          obtain ⟨bb2, offb', hA, _, dyx, dyy⟩ := (HRB.out.below hB5) _ y1 HY1.out
          obtain ⟨rfl, rfl⟩ : bb' = bb2 ∧ offb = offb' := by simpa using hA
          clear hA
          have pB : Pt w5 B x := ⟨(hk5 ⟨B, 0, none⟩ (.inr ⟨hB1, hB2⟩)).trans hxx, (hk5 ⟨B, 1, none⟩ (.inr ⟨hB1, hB2⟩)).trans hxy⟩
          have pC : Pt w5 C y := ⟨(hk5 ⟨C, 0, none⟩ (.inr ⟨hC1, hC2⟩)).trans hyx, (hk5 ⟨C, 1, none⟩ (.inr ⟨hC1, hC2⟩)).trans hyy⟩
          have hs5 := hgrow.size
          have hs5' : wf.heap.size < w5.heap.size := by simp at hs5; omega
          have hba5 : ba < w5.heap.size := by omega
          have hbb5 : bb' < w5.heap.size := by omega
          have HOW := Lib.hid hown2; clear hown2 hown' hgrow hk5 hxx hxy hyx hyy cxx cxy cyx cyy HO2
          have HB5 := Lib.hid hB5; clear hB5
          go_cut [13, 14] (fun v13 v14 wx => ∃ D E : Nat, v13 = .pointer (some ⟨D, 0, none⟩) ∧ v14 = .pointer (some ⟨E, 0, none⟩) ∧ Pt wx D x1 ∧ Pt wx E y1 ∧ D < wx.heap.size ∧ E < wx.heap.size ∧ Below w5.heap.size w5 wx)
          case first =>
            go_region
            all_goals
              go_wp2_with fail
              go_meet
              refine ⟨_, _, rfl, rfl, ⟨by simp, by simp⟩, ⟨by simp, by simp⟩, by simp <;> omega, by simp <;> omega, by (repeat (first | exact Below.refl _ _ | assumption | refine Below.alloc ?_ (by first | exact Nat.le_refl _ | exact Below.size (by assumption) | omega | (simp <;> omega)) _ | refine Below.setCell ?_ (by first | exact Nat.le_refl _ | exact Below.size (by assumption) | omega | (simp <;> omega)) _ | refine below_drewN ?_ _ | refine Below.drew ?_))⟩
          case rest =>
            obtain ⟨D, E, rfl, rfl, ⟨hzx, hzy⟩, ⟨hux, huy⟩, hD2, hE2, hBy⟩ := hcut
            obtain ⟨hxx, hxy⟩ := pB.below hBy (by omega)
            obtain ⟨hyx, hyy⟩ := pC.below hBy (by omega)
            have hzy' := hBy.size
            have hB2' : B < wc.heap.size := by omega
            have hC2' : C < wc.heap.size := by omega
            have hown3 := Lib.hid (own_below HOW.out hBy)
            have hB6 := Lib.hid (HB5.out.trans (hBy.mono HB5.out.size))
            clear HOW HB5 hBy
            have htn := HTN.out
            obtain ⟨t, ht⟩ : ∃ t, tn a b i k = t := ⟨_, rfl⟩
            have hnx := HNX.out
            unfold nxt at hnx
            simp only at hnx
            rw [ht] at htn hnx
            clear HTN HNX ht
            have HTN := Lib.hid htn; clear htn
            have HNX := Lib.hid hnx; clear hnx
            go_upto_region 13 with fail
            rw [HTN.out]
            by_cases c1 : k = b.length ∨ (i < a.length ∧ 0 < t)
            · have hnx := HNX.out
              rw [if_pos c1] at hnx
              have HN2 := Lib.hid hnx; clear hnx HNX
              have hil : i < a.length := by omega
              by_cases c0 : k = b.length
              · go_wp2
                go_roundw
                case rel => exact ⟨j + 1, hjN, by rw [HN2.out]; go_num, by rw [HN2.out], hown3.out, hB6.out⟩
                case measure => simp [intOf]; omega
              · have c2 : 0 < t := by omega
                go_wp2
                go_roundw
                case rel => exact ⟨j + 1, hjN, by rw [HN2.out]; go_num, by rw [HN2.out], hown3.out, hB6.out⟩
                case measure => simp [intOf]; omega
            · have hnx := HNX.out
              rw [if_neg c1] at hnx
              have hkl : k < b.length := by omega
              by_cases c2 : i = a.length ∨ t < 0
              · rw [if_pos c2] at hnx
                have HN2 := Lib.hid hnx; clear hnx HNX
                by_cases c0 : i = a.length
                · go_wp2
                  go_roundw
                  case rel => exact ⟨j + 1, hjN, by rw [HN2.out]; simp; omega, by rw [HN2.out]; go_num, hown3.out, hB6.out⟩
                  case measure => simp [intOf]; omega
                · have c3 : t < 0 := by omega
                  have c4 : ¬ 0 < t := by omega
                  have c5 : decide (0 < t) = false := by simp [c4]
                  have hil : i < a.length := by omega
                  go_wp2
                  go_roundw
                  case rel => exact ⟨j + 1, hjN, by rw [HN2.out], by rw [HN2.out]; go_num, hown3.out, hB6.out⟩
                  case measure => simp [intOf]; omega
              · rw [if_neg c2] at hnx
                have HN2 := Lib.hid hnx; clear hnx HNX
                have hil : i < a.length := by omega
                have ht0 : t = 0 := by omega
                go_wp2
                go_roundw
                case rel => exact ⟨j + 1, hjN, by rw [HN2.out]; go_num, by rw [HN2.out]; go_num, hown3.out, hB6.out⟩
                case measure => simp [intOf]; omega
    · have hjN := hend hgo
      clear hend hstep
      obtain rfl : i = a.length := by omega
      obtain rfl : k = b.length := by omega
      have hown := HO.out
      rw [hjN, HOUT.out] at hown
      clear hjN
      obtain ⟨A8, c8, rfl, hr8⟩ := own_rd hown
      have hBw := hB4.trans (hB.mono hs4)
      by_cases h64 : 64 < out.length
      · have HS2 : Hid (sumRes out = ([], 4)) := by unfold Hid sumRes; rw [if_pos (.inl h64)]
        go_wp2
        go_ret2
        rw [HOUT.out, HS2.out]
        exact ⟨_, rfl, World.ownsRow_nil _ _ _ _, hBw⟩
      · have HR8 := Lib.hid hr8; clear hr8
        cases hv : validB out
        · have HS2 : Hid (sumRes out = ([], 4)) := by unfold Hid sumRes; rw [if_pos (.inr hv)]
          have HVO := Lib.hid hv; clear hv
          go_wp2_with fail
          refine (valid_any A8 c8 out _ HR8.out).mono ?_
          rintro e w6 ⟨rfl, hb6⟩
          rw [HVO.out]
          go_wp2
          go_ret2
          rw [HOUT.out, HS2.out]
          exact ⟨_, rfl, World.ownsRow_nil _ _ _ _, hBw.trans (hb6.mono hBw.size)⟩
        · have HS2 : Hid (sumRes out = (canonL out, 0)) := by unfold Hid sumRes; rw [if_neg (by simp [hv, h64])]
          have HVO := Lib.hid hv; clear hv
          obtain ⟨_, _, hA8, _, hc8⟩ := own_rdc hown
          go_wp2_with fail
          refine (valid_any A8 c8 out _ HR8.out).mono ?_
          rintro e w6 ⟨rfl, hb6⟩
          rw [HVO.out]
          have hB6 := hBw.trans (hb6.mono hBw.size)
          go_wp2_with fail
          refine (canon_any HVO.out hc8 (HR8.out.now hb6)).mono ?_
          rintro e w7 ⟨v7, rfl, hown7, hb7⟩
          go_wp2
          go_ret2
          rw [HOUT.out, HS2.out]
          exact ⟨v7, rfl, own_base hown7 hB6.size, hB6.trans (hb7.mono hB6.size)⟩
end Go.Proofs.Ytimehkeaeffcaaa

/- Merge of the reference: the walk. -/
import Derived.Test.YthccpdefgjneiaaDoorOP24
namespace Go.Proofs.YthccpdefgjneiaaDoor
open Go.RowKit Go.Shelf Go.Maps
set_option linter.unusedSimpArgs false

/-- The list in the midst of the inner loop. -/
def partM (L : List GT) (x : GT) (m : Nat) : List GT := bumpAll (L.take m) x ++ L.drop m
theorem partM_zero (L : List GT) (x : GT) : partM L x 0 = L := by unfold partM bumpAll; simp
theorem partM_all (L : List GT) (x : GT) : partM L x L.length = bumpAll L x := by unfold partM; simp
theorem partM_len (L : List GT) (x : GT) {m : Nat} (h : m ≤ L.length) : (partM L x m).length = L.length := by
  unfold partM; rw [List.length_append, bumpAll_len, List.length_take, List.length_drop]; omega
theorem partM_get {L : List GT} {x y : GT} {m : Nat} (h : L[m]? = some y) : (partM L x m)[m]? = some y := by
  have hlt := (List.getElem?_eq_some_iff.1 h).1
  have hl : (bumpAll (L.take m) x).length = m := by rw [bumpAll_len, List.length_take]; omega
  unfold partM
  rw [List.getElem?_append_right (by omega), hl, Nat.sub_self, List.getElem?_drop, Nat.add_zero]; exact h
theorem partM_step {L : List GT} {x y : GT} {m : Nat} (h : L[m]? = some y) : partM L x (m + 1) = (partM L x m).set m (if sameK y x then bump y x else y) := by
  have hlt := (List.getElem?_eq_some_iff.1 h).1
  have hl : (bumpAll (L.take m) x).length = m := by rw [bumpAll_len, List.length_take]; omega
  have hd : L.drop m = y :: L.drop (m + 1) := by rw [List.drop_eq_getElem_cons hlt, (List.getElem?_eq_some_iff.1 h).2]
  have hb : bumpAll (L.take (m + 1)) x = bumpAll (L.take m) x ++ [if sameK y x then bump y x else y] := by unfold bumpAll; rw [take_succ_of h, List.map_append]; rfl
  unfold partM
  rw [hb, hd, List.set_append_right _ _ (by omega), hl, Nat.sub_self]
  simp
theorem partM_hit {L : List GT} {x y : GT} {m : Nat} (h : L[m]? = some y) (hs : sameK y x = true) : partM L x (m + 1) = (partM L x m).set m ⟨y.m, y.c, y.z, wrap64 (y.n + x.n)⟩ := by
  rw [partM_step h, if_pos hs]; rfl
theorem partM_miss {L : List GT} {x y : GT} {m : Nat} (h : L[m]? = some y) (hs : sameK y x = false) : partM L x (m + 1) = partM L x m := by
  rw [partM_step h, if_neg (by rw [hs]; simp)]
  apply List.ext_getElem?
  intro i
  rw [List.getElem?_set]
  split
  · next e =>
    subst e
    have := partM_get (x := x) h
    rw [this, if_pos (List.getElem?_eq_some_iff.1 this).1]
  · rfl
theorem AtG.grown {w w' : World} {B : Nat} {row : Option Nat} {x : GT} (h : AtG w B x) (hg : w.grownBy w' row) (hB : B < w.heap.size) (hne : some B ≠ row) : AtG w' B x := by
  have hk := hg.block B hB hne
  have hc : ∀ o, w'.cell? ⟨B, o, none⟩ = w.cell? ⟨B, o, none⟩ := fun o => by simp [World.cell?, hk]
  exact ⟨(hc _).trans h.c0, (hc _).trans h.c1, (hc _).trans h.c2, (hc _).trans h.c3⟩

set_option maxRecDepth 100000 in
set_option maxHeartbeats 4000000 in
theorem Merge2_any (f : FT) (w : World) (h : OkF w f) : Calls Tryd.prog 40 #[valF f] w (RetM f w) := by
  have HA := Lib.hid h; clear h
  have hmx : Tryd.prog.follows .mixedOrders = true := by kernel_rfl
  obtain ⟨i0, hi0, hz0', hz1', hz2'⟩ := info8_partsG Tryd.info8G
  have HJ := Lib.hid hi0; clear hi0
  obtain ⟨w0, hw0⟩ : ∃ w0, (w.alloc (.cells #[.string f.cu, .int .i64 f.d, .string f.cr, .slice f.A f.ls.length f.cp] 30)).alloc (.cells #[.string ⟨#[]⟩, .int .i64 0, .string ⟨#[]⟩, .slice none 0 0] 30) = w0 := ⟨_, rfl⟩
  have hB0 : Below w.heap.size w w0 := by rw [← hw0]; (repeat (first | exact Below.refl _ _ | assumption | refine Below.alloc ?_ (by first | exact Nat.le_refl _ | exact Below.size (by assumption) | omega | (simp <;> omega)) _ | refine Below.setCell ?_ (by first | exact Nat.le_refl _ | exact Below.size (by assumption) | omega | (simp <;> omega)) _ | refine below_drewN ?_ _ | refine Below.drew ?_))
  have hz0 : w0.heap.size = w.heap.size + 2 := by rw [← hw0]; simp
  have HF : Hid (BlF w0 w.heap.size f (.slice f.A f.ls.length f.cp)) := by
    rw [← hw0]; exact (BlF.new w f _).below (C := w.heap.size + 1) (by (repeat (first | exact Below.refl _ _ | assumption | refine Below.alloc ?_ (by first | exact Nat.le_refl _ | exact Below.size (by assumption) | omega | (simp <;> omega)) _ | refine Below.setCell ?_ (by first | exact Nat.le_refl _ | exact Below.size (by assumption) | omega | (simp <;> omega)) _ | refine below_drewN ?_ _ | refine Below.drew ?_))) (Nat.lt_succ_self _)
  have HR : Hid (BlF w0 (w.heap.size + 1) zeroF (.slice none 0 0)) := by
    rw [← hw0]
    have := BlF.new (w.alloc (.cells #[.string f.cu, .int .i64 f.d, .string f.cr, .slice f.A f.ls.length f.cp] 30)) zeroF (.slice none 0 0)
    rwa [World.size_alloc] at this
  obtain ⟨f0, f1, f2, f3⟩ := HF.out.c
  cases hv : validFS f
  · have HE := Lib.hid (show mergeE f = 3 by unfold mergeE; rw [hv]; rfl)
    have HV := Lib.hid hv; clear hv
    go_enter Tryd.func40, Tryd.ntmps40
    go_wp2_with fail
    clear hw0
    refine (validF2_any f _ (HA.out.now hB0)).mono ?_
    rintro e w2 ⟨rfl, hb2⟩
    rw [HV.out]
    have hB2 := hB0.trans (hb2.mono hB0.size)
    have HR2 := Lib.hid (HR.out.below hb2 (by omega))
    obtain ⟨r0, r1, r2, r3⟩ := HR2.out.c
    obtain ⟨g0, g1, g2, g3⟩ := HR2.out.f'
    have hz2 : w.heap.size + 1 < w2.heap.size := by have := hb2.size; omega
    simp only [zeroF] at r0 r1 r2
    go_wp2
    obtain ⟨q0, q1, q2, q3⟩ := HR2.out.rd zeroF (.slice none 0 0)
    simp only [zeroF] at q0 q1 q2 q3
    refine bodyPost_ret (v := .tuple #[valF zeroF, .int .i64 3]) (by simp [results, Tryd.results40, go_sem, q0, q1, q2, q3, zeroF]) rfl ?_
    exact ⟨zeroF, by rw [HE.out], .inr ⟨by rw [HE.out]; decide, rfl⟩, below_grown hB2 (putF_grown w2 (w.heap.size + 1) zeroF (.slice none 0 0)) (fun j hj => by cases hj; omega) hB2.size⟩
  have hlen : f.ls.length ≤ 40 := (form_lines hv).1
  have hE2 : mergeE f = if validFS (withL f none 0 (mergeK f.ls f.ls.length)) then 0 else 4 := by unfold mergeE; rw [hv]; rfl
  have HE := Lib.hid hE2; clear hE2
  have HV := Lib.hid hv; clear hv
  go_enter Tryd.func40, Tryd.ntmps40
  go_wp2_with fail
  clear hw0
  refine (validF2_any f _ (HA.out.now hB0)).mono ?_
  rintro e w2 ⟨rfl, hb2⟩
  rw [HV.out]
  have hB2 := hB0.trans (hb2.mono hB0.size)
  clear f0 f1 f2 f3
  obtain ⟨f0, f1, f2, f3⟩ := (HF.out.below hb2 (by omega)).c
  have hz2 : w.heap.size + 1 < w2.heap.size := by have := hb2.size; omega
  have hzw2 : w.heap.size < w2.heap.size := by omega
  obtain ⟨w3, hw3⟩ : ∃ w3, w2.alloc (.cells #[.string f.cu, .int .i64 f.d, .string f.cr, .slice none 0 0] 30) = w3 := ⟨_, rfl⟩
  have hb3 : Below w2.heap.size w2 w3 := by rw [← hw3]; (repeat (first | exact Below.refl _ _ | assumption | refine Below.alloc ?_ (by first | exact Nat.le_refl _ | exact Below.size (by assumption) | omega | (simp <;> omega)) _ | refine Below.setCell ?_ (by first | exact Nat.le_refl _ | exact Below.size (by assumption) | omega | (simp <;> omega)) _ | refine below_drewN ?_ _ | refine Below.drew ?_))
  have HO3 := Lib.hid (show BlF w3 w2.heap.size f (.slice none 0 0) by rw [← hw3]; exact BlF.new w2 f _)
  have HW3 := Lib.hid hw3; clear hw3
  go_wp2
  rw [HW3.out]
  clear f0 f1 f2 f3
  go_loopw [5, 6, 7, 8, 9] (fun i _ _ _ _ wr => ∃ (k : Nat) (v : Value), i = .int .i64 k ∧ k ≤ f.ls.length ∧ BlF wr w2.heap.size f v ∧ Own8G wr (w2.heap.size + 1) v (mergeK f.ls k) ∧ Below w2.heap.size w2 wr) (fun i _ _ _ _ _ => f.ls.length - (intOf i).toNat)
  case atStart => exact ⟨0, _, rfl, Nat.zero_le _, HO3.out, by unfold mergeK; exact World.ownsRow_nil _ _ _ _, hb3⟩
  case round =>
    obtain ⟨k, v, rfl, hk, hbl, hown, hB⟩ := hrel
    have HBL := Lib.hid hbl; clear hbl
    have HOW := Lib.hid hown; clear hown
    have hb0r := hb2.trans (hB.mono hb2.size)
    have hBw := hB2.trans (hB.mono hB2.size)
    have hsB := hB.size
    have hzB : w2.heap.size < wr.heap.size := (Array.getElem?_eq_some_iff.1 HBL.out).1
    have hmn := merge_nodup f.ls k
    have hml := merge_len f.ls k
    obtain ⟨f0, f1, f2, f3⟩ := (HF.out.below hb0r (by omega)).c
    have hzr0 : w.heap.size < wr.heap.size := by omega
    by_cases hlt : k < f.ls.length
    · obtain ⟨x, hx⟩ := getElem?_of_lt hlt
      have HMS := Lib.hid (merge_succ hx)
      obtain ⟨b, off, hA, hbb, d0, d1, d2, d3⟩ := (HA.out.rd.now hBw) k x hx
      clear hx f0 f1 f2
      obtain ⟨L, hL⟩ : ∃ L, mergeK f.ls k = L := ⟨_, rfl⟩
      rw [hL] at HMS HOW hmn hml
      clear hL
      have HML := Lib.hid hml; clear hml hmn
      obtain ⟨wz, hwz⟩ : ∃ wz, wr.alloc (.cells #[.string x.m, .int .i64 x.c, .int .i64 x.z, .int .i64 x.n] 64) = wz := ⟨_, rfl⟩
      have hbz : Below wr.heap.size wr wz := by rw [← hwz]; (repeat (first | exact Below.refl _ _ | assumption | refine Below.alloc ?_ (by first | exact Nat.le_refl _ | exact Below.size (by assumption) | omega | (simp <;> omega)) _ | refine Below.setCell ?_ (by first | exact Nat.le_refl _ | exact Below.size (by assumption) | omega | (simp <;> omega)) _ | refine below_drewN ?_ _ | refine Below.drew ?_))
      have hzz : wr.heap.size < wz.heap.size := by rw [← hwz]; simp
      have HZ := Lib.hid (show AtG wz wr.heap.size x by rw [← hwz]; exact AtG.new wr x)
      have HW := Lib.hid hwz; clear hwz
      have hBz := hB.trans (hbz.mono hB.size)
      have HAA := Lib.hid hA
      rw [hA] at f3; clear hA
      go_upto_region 8 with fail
      rw [HW.out]
      clear HW d0 d1 d2 d3 f3
      obtain ⟨A4, c4, hv4, hr4, hc4, _⟩ := own_rd8G HOW.out
      subst hv4
      clear hr4
      have HBz := Lib.hid (HBL.out.below hbz hzB)
      have HOz := Lib.hid (own_below8 HOW.out hbz)
      have hgw : Hid (∀ g, A4 = some g → g.block < wr.heap.size) := fun g hg => (HOW.out.lt g.block (by rw [hg]; rfl)).2
      obtain ⟨o0, o1, o2, o3⟩ := HBz.out.c
      have hzo : w2.heap.size < wz.heap.size := by omega
      have hlmI : (L.length : Int) ≤ 40 := by have := HML.out; omega
      go_wp2
      clear o0 o1 o2 o3
      obtain ⟨wo, rfl⟩ : ∃ wo : World, wo = wr := ⟨_, rfl⟩
      go_loopw [7, 8, 9] (fun th j _ wr => ∃ m : Nat, m ≤ L.length ∧ j = .int .i64 m ∧ th = .bool ((L.take m).any fun o => sameK o x) ∧ BlF wr w2.heap.size f (.slice A4 L.length c4) ∧ Own8G wr (w2.heap.size + 1) (.slice A4 L.length c4) (partM L x m) ∧ AtG wr wo.heap.size x ∧ wo.heap.size < wr.heap.size ∧ Below w2.heap.size w2 wr) (fun _ j _ _ => L.length - (intOf j).toNat)
      case atStart => exact ⟨0, Nat.zero_le _, rfl, rfl, HBz.out, by rw [partM_zero]; exact HOz.out, HZ.out, hzz, hBz⟩
      case round =>
        obtain ⟨m, hm, rfl, rfl, hbl, hown, hxx, hzj, hBj⟩ := hrel
        have HBL2 := Lib.hid hbl; clear hbl
        have HOW2 := Lib.hid hown; clear hown
        have HX2 := Lib.hid hxx; clear hxx
        obtain ⟨o0, o1, o2, o3⟩ := HBL2.out.c
        have hzo2 : w2.heap.size < wr.heap.size := by omega
        by_cases hlm : m < L.length
        · obtain ⟨y, hy⟩ := getElem?_of_lt hlm
          have HPG := Lib.hid (partM_get (x := x) hy)
          have HTK := Lib.hid (take_succ_of hy)
          obtain ⟨g, c', hvg, hgB, hgs, ⟨y0, y1, y2, y3⟩, hfr⟩ := own8G_form HOW2.out HPG.out
          have hvg3 : A4 = some ⟨g, 0, none⟩ ∧ c4 = c' := by injection hvg with a1 a2 a3; exact ⟨a1, a3⟩
          obtain ⟨rfl, rfl⟩ := hvg3
          have hgr : g < wo.heap.size := hgw.out _ rfl
          clear hvg
          obtain ⟨wy, hwy⟩ : ∃ wy, wr.alloc (.cells #[.string y.m, .int .i64 y.c, .int .i64 y.z, .int .i64 y.n] 64) = wy := ⟨_, rfl⟩
          have hby : Below wr.heap.size wr wy := by rw [← hwy]; (repeat (first | exact Below.refl _ _ | assumption | refine Below.alloc ?_ (by first | exact Nat.le_refl _ | exact Below.size (by assumption) | omega | (simp <;> omega)) _ | refine Below.setCell ?_ (by first | exact Nat.le_refl _ | exact Below.size (by assumption) | omega | (simp <;> omega)) _ | refine below_drewN ?_ _ | refine Below.drew ?_))
          have hzy : wr.heap.size < wy.heap.size := by rw [← hwy]; simp
          have HY := Lib.hid (show AtG wy wr.heap.size y by rw [← hwy]; exact AtG.new wr y)
          have HWY := Lib.hid hwy; clear hwy
          have hBy := hBj.trans (hby.mono hBj.size)
          go_upto_region 13 with fail
          rw [HWY.out]
          clear HWY y0 y1 y2 y3 o0 o1 o2 o3 hfr
          obtain ⟨v0, v1, v2, v3⟩ := HY.out
          have HXY := Lib.hid (HX2.out.below hby hzj)
          obtain ⟨x0, x1, x2, x3⟩ := HXY.out
          have HBY := Lib.hid (HBL2.out.below hby hzo2)
          have HOY := Lib.hid (own_below8 HOW2.out hby)
          obtain ⟨o0, o1, o2, o3⟩ := HBY.out.c
          have hzr1 : wo.heap.size < wy.heap.size := by omega
          have hzo3 : w2.heap.size < wy.heap.size := by omega
          have hstr := str_eq y.m x.m
          by_cases hs : sameK y x = true
          case neg =>
            have hsf : sameK y x = false := by simpa using hs
            have HP2 := Lib.hid (partM_miss hy hsf)
            have HAN : Hid (((L.take (m + 1)).any fun o => sameK o x) = (L.take m).any fun o => sameK o x) := by show _ = _; rw [HTK.out, List.any_append]; simp [hsf]
            have hnot : ¬ (y.m = x.m ∧ y.c = x.c ∧ y.z = x.z) := fun h => hs (sameK_iff.2 (by unfold keyG; rw [h.1, h.2.1, h.2.2]))
            clear hs hsf
            by_cases c1 : y.m = x.m
            case neg =>
              rw [decide_eq_false c1] at hstr
              clear c1 hnot hy
              go_wp2
              go_roundw
              case rel => exact ⟨m + 1, by omega, by go_num, by rw [HAN.out], HBY.out, by rw [HP2.out]; exact HOY.out, HXY.out, hzr1, hBy⟩
              case measure => simp [intOf]; omega
            rw [decide_eq_true c1] at hstr
            by_cases c2 : y.c = x.c
            case neg =>
              have c2b : (y.c == x.c) = false := by simpa using c2
              clear c1 hnot hy c2
              go_wp2
              go_roundw
              case rel => exact ⟨m + 1, by omega, by go_num, by rw [HAN.out], HBY.out, by rw [HP2.out]; exact HOY.out, HXY.out, hzr1, hBy⟩
              case measure => simp [intOf]; omega
            have c3 : ¬ y.z = x.z := fun h => hnot ⟨c1, c2, h⟩
            have c2b : (y.c == x.c) = true := by simpa using c2
            have c3b : (y.z == x.z) = false := by simpa using c3
            clear c1 hnot hy c2 c3
            go_wp2
            go_roundw
            case rel => exact ⟨m + 1, by omega, by go_num, by rw [HAN.out], HBY.out, by rw [HP2.out]; exact HOY.out, HXY.out, hzr1, hBy⟩
            case measure => simp [intOf]; omega
          have HP2 := Lib.hid (partM_hit hy hs)
          have HAN : Hid (((L.take (m + 1)).any fun o => sameK o x) = true) := by show _ = _; rw [HTK.out, List.any_append]; simp [hs]
          have hkk := sameK_iff.1 hs
          unfold keyG at hkk
          simp only [Prod.mk.injEq] at hkk
          obtain ⟨c1, c2, c3⟩ := hkk
          rw [decide_eq_true c1] at hstr
          have c2b : (y.c == x.c) = true := by simpa using c2
          have c3b : (y.z == x.z) = true := by simpa using c3
          have hps := HPG.out
          clear c1 c2 c3 hs hy
          obtain ⟨g', c', hvg', _, hgs', ⟨y0, y1, y2, y3⟩, hfr⟩ := own8G_form HOY.out HPG.out
          have hvg3 : g = g' ∧ c4 = c' := by injection hvg' with a1 a2 a3; injection a1 with a1; injection a1 with a1; exact ⟨a1, a3⟩
          obtain ⟨rfl, rfl⟩ := hvg3
          clear hvg' hps
          go_wp2
          go_roundw
          case rel =>
            have hpl : (partM L x m).length = L.length := partM_len L x (by omega)
            have st := own8G_set (l := partM L x m) (c := c4) (by rw [hpl]; exact HOY.out) HPG.out (wrap64 (y.n + x.n))
            rw [hpl] at st
            refine ⟨m + 1, by omega, by go_num, by rw [HAN.out], HBY.out.grown st.2 (fun e => by injection e with e; omega), ?_, HXY.out.grown st.2 hzr1 (fun e => by injection e with e; omega), by simpa using hzr1, below_grown hBy st.2 (fun i hi => by injection hi with hi; omega) hBy.size⟩
            rw [HP2.out]; exact st.1
          case measure => simp [intOf]; omega
        · obtain rfl : m = L.length := by omega
          have hpa : partM L x L.length = bumpAll L x := partM_all L x
          rw [List.take_length]
          rw [hpa] at HOW2
          clear hpa
          obtain ⟨x0, x1, x2, x3⟩ := HX2.out
          have hzj2 : wo.heap.size < wr.heap.size := hzj
          cases hany : L.any fun o => sameK o x
          rotate_left
          · have HAD : Hid (mergeK f.ls (k + 1) = bumpAll L x) := HMS.out.trans (by unfold addG; rw [if_pos hany])
            clear hany
            go_wp2
            go_roundw
            case rel => exact ⟨k + 1, _, by go_num, by omega, HBL2.out, by rw [HAD.out]; exact HOW2.out, hBj⟩
            case measure => simp [intOf]; omega
          · have HAD : Hid (mergeK f.ls (k + 1) = L ++ [x]) := HMS.out.trans (by unfold addG; rw [hany]; rfl)
            rw [bumpAll_none hany] at HOW2
            clear hany
            have hs5 := hBj.size
            go_wp2_with (at_builtin; go_loud (refine wpList_append_own _ rfl _ _ 28 rfl (w2.heap.size + 1) 64 i0 _ 4 40 Tryd.underlying28 HJ.out hz0' hz1' hz2' rfl (by decide) _ _ _ rfl (World.ownsRow.alloc HOW2.out _) ⟨wr.heap.size, 0, none⟩ 1 1 [.string x.m, .int .i64 x.c, .int .i64 x.z, .int .i64 x.n] rfl rfl (by intro j u hj; match j, hj with | 0, hj => (simp at hj; subst hj; simp [Addr.add]) | 1, hj => (simp at hj; subst hj; simp [Addr.add]) | 2, hj => (simp at hj; subst hj; simp [Addr.add]) | 3, hj => (simp at hj; subst hj; simp [Addr.add]) | j + 4, hj => simp at hj) (by intro u hu; simp at hu; rcases hu with rfl | rfl | rfl | rfl <;> rfl) (by have := HML.out; unfold maxLen; omega) (by have := HML.out; omega) (by simp; omega) ?_; intro v6 w6 hown6 hgrow _; have hb6 := below_grown (w1 := wr.alloc (.cells #[.string x.m, .int .i64 x.c, .int .i64 x.z, .int .i64 x.n] 64)) (hBj.alloc (by omega) (.cells #[.string x.m, .int .i64 x.c, .int .i64 x.z, .int .i64 x.n] 64)) hgrow (fun j hj => by have := (HOW2.out.lt j hj).1; omega) (by simp; omega); have HB6 : Hid (BlF w6 w2.heap.size f (.slice A4 L.length c4)) := (HBL2.out.below ((Below.refl wr.heap.size wr).alloc (Nat.le_refl _) (.cells #[.string x.m, .int .i64 x.c, .int .i64 x.z, .int .i64 x.n] 64)) hzo2).grown hgrow (fun e => by have := (HOW2.out.lt _ e.symm).1; omega); have hfr6 := HB6.out.f; obtain ⟨_, _, _, y3⟩ := HB6.out.c; have hz6 : w2.heap.size < w6.heap.size := (Array.getElem?_eq_some_iff.1 HB6.out).1; have own6 := own8G_snoc hown6 HAD.out; have HO6 := Lib.hid own6; clear own6 hown6 hgrow; obtain ⟨A7, c7, hvv, _, _, _⟩ := own_rd8G HO6.out; subst hvv))
            go_wp2
            go_roundw
            case rel => exact ⟨k + 1, _, by go_num, by omega, HB6.out.put _, own_set9 HO6.out _ rfl (Nat.lt_succ_self _) _, by (repeat (first | exact Below.refl _ _ | assumption | refine Below.alloc ?_ (by first | exact Nat.le_refl _ | exact Below.size (by assumption) | omega | (simp <;> omega)) _ | refine Below.setCell ?_ (by first | exact Nat.le_refl _ | exact Below.size (by assumption) | omega | (simp <;> omega)) _ | refine below_drewN ?_ _ | refine Below.drew ?_))⟩
            case measure => simp [intOf]; omega
    · obtain rfl : k = f.ls.length := by omega
      have hmm := merge_models f.ls f.ls.length
      obtain ⟨M, hM⟩ : ∃ M, mergeK f.ls f.ls.length = M := ⟨_, rfl⟩
      have hHE := HE.out
      rw [hM] at hHE HOW hml hmm
      have HMM := Lib.hid hM; clear hM
      have HE' := Lib.hid hHE; clear hHE
      obtain ⟨A9, c9, hv9, hr9, _, hA9⟩ := own_rd8G HOW.out
      have HA9 := Lib.hid hA9; clear hA9
      subst hv9
      have hOF : Hid (OkF wr (withL f A9 c9 M)) := ⟨HA.out.cu, HA.out.cr, fun g hg => by obtain ⟨x, hx, e⟩ := hmm g hg; rw [e]; exact HA.out.ml x hx, by show M.length ≤ maxLen; unfold maxLen; omega, hr9⟩
      have HR9 := Lib.hid hr9
      clear hr9 hmm hml hmn HOW HE
      have HRr := Lib.hid (HR.out.below (hb2.trans (hB.mono hb2.size)) (by omega))
      obtain ⟨o0, o1, o2, o3⟩ := HBL.out.c
      have hzr : w.heap.size + 1 < wr.heap.size := by omega
      obtain ⟨q, hq⟩ : ∃ q, validFS (withL f A9 c9 M) = q := ⟨_, rfl⟩
      have hq2 : validFS (withL f none 0 M) = q := hq
      rw [hq2] at HE'
      have HQ := Lib.hid hq; clear hq hq2
      go_wp2_with fail
      refine (validF2_any (withL f A9 c9 M) _ hOF.out).mono ?_
      rintro e w5 ⟨rfl, hb5⟩
      rw [HQ.out]
      have hBw5 := hBw.trans (hb5.mono hBw.size)
      have HR5 := Lib.hid (HRr.out.below hb5 hzr)
      obtain ⟨r0, r1, r2, r3⟩ := HR5.out.c
      obtain ⟨g0, g1, g2, g3⟩ := HR5.out.f'
      have hz5 : w.heap.size + 1 < w5.heap.size := by have := hb5.size; omega
      have hz6 : w2.heap.size < w5.heap.size := by have := hb5.size; omega
      clear o0 o1 o2 o3
      obtain ⟨o0, o1, o2, o3⟩ := (HBL.out.below hb5 hzB).c
      simp only [zeroF] at r0 r1 r2
      cases q
      · have HE3 := Lib.hid (show mergeE f = 4 from HE'.out)
        go_wp2
        obtain ⟨q0, q1, q2, q3⟩ := HR5.out.rd zeroF (.slice none 0 0)
        simp only [zeroF] at q0 q1 q2 q3
        refine bodyPost_ret (v := .tuple #[valF zeroF, .int .i64 4]) (by simp [results, Tryd.results40, go_sem, q0, q1, q2, q3, zeroF]) rfl ?_
        exact ⟨zeroF, by rw [HE3.out], .inr ⟨by rw [HE3.out]; decide, rfl⟩, below_grown hBw5 (putF_grown w5 (w.heap.size + 1) zeroF (.slice none 0 0)) (fun j hj => by cases hj; omega) hBw5.size⟩
      · have HE3 := Lib.hid (show mergeE f = 0 from HE'.out)
        go_wp2
        obtain ⟨q0, q1, q2, q3⟩ := HR5.out.rd f (.slice A9 M.length c9)
        refine bodyPost_ret (v := .tuple #[valF (withL f A9 c9 M), .int .i64 0]) (by simp [results, Tryd.results40, go_sem, q0, q1, q2, q3, withL]) rfl ?_
        exact ⟨withL f A9 c9 M, by rw [HE3.out], .inl ⟨HE3.out, A9, c9, by rw [HMM.out], by rw [HMM.out]; exact rdG_grown (HR9.out.now hb5) (putF_grown w5 (w.heap.size + 1) f (.slice A9 M.length c9)) (fun a ha e => by have := HA9.out a ha; injection e with e; omega)⟩, below_grown hBw5 (putF_grown w5 (w.heap.size + 1) f (.slice A9 M.length c9)) (fun j hj => by cases hj; omega) hBw5.size⟩
end Go.Proofs.YthccpdefgjneiaaDoor

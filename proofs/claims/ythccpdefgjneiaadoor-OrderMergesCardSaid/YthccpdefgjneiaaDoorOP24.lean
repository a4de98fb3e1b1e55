/- Merge of the program: the walk. -/
import Derived.Test.YthccpdefgjneiaaDoorOP23
import Derived.Test.YthccpdefgjneiaaDoorOP14
import Derived.Test.YthccpdefgjneiaaDoorOP21
import Derived.Test.YthccpdefgjneiaaDoorOP22
namespace Go.Proofs.YthccpdefgjneiaaDoor
open Go.RowKit Go.Shelf Go.Maps
set_option linter.unusedSimpArgs false

def mergeE (f : FT) : Int := if validFS f then (if validFS (withL f none 0 (mergeK f.ls f.ls.length)) then 0 else 4) else 3
/-- What Merge returns. -/
def OkM (w : World) (f G : FT) : Prop := (mergeE f = 0 ∧ ∃ A c, G = withL f A c (mergeK f.ls f.ls.length) ∧ RdG w w.heap.size A (mergeK f.ls f.ls.length)) ∨ (¬ mergeE f = 0 ∧ G = zeroF)
def RetM (f : FT) (w : World) (e : Ending) (w' : World) : Prop := ∃ G, e = .returned (.tuple #[valF G, .int .i64 (mergeE f)]) ∧ OkM w' f G ∧ Below w.heap.size w w'
theorem BlF.f' {w : World} {B : Nat} {f : FT} {v : Value} (h : BlF w B f v) : w.frozen? ⟨B, 0, none⟩ = false ∧ w.frozen? ⟨B, 1, none⟩ = false ∧ w.frozen? ⟨B, 2, none⟩ = false ∧ w.frozen? ⟨B, 3, none⟩ = false := by
  unfold BlF at h; exact ⟨by simp [World.frozen?, h], by simp [World.frozen?, h], by simp [World.frozen?, h], by simp [World.frozen?, h]⟩
theorem BlF.rd {w : World} {B : Nat} {f : FT} {v : Value} (h : BlF w B f v) (r : FT) (u : Value) : (w.setCell ⟨B, 0, none⟩ (.string r.cu)).cell? ⟨B, 0, none⟩ = some (.string r.cu) ∧ ((w.setCell ⟨B, 0, none⟩ (.string r.cu)).setCell ⟨B, 1, none⟩ (.int .i64 r.d)).cell? ⟨B, 1, none⟩ = some (.int .i64 r.d) ∧ (((w.setCell ⟨B, 0, none⟩ (.string r.cu)).setCell ⟨B, 1, none⟩ (.int .i64 r.d)).setCell ⟨B, 2, none⟩ (.string r.cr)).cell? ⟨B, 2, none⟩ = some (.string r.cr) ∧ ((((w.setCell ⟨B, 0, none⟩ (.string r.cu)).setCell ⟨B, 1, none⟩ (.int .i64 r.d)).setCell ⟨B, 2, none⟩ (.string r.cr)).setCell ⟨B, 3, none⟩ u).cell? ⟨B, 3, none⟩ = some u := by
  unfold BlF at h
  exact ⟨by simp [World.setCell, World.cell?, Array.getElem?_modify, h], by simp [World.setCell, World.cell?, Array.getElem?_modify, h], by simp [World.setCell, World.cell?, Array.getElem?_modify, h], by simp [World.setCell, World.cell?, Array.getElem?_modify, h]⟩
theorem putF_grown (w : World) (B : Nat) (r : FT) (u : Value) : w.grownBy ((((w.setCell ⟨B, 0, none⟩ (.string r.cu)).setCell ⟨B, 1, none⟩ (.int .i64 r.d)).setCell ⟨B, 2, none⟩ (.string r.cr)).setCell ⟨B, 3, none⟩ u) (some B) :=
  ⟨rfl, rfl, rfl, by simp [World.setCell], fun k _ hne => by
    have : B ≠ k := fun e => hne (by rw [e])
    simp [World.setCell, Array.getElem?_modify, this]⟩
theorem set_grown (w : World) (B o : Nat) (u : Value) : w.grownBy (w.setCell ⟨B, o, none⟩ u) (some B) :=
  ⟨rfl, rfl, rfl, by simp [World.setCell], fun k _ hne => by
    have : B ≠ k := fun e => hne (by rw [e])
    simp [World.setCell, Array.getElem?_modify, this]⟩
theorem rdG_grown {w w' : World} {row : Option Nat} {A : Option Addr} {l : List GT} (h : RdG w w.heap.size A l) (hg : w.grownBy w' row) (hne : ∀ a, A = some a → some a.block ≠ row) : RdG w' w'.heap.size A l := by
  intro i p hp
  obtain ⟨b, off, hA, hb, h0, h1, h2, h3⟩ := h i p hp
  have hk := hg.block b hb (hne _ hA)
  have hc : ∀ o, w'.cell? ⟨b, o, none⟩ = w.cell? ⟨b, o, none⟩ := fun o => by simp [World.cell?, hk]
  exact ⟨b, off, hA, Nat.lt_of_lt_of_le hb hg.size, (hc _).trans h0, (hc _).trans h1, (hc _).trans h2, (hc _).trans h3⟩
theorem merge_models (ls : List GT) : ∀ k, ∀ g ∈ mergeK ls k, ∃ x ∈ ls, g.m = x.m
  | 0 => by unfold mergeK; intro g hg; simp at hg
  | k + 1 => by
    have ih := merge_models ls k
    cases h : ls[k]? with
    | none =>
      have hl := List.getElem?_eq_none_iff.1 h
      have e : mergeK ls (k + 1) = mergeK ls k := by unfold mergeK; rw [List.take_of_length_le (by omega), List.take_of_length_le hl]
      rw [e]; exact ih
    | some x =>
      rw [merge_succ h]
      intro g hg
      unfold addG at hg
      split at hg
      · unfold bumpAll at hg
        obtain ⟨y, hy, rfl⟩ := List.mem_map.1 hg
        obtain ⟨z, hz, e⟩ := ih y hy
        refine ⟨z, hz, ?_⟩
        show (if sameK y x then bump y x else y).m = z.m
        split
        · exact e
        · exact e
      · rcases List.mem_append.1 hg with hg | hg
        · exact ih g hg
        · simp at hg; subst hg; exact ⟨g, List.mem_of_getElem? h, rfl⟩
set_option maxRecDepth 100000 in
set_option maxHeartbeats 4000000 in
theorem Merge_any (f : FT) (w : World) (h : OkF w f) : Calls Tryd.prog 39 #[valF f] w (RetM f w) := by
  have HA := Lib.hid h; clear h
  have hmx : Tryd.prog.follows .mixedOrders = true := by kernel_rfl
  obtain ⟨i0, hi0, hz0', hz1', hz2'⟩ := info8_partsG Tryd.info8G
  have HJ := Lib.hid hi0; clear hi0
  obtain ⟨w0, hw0⟩ : ∃ w0, (w.alloc (.cells #[.string f.cu, .int .i64 f.d, .string f.cr, .slice f.A f.ls.length f.cp] 30)).alloc (.cells #[.string ⟨#[]⟩, .int .i64 0, .string ⟨#[]⟩, .slice none 0 0] 30) = w0 := ⟨_, rfl⟩
  have hB0 : Below w.heap.size w w0 := by rw [← hw0]; (repeat (first | exact Below.refl _ _ | assumption | refine Below.alloc ?_ (by first | exact Nat.le_refl _ | exact Below.size (by assumption) | omega | (simp <;> omega)) _ | refine Below.setCell ?_ (by first | exact Nat.le_refl _ | exact Below.size (by assumption) | omega | (simp <;> omega)) _ | refine below_drewN ?_ _ | refine Below.drew ?_))
  have hz0 : w0.heap.size = w.heap.size + 2 := by rw [← hw0]; simp
  have HF : Hid (BlF w0 w.heap.size f (.slice f.A f.ls.length f.cp)) := by
    rw [← hw0]; exact (BlF.new w f _).below (C := w.heap.size + 1) (by (repeat (first | exact Below.refl _ _ | assumption | refine Below.alloc ?_ (by first | exact Nat.le_refl _ | exact Below.size (by assumption) | omega | (simp <;> omega)) _ | refine Below.setCell ?_ (by first | exact Nat.le_refl _ | exact Below.size (by assumption) | omega | (simp <;> omega)) _ | refine below_drewN ?_ _ | refine Below.drew ?_))) (Nat.lt_succ_self _)
  have HR : Hid (BlF w0 (w.heap.size + 1) zeroF (.slice none 0 0)) := by
    rw [← hw0]
    have := BlF.new (w.alloc (.cells #[.string f.cu, .int .i64 f.d, .string f.cr, .slice f.A f.ls.length f.cp] 30)) zeroF (.slice none 0 0)
    rwa [World.size_alloc] at this
  obtain ⟨f0, f1, f2, f3⟩ := HF.out.c
  cases hv : validFS f
  · have HE := Lib.hid (show mergeE f = 3 by unfold mergeE; rw [hv]; rfl)
    have HV := Lib.hid hv; clear hv
    go_enter Tryd.func39, Tryd.ntmps39
    go_wp2_with fail
    clear hw0
    refine (validF_any f _ (HA.out.now hB0)).mono ?_
    rintro e w2 ⟨rfl, hb2⟩
    rw [HV.out]
    have hB2 := hB0.trans (hb2.mono hB0.size)
    have HR2 := Lib.hid (HR.out.below hb2 (by omega))
    obtain ⟨r0, r1, r2, r3⟩ := HR2.out.c
    obtain ⟨g0, g1, g2, g3⟩ := HR2.out.f'
    have hz2 : w.heap.size + 1 < w2.heap.size := by have := hb2.size; omega
    simp only [zeroF] at r0 r1 r2
    go_wp2
    obtain ⟨q0, q1, q2, q3⟩ := HR2.out.rd zeroF (.slice none 0 0)
    simp only [zeroF] at q0 q1 q2 q3
    refine bodyPost_ret (v := .tuple #[valF zeroF, .int .i64 3]) (by simp [results, Tryd.results39, go_sem, q0, q1, q2, q3, zeroF]) rfl ?_
    exact ⟨zeroF, by rw [HE.out], .inr ⟨by rw [HE.out]; decide, rfl⟩, below_grown hB2 (putF_grown w2 (w.heap.size + 1) zeroF (.slice none 0 0)) (fun j hj => by cases hj; omega) hB2.size⟩
  have hlen : f.ls.length ≤ 40 := (form_lines hv).1
  have hE2 : mergeE f = if validFS (withL f none 0 (mergeK f.ls f.ls.length)) then 0 else 4 := by unfold mergeE; rw [hv]; rfl
  have HE := Lib.hid hE2; clear hE2
  have HV := Lib.hid hv; clear hv
  go_enter Tryd.func39, Tryd.ntmps39
  go_wp2_with fail
  clear hw0
  refine (validF_any f _ (HA.out.now hB0)).mono ?_
  rintro e w2 ⟨rfl, hb2⟩
  rw [HV.out]
  have hB2 := hB0.trans (hb2.mono hB0.size)
  clear f0 f1 f2 f3
  obtain ⟨f0, f1, f2, f3⟩ := (HF.out.below hb2 (by omega)).c
  have hz2 : w.heap.size + 1 < w2.heap.size := by have := hb2.size; omega
  have hzw2 : w.heap.size < w2.heap.size := by omega
  obtain ⟨w3, hw3⟩ : ∃ w3, w2.alloc (.cells #[.string f.cu, .int .i64 f.d, .string f.cr, .slice none 0 0] 30) = w3 := ⟨_, rfl⟩
  have hb3 : Below w2.heap.size w2 w3 := by rw [← hw3]; (repeat (first | exact Below.refl _ _ | assumption | refine Below.alloc ?_ (by first | exact Nat.le_refl _ | exact Below.size (by assumption) | omega | (simp <;> omega)) _ | refine Below.setCell ?_ (by first | exact Nat.le_refl _ | exact Below.size (by assumption) | omega | (simp <;> omega)) _ | refine below_drewN ?_ _ | refine Below.drew ?_))
  have HO3 := Lib.hid (show BlF w3 w2.heap.size f (.slice none 0 0) by rw [← hw3]; exact BlF.new w2 f _)
  have HW3 := Lib.hid hw3; clear hw3
  go_wp2
  rw [HW3.out]
  clear f0 f1 f2 f3
  go_loopw [6, 7, 17] (fun _ _ i wr => ∃ (k : Nat) (v : Value), i = .int .i64 k ∧ k ≤ f.ls.length ∧ BlF wr w2.heap.size f v ∧ Own8G wr (w2.heap.size + 1) v (mergeK f.ls k) ∧ Below w2.heap.size w2 wr) (fun _ _ i _ => f.ls.length - (intOf i).toNat)
  case atStart => exact ⟨0, _, rfl, Nat.zero_le _, HO3.out, by unfold mergeK; exact World.ownsRow_nil _ _ _ _, hb3⟩
  case round =>
    obtain ⟨k, v, rfl, hk, hbl, hown, hB⟩ := hrel
    have HBL := Lib.hid hbl; clear hbl
    have HOW := Lib.hid hown; clear hown
    have hBw := hB2.trans (hB.mono hB2.size)
    have hsB := hB.size
    have hzB : w2.heap.size < wr.heap.size := (Array.getElem?_eq_some_iff.1 HBL.out).1
    have hmn := merge_nodup f.ls k
    have hml := merge_len f.ls k
    by_cases hlt : k < f.ls.length
    · obtain ⟨x, hx⟩ := getElem?_of_lt hlt
      have HMS := Lib.hid (merge_succ hx)
      obtain ⟨b, off, hA, hbb, d0, d1, d2, d3⟩ := (HA.out.rd.now hBw) k x hx
      clear hx
      obtain ⟨L, hL⟩ : ∃ L, mergeK f.ls k = L := ⟨_, rfl⟩
      rw [hL] at HMS HOW hmn hml
      clear hL
      have HMN := Lib.hid hmn; clear hmn
      have HML := Lib.hid hml; clear hml
      obtain ⟨wz, hwz⟩ : ∃ wz, wr.alloc (.cells #[.string x.m, .int .i64 x.c, .int .i64 x.z, .int .i64 x.n] 64) = wz := ⟨_, rfl⟩
      have hbz : Below wr.heap.size wr wz := by rw [← hwz]; (repeat (first | exact Below.refl _ _ | assumption | refine Below.alloc ?_ (by first | exact Nat.le_refl _ | exact Below.size (by assumption) | omega | (simp <;> omega)) _ | refine Below.setCell ?_ (by first | exact Nat.le_refl _ | exact Below.size (by assumption) | omega | (simp <;> omega)) _ | refine below_drewN ?_ _ | refine Below.drew ?_))
      have hzz : wr.heap.size < wz.heap.size := by rw [← hwz]; simp
      have HZ := Lib.hid (show AtG wz wr.heap.size x by rw [← hwz]; exact AtG.new wr x)
      have HW := Lib.hid hwz; clear hwz
      have hBz := hB.trans (hbz.mono hB.size)
      rw [hA]; clear hA
      go_upto_region 8 with fail
      rw [HW.out]
      clear HW d0 d1 d2 d3
      obtain ⟨A4, c4, hv4, hr4, hc4, _⟩ := own_rd8G HOW.out
      subst hv4
      have HR4 := Lib.hid (hr4.now hbz); clear hr4
      have HBz := Lib.hid (HBL.out.below hbz hzB)
      obtain ⟨o0, o1, o2, o3⟩ := HBz.out.c
      have hzo : w2.heap.size < wz.heap.size := by omega
      have hte : Hid (TellsG 76 #[.pointer (some ⟨wr.heap.size, 0, none⟩)] (fun o => sameK o x) L wz) :=
        ⟨enters_of Tryd.func76 (by kernel_rfl) rfl, fun W p _ hW => merge1_any p x wr.heap.size W (Nat.lt_of_lt_of_le hzz hW.size) (HZ.out.below hW hzz)⟩
      have hIX := indexFuncG_any 76 #[.pointer (some ⟨wr.heap.size, 0, none⟩)] (fun o => sameK o x) A4 c4 L wz hte.out (by have := HML.out; omega) HR4.out
      cases hany : L.any fun o => sameK o x
      · have hneg : idxG (fun o => sameK o x) L = -1 := by unfold idxG; rw [hany]; rfl
        rw [hneg] at hIX
        have HIX := Lib.hid hIX; clear hIX hneg
        have HAD : Hid (mergeK f.ls (k + 1) = L ++ [x]) := HMS.out.trans (by unfold addG; rw [hany]; rfl)
        clear hany
        go_wp2_with fail
        refine HIX.out.mono ?_
        rintro e w5 ⟨rfl, hb5⟩
        have hB5 := hBz.trans (hb5.mono hBz.size)
        have hz5 : w2.heap.size < w5.heap.size := by have := hb5.size; omega
        have hzx : wr.heap.size < w5.heap.size := by have := hb5.size; omega
        obtain ⟨x0, x1, x2, x3⟩ := HZ.out.below hb5 hzz
        have HB5 := Lib.hid (HBz.out.below hb5 hzo)
        have HO5 := Lib.hid (own_below8 (own_below8 HOW.out hbz) hb5)
        clear o0 o1 o2 o3
        obtain ⟨o0, o1, o2, o3⟩ := HB5.out.c
        have hs5 := hB5.size
        go_wp2_with (at_builtin; go_loud (refine wpList_append_own _ rfl _ _ 28 rfl (w2.heap.size + 1) 64 i0 _ 4 40 Tryd.underlying28 HJ.out hz0' hz1' hz2' rfl (by decide) _ _ _ rfl (World.ownsRow.alloc HO5.out _) ⟨w5.heap.size, 0, none⟩ 1 1 [.string x.m, .int .i64 x.c, .int .i64 x.z, .int .i64 x.n] rfl rfl (by intro j u hj; match j, hj with | 0, hj => (simp at hj; subst hj; simp [Addr.add]) | 1, hj => (simp at hj; subst hj; simp [Addr.add]) | 2, hj => (simp at hj; subst hj; simp [Addr.add]) | 3, hj => (simp at hj; subst hj; simp [Addr.add]) | j + 4, hj => simp at hj) (by intro u hu; simp at hu; rcases hu with rfl | rfl | rfl | rfl <;> rfl) (by have := HML.out; unfold maxLen; omega) (by have := HML.out; omega) (by simp; omega) ?_; intro v6 w6 hown6 hgrow _; have hb6 := below_grown (w1 := w5.alloc (.cells #[.string x.m, .int .i64 x.c, .int .i64 x.z, .int .i64 x.n] 64)) (hB5.alloc (by omega) (.cells #[.string x.m, .int .i64 x.c, .int .i64 x.z, .int .i64 x.n] 64)) hgrow (fun j hj => by have := (HO5.out.lt j hj).1; omega) (by simp; omega); have HB6 : Hid (BlF w6 w2.heap.size f (.slice A4 L.length c4)) := (HB5.out.below ((Below.refl w5.heap.size w5).alloc (Nat.le_refl _) (.cells #[.string x.m, .int .i64 x.c, .int .i64 x.z, .int .i64 x.n] 64)) hz5).grown hgrow (fun e => by have := (HO5.out.lt _ e.symm).1; omega); have hfr6 := HB6.out.f; obtain ⟨_, _, _, y3⟩ := HB6.out.c; have hz6 : w2.heap.size < w6.heap.size := (Array.getElem?_eq_some_iff.1 HB6.out).1; have own6 := own8G_snoc hown6 HAD.out; have HO6 := Lib.hid own6; clear own6 hown6 hgrow; obtain ⟨A7, c7, hvv, _, _, _⟩ := own_rd8G HO6.out; subst hvv))
        go_wp2
        go_roundw
        case rel => exact ⟨k + 1, _, by go_num, by omega, HB6.out.put _, own_set9 HO6.out _ rfl (Nat.lt_succ_self _) _, by (repeat (first | exact Below.refl _ _ | assumption | refine Below.alloc ?_ (by first | exact Nat.le_refl _ | exact Below.size (by assumption) | omega | (simp <;> omega)) _ | refine Below.setCell ?_ (by first | exact Nat.le_refl _ | exact Below.size (by assumption) | omega | (simp <;> omega)) _ | refine below_drewN ?_ _ | refine Below.drew ?_))⟩
        case measure => simp [intOf]; omega
      · have hlt2 : L.findIdx (fun o => sameK o x) < L.length := List.findIdx_lt_length_of_exists (List.any_eq_true.1 hany)
        have hpos : idxG (fun o => sameK o x) L = (L.findIdx (fun o => sameK o x) : Nat) := by unfold idxG; rw [if_pos hany]
        have hsm : sameK (L[L.findIdx (fun o => sameK o x)]'hlt2) x = true := List.findIdx_getElem (p := fun o => sameK o x) (w := hlt2)
        obtain ⟨p, hp⟩ := getElem?_of_lt hlt2
        have hpe : L[L.findIdx (fun o => sameK o x)]'hlt2 = p := (List.getElem?_eq_some_iff.1 hp).2
        rw [hpe] at hsm
        obtain ⟨j, hj⟩ : ∃ j, L.findIdx (fun o => sameK o x) = j := ⟨_, rfl⟩
        rw [hj] at hp hpos hlt2
        rw [hpos] at hIX
        have HAD : Hid (mergeK f.ls (k + 1) = L.set j (bump p x)) := HMS.out.trans (set_bump HMN.out hp hsm).symm
        have HIX := Lib.hid hIX
        have HP := Lib.hid hp
        clear hIX hpos hsm hpe hj hp hany
        obtain ⟨g, c, hvg, hgB, _, _, _⟩ := own8G_form HOW.out HP.out
        have hvg2 : A4 = some ⟨g, 0, none⟩ ∧ c4 = c := by injection hvg with a1 a2 a3; exact ⟨a1, a3⟩
        obtain ⟨rfl, rfl⟩ := hvg2
        clear hvg
        go_wp2_with fail
        refine HIX.out.mono ?_
        rintro e w5 ⟨rfl, hb5⟩
        have hB5 := hBz.trans (hb5.mono hBz.size)
        have hz5 : w2.heap.size < w5.heap.size := by have := hb5.size; omega
        have hzx : wr.heap.size < w5.heap.size := by have := hb5.size; omega
        obtain ⟨x0, x1, x2, x3⟩ := HZ.out.below hb5 hzz
        have HB5 := Lib.hid (HBz.out.below hb5 hzo)
        have HO5 := Lib.hid (own_below8 (own_below8 HOW.out hbz) hb5)
        clear o0 o1 o2 o3
        obtain ⟨o0, o1, o2, o3⟩ := HB5.out.c
        obtain ⟨g', c', hvg', _, hgs, ⟨y0, y1, y2, y3⟩, hfr⟩ := own8G_form HO5.out HP.out
        have hvg3 : g = g' ∧ c4 = c' := by injection hvg' with a1 a2 a3; injection a1 with a1; injection a1 with a1; exact ⟨a1, a3⟩
        obtain ⟨rfl, rfl⟩ := hvg3
        clear hvg'
        have hjn : (0 : Int) ≤ (j : Int) := by omega
        go_wp2
        go_region_law (go_simp; done)
        all_goals
          go_wp2
          go_roundw
          case rel =>
            have st := own8G_set HO5.out HP.out (wrap64 (p.n + x.n))
            exact ⟨k + 1, .slice (some ⟨g, 0, none⟩) L.length c4, by go_num, by omega, (have hq : BlF (w5.setCell ⟨g, j * 4 + 3, none⟩ (.int .i64 (wrap64 (p.n + x.n)))) w2.heap.size f (.slice (some ⟨g, 0, none⟩) L.length c4) := HB5.out.grown st.2 (fun e => by injection e with e; omega); hq), by rw [HAD.out]; exact st.1.drew, below_drewN (below_grown hB5 st.2 (fun i hi => by injection hi with hi; omega) hB5.size) 1⟩
          case measure => simp [intOf]; omega
    · obtain rfl : k = f.ls.length := by omega
      have hmm := merge_models f.ls f.ls.length
      obtain ⟨M, hM⟩ : ∃ M, mergeK f.ls f.ls.length = M := ⟨_, rfl⟩
      have hHE := HE.out
      rw [hM] at hHE HOW hml hmm
      have HMM := Lib.hid hM; clear hM
      have HE' := Lib.hid hHE; clear hHE
      obtain ⟨A9, c9, hv9, hr9, _, hA9⟩ := own_rd8G HOW.out
      have HA9 := Lib.hid hA9; clear hA9
      subst hv9
      have hOF : Hid (OkF wr (withL f A9 c9 M)) := ⟨HA.out.cu, HA.out.cr, fun g hg => by obtain ⟨x, hx, e⟩ := hmm g hg; rw [e]; exact HA.out.ml x hx, by show M.length ≤ maxLen; unfold maxLen; omega, hr9⟩
      have HR9 := Lib.hid hr9
      clear hr9 hmm hml hmn HOW HE
      have HRr := Lib.hid (HR.out.below (hb2.trans (hB.mono hb2.size)) (by omega))
      obtain ⟨o0, o1, o2, o3⟩ := HBL.out.c
      have hzr : w.heap.size + 1 < wr.heap.size := by omega
      obtain ⟨q, hq⟩ : ∃ q, validFS (withL f A9 c9 M) = q := ⟨_, rfl⟩
      have hq2 : validFS (withL f none 0 M) = q := hq
      rw [hq2] at HE'
      have HQ := Lib.hid hq; clear hq hq2
      go_wp2_with fail
      refine (validF_any (withL f A9 c9 M) _ hOF.out).mono ?_
      rintro e w5 ⟨rfl, hb5⟩
      rw [HQ.out]
      have hBw5 := hBw.trans (hb5.mono hBw.size)
      have HR5 := Lib.hid (HRr.out.below hb5 hzr)
      obtain ⟨r0, r1, r2, r3⟩ := HR5.out.c
      obtain ⟨g0, g1, g2, g3⟩ := HR5.out.f'
      have hz5 : w.heap.size + 1 < w5.heap.size := by have := hb5.size; omega
      have hz6 : w2.heap.size < w5.heap.size := by have := hb5.size; omega
      clear o0 o1 o2 o3
      obtain ⟨o0, o1, o2, o3⟩ := (HBL.out.below hb5 hzB).c
      simp only [zeroF] at r0 r1 r2
      cases q
      · have HE3 := Lib.hid (show mergeE f = 4 from HE'.out)
        go_wp2
        obtain ⟨q0, q1, q2, q3⟩ := HR5.out.rd zeroF (.slice none 0 0)
        simp only [zeroF] at q0 q1 q2 q3
        refine bodyPost_ret (v := .tuple #[valF zeroF, .int .i64 4]) (by simp [results, Tryd.results39, go_sem, q0, q1, q2, q3, zeroF]) rfl ?_
        exact ⟨zeroF, by rw [HE3.out], .inr ⟨by rw [HE3.out]; decide, rfl⟩, below_grown hBw5 (putF_grown w5 (w.heap.size + 1) zeroF (.slice none 0 0)) (fun j hj => by cases hj; omega) hBw5.size⟩
      · have HE3 := Lib.hid (show mergeE f = 0 from HE'.out)
        go_wp2
        obtain ⟨q0, q1, q2, q3⟩ := HR5.out.rd f (.slice A9 M.length c9)
        refine bodyPost_ret (v := .tuple #[valF (withL f A9 c9 M), .int .i64 0]) (by simp [results, Tryd.results39, go_sem, q0, q1, q2, q3, withL]) rfl ?_
        exact ⟨withL f A9 c9 M, by rw [HE3.out], .inl ⟨HE3.out, A9, c9, by rw [HMM.out], by rw [HMM.out]; exact rdG_grown (HR9.out.now hb5) (putF_grown w5 (w.heap.size + 1) f (.slice A9 M.length c9)) (fun a ha e => by have := HA9.out a ha; injection e with e; omega)⟩, below_grown hBw5 (putF_grown w5 (w.heap.size + 1) f (.slice A9 M.length c9)) (fun j hj => by cases hj; omega) hBw5.size⟩
end Go.Proofs.YthccpdefgjneiaaDoor

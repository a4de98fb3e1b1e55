/- The program's Hull: the walk. -/
import Derived.Test.YtcbphodkaiknmaaHW6
namespace Go.Proofs.Ytcbphodkaiknmaa
open Go.RowKit
set_option linter.unusedSimpArgs false

set_option maxRecDepth 100000 in
set_option maxHeartbeats 4000000 in
theorem Hull_any (A : Option Addr) (c : Nat) (l : List XY) (w : World) (hl : Rd w w.heap.size A l) :
    ∃ r, HullIs l r ∧ Calls Try.prog 4 #[.slice A l.length c] w (RetO2 r.1 r.2 w) := by
  have HL := Lib.hid hl; clear hl
  by_cases h200 : 200 < l.length
  · refine ⟨([], 4), .inl ⟨h200, rfl⟩, ?_⟩
    have hI : (200 : Int) < (l.length : Int) := by omega
    go_enter Try.func4, Try.ntmps4
    go_wp2
    go_ret2
    exact ⟨_, rfl, World.ownsRow_nil _ _ _ _, Below.refl _ _⟩
  have hI : ¬ (200 : Int) < (l.length : Int) := by omega
  by_cases h0 : l.length = 0
  · refine ⟨([], 2), .inr (.inl ⟨by omega, .inl (List.length_eq_zero_iff.1 h0), rfl⟩), ?_⟩
    have hz : ((l.length : Int) == 0) = true := by simp [h0]
    clear hI
    have hI : ¬ (200 : Int) < (l.length : Int) := by omega
    go_enter Try.func4, Try.ntmps4
    go_wp2
    go_ret2
    exact ⟨_, rfl, World.ownsRow_nil _ _ _ _, Below.refl _ _⟩
  have hz : ((l.length : Int) == 0) = false := by simpa using h0
  have hne : ¬ l = [] := fun e => h0 (by rw [e]; rfl)
  have hA : ∀ a, A = some a → ∃ b off, a = ⟨b, off, none⟩ := fun a ha => by
    obtain ⟨p, hp⟩ := getElem?_of_lt (show 0 < l.length by omega)
    obtain ⟨b, off, hA, _⟩ := HL.out 0 p hp
    rw [hA] at ha
    injection ha with ha
    exact ⟨b, off, ha.symm⟩
  have hte : Hid (∀ W, Tells 10 #[] (fun p => !rangedB p) W) := fun W => ⟨enters_of Try.func10 (by kernel_rfl) rfl, fun W' p _ => hull1_any p W'⟩
  have hany : (l.any fun p => !rangedB p) = !(l.all rangedB) := by simp [List.all_eq_not_any_not]
  have HAN := Lib.hid hany; clear hany
  cases hr : l.all rangedB
  · refine ⟨([], 2), .inr (.inl ⟨by omega, .inr hr, rfl⟩), ?_⟩
    rw [hr] at HAN
    clear hr
    go_enter Try.func4, Try.ntmps4
    go_wp2_with fail
    refine (containsFunc_any 10 #[] (fun p => !rangedB p) A c l _ (hte.out _) (by omega) HL.out).mono ?_
    rintro e w1 ⟨rfl, hb1⟩
    rw [HAN.out]
    go_wp2
    go_ret2
    exact ⟨_, rfl, World.ownsRow_nil _ _ _ _, hb1⟩
  rw [hr] at HAN
  have hb5 : Hid (∀ x ∈ l, Bd 5000 x) := fun x hx => bd_of_ranged (List.all_eq_true.1 hr x hx)
  -- the sorted places
  obtain ⟨L, hL⟩ : ∃ L, l.mergeSort (fun x y => !decide (y.Y < x.Y ∨ (y.Y = x.Y ∧ y.X < x.X))) = L := ⟨_, rfl⟩
  have hLp : L.Perm l := by rw [← hL]; exact List.mergeSort_perm l _
  have hLs : L.Pairwise (fun a b => ¬ lx b a) := by
    rw [← hL]
    refine (List.pairwise_mergeSort (fun a b c h1 h2 => ?_) (fun a b => ?_) l).imp ?_
    · simp only [Bool.not_eq_true', decide_eq_false_iff_not] at h1 h2 ⊢; omega
    · simp only [Bool.or_eq_true, Bool.not_eq_true', decide_eq_false_iff_not]; omega
    · intro a b h
      simp only [Bool.not_eq_true', decide_eq_false_iff_not] at h
      unfold lx; exact h
  have hsort : Hid (∀ L', L'.Perm l → L'.Pairwise (fun a b => ¬ lx b a) → L' = L) := fun L' hp hs => by
    refine List.Perm.eq_of_pairwise (le := fun a b => ¬ lx b a) ?_ hs hLs (hp.trans hLp.symm)
    intro a b _ _ h1 h2
    exact lx_anti h2 h1
  obtain ⟨hSs, hSm, hSl⟩ := hull_sorted hLp hLs
  obtain ⟨S, hS⟩ : ∃ S, compL L = S := ⟨_, rfl⟩
  rw [hS] at hSs hSm hSl
  obtain ⟨hcat, hres⟩ := hull_is (by omega) (by omega) hr hSs hSm hSl
  have hS0 : 0 < S.length := by
    obtain ⟨x, hx⟩ := getElem?_of_lt (show 0 < l.length by omega)
    exact List.length_pos_of_mem ((hSm x).2 (List.mem_of_getElem? hx))
  have hbH : Hid (∀ x ∈ hullL S, Bd 5000 x) := by
    intro x hx
    rw [← hcat] at hx
    have hbS : ∀ x ∈ S, Bd 100000 x := fun x hx => (hb5.out x ((hSm x).1 hx)).mono (by omega)
    have e1 := chainW_eq hbS
    have e2 := chainW_eq (S := S.reverse) (fun x hx => hbS x (List.mem_reverse.1 hx))
    rw [e1, e2] at hx
    have hne2 : S ≠ [] := fun e => by rw [e] at hS0; simp at hS0
    have hC := arc_of half_up hne2 hSs
    have hD := arc_low hne2 hSs
    rcases List.mem_append.1 hx with h | h
    · exact hb5.out x ((hSm x).1 (hC.mem x (List.mem_reverse.2 (List.mem_of_mem_tail (List.mem_reverse.1 h)))))
    · exact hb5.out x ((hSm x).1 (hD.mem x (List.mem_reverse.2 (List.mem_of_mem_tail (List.mem_reverse.1 h)))))
  obtain ⟨H, hH⟩ : ∃ H, hullL S = H := ⟨_, rfl⟩
  rw [hH] at hcat hres hbH
  have hHlen : H.length ≤ 1000 := by
    rw [← hcat]
    have a := chainW_len S S.length
    have b := chainW_len S.reverse S.reverse.length
    rw [List.take_length] at a b
    simp only [List.length_append, List.length_reverse, List.length_tail] at a b ⊢
    omega
  obtain ⟨P1, hP1⟩ : ∃ P1, (chainW S).tail.reverse = P1 := ⟨_, rfl⟩
  obtain ⟨P2, hP2⟩ : ∃ P2, (chainW S.reverse).tail.reverse = P2 := ⟨_, rfl⟩
  rw [hP1, hP2] at hcat
  have hcl : P1.length + P2.length = H.length := by rw [← hcat, List.length_append]
  have HCAT := Lib.hid hcat
  have HCL := Lib.hid hcl
  have HHL := Lib.hid hHlen
  have HSS := Lib.hid hSs
  have HSL := Lib.hid hSl
  have HCS := Lib.hid hS
  have HP1 := Lib.hid hP1
  have HP2 := Lib.hid hP2
  have HRES := Lib.hid hres
  clear hcat hcl hHlen hSs hSl hS hP1 hP2 hH hLp hLs hL hSm hr
  obtain ⟨i0, hi, hz0', hz1', hz2'⟩ := info_parts Try.infoXY
  have HJ := Lib.hid hi; clear hi
  have key : ∀ K : List XY × Int, ((H.length < 3 ∧ K = ([], 2)) ∨ (3 ≤ H.length ∧ K = hull2Res H ∧ canonL H = H)) → Calls Try.prog 4 #[.slice A l.length c] w (RetO2 K.1 K.2 w) := by
    intro K hK
    have HK := Lib.hid hK; clear hK
    go_enter Try.func4, Try.ntmps4
    go_wp2_with fail
    refine (containsFunc_any 10 #[] (fun p => !rangedB p) A c l _ (hte.out _) (by omega) HL.out).mono ?_
    rintro e w1 ⟨rfl, hb1⟩
    rw [HAN.out]
    go_wp2_with fail
    refine (clone_any A c l _ (by omega) (HL.out.now hb1) hA).mono ?_
    rintro e w2 ⟨v2, rfl, hown2, hb2⟩
    have hB2 := hb1.trans (hb2.mono hb1.size)
    obtain ⟨g, c2, hv2, hg2⟩ := own_form hown2 (by omega)
    subst hv2
    have hgw : w.heap.size ≤ g := Nat.le_trans hb1.size hg2
    have HO2 := Lib.hid hown2; clear hown2
    go_wp2_with fail
    refine (sort_any g c2 l _ _ hb5.out (by omega) HO2.out).mono ?_
    rintro e w3 ⟨rfl, L', hp, hs, hown3, hG3⟩
    obtain rfl := hsort.out L' hp hs
    have hB3 := below_grown hB2 hG3 (fun k hk => by injection hk with hk; omega) hB2.size
    have hLl := hp.length_eq
    rw [← hLl] at hown3
    have HO3 := Lib.hid hown3
    clear hown3 hG3 hp hs
    have hcmp := compact_any g c2 L' w3 _ (by omega) HO3.out
    rw [HCS.out, hLl] at hcmp
    have HCMP := Lib.hid hcmp; clear hcmp
    go_wp2_with fail
    refine HCMP.out.mono ?_
    rintro e w4 ⟨rfl, hown4, hG4⟩
    have hB4 := below_grown hB3 hG4 (fun k hk => by injection hk with hk; omega) hB3.size
    have HO4 := Lib.hid hown4; clear hown4 hG4
    have hgl : Hid (g < w4.heap.size) := by
      rcases HO4.out.2 with ⟨e, _⟩ | ⟨g', cap, cur, e, hB, hg, _⟩
      · cases e
      · injection e with e1 e2 e3
        injection e1 with e1
        injection e1 with e1
        subst e1
        exact (Array.getElem?_eq_some_iff.1 hg).1
    have hrS : Hid (Rd w4 w4.heap.size (some ⟨g, 0, none⟩) S) := by
      obtain ⟨A4, c4, e, hr⟩ := own_rd HO4.out
      injection e with e1 e2 e3
      rw [e1]; exact hr
    go_wp2_with fail
    refine (chain_any (some ⟨g, 0, none⟩) c2 S w4 hS0 (by have := HSL.out; omega) hrS.out).mono ?_
    rintro e w5 ⟨v5, rfl, hown5, hb5'⟩
    rw [HP1.out] at hown5
    have hB5 := hB4.trans (hb5'.mono hB4.size)
    have HB5 := Lib.hid hb5'; clear hb5'
    have HO5 := Lib.hid hown5; clear hown5
    have HS5 := Lib.hid (own_below HO4.out HB5.out)
    go_wp2_with fail
    refine (reverse_any g c2 S w5 _ hS0 (by have := HSL.out; omega) HS5.out).mono ?_
    rintro e w6 ⟨⟨vr, rfl⟩, hown6, hG6⟩
    have hB6 := below_grown hB5 hG6 (fun k hk => by injection hk with hk; omega) hB5.size
    have HS6 := Lib.hid hown6; clear hown6
    have HO6 : Hid (OwnL w6 w4.heap.size v5 P1) := by
      refine World.ownsRow.kept HO5.out hG6 ?_
      rcases HO5.out.2 with ⟨e, _⟩ | ⟨g', cap, cur, e, hB, hg, _⟩
      · left; rw [e]; rfl
      · right
        rw [e]
        have := hgl.out
        intro hh
        simp [Value.ownBlock] at hh
        omega
    clear hG6
    obtain ⟨A5, c5, hv5, hr5, hc5, hn5, ha5, _⟩ := own_plain HO6.out
    subst hv5
    have HR5 := Lib.hid hr5; clear hr5
    have hA5 : Hid (∀ a, A5 = some a → ∃ b off, a = ⟨b, off, none⟩) := fun a ha => by obtain ⟨b, hb, _⟩ := ha5 a ha; exact ⟨b, 0, hb⟩
    clear hn5 ha5
    go_wp2_with fail
    refine (clone_any A5 c5 P1 w6 (by have := HCL.out; have := HHL.out; omega) HR5.out hA5.out).mono ?_
    rintro e w7 ⟨v7, rfl, hown7, hb7⟩
    have hB7 := hB6.trans (hb7.mono hB6.size)
    have HS7 := Lib.hid (own_below HS6.out hb7)
    have HO7 := Lib.hid (own_base hown7 hB6.size); clear hown7
    clear hb7
    have hrS7 : Hid (Rd w7 w7.heap.size (some ⟨g, 0, none⟩) S.reverse) := by
      have h := HS7.out
      rw [← List.length_reverse] at h
      obtain ⟨A4, c4, e, hr⟩ := own_rd h
      injection e with e1 e2 e3
      rw [e1]; exact hr
    go_wp2_with fail
    have hch := chain_any (some ⟨g, 0, none⟩) c2 S.reverse w7 (by rw [List.length_reverse]; exact hS0) (by rw [List.length_reverse]; have := HSL.out; omega) hrS7.out
    rw [List.length_reverse] at hch
    refine hch.mono ?_
    clear hch
    rintro e w8 ⟨v8, rfl, hown8, hb8⟩
    rw [HP2.out] at hown8
    have hB8 := hB7.trans (hb8.mono hB7.size)
    have HO8 := Lib.hid (own_below HO7.out hb8)
    clear hb8
    obtain ⟨A8, c8, hv8, _, _, hn8, _, hcell8⟩ := own_plain hown8
    subst hv8
    clear hown8
    have HN8 := Lib.hid hn8; clear hn8
    have HC8 := Lib.hid hcell8; clear hcell8
    have hend : ∀ v9 w9, w9.ownsRow w.heap.size 29 2 v9 (P1.length + P2.length) (flat P1 ++ flat P2) → w8.grownBy w9 v7.ownBlock → ∃ A9 c9, v9 = .slice A9 H.length c9 ∧ Rd w9 w9.heap.size A9 H ∧ H.length ≤ c9 ∧ Below w.heap.size w w9 ∧ (3 ≤ H.length → Calls Try.prog 18 #[.slice A9 H.length c9] w9 (RetO (canonL H) w9)) := by
      intro v9 w9 ho hg
      rw [← flat_append, HCAT.out, HCL.out] at ho
      obtain ⟨A9, c9, hv9, hr9, hc9⟩ := own_rdc ho
      refine ⟨A9, c9, hv9, hr9, hc9, below_grown hB8 hg (fun k hk => ?_) hB8.size, fun h3 => ?_⟩
      · rcases HO8.out.2 with ⟨e, _⟩ | ⟨g', cap, cur, e, hB, hg, _⟩
        · rw [e] at hk; cases hk
        · rw [e] at hk
          simp [Value.ownBlock] at hk
          omega
      · have h0 : 0 < H.length := by omega
        obtain ⟨k, hk, hik, hcl, _⟩ := canon_facts h0 (fun j => (hbH.out _ (cy_mem h0 j)).mono (by omega))
        exact canonical_any A9 c9 H w9 h0 (by have := HHL.out; omega) hc9 hr9 k hk hik hcl
    go_wp2_with (at_builtin; refine wpList_append_any9 rfl _ _ 22 rfl w.heap.size 29 i0 (.agg #[.int .i64 0, .int .i64 0]) 2 16 Try.underlying22 HJ.out hz0' hz1' hz2' rfl (by decide) _ P1.length (flat P1) rfl HO8.out A8 P2.length c8 (flat P2) rfl HN8.out (flat_length P2) HC8.out (fun u hu => flat_one hu) (by have := HCL.out; have := HHL.out; unfold maxLen; omega) (by have := HCL.out; have := HHL.out; omega) hB8.size ?_; intro v9 w9 hown9 hgr9; obtain ⟨A9, c9, hv9, hr9, hc9, hB9, hcan9⟩ := hend v9 w9 hown9 hgr9; subst hv9; clear hown9 hgr9; have HB9 := Lib.hid hB9; clear hB9; have HC9 := Lib.hid hcan9; clear hcan9)
    · have e : K = ([], 2) := by
        rcases HK.out with ⟨h3, e⟩ | ⟨h3, e, hcan⟩
        · exact e
        · exfalso; omega
      rw [e]
      go_ret2
      refine ⟨_, rfl, World.ownsRow_nil _ _ _ _, HB9.out⟩
    · have e : K = ([], 4) := by
        rcases HK.out with ⟨h3, e⟩ | ⟨h3, e, hcan⟩
        · exfalso; omega
        · rw [e]; unfold hull2Res; rw [if_neg (by omega), if_pos (by omega)]
      rw [e]
      go_ret2
      refine ⟨_, rfl, World.ownsRow_nil _ _ _ _, HB9.out⟩
    · have e : K = (H, 0) ∧ canonL H = H ∧ 3 ≤ H.length := by
        rcases HK.out with ⟨h3, e⟩ | ⟨h3, e, hcan⟩
        · exfalso; omega
        · rw [e]; unfold hull2Res; rw [if_neg (by omega), if_neg (by omega)]; exact ⟨rfl, hcan, h3⟩
      obtain ⟨rfl, hcan, h3⟩ := e
      have HCN := (HC9.out h3)
      rw [hcan] at HCN
      have HCN := Lib.hid HCN
      clear HK hcan
      go_wp2_with fail
      refine HCN.out.mono ?_
      rintro e w10 ⟨v10, rfl, hown10, hb10⟩
      have hB10 := HB9.out.trans (hb10.mono HB9.out.size)
      go_wp2
      go_ret2
      exact ⟨_, rfl, own_base hown10 HB9.out.size, hB10⟩
  rcases HRES.out with ⟨h3, hh⟩ | ⟨h3, hc, hh⟩
  · exact ⟨([], 2), hh, key _ (.inl ⟨h3, rfl⟩)⟩
  · exact ⟨hull2Res H, hh, key _ (.inr ⟨h3, rfl, hc⟩)⟩
end Go.Proofs.Ytcbphodkaiknmaa

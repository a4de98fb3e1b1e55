/- slices.Compact of an own list of corners: the walk. -/
import Derived.Test.YtcbphodkaiknmaaHW4
namespace Go.Proofs.Ytcbphodkaiknmaa
open Go.RowKit
set_option linter.unusedSimpArgs false

theorem zeroXY : ∀ w, (zeroValue 29).run Try.prog w = .ok (.agg #[.int .i64 0, .int .i64 0]) w := Try.zeroValue29
theorem run_clearXY (w : World) (g o n c : Nat) (hn : 0 < n) (hc : ∀ j, j < n * 2 → (w.cell? ⟨g, o + j, none⟩).isSome = true) (hf : ∀ j, j < n * 2 → w.frozen? ⟨g, o + j, none⟩ = false) :
    ∃ zs, ∀ ty, (Builtin.clear_ #[22] ty #[.slice (some ⟨g, o, none⟩) n c]).run Try.prog w = .ok (.tuple #[]) (w.setCells g o zs) := by
  obtain ⟨zs, hz⟩ : ∃ zs, (Builtin.zeroCells (Value.agg #[.int .i64 0, .int .i64 0]).cells n).toList = zs := ⟨_, rfl⟩
  have hl : zs.length = n * 2 := by rw [← hz, Array.length_toList, size_zeroCells]; rfl
  have h1 : ∀ v ∈ zs, v.oneCell' = true := fun v hv => by
    rw [← hz] at hv
    simp [Builtin.zeroCells, Value.cells] at hv
    obtain ⟨i, hi, rfl⟩ := hv
    rcases (show i % 2 = 0 ∨ i % 2 = 1 by omega) with e | e <;> rw [e] <;> rfl
  have hst := run_storeCells_cells (P := Try.prog) g o zs 0 w (by simpa [hl] using hc) (by simpa [hl] using hf) h1
  simp only [Nat.add_zero] at hst
  obtain ⟨m, rfl⟩ : ∃ m, n = m + 1 := ⟨n - 1, by omega⟩
  refine ⟨zs, fun ty => ?_⟩
  simp [Builtin.clear_, run_underlying Try.underlying22, zeroXY, hz, hst]
theorem own_cellsXY {w : World} {B g n c : Nat} {M : List XY} (h : OwnL w B (.slice (some ⟨g, 0, none⟩) n c) M) (hn : M.length = n) {i : Nat} {p : XY} (hp : M[i]? = some p) : w.cell? ⟨g, i * 2, none⟩ = some (.int .i64 p.X) ∧ w.cell? ⟨g, i * 2 + 1, none⟩ = some (.int .i64 p.Y) := by
  have hlt := (List.getElem?_eq_some_iff.1 hp).1
  unfold OwnL at h
  rw [hn] at h
  exact ⟨(h.cellAt (i * 2) (by omega)).trans (flat_x hp), (h.cellAt (i * 2 + 1) (by omega)).trans (flat_y hp)⟩
theorem own_frozenXY {w : World} {B g n c : Nat} {M : List XY} (h : OwnL w B (.slice (some ⟨g, 0, none⟩) n c) M) (o : Nat) : w.frozen? ⟨g, o, none⟩ = false := by
  unfold OwnL at h
  rcases h.2 with ⟨e, _⟩ | ⟨g', cap, cur, e, _, hg, _⟩
  · cases e
  · injection e with e1
    injection e1 with e1
    injection e1 with e1
    subst e1
    simp [World.frozen?, hg]
theorem own_capXY {w : World} {B g n c : Nat} {M : List XY} (h : OwnL w B (.slice (some ⟨g, 0, none⟩) n c) M) (hn : M.length = n) : n ≤ c := by
  unfold OwnL at h
  rw [hn] at h
  rcases h.2 with ⟨e, _⟩ | ⟨g', cap, cur, e, _, _, h1, _⟩
  · cases e
  · injection e with _ _ e3; omega
theorem below_grows {w w' : World} (h : Below w.heap.size w w') (row : Option Nat) : w.grownBy w' row := ⟨h.os, h.tape, h.output, h.size, fun k hk _ => h.block k hk⟩
set_option maxRecDepth 100000 in
set_option maxHeartbeats 4000000 in
theorem compact_any (g c : Nat) (l : List XY) (w : World) (B : Nat) (hm : l.length ≤ 1000000) (hown : OwnL w B (.slice (some ⟨g, 0, none⟩) l.length c) l) :
    Calls Try.prog 15 #[.slice (some ⟨g, 0, none⟩) l.length c] w fun e w' => e = .returned (.slice (some ⟨g, 0, none⟩) (compL l).length c) ∧ OwnL w' B (.slice (some ⟨g, 0, none⟩) (compL l).length c) (compL l) ∧ w.grownBy w' (some g) := by
  have HO := Lib.hid hown; clear hown
  have heq := run_eqXY
  have hgd := guardXY
  have hmx : Try.prog.follows .mixedOrders = true := by kernel_rfl
  obtain ⟨n, hn⟩ : ∃ n, l.length = n := ⟨_, rfl⟩
  have hcap := own_capXY HO.out rfl
  rw [hn] at HO hm hcap ⊢
  have HN := Lib.hid hn
  by_cases h2 : n < 2
  · have hc : compL l = l := by
      match l, hn with
      | [], _ => rfl
      | [x], _ => rfl
      | x :: y :: r, hn => simp at hn; omega
    have HCL := Lib.hid hc
    have hI : (n : Int) < 2 := by omega
    clear hn hc
    go_enter Try.func15, Try.ntmps15
    go_wp2
    go_ret
    rw [HCL.out, HN.out]
    exact ⟨rfl, HO.out, World.grownBy.refl _ _⟩
  have hI : ¬ (n : Int) < 2 := by omega
  clear hn
  go_enter Try.func15, Try.ntmps15
  go_wp2
  go_loopw [3] (fun i wr => ∃ k : Nat, 1 ≤ k ∧ k ≤ n ∧ i = .int .i64 k ∧ compL (l.take k) = l.take k ∧ OwnL wr B (.slice (some ⟨g, 0, none⟩) n c) l ∧ w.grownBy wr (some g)) (fun i _ => n - (intOf i).toNat)
  case atStart =>
    obtain ⟨x, hx⟩ := getElem?_of_lt (show 0 < l.length by rw [HN.out]; omega)
    refine ⟨1, Nat.le_refl _, by omega, rfl, ?_, HO.out, World.grownBy.refl _ _⟩
    rw [take_succ_of hx]; rfl
  case round =>
    obtain ⟨k, hk1, hk, rfl, hcl, hown, hG⟩ := hrel
    have HCL := Lib.hid hcl; clear hcl
    have HOW := Lib.hid hown; clear hown
    by_cases hlt : k < n
    · obtain ⟨x, hx⟩ := getElem?_of_lt (show k < l.length by rw [HN.out]; exact hlt)
      obtain ⟨k0, hk0⟩ : ∃ k0, k = k0 + 1 := ⟨k - 1, by omega⟩
      obtain ⟨y, hy⟩ := getElem?_of_lt (show k0 < l.length by rw [HN.out]; omega)
      obtain ⟨d0, d1⟩ := own_cellsXY HOW.out HN.out hx
      obtain ⟨e0, e1⟩ := own_cellsXY HOW.out HN.out hy
      have hgl : g < wr.heap.size := World.block_lt_of_cell? wr _ d0
      have HCC : Hid (∀ w', Below wr.heap.size wr w' → w'.cell? ⟨g, k * 2, none⟩ = some (.int .i64 x.X) ∧ w'.cell? ⟨g, k * 2 + 1, none⟩ = some (.int .i64 x.Y) ∧ w'.cell? ⟨g, k0 * 2, none⟩ = some (.int .i64 y.X) ∧ w'.cell? ⟨g, k0 * 2 + 1, none⟩ = some (.int .i64 y.Y)) := fun w' hC =>
        ⟨(hC.cell (p := ⟨g, k * 2, none⟩) hgl).trans d0, (hC.cell (p := ⟨g, k * 2 + 1, none⟩) hgl).trans d1, (hC.cell (p := ⟨g, k0 * 2, none⟩) hgl).trans e0, (hC.cell (p := ⟨g, k0 * 2 + 1, none⟩) hgl).trans e1⟩
      have w1 : IntKind.i64.wrap ((k : Int) - 1) = (k0 : Int) := by rw [IntWalk.i64_in _ (by omega)]; omega
      have hk0n : k0 < n := by omega
      have hlast : (l.take k).getLast? = some y := by rw [← HCL.out, hk0]; exact comp_last hy
      clear d0 d1 e0 e1
      by_cases hxy : x = y
      case neg =>
        have hne : (l.take (k + 1)) = l.take k ++ [x] := take_succ_of hx
        have HC2 : Hid (compL (l.take (k + 1)) = l.take (k + 1)) := by
          show _ = _
          rw [comp_succ hx, HCL.out]
          unfold compF
          rw [hlast, if_neg (fun e => hxy (Option.some.inj e).symm), hne]
        have hdf : decide (x = y) = false := decide_eq_false hxy
        clear hxy hne hlast hx hy hk0
        go_wp2
        refine region_qw (fun w' => Below wr.heap.size wr w') hmx (by kernel_rfl) (by (repeat (first | exact Below.refl _ _ | assumption | refine Below.alloc ?_ (by first | exact Nat.le_refl _ | exact Below.size (by assumption) | omega | (simp <;> omega)) _ | refine Below.setCell ?_ (by first | exact Nat.le_refl _ | exact Below.size (by assumption) | omega | (simp <;> omega)) _ | refine below_drewN ?_ _ | refine Below.drew ?_))) ?_
        repeat (first | (refine qw_read rfl (fun w' hC => by obtain ⟨d0, d1, e0, e1⟩ := HCC.out w' hC; clear hC; go_simp; rfl) ?_; simp only [Act.put, List.setIfInBounds_toArray, List.set_cons_succ, List.set_cons_zero]) | (refine qw_pass (by first | (simp [Region.wanted, yielded]; done) | (simp [Region.wanted, yielded]; intro h; cases h)) ?_; simp only [Act.put, List.setIfInBounds_toArray, List.set_cons_succ, List.set_cons_zero]))
        refine qw_nil ?_
        intro w9 hb9
        go_wp2
        go_roundw
        case rel => exact ⟨k + 1, by omega, by omega, by go_num, HC2.out, own_below HOW.out hb9, grown_same hG (below_grows hb9 _)⟩
        case measure => simp [intOf]; omega
      have hdt : decide (x = y) = true := decide_eq_true hxy
      have HC2 : Hid (compL (l.take (k + 1)) = l.take k) := by
        show _ = _
        rw [comp_succ hx, HCL.out]
        unfold compF
        rw [hlast, if_pos (by rw [hxy])]
      have hkc : ¬ c = k := by omega
      clear hlast hk0
      go_wp2
      refine region_qw (fun w' => Below wr.heap.size wr w') hmx (by kernel_rfl) (by (repeat (first | exact Below.refl _ _ | assumption | refine Below.alloc ?_ (by first | exact Nat.le_refl _ | exact Below.size (by assumption) | omega | (simp <;> omega)) _ | refine Below.setCell ?_ (by first | exact Nat.le_refl _ | exact Below.size (by assumption) | omega | (simp <;> omega)) _ | refine below_drewN ?_ _ | refine Below.drew ?_))) ?_
      repeat (first | (refine qw_read rfl (fun w' hC => by obtain ⟨d0, d1, e0, e1⟩ := HCC.out w' hC; clear hC; go_simp; rfl) ?_; simp only [Act.put, List.setIfInBounds_toArray, List.set_cons_succ, List.set_cons_zero]) | (refine qw_pass (by first | (simp [Region.wanted, yielded]; done) | (simp [Region.wanted, yielded]; intro h; cases h)) ?_; simp only [Act.put, List.setIfInBounds_toArray, List.set_cons_succ, List.set_cons_zero]))
      refine qw_nil ?_
      intro w9 hb9
      have hG9 := grown_same hG (below_grows hb9 (some g))
      have HO9 := Lib.hid (own_below HOW.out hb9)
      have hne2 := run_neXY
      have hkcI : (k : Int) ≤ (c : Int) := by omega
      have hknI : (k : Int) ≤ (n : Int) := by omega
      clear hdt hxy HCC w1
      go_wp2
      obtain ⟨wo, rfl⟩ : ∃ wo : World, wo = wr := ⟨_, rfl⟩
      go_loopw [3, 5] (fun v3 v5 ww => ∃ (M : List XY) (kk k2 : Nat), v3 = .int .i64 kk ∧ v5 = .int .i64 k2 ∧ M.length = n ∧ 1 ≤ k2 ∧ k + k2 ≤ n ∧ k ≤ kk ∧ kk + 1 ≤ k + k2 ∧ M.take kk = compL (l.take (k + k2)) ∧ (∀ i, k + k2 ≤ i + 1 → M[i]? = l[i]?) ∧ OwnL ww B (.slice (some ⟨g, 0, none⟩) n c) M ∧ w.grownBy ww (some g)) (fun _ v5 _ => n - (intOf v5).toNat)
      case atStart => exact ⟨l, k, 1, rfl, rfl, HN.out, Nat.le_refl _, by omega, Nat.le_refl _, Nat.le_refl _, HC2.out.symm, fun _ _ => rfl, HO9.out, hG9⟩
      case round =>
        obtain ⟨M, kk, k2, rfl, rfl, hML, h1, h2', h3, h4, htk, hsame, hownM, hGM⟩ := hrel
        have HML := Lib.hid hML; clear hML
        have HTK := Lib.hid htk; clear htk
        have HSM := Lib.hid hsame; clear hsame
        have HOM := Lib.hid hownM; clear hownM
        by_cases hlt2 : k + k2 < n
        · obtain ⟨x2, hx2⟩ := getElem?_of_lt (show k + k2 < l.length by rw [HN.out]; exact hlt2)
          obtain ⟨k3, hk3⟩ : ∃ k3, k2 = k3 + 1 := ⟨k2 - 1, by omega⟩
          obtain ⟨y2, hy2⟩ := getElem?_of_lt (show k + k3 < l.length by rw [HN.out]; omega)
          have mx : M[k + k2]? = some x2 := (HSM.out _ (by omega)).trans hx2
          have my : M[k + k3]? = some y2 := (HSM.out _ (by omega)).trans hy2
          obtain ⟨d0, d1⟩ := own_cellsXY HOM.out HML.out mx
          obtain ⟨e0, e1⟩ := own_cellsXY HOM.out HML.out my
          have hgl2 : g < wr.heap.size := World.block_lt_of_cell? wr _ d0
          rw [Nat.add_mul] at d0 d1 e0 e1
          have HCC : Hid (∀ w', Below wr.heap.size wr w' → w'.cell? ⟨g, k * 2 + k2 * 2, none⟩ = some (.int .i64 x2.X) ∧ w'.cell? ⟨g, k * 2 + k2 * 2 + 1, none⟩ = some (.int .i64 x2.Y) ∧ w'.cell? ⟨g, k * 2 + k3 * 2, none⟩ = some (.int .i64 y2.X) ∧ w'.cell? ⟨g, k * 2 + k3 * 2 + 1, none⟩ = some (.int .i64 y2.Y)) := fun w' hC =>
            ⟨(hC.cell (p := ⟨g, k * 2 + k2 * 2, none⟩) hgl2).trans d0, (hC.cell (p := ⟨g, k * 2 + k2 * 2 + 1, none⟩) hgl2).trans d1, (hC.cell (p := ⟨g, k * 2 + k3 * 2, none⟩) hgl2).trans e0, (hC.cell (p := ⟨g, k * 2 + k3 * 2 + 1, none⟩) hgl2).trans e1⟩
          have w1 : IntKind.i64.wrap ((k2 : Int) - 1) = (k3 : Int) := by rw [IntWalk.i64_in _ (by omega)]; omega
          have i1 : k3 < n - k := by omega
          have i2 : k2 < n - k := by omega
          have i3 : (k2 : Int) < ((n - k : Nat) : Int) := by omega
          have hlast2 : (compL (l.take (k + k2))).getLast? = some y2 := by rw [hk3, ← Nat.add_assoc]; exact comp_last hy2
          have hcs := comp_succ hx2
          clear d0 d1 e0 e1
          by_cases hxy2 : x2 = y2
          · have HC3 : Hid (compL (l.take (k + (k2 + 1))) = compL (l.take (k + k2))) := by
              show _ = _
              rw [← Nat.add_assoc, hcs]
              unfold compF
              rw [hlast2, if_pos (by rw [hxy2])]
            have hdt : decide (x2 = y2) = true := decide_eq_true hxy2
            clear hcs hlast2 mx my hx2 hy2 hk3 hxy2
            go_wp2
            refine region_qw (fun w' => Below wr.heap.size wr w') hmx (by kernel_rfl) (by (repeat (first | exact Below.refl _ _ | assumption | refine Below.alloc ?_ (by first | exact Nat.le_refl _ | exact Below.size (by assumption) | omega | (simp <;> omega)) _ | refine Below.setCell ?_ (by first | exact Nat.le_refl _ | exact Below.size (by assumption) | omega | (simp <;> omega)) _ | refine below_drewN ?_ _ | refine Below.drew ?_))) ?_
            repeat (first | (refine qw_read rfl (fun w' hC => by obtain ⟨d0, d1, e0, e1⟩ := HCC.out w' hC; clear hC; go_simp; rfl) ?_; simp only [Act.put, List.setIfInBounds_toArray, List.set_cons_succ, List.set_cons_zero]) | (refine qw_pass (by first | (simp [Region.wanted, yielded]; done) | (simp [Region.wanted, yielded]; intro h; cases h)) ?_; simp only [Act.put, List.setIfInBounds_toArray, List.set_cons_succ, List.set_cons_zero]))
            refine qw_nil ?_
            intro w8 hb8
            go_wp2
            go_roundw
            case rel => exact ⟨M, kk, k2 + 1, rfl, by go_num, HML.out, by omega, by omega, by omega, by omega, by rw [HC3.out]; exact HTK.out, fun i hi => HSM.out i (by omega), own_below HOM.out hb8, grown_same hGM (below_grows hb8 _)⟩
            case measure => simp [intOf]; omega
          · have HC3 : Hid (compL (l.take (k + (k2 + 1))) = compL (l.take (k + k2)) ++ [x2]) := by
              show _ = _
              rw [← Nat.add_assoc, hcs]
              unfold compF
              rw [hlast2, if_neg (fun e => hxy2 (Option.some.inj e).symm)]
            have hdf : decide (x2 = y2) = false := decide_eq_false hxy2
            obtain ⟨p, hp⟩ := getElem?_of_lt (show kk < M.length by rw [HML.out]; omega)
            have HPK := Lib.hid hp
            have HMX := Lib.hid mx
            have ikk : kk < n := by omega
            clear hcs hlast2 mx my hx2 hy2 hk3 hxy2 hp
            go_wp2
            refine region_qw (fun w' => Below wr.heap.size wr w') hmx (by kernel_rfl) (by (repeat (first | exact Below.refl _ _ | assumption | refine Below.alloc ?_ (by first | exact Nat.le_refl _ | exact Below.size (by assumption) | omega | (simp <;> omega)) _ | refine Below.setCell ?_ (by first | exact Nat.le_refl _ | exact Below.size (by assumption) | omega | (simp <;> omega)) _ | refine below_drewN ?_ _ | refine Below.drew ?_))) ?_
            repeat (first | (refine qw_read rfl (fun w' hC => by obtain ⟨d0, d1, e0, e1⟩ := HCC.out w' hC; clear hC; go_simp; rfl) ?_; simp only [Act.put, List.setIfInBounds_toArray, List.set_cons_succ, List.set_cons_zero]) | (refine qw_pass (by first | (simp [Region.wanted, yielded]; done) | (simp [Region.wanted, yielded]; intro h; cases h)) ?_; simp only [Act.put, List.setIfInBounds_toArray, List.set_cons_succ, List.set_cons_zero]))
            refine qw_nil ?_
            intro w8 hb8
            have HO8 := Lib.hid (own_below HOM.out hb8)
            obtain ⟨d0, d1, _, _⟩ := HCC.out w8 hb8
            obtain ⟨c0, c1⟩ := own_cellsXY HO8.out HML.out HPK.out
            have f0 := own_frozenXY HO8.out (kk * 2)
            have f1 := own_frozenXY HO8.out (kk * 2 + 1)
            have hG8 := grown_same hGM (below_grows hb8 (some g))
            have hOset : Hid (OwnL ((w8.setCell ⟨g, kk * 2, none⟩ (.int .i64 x2.X)).setCell ⟨g, kk * 2 + 1, none⟩ (.int .i64 x2.Y)) B (.slice (some ⟨g, 0, none⟩) n c) (M.set kk x2) ∧ w8.grownBy ((w8.setCell ⟨g, kk * 2, none⟩ (.int .i64 x2.X)).setCell ⟨g, kk * 2 + 1, none⟩ (.int .i64 x2.Y)) (some g)) := by
              have h := HO8.out
              unfold OwnL at h
              rw [HML.out] at h
              have s1 := h.stored (kk * 2) (.int .i64 x2.X)
              have s2 := s1.1.stored (kk * 2 + 1) (.int .i64 x2.Y)
              refine ⟨?_, grown_same s1.2 s2.2⟩
              unfold OwnL
              rw [List.length_set, HML.out, ← flat_setx x2 HPK.out]
              exact s2.1
            go_wp2
            go_roundw
            case rel =>
              refine ⟨M.set kk x2, kk + 1, k2 + 1, by go_num, by go_num, by rw [List.length_set]; exact HML.out, by omega, by omega, by omega, by omega, ?_, fun i hi => ?_, hOset.out.1, grown_same hG8 hOset.out.2⟩
              · rw [HC3.out, ← HTK.out]
                have hs : (M.set kk x2)[kk]? = some x2 := List.getElem?_set_self (by rw [HML.out]; exact ikk)
                rw [take_succ_of hs, List.take_set_of_le (Nat.le_refl _)]
              · rw [List.getElem?_set_ne (by omega)]
                exact HSM.out i (by omega)
            case measure => simp [intOf]; omega
        · have hkn : k + k2 = n := by omega
          have hce : M.take kk = compL l := by
            have := HTK.out
            rw [hkn, ← HN.out, List.take_length] at this
            exact this
          have hcl : (compL l).length = kk := by rw [← hce, List.length_take, HML.out]; omega
          have hkkn : kk < n := by omega
          have hzc : ∀ j, j < (n - kk) * 2 → (wr.cell? ⟨g, kk * 2 + j, none⟩).isSome = true := fun j hj => by
            have h := HOM.out
            unfold OwnL at h
            rw [HML.out] at h
            rw [h.cellAt (kk * 2 + j) (by omega), List.getElem?_eq_getElem (by rw [flat_length, HML.out]; omega)]; rfl
          obtain ⟨zs, hzs⟩ := run_clearXY wr g (kk * 2) (n - kk) (c - kk) (by omega) hzc (fun j _ => own_frozenXY HOM.out _)
          have hfin : Hid (OwnL (wr.setCells g (kk * 2) zs) B (.slice (some ⟨g, 0, none⟩) kk c) (compL l) ∧ wr.grownBy (wr.setCells g (kk * 2) zs) (some g)) := by
            have h := HOM.out
            unfold OwnL at h
            rw [HML.out] at h
            obtain ⟨xs', q1, q2, q3⟩ := own_cleared (k := kk) zs (kk * 2) wr (flat M) (Nat.le_refl _) h
            refine ⟨?_, q3⟩
            have q4 := own_take q1 (k := kk) (by omega)
            rw [q2, flat_take, hce] at q4
            unfold OwnL
            rw [hcl]
            exact q4
          have HCL2 := Lib.hid hcl
          have hkkc : ¬ c = kk := by omega
          have hkkcI : (kk : Int) ≤ (c : Int) := by omega
          have hkknI : (kk : Int) ≤ (n : Int) := by omega
          have hnlt : ¬ (k2 : Int) < ((n - k : Nat) : Int) := by omega
          have hnlt2 : ¬ k2 < n - k := by omega
          clear hzc hce hcl
          go_wp2
          go_ret
          rw [HCL2.out]
          exact ⟨rfl, hfin.out.1, grown_same hGM hfin.out.2⟩
    · obtain rfl : k = n := by omega
      have hce : compL l = l := by have := HCL.out; rwa [← HN.out, List.take_length] at this
      have HCE := Lib.hid hce; clear hce
      go_wp2
      go_ret
      rw [HCE.out, HN.out]
      exact ⟨rfl, HOW.out, hG⟩
end Go.Proofs.Ytcbphodkaiknmaa

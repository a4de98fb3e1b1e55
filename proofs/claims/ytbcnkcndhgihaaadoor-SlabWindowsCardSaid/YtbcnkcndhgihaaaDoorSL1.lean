/- Blocks: layer: the walk. Printed by genlay.py. -/
import Derived.Test.YtbcnkcndhgihaaaDoorSL0
namespace Go.Proofs.YtbcnkcndhgihaaaDoor
open Go.RowKit
set_option linter.unusedSimpArgs false

/-- A list of texts is returned. -/
def RetT (l : List ByteArray) (w : World) (e : Ending) (w' : World) : Prop := ∃ A c, e = .returned (.slice A l.length c) ∧ RdST w' w'.heap.size A l ∧ l.length ≤ c ∧ Below w.heap.size w w' 
set_option maxRecDepth 100000 in
set_option maxHeartbeats 8000000 in
theorem layer0_any (s : Sh) (hok : s.Ok) (a n : Int) (HAX : Hid (a = 0)) (hn0 : 0 ≤ n) (hn1 : n < s.ext.get 0) (w : World) : Calls Tryd.prog 59 #[.iface s.ty (.agg s.ag), .int .i64 a, .int .i64 n] w (RetT (layerS s 0 n) w) := by
  have HAT := Lib.hid (at_any s hok)
  have hco := at_col s hok
  have hbd := hok.ext
  have hx := s.me
  have hm := s.ma
  have he := s.ea
  have HRS : Hid (∀ m, layS s 0 n m = layS s 0 n m) := fun m => rfl
  obtain ⟨T, hT⟩ : ∃ T, s.ext = T := ⟨_, rfl⟩
  obtain ⟨t1, t2, t3⟩ := T
  have hLY : layerS s 0 n = layS s 0 n t3.toNat := by unfold layerS; rw [hT]; rfl
  have hLS : ∀ m, layS s 0 n (m + 1) = layS s 0 n m ++ [strB (lineS s 0 n m t2.toNat)] := fun m => by rw [lay_succ, hT]; rfl
  have HLS := Lib.hid hLS; clear hLS
  have HLY := Lib.hid hLY; clear hLY
  rw [hT] at hx hbd hn1 hco
  unfold ExtOk at hbd
  dsimp only [T3.get] at hbd hn1
  have HIN : Hid (∀ i j : Nat, i < t2.toNat → j < t3.toNat → InE ⟨t1, t2, t3⟩ ⟨n, (i : Int), (j : Int)⟩) := by
    intro i j h1 h2
    unfold InE
    simp at hn1
    refine ⟨⟨?_, ?_⟩, ⟨?_, ?_⟩, ?_, ?_⟩ <;> (dsimp only; omega)
  have HCO : Hid (∀ j : Nat, j < t3.toNat → ∀ x ∈ lineS s 0 n j t2.toNat, 0 ≤ x ∧ x ≤ 255) := by
    intro j hj x hxm
    unfold lineS at hxm
    obtain ⟨i, hi, rfl⟩ := List.mem_map.1 hxm
    have := hco _ (HIN.out i j (List.mem_range.1 hi) hj)
    show 0 ≤ s.at ⟨n, (i : Int), (j : Int)⟩ ∧ s.at ⟨n, (i : Int), (j : Int)⟩ ≤ 255
    omega
  have HT := Lib.hid hT
  clear hco
  obtain ⟨np, hnp⟩ : ∃ np : Nat, t2 = (np : Int) := ⟨t2.toNat, by omega⟩
  obtain ⟨nq, hnq⟩ : ∃ nq : Nat, t3 = (nq : Int) := ⟨t3.toNat, by omega⟩
  have hnp2 : t2.toNat = np := by omega
  have hnq2 : t3.toNat = nq := by omega
  rw [hnp2] at HLS HIN HCO
  rw [hnq2] at HLY HIN HCO
  subst hnp hnq
  have hnpb : np ≤ 200 := by omega
  have hnqb : nq ≤ 200 := by omega
  clear hbd hn0 hn1 hnp2 hnq2 hT
  obtain ⟨i0, hj0, hz0, hz1, hz2⟩ := infoS_partsI Tryd.infoSI
  have HJI := Lib.hid hj0; clear hj0
  obtain ⟨i1, hj1, hy0, hy1, hy2⟩ := infoS_partsY Tryd.infoSY
  have HJY := Lib.hid hj1; clear hj1
  obtain ⟨i2, hj2, hx0, hx1, hx2⟩ := infoS_partsT Tryd.infoST
  have HJT := Lib.hid hj2; clear hj2
  go_enter Tryd.func59, Tryd.ntmps59
  go_wp2
  go_loopw [7, 8, 15] (fun l _ i wr => ∃ (m : Nat) (v : Value), v = l ∧ m ≤ 3 ∧ i = .int .i64 m ∧ OwnSI wr w.heap.size v (alongS a m) ∧ Below w.heap.size w wr) (fun _ _ i _ => 3 - (intOf i).toNat)
  case atStart => exact ⟨0, _, rfl, by omega, rfl, World.ownsRow_nil _ _ _ _, Below.refl _ _⟩
  case round =>
    obtain ⟨m, u, rfl, hm3, rfl, hown, hB⟩ := hrel
    have HO := Lib.hid hown; clear hown
    have hsB := hB.size
    by_cases hlt : m < 3
    · by_cases hma : (m : Int) = a
      · have HS : Hid (alongS a (m + 1) = alongS a m) := by show _ = _; rw [along_succ, if_pos hma]
        go_wp2
        go_roundw
        case rel => exact ⟨m + 1, _, rfl, by omega, by go_num, by rw [HS.out]; exact HO.out, hB⟩
        case measure => simp [intOf]; omega
      · have HS : Hid (alongS a (m + 1) = alongS a m ++ [(m : Int)]) := by show _ = _; rw [along_succ, if_neg hma]
        have HLN := Lib.hid (along_len a m)
        go_wp2_with (at_builtin; refine wpList_append_own _ rfl _ _ 60 rfl w.heap.size 3 i0 (.int .i64 0) 1 8 Tryd.underlying60 HJI.out hz0 hz1 hz2 rfl (by decide) _ _ _ rfl (World.ownsRow.alloc HO.out _) ⟨wr.heap.size, 0, none⟩ 1 1 [.int .i64 (m : Int)] rfl rfl (by intro j u hj; match j, hj with | 0, hj => (simp at hj; subst hj; simp [Addr.add]) | j + 1, hj => simp at hj) (by intro u hu; simp at hu; subst hu; rfl) (by have := HLN.out; unfold maxLen; omega) (by have := HLN.out; omega) (by simp; omega) ?_; intro v' w5 hown' hgrow _; have hB5 := below_grown (w1 := wr.alloc (.cells #[.int .i64 (m : Int)] 3)) (hB.alloc (by omega) _) hgrow (fun j hj => (HO.out.lt j hj).1) (by simp; omega); have own5 := ownSI_snoc hown' HS.out; have HOW5 := Lib.hid own5; clear own5 hown' hgrow)
        go_wp2
        go_roundw
        case rel => exact ⟨m + 1, _, rfl, by omega, by go_num, HOW5.out, hB5⟩
        case measure => simp [intOf]; omega
    · obtain rfl : m = 3 := by omega
      have hAL : alongS a 3 = [1, 2] := by rw [HAX.out]; rfl
      have hown := HO.out
      rw [hAL] at hown
      obtain ⟨A8, c8, rfl, hr8, hc8, hb8, _⟩ := own_rdSI hown
      obtain ⟨ba, oa, rfl, hba, cp⟩ := hr8 0 _ rfl
      obtain ⟨ba', oa', he8, _, cq⟩ := hr8 1 _ rfl
      injection he8 with he8
      injection he8 with he8 he9
      subst he8 he9
      rw [Nat.add_zero] at cp
      have hlen : ([1, 2] : List Int).length = 2 := rfl
      rw [hlen]
      rw [HAX.out]
      clear hr8 hc8 hb8 hown HO hAL
      have HM2 : Hid (∀ w', Below wr.heap.size wr w' → w'.cell? ⟨ba, oa, none⟩ = some (.int .i64 1) ∧ w'.cell? ⟨ba, oa + 1, none⟩ = some (.int .i64 2)) := fun w' h => ⟨(h.cell hba).trans cp, (h.cell hba).trans cq⟩
      go_wp2_with fail
      clear cp cq
      refine (ext_ret ⟨t1, (np : Int), (nq : Int)⟩ _).mono ?_
      rintro e w2 ⟨rfl, hb2⟩
      have hs2 := hb2.size
      have hBw2 := hB.trans (hb2.mono hsB)
      obtain ⟨cp, cq⟩ := HM2.out w2 hb2
      have hlm2 : ba < w2.heap.size := by omega
      have HCXn := Lib.hid (CX.new w2 ⟨t1, (np : Int), (nq : Int)⟩)
      go_wp2
      obtain ⟨wx, hwx⟩ : ∃ wx, w2.alloc (.cells #[.int .i64 t1, .int .i64 (np : Int), .int .i64 (nq : Int)] 22) = wx := ⟨_, rfl⟩
      have HCX2 := HCXn.out
      rw [hwx] at HCX2
      have hBx2 : Below w2.heap.size w2 wx := by rw [← hwx]; (repeat (first | exact Below.refl _ _ | assumption | refine Below.alloc ?_ (by first | exact Nat.le_refl _ | exact Below.size (by assumption) | omega | (simp <;> omega)) _ | refine Below.setCell ?_ (by first | exact Nat.le_refl _ | exact Below.size (by assumption) | omega | (simp <;> omega)) _ | refine below_drewN ?_ _ | refine Below.drew ?_))
      have hsx : w2.heap.size < wx.heap.size := by rw [← hwx]; simp
      have HN : Hid (∀ w', Below wx.heap.size wx w' → CX w' w2.heap.size ⟨t1, (np : Int), (nq : Int)⟩) := fun w' h => HCX2.below h hsx
      have HM3 : Hid (∀ w', Below wx.heap.size wx w' → w'.cell? ⟨ba, oa, none⟩ = some (.int .i64 1) ∧ w'.cell? ⟨ba, oa + 1, none⟩ = some (.int .i64 2)) := fun w' h => HM2.out w' (hb2.trans ((hBx2.trans (h.mono (by omega))).mono hs2))
      have hBx : Below w.heap.size w wx := hBw2.trans (hBx2.mono hBw2.size)
      rw [hwx]
      clear hwx HCX2 HCXn cp cq HM2 hBx2
      go_loopw [10, 11, 12, 13, 14, 33] (fun l _ _ _ _ i wr2 => ∃ (m : Nat) (v : Value), v = l ∧ m ≤ nq ∧ i = .int .i64 m ∧ OwnST wr2 wx.heap.size v (layS s 0 n m) ∧ Below wx.heap.size wx wr2) (fun _ _ _ _ _ i _ => nq - (intOf i).toNat)
      case atStart => exact ⟨0, _, rfl, Nat.zero_le _, rfl, World.ownsRow_nil _ _ _ _, Below.refl _ _⟩
      case round =>
        obtain ⟨m, u, rfl, hmq, rfl, hown2, hB2⟩ := hrel
        have HO2 := Lib.hid hown2; clear hown2
        have hsB2 := hB2.size
        rename World => wo
        by_cases hlt2 : m < nq
        · have hn9 := HN.out _ hB2
          obtain ⟨x0, x1, x2, x3, x4, x5⟩ := hn9.c
          obtain ⟨cp, cq⟩ := HM3.out _ hB2
          go_wp2
          clear x0 x1 x2 x3 x4 x5 hn9 cp cq
          go_loopw [12, 13, 14, 41] (fun l _ _ i w3 => ∃ (r : Nat) (v : Value), v = l ∧ r ≤ np ∧ i = .int .i64 r ∧ OwnSY w3 wo.heap.size v (lineS s 0 n m r) ∧ Below wo.heap.size wo w3) (fun _ _ _ i _ => np - (intOf i).toNat)
          case atStart => exact ⟨0, _, rfl, Nat.zero_le _, rfl, World.ownsRow_nil _ _ _ _, Below.refl _ _⟩
          case round =>
            obtain ⟨r, ul, rfl, hrp, rfl, hown3, hB3⟩ := hrel
            have HO3 := Lib.hid hown3; clear hown3
            have hsB3 := hB3.size
            have hBX3 : Below wx.heap.size wx wr := hB2.trans (hB3.mono hsB2)
            by_cases hlt3 : r < np
            · have HC3 := Lib.hid (HAT.out ⟨n, (r : Int), (m : Int)⟩)
              have HI3 := Lib.hid (HIN.out r m hlt3 hlt2)
              have HLN := Lib.hid (line_len s 0 n m r)
              have hls : lineS s 0 n m (r + 1) = lineS s 0 n m r ++ [s.at ⟨n, (r : Int), (m : Int)⟩] := line_succ s 0 n m r
              have HSL := Lib.hid hls; clear hls
              obtain ⟨cp, cq⟩ := HM3.out _ hBX3
              have hba3 : ba < wr.heap.size := World.block_lt_of_cell? wr _ cp
              go_wp2
              go_region
              go_wp2_with fail
              clear cp cq
              refine (HC3.out _ (by rw [HT.out]; exact HI3.out)).mono ?_
              rintro e w4 ⟨rfl, hb4⟩
              have hB4 : Below wo.heap.size wo w4 := hB3.trans (below_next (w := wr) (by (repeat (first | exact Below.refl _ _ | assumption | refine Below.alloc ?_ (by first | exact Nat.le_refl _ | exact Below.size (by assumption) | omega | (simp <;> omega)) _ | refine Below.setCell ?_ (by first | exact Nat.le_refl _ | exact Below.size (by assumption) | omega | (simp <;> omega)) _ | refine below_drewN ?_ _ | refine Below.drew ?_))) hb4 |>.mono hsB3)
              have HO4 : Hid (OwnSY w4 wo.heap.size ul (lineS s 0 n m r)) := own_belowS HO3.out (below_next (w := wr) (by (repeat (first | exact Below.refl _ _ | assumption | refine Below.alloc ?_ (by first | exact Nat.le_refl _ | exact Below.size (by assumption) | omega | (simp <;> omega)) _ | refine Below.setCell ?_ (by first | exact Nat.le_refl _ | exact Below.size (by assumption) | omega | (simp <;> omega)) _ | refine below_drewN ?_ _ | refine Below.drew ?_))) hb4)
              have hs4 := hB4.size
              clear hb4
              obtain ⟨cl, hcl⟩ : ∃ cl, s.at ⟨n, (r : Int), (m : Int)⟩ = cl := ⟨_, rfl⟩
              rw [hcl] at HSL ⊢
              clear hcl
              go_wp2_with (at_builtin; refine wpList_append_own _ rfl _ _ 52 rfl wo.heap.size 5 i1 (.int .u8 0) 1 1 Tryd.underlying52 HJY.out hy0 hy1 hy2 rfl (by decide) _ _ _ rfl (World.ownsRow.alloc HO4.out _) ⟨w4.heap.size, 0, none⟩ 1 1 [.int .u8 cl] rfl rfl (by intro j u hj; match j, hj with | 0, hj => (simp at hj; subst hj; simp [Addr.add]) | j + 1, hj => simp at hj) (by intro u hu; simp at hu; subst hu; rfl) (by have := HLN.out; unfold maxLen; omega) (by have := HLN.out; omega) (by simp; omega) ?_; intro v' w5 hown' hgrow _; have hB5 := below_grown (w1 := w4.alloc (.cells #[.int .u8 cl] 5)) (hB4.alloc (by omega) _) hgrow (fun j hj => (HO4.out.lt j hj).1) (by simp; omega); have own5 := ownSY_snoc hown' HSL.out; have HOW5 := Lib.hid own5; clear own5 hown' hgrow)
              go_wp2
              go_roundw
              case rel => exact ⟨r + 1, _, rfl, by omega, by go_num, HOW5.out, hB5⟩
              case measure => simp [intOf]; omega
            · obtain rfl : r = np := by omega
              have HO6 : Hid (OwnST wr wx.heap.size u (layS s 0 n m)) := own_belowS HO2.out hB3
              have hcv := run_str HO3.out (HCO.out m hlt2) (Below.refl _ _)
              have HLN := Lib.hid (lay_len s 0 n m)
              obtain ⟨st, hst⟩ : ∃ st, strB (lineS s 0 n m r) = st := ⟨_, rfl⟩
              have hls := HLS.out m
              rw [hst] at hcv hls
              have HSL := Lib.hid hls; clear hls hst
              go_wp2_with (at_builtin; refine wpList_append_own _ rfl _ _ 35 rfl wx.heap.size 9 i2 (.string ⟨#[]⟩) 1 16 Tryd.underlying35 HJT.out hx0 hx1 hx2 rfl (by decide) _ _ _ rfl (World.ownsRow.alloc HO6.out _) ⟨wr.heap.size, 0, none⟩ 1 1 [.string st] rfl rfl (by intro j u hj; match j, hj with | 0, hj => (simp at hj; subst hj; simp [Addr.add]) | j + 1, hj => simp at hj) (by intro u hu; simp at hu; subst hu; rfl) (by have := HLN.out; unfold maxLen; omega) (by have := HLN.out; omega) (by simp; omega) ?_; intro v' w5 hown' hgrow _; have hB5 := below_grown (w1 := wr.alloc (.cells #[.string st] 9)) (hBX3.alloc (by omega) _) hgrow (fun j hj => (HO6.out.lt j hj).1) (by simp; omega); have own5 := ownST_snoc hown' HSL.out; have HOW5 := Lib.hid own5; clear own5 hown' hgrow hcv)
              go_wp2
              go_roundw
              case rel => exact ⟨m + 1, _, rfl, by omega, by go_num, HOW5.out, hB5⟩
              case measure => simp [intOf]; omega
        · obtain rfl : m = nq := by omega
          have hown := HO2.out
          rw [← HLY.out] at hown
          obtain ⟨A9, c9, rfl, hr9, hc9, _⟩ := own_rdST hown
          have HR9 := Lib.hid hr9
          have HC9 := Lib.hid hc9
          clear hown hr9 hc9
          go_wp2
          go_ret
          exact ⟨A9, c9, rfl, HR9.out, HC9.out, hBx.trans (hB2.mono hBx.size)⟩
set_option maxRecDepth 100000 in
set_option maxHeartbeats 8000000 in
theorem layer1_any (s : Sh) (hok : s.Ok) (a n : Int) (HAX : Hid (a = 1)) (hn0 : 0 ≤ n) (hn1 : n < s.ext.get 1) (w : World) : Calls Tryd.prog 59 #[.iface s.ty (.agg s.ag), .int .i64 a, .int .i64 n] w (RetT (layerS s 1 n) w) := by
  have HAT := Lib.hid (at_any s hok)
  have hco := at_col s hok
  have hbd := hok.ext
  have hx := s.me
  have hm := s.ma
  have he := s.ea
  have HRS : Hid (∀ m, layS s 1 n m = layS s 1 n m) := fun m => rfl
  obtain ⟨T, hT⟩ : ∃ T, s.ext = T := ⟨_, rfl⟩
  obtain ⟨t1, t2, t3⟩ := T
  have hLY : layerS s 1 n = layS s 1 n t3.toNat := by unfold layerS; rw [hT]; rfl
  have hLS : ∀ m, layS s 1 n (m + 1) = layS s 1 n m ++ [strB (lineS s 1 n m t1.toNat)] := fun m => by rw [lay_succ, hT]; rfl
  have HLS := Lib.hid hLS; clear hLS
  have HLY := Lib.hid hLY; clear hLY
  rw [hT] at hx hbd hn1 hco
  unfold ExtOk at hbd
  dsimp only [T3.get] at hbd hn1
  have HIN : Hid (∀ i j : Nat, i < t1.toNat → j < t3.toNat → InE ⟨t1, t2, t3⟩ ⟨(i : Int), n, (j : Int)⟩) := by
    intro i j h1 h2
    unfold InE
    simp at hn1
    refine ⟨⟨?_, ?_⟩, ⟨?_, ?_⟩, ?_, ?_⟩ <;> (dsimp only; omega)
  have HCO : Hid (∀ j : Nat, j < t3.toNat → ∀ x ∈ lineS s 1 n j t1.toNat, 0 ≤ x ∧ x ≤ 255) := by
    intro j hj x hxm
    unfold lineS at hxm
    obtain ⟨i, hi, rfl⟩ := List.mem_map.1 hxm
    have := hco _ (HIN.out i j (List.mem_range.1 hi) hj)
    show 0 ≤ s.at ⟨(i : Int), n, (j : Int)⟩ ∧ s.at ⟨(i : Int), n, (j : Int)⟩ ≤ 255
    omega
  have HT := Lib.hid hT
  clear hco
  obtain ⟨np, hnp⟩ : ∃ np : Nat, t1 = (np : Int) := ⟨t1.toNat, by omega⟩
  obtain ⟨nq, hnq⟩ : ∃ nq : Nat, t3 = (nq : Int) := ⟨t3.toNat, by omega⟩
  have hnp2 : t1.toNat = np := by omega
  have hnq2 : t3.toNat = nq := by omega
  rw [hnp2] at HLS HIN HCO
  rw [hnq2] at HLY HIN HCO
  subst hnp hnq
  have hnpb : np ≤ 200 := by omega
  have hnqb : nq ≤ 200 := by omega
  clear hbd hn0 hn1 hnp2 hnq2 hT
  obtain ⟨i0, hj0, hz0, hz1, hz2⟩ := infoS_partsI Tryd.infoSI
  have HJI := Lib.hid hj0; clear hj0
  obtain ⟨i1, hj1, hy0, hy1, hy2⟩ := infoS_partsY Tryd.infoSY
  have HJY := Lib.hid hj1; clear hj1
  obtain ⟨i2, hj2, hx0, hx1, hx2⟩ := infoS_partsT Tryd.infoST
  have HJT := Lib.hid hj2; clear hj2
  go_enter Tryd.func59, Tryd.ntmps59
  go_wp2
  go_loopw [7, 8, 15] (fun l _ i wr => ∃ (m : Nat) (v : Value), v = l ∧ m ≤ 3 ∧ i = .int .i64 m ∧ OwnSI wr w.heap.size v (alongS a m) ∧ Below w.heap.size w wr) (fun _ _ i _ => 3 - (intOf i).toNat)
  case atStart => exact ⟨0, _, rfl, by omega, rfl, World.ownsRow_nil _ _ _ _, Below.refl _ _⟩
  case round =>
    obtain ⟨m, u, rfl, hm3, rfl, hown, hB⟩ := hrel
    have HO := Lib.hid hown; clear hown
    have hsB := hB.size
    by_cases hlt : m < 3
    · by_cases hma : (m : Int) = a
      · have HS : Hid (alongS a (m + 1) = alongS a m) := by show _ = _; rw [along_succ, if_pos hma]
        go_wp2
        go_roundw
        case rel => exact ⟨m + 1, _, rfl, by omega, by go_num, by rw [HS.out]; exact HO.out, hB⟩
        case measure => simp [intOf]; omega
      · have HS : Hid (alongS a (m + 1) = alongS a m ++ [(m : Int)]) := by show _ = _; rw [along_succ, if_neg hma]
        have HLN := Lib.hid (along_len a m)
        go_wp2_with (at_builtin; refine wpList_append_own _ rfl _ _ 60 rfl w.heap.size 3 i0 (.int .i64 0) 1 8 Tryd.underlying60 HJI.out hz0 hz1 hz2 rfl (by decide) _ _ _ rfl (World.ownsRow.alloc HO.out _) ⟨wr.heap.size, 0, none⟩ 1 1 [.int .i64 (m : Int)] rfl rfl (by intro j u hj; match j, hj with | 0, hj => (simp at hj; subst hj; simp [Addr.add]) | j + 1, hj => simp at hj) (by intro u hu; simp at hu; subst hu; rfl) (by have := HLN.out; unfold maxLen; omega) (by have := HLN.out; omega) (by simp; omega) ?_; intro v' w5 hown' hgrow _; have hB5 := below_grown (w1 := wr.alloc (.cells #[.int .i64 (m : Int)] 3)) (hB.alloc (by omega) _) hgrow (fun j hj => (HO.out.lt j hj).1) (by simp; omega); have own5 := ownSI_snoc hown' HS.out; have HOW5 := Lib.hid own5; clear own5 hown' hgrow)
        go_wp2
        go_roundw
        case rel => exact ⟨m + 1, _, rfl, by omega, by go_num, HOW5.out, hB5⟩
        case measure => simp [intOf]; omega
    · obtain rfl : m = 3 := by omega
      have hAL : alongS a 3 = [0, 2] := by rw [HAX.out]; rfl
      have hown := HO.out
      rw [hAL] at hown
      obtain ⟨A8, c8, rfl, hr8, hc8, hb8, _⟩ := own_rdSI hown
      obtain ⟨ba, oa, rfl, hba, cp⟩ := hr8 0 _ rfl
      obtain ⟨ba', oa', he8, _, cq⟩ := hr8 1 _ rfl
      injection he8 with he8
      injection he8 with he8 he9
      subst he8 he9
      rw [Nat.add_zero] at cp
      have hlen : ([0, 2] : List Int).length = 2 := rfl
      rw [hlen]
      rw [HAX.out]
      clear hr8 hc8 hb8 hown HO hAL
      have HM2 : Hid (∀ w', Below wr.heap.size wr w' → w'.cell? ⟨ba, oa, none⟩ = some (.int .i64 0) ∧ w'.cell? ⟨ba, oa + 1, none⟩ = some (.int .i64 2)) := fun w' h => ⟨(h.cell hba).trans cp, (h.cell hba).trans cq⟩
      go_wp2_with fail
      clear cp cq
      refine (ext_ret ⟨(np : Int), t2, (nq : Int)⟩ _).mono ?_
      rintro e w2 ⟨rfl, hb2⟩
      have hs2 := hb2.size
      have hBw2 := hB.trans (hb2.mono hsB)
      obtain ⟨cp, cq⟩ := HM2.out w2 hb2
      have hlm2 : ba < w2.heap.size := by omega
      have HCXn := Lib.hid (CX.new w2 ⟨(np : Int), t2, (nq : Int)⟩)
      go_wp2
      obtain ⟨wx, hwx⟩ : ∃ wx, w2.alloc (.cells #[.int .i64 (np : Int), .int .i64 t2, .int .i64 (nq : Int)] 22) = wx := ⟨_, rfl⟩
      have HCX2 := HCXn.out
      rw [hwx] at HCX2
      have hBx2 : Below w2.heap.size w2 wx := by rw [← hwx]; (repeat (first | exact Below.refl _ _ | assumption | refine Below.alloc ?_ (by first | exact Nat.le_refl _ | exact Below.size (by assumption) | omega | (simp <;> omega)) _ | refine Below.setCell ?_ (by first | exact Nat.le_refl _ | exact Below.size (by assumption) | omega | (simp <;> omega)) _ | refine below_drewN ?_ _ | refine Below.drew ?_))
      have hsx : w2.heap.size < wx.heap.size := by rw [← hwx]; simp
      have HN : Hid (∀ w', Below wx.heap.size wx w' → CX w' w2.heap.size ⟨(np : Int), t2, (nq : Int)⟩) := fun w' h => HCX2.below h hsx
      have HM3 : Hid (∀ w', Below wx.heap.size wx w' → w'.cell? ⟨ba, oa, none⟩ = some (.int .i64 0) ∧ w'.cell? ⟨ba, oa + 1, none⟩ = some (.int .i64 2)) := fun w' h => HM2.out w' (hb2.trans ((hBx2.trans (h.mono (by omega))).mono hs2))
      have hBx : Below w.heap.size w wx := hBw2.trans (hBx2.mono hBw2.size)
      rw [hwx]
      clear hwx HCX2 HCXn cp cq HM2 hBx2
      go_loopw [10, 11, 12, 13, 14, 33] (fun l _ _ _ _ i wr2 => ∃ (m : Nat) (v : Value), v = l ∧ m ≤ nq ∧ i = .int .i64 m ∧ OwnST wr2 wx.heap.size v (layS s 1 n m) ∧ Below wx.heap.size wx wr2) (fun _ _ _ _ _ i _ => nq - (intOf i).toNat)
      case atStart => exact ⟨0, _, rfl, Nat.zero_le _, rfl, World.ownsRow_nil _ _ _ _, Below.refl _ _⟩
      case round =>
        obtain ⟨m, u, rfl, hmq, rfl, hown2, hB2⟩ := hrel
        have HO2 := Lib.hid hown2; clear hown2
        have hsB2 := hB2.size
        rename World => wo
        by_cases hlt2 : m < nq
        · have hn9 := HN.out _ hB2
          obtain ⟨x0, x1, x2, x3, x4, x5⟩ := hn9.c
          obtain ⟨cp, cq⟩ := HM3.out _ hB2
          go_wp2
          clear x0 x1 x2 x3 x4 x5 hn9 cp cq
          go_loopw [12, 13, 14, 41] (fun l _ _ i w3 => ∃ (r : Nat) (v : Value), v = l ∧ r ≤ np ∧ i = .int .i64 r ∧ OwnSY w3 wo.heap.size v (lineS s 1 n m r) ∧ Below wo.heap.size wo w3) (fun _ _ _ i _ => np - (intOf i).toNat)
          case atStart => exact ⟨0, _, rfl, Nat.zero_le _, rfl, World.ownsRow_nil _ _ _ _, Below.refl _ _⟩
          case round =>
            obtain ⟨r, ul, rfl, hrp, rfl, hown3, hB3⟩ := hrel
            have HO3 := Lib.hid hown3; clear hown3
            have hsB3 := hB3.size
            have hBX3 : Below wx.heap.size wx wr := hB2.trans (hB3.mono hsB2)
            by_cases hlt3 : r < np
            · have HC3 := Lib.hid (HAT.out ⟨(r : Int), n, (m : Int)⟩)
              have HI3 := Lib.hid (HIN.out r m hlt3 hlt2)
              have HLN := Lib.hid (line_len s 1 n m r)
              have hls : lineS s 1 n m (r + 1) = lineS s 1 n m r ++ [s.at ⟨(r : Int), n, (m : Int)⟩] := line_succ s 1 n m r
              have HSL := Lib.hid hls; clear hls
              obtain ⟨cp, cq⟩ := HM3.out _ hBX3
              have hba3 : ba < wr.heap.size := World.block_lt_of_cell? wr _ cp
              go_wp2
              go_region
              go_wp2_with fail
              clear cp cq
              refine (HC3.out _ (by rw [HT.out]; exact HI3.out)).mono ?_
              rintro e w4 ⟨rfl, hb4⟩
              have hB4 : Below wo.heap.size wo w4 := hB3.trans (below_next (w := wr) (by (repeat (first | exact Below.refl _ _ | assumption | refine Below.alloc ?_ (by first | exact Nat.le_refl _ | exact Below.size (by assumption) | omega | (simp <;> omega)) _ | refine Below.setCell ?_ (by first | exact Nat.le_refl _ | exact Below.size (by assumption) | omega | (simp <;> omega)) _ | refine below_drewN ?_ _ | refine Below.drew ?_))) hb4 |>.mono hsB3)
              have HO4 : Hid (OwnSY w4 wo.heap.size ul (lineS s 1 n m r)) := own_belowS HO3.out (below_next (w := wr) (by (repeat (first | exact Below.refl _ _ | assumption | refine Below.alloc ?_ (by first | exact Nat.le_refl _ | exact Below.size (by assumption) | omega | (simp <;> omega)) _ | refine Below.setCell ?_ (by first | exact Nat.le_refl _ | exact Below.size (by assumption) | omega | (simp <;> omega)) _ | refine below_drewN ?_ _ | refine Below.drew ?_))) hb4)
              have hs4 := hB4.size
              clear hb4
              obtain ⟨cl, hcl⟩ : ∃ cl, s.at ⟨(r : Int), n, (m : Int)⟩ = cl := ⟨_, rfl⟩
              rw [hcl] at HSL ⊢
              clear hcl
              go_wp2_with (at_builtin; refine wpList_append_own _ rfl _ _ 52 rfl wo.heap.size 5 i1 (.int .u8 0) 1 1 Tryd.underlying52 HJY.out hy0 hy1 hy2 rfl (by decide) _ _ _ rfl (World.ownsRow.alloc HO4.out _) ⟨w4.heap.size, 0, none⟩ 1 1 [.int .u8 cl] rfl rfl (by intro j u hj; match j, hj with | 0, hj => (simp at hj; subst hj; simp [Addr.add]) | j + 1, hj => simp at hj) (by intro u hu; simp at hu; subst hu; rfl) (by have := HLN.out; unfold maxLen; omega) (by have := HLN.out; omega) (by simp; omega) ?_; intro v' w5 hown' hgrow _; have hB5 := below_grown (w1 := w4.alloc (.cells #[.int .u8 cl] 5)) (hB4.alloc (by omega) _) hgrow (fun j hj => (HO4.out.lt j hj).1) (by simp; omega); have own5 := ownSY_snoc hown' HSL.out; have HOW5 := Lib.hid own5; clear own5 hown' hgrow)
              go_wp2
              go_roundw
              case rel => exact ⟨r + 1, _, rfl, by omega, by go_num, HOW5.out, hB5⟩
              case measure => simp [intOf]; omega
            · obtain rfl : r = np := by omega
              have HO6 : Hid (OwnST wr wx.heap.size u (layS s 1 n m)) := own_belowS HO2.out hB3
              have hcv := run_str HO3.out (HCO.out m hlt2) (Below.refl _ _)
              have HLN := Lib.hid (lay_len s 1 n m)
              obtain ⟨st, hst⟩ : ∃ st, strB (lineS s 1 n m r) = st := ⟨_, rfl⟩
              have hls := HLS.out m
              rw [hst] at hcv hls
              have HSL := Lib.hid hls; clear hls hst
              go_wp2_with (at_builtin; refine wpList_append_own _ rfl _ _ 35 rfl wx.heap.size 9 i2 (.string ⟨#[]⟩) 1 16 Tryd.underlying35 HJT.out hx0 hx1 hx2 rfl (by decide) _ _ _ rfl (World.ownsRow.alloc HO6.out _) ⟨wr.heap.size, 0, none⟩ 1 1 [.string st] rfl rfl (by intro j u hj; match j, hj with | 0, hj => (simp at hj; subst hj; simp [Addr.add]) | j + 1, hj => simp at hj) (by intro u hu; simp at hu; subst hu; rfl) (by have := HLN.out; unfold maxLen; omega) (by have := HLN.out; omega) (by simp; omega) ?_; intro v' w5 hown' hgrow _; have hB5 := below_grown (w1 := wr.alloc (.cells #[.string st] 9)) (hBX3.alloc (by omega) _) hgrow (fun j hj => (HO6.out.lt j hj).1) (by simp; omega); have own5 := ownST_snoc hown' HSL.out; have HOW5 := Lib.hid own5; clear own5 hown' hgrow hcv)
              go_wp2
              go_roundw
              case rel => exact ⟨m + 1, _, rfl, by omega, by go_num, HOW5.out, hB5⟩
              case measure => simp [intOf]; omega
        · obtain rfl : m = nq := by omega
          have hown := HO2.out
          rw [← HLY.out] at hown
          obtain ⟨A9, c9, rfl, hr9, hc9, _⟩ := own_rdST hown
          have HR9 := Lib.hid hr9
          have HC9 := Lib.hid hc9
          clear hown hr9 hc9
          go_wp2
          go_ret
          exact ⟨A9, c9, rfl, HR9.out, HC9.out, hBx.trans (hB2.mono hBx.size)⟩
set_option maxRecDepth 100000 in
set_option maxHeartbeats 8000000 in
theorem layer2_any (s : Sh) (hok : s.Ok) (a n : Int) (HAX : Hid (a = 2)) (hn0 : 0 ≤ n) (hn1 : n < s.ext.get 2) (w : World) : Calls Tryd.prog 59 #[.iface s.ty (.agg s.ag), .int .i64 a, .int .i64 n] w (RetT (layerS s 2 n) w) := by
  have HAT := Lib.hid (at_any s hok)
  have hco := at_col s hok
  have hbd := hok.ext
  have hx := s.me
  have hm := s.ma
  have he := s.ea
  have HRS : Hid (∀ m, layS s 2 n m = layS s 2 n m) := fun m => rfl
  obtain ⟨T, hT⟩ : ∃ T, s.ext = T := ⟨_, rfl⟩
  obtain ⟨t1, t2, t3⟩ := T
  have hLY : layerS s 2 n = layS s 2 n t2.toNat := by unfold layerS; rw [hT]; rfl
  have hLS : ∀ m, layS s 2 n (m + 1) = layS s 2 n m ++ [strB (lineS s 2 n m t1.toNat)] := fun m => by rw [lay_succ, hT]; rfl
  have HLS := Lib.hid hLS; clear hLS
  have HLY := Lib.hid hLY; clear hLY
  rw [hT] at hx hbd hn1 hco
  unfold ExtOk at hbd
  dsimp only [T3.get] at hbd hn1
  have HIN : Hid (∀ i j : Nat, i < t1.toNat → j < t2.toNat → InE ⟨t1, t2, t3⟩ ⟨(i : Int), (j : Int), n⟩) := by
    intro i j h1 h2
    unfold InE
    simp at hn1
    refine ⟨⟨?_, ?_⟩, ⟨?_, ?_⟩, ?_, ?_⟩ <;> (dsimp only; omega)
  have HCO : Hid (∀ j : Nat, j < t2.toNat → ∀ x ∈ lineS s 2 n j t1.toNat, 0 ≤ x ∧ x ≤ 255) := by
    intro j hj x hxm
    unfold lineS at hxm
    obtain ⟨i, hi, rfl⟩ := List.mem_map.1 hxm
    have := hco _ (HIN.out i j (List.mem_range.1 hi) hj)
    show 0 ≤ s.at ⟨(i : Int), (j : Int), n⟩ ∧ s.at ⟨(i : Int), (j : Int), n⟩ ≤ 255
    omega
  have HT := Lib.hid hT
  clear hco
  obtain ⟨np, hnp⟩ : ∃ np : Nat, t1 = (np : Int) := ⟨t1.toNat, by omega⟩
  obtain ⟨nq, hnq⟩ : ∃ nq : Nat, t2 = (nq : Int) := ⟨t2.toNat, by omega⟩
  have hnp2 : t1.toNat = np := by omega
  have hnq2 : t2.toNat = nq := by omega
  rw [hnp2] at HLS HIN HCO
  rw [hnq2] at HLY HIN HCO
  subst hnp hnq
  have hnpb : np ≤ 200 := by omega
  have hnqb : nq ≤ 200 := by omega
  clear hbd hn0 hn1 hnp2 hnq2 hT
  obtain ⟨i0, hj0, hz0, hz1, hz2⟩ := infoS_partsI Tryd.infoSI
  have HJI := Lib.hid hj0; clear hj0
  obtain ⟨i1, hj1, hy0, hy1, hy2⟩ := infoS_partsY Tryd.infoSY
  have HJY := Lib.hid hj1; clear hj1
  obtain ⟨i2, hj2, hx0, hx1, hx2⟩ := infoS_partsT Tryd.infoST
  have HJT := Lib.hid hj2; clear hj2
  go_enter Tryd.func59, Tryd.ntmps59
  go_wp2
  go_loopw [7, 8, 15] (fun l _ i wr => ∃ (m : Nat) (v : Value), v = l ∧ m ≤ 3 ∧ i = .int .i64 m ∧ OwnSI wr w.heap.size v (alongS a m) ∧ Below w.heap.size w wr) (fun _ _ i _ => 3 - (intOf i).toNat)
  case atStart => exact ⟨0, _, rfl, by omega, rfl, World.ownsRow_nil _ _ _ _, Below.refl _ _⟩
  case round =>
    obtain ⟨m, u, rfl, hm3, rfl, hown, hB⟩ := hrel
    have HO := Lib.hid hown; clear hown
    have hsB := hB.size
    by_cases hlt : m < 3
    · by_cases hma : (m : Int) = a
      · have HS : Hid (alongS a (m + 1) = alongS a m) := by show _ = _; rw [along_succ, if_pos hma]
        go_wp2
        go_roundw
        case rel => exact ⟨m + 1, _, rfl, by omega, by go_num, by rw [HS.out]; exact HO.out, hB⟩
        case measure => simp [intOf]; omega
      · have HS : Hid (alongS a (m + 1) = alongS a m ++ [(m : Int)]) := by show _ = _; rw [along_succ, if_neg hma]
        have HLN := Lib.hid (along_len a m)
        go_wp2_with (at_builtin; refine wpList_append_own _ rfl _ _ 60 rfl w.heap.size 3 i0 (.int .i64 0) 1 8 Tryd.underlying60 HJI.out hz0 hz1 hz2 rfl (by decide) _ _ _ rfl (World.ownsRow.alloc HO.out _) ⟨wr.heap.size, 0, none⟩ 1 1 [.int .i64 (m : Int)] rfl rfl (by intro j u hj; match j, hj with | 0, hj => (simp at hj; subst hj; simp [Addr.add]) | j + 1, hj => simp at hj) (by intro u hu; simp at hu; subst hu; rfl) (by have := HLN.out; unfold maxLen; omega) (by have := HLN.out; omega) (by simp; omega) ?_; intro v' w5 hown' hgrow _; have hB5 := below_grown (w1 := wr.alloc (.cells #[.int .i64 (m : Int)] 3)) (hB.alloc (by omega) _) hgrow (fun j hj => (HO.out.lt j hj).1) (by simp; omega); have own5 := ownSI_snoc hown' HS.out; have HOW5 := Lib.hid own5; clear own5 hown' hgrow)
        go_wp2
        go_roundw
        case rel => exact ⟨m + 1, _, rfl, by omega, by go_num, HOW5.out, hB5⟩
        case measure => simp [intOf]; omega
    · obtain rfl : m = 3 := by omega
      have hAL : alongS a 3 = [0, 1] := by rw [HAX.out]; rfl
      have hown := HO.out
      rw [hAL] at hown
      obtain ⟨A8, c8, rfl, hr8, hc8, hb8, _⟩ := own_rdSI hown
      obtain ⟨ba, oa, rfl, hba, cp⟩ := hr8 0 _ rfl
      obtain ⟨ba', oa', he8, _, cq⟩ := hr8 1 _ rfl
      injection he8 with he8
      injection he8 with he8 he9
      subst he8 he9
      rw [Nat.add_zero] at cp
      have hlen : ([0, 1] : List Int).length = 2 := rfl
      rw [hlen]
      rw [HAX.out]
      clear hr8 hc8 hb8 hown HO hAL
      have HM2 : Hid (∀ w', Below wr.heap.size wr w' → w'.cell? ⟨ba, oa, none⟩ = some (.int .i64 0) ∧ w'.cell? ⟨ba, oa + 1, none⟩ = some (.int .i64 1)) := fun w' h => ⟨(h.cell hba).trans cp, (h.cell hba).trans cq⟩
      go_wp2_with fail
      clear cp cq
      refine (ext_ret ⟨(np : Int), (nq : Int), t3⟩ _).mono ?_
      rintro e w2 ⟨rfl, hb2⟩
      have hs2 := hb2.size
      have hBw2 := hB.trans (hb2.mono hsB)
      obtain ⟨cp, cq⟩ := HM2.out w2 hb2
      have hlm2 : ba < w2.heap.size := by omega
      have HCXn := Lib.hid (CX.new w2 ⟨(np : Int), (nq : Int), t3⟩)
      go_wp2
      obtain ⟨wx, hwx⟩ : ∃ wx, w2.alloc (.cells #[.int .i64 (np : Int), .int .i64 (nq : Int), .int .i64 t3] 22) = wx := ⟨_, rfl⟩
      have HCX2 := HCXn.out
      rw [hwx] at HCX2
      have hBx2 : Below w2.heap.size w2 wx := by rw [← hwx]; (repeat (first | exact Below.refl _ _ | assumption | refine Below.alloc ?_ (by first | exact Nat.le_refl _ | exact Below.size (by assumption) | omega | (simp <;> omega)) _ | refine Below.setCell ?_ (by first | exact Nat.le_refl _ | exact Below.size (by assumption) | omega | (simp <;> omega)) _ | refine below_drewN ?_ _ | refine Below.drew ?_))
      have hsx : w2.heap.size < wx.heap.size := by rw [← hwx]; simp
      have HN : Hid (∀ w', Below wx.heap.size wx w' → CX w' w2.heap.size ⟨(np : Int), (nq : Int), t3⟩) := fun w' h => HCX2.below h hsx
      have HM3 : Hid (∀ w', Below wx.heap.size wx w' → w'.cell? ⟨ba, oa, none⟩ = some (.int .i64 0) ∧ w'.cell? ⟨ba, oa + 1, none⟩ = some (.int .i64 1)) := fun w' h => HM2.out w' (hb2.trans ((hBx2.trans (h.mono (by omega))).mono hs2))
      have hBx : Below w.heap.size w wx := hBw2.trans (hBx2.mono hBw2.size)
      rw [hwx]
      clear hwx HCX2 HCXn cp cq HM2 hBx2
      go_loopw [10, 11, 12, 13, 14, 33] (fun l _ _ _ _ i wr2 => ∃ (m : Nat) (v : Value), v = l ∧ m ≤ nq ∧ i = .int .i64 m ∧ OwnST wr2 wx.heap.size v (layS s 2 n m) ∧ Below wx.heap.size wx wr2) (fun _ _ _ _ _ i _ => nq - (intOf i).toNat)
      case atStart => exact ⟨0, _, rfl, Nat.zero_le _, rfl, World.ownsRow_nil _ _ _ _, Below.refl _ _⟩
      case round =>
        obtain ⟨m, u, rfl, hmq, rfl, hown2, hB2⟩ := hrel
        have HO2 := Lib.hid hown2; clear hown2
        have hsB2 := hB2.size
        rename World => wo
        by_cases hlt2 : m < nq
        · have hn9 := HN.out _ hB2
          obtain ⟨x0, x1, x2, x3, x4, x5⟩ := hn9.c
          obtain ⟨cp, cq⟩ := HM3.out _ hB2
          go_wp2
          clear x0 x1 x2 x3 x4 x5 hn9 cp cq
          go_loopw [12, 13, 14, 41] (fun l _ _ i w3 => ∃ (r : Nat) (v : Value), v = l ∧ r ≤ np ∧ i = .int .i64 r ∧ OwnSY w3 wo.heap.size v (lineS s 2 n m r) ∧ Below wo.heap.size wo w3) (fun _ _ _ i _ => np - (intOf i).toNat)
          case atStart => exact ⟨0, _, rfl, Nat.zero_le _, rfl, World.ownsRow_nil _ _ _ _, Below.refl _ _⟩
          case round =>
            obtain ⟨r, ul, rfl, hrp, rfl, hown3, hB3⟩ := hrel
            have HO3 := Lib.hid hown3; clear hown3
            have hsB3 := hB3.size
            have hBX3 : Below wx.heap.size wx wr := hB2.trans (hB3.mono hsB2)
            by_cases hlt3 : r < np
            · have HC3 := Lib.hid (HAT.out ⟨(r : Int), (m : Int), n⟩)
              have HI3 := Lib.hid (HIN.out r m hlt3 hlt2)
              have HLN := Lib.hid (line_len s 2 n m r)
              have hls : lineS s 2 n m (r + 1) = lineS s 2 n m r ++ [s.at ⟨(r : Int), (m : Int), n⟩] := line_succ s 2 n m r
              have HSL := Lib.hid hls; clear hls
              obtain ⟨cp, cq⟩ := HM3.out _ hBX3
              have hba3 : ba < wr.heap.size := World.block_lt_of_cell? wr _ cp
              go_wp2
              go_region
              go_wp2_with fail
              clear cp cq
              refine (HC3.out _ (by rw [HT.out]; exact HI3.out)).mono ?_
              rintro e w4 ⟨rfl, hb4⟩
              have hB4 : Below wo.heap.size wo w4 := hB3.trans (below_next (w := wr) (by (repeat (first | exact Below.refl _ _ | assumption | refine Below.alloc ?_ (by first | exact Nat.le_refl _ | exact Below.size (by assumption) | omega | (simp <;> omega)) _ | refine Below.setCell ?_ (by first | exact Nat.le_refl _ | exact Below.size (by assumption) | omega | (simp <;> omega)) _ | refine below_drewN ?_ _ | refine Below.drew ?_))) hb4 |>.mono hsB3)
              have HO4 : Hid (OwnSY w4 wo.heap.size ul (lineS s 2 n m r)) := own_belowS HO3.out (below_next (w := wr) (by (repeat (first | exact Below.refl _ _ | assumption | refine Below.alloc ?_ (by first | exact Nat.le_refl _ | exact Below.size (by assumption) | omega | (simp <;> omega)) _ | refine Below.setCell ?_ (by first | exact Nat.le_refl _ | exact Below.size (by assumption) | omega | (simp <;> omega)) _ | refine below_drewN ?_ _ | refine Below.drew ?_))) hb4)
              have hs4 := hB4.size
              clear hb4
              obtain ⟨cl, hcl⟩ : ∃ cl, s.at ⟨(r : Int), (m : Int), n⟩ = cl := ⟨_, rfl⟩
              rw [hcl] at HSL ⊢
              clear hcl
              go_wp2_with (at_builtin; refine wpList_append_own _ rfl _ _ 52 rfl wo.heap.size 5 i1 (.int .u8 0) 1 1 Tryd.underlying52 HJY.out hy0 hy1 hy2 rfl (by decide) _ _ _ rfl (World.ownsRow.alloc HO4.out _) ⟨w4.heap.size, 0, none⟩ 1 1 [.int .u8 cl] rfl rfl (by intro j u hj; match j, hj with | 0, hj => (simp at hj; subst hj; simp [Addr.add]) | j + 1, hj => simp at hj) (by intro u hu; simp at hu; subst hu; rfl) (by have := HLN.out; unfold maxLen; omega) (by have := HLN.out; omega) (by simp; omega) ?_; intro v' w5 hown' hgrow _; have hB5 := below_grown (w1 := w4.alloc (.cells #[.int .u8 cl] 5)) (hB4.alloc (by omega) _) hgrow (fun j hj => (HO4.out.lt j hj).1) (by simp; omega); have own5 := ownSY_snoc hown' HSL.out; have HOW5 := Lib.hid own5; clear own5 hown' hgrow)
              go_wp2
              go_roundw
              case rel => exact ⟨r + 1, _, rfl, by omega, by go_num, HOW5.out, hB5⟩
              case measure => simp [intOf]; omega
            · obtain rfl : r = np := by omega
              have HO6 : Hid (OwnST wr wx.heap.size u (layS s 2 n m)) := own_belowS HO2.out hB3
              have hcv := run_str HO3.out (HCO.out m hlt2) (Below.refl _ _)
              have HLN := Lib.hid (lay_len s 2 n m)
              obtain ⟨st, hst⟩ : ∃ st, strB (lineS s 2 n m r) = st := ⟨_, rfl⟩
              have hls := HLS.out m
              rw [hst] at hcv hls
              have HSL := Lib.hid hls; clear hls hst
              go_wp2_with (at_builtin; refine wpList_append_own _ rfl _ _ 35 rfl wx.heap.size 9 i2 (.string ⟨#[]⟩) 1 16 Tryd.underlying35 HJT.out hx0 hx1 hx2 rfl (by decide) _ _ _ rfl (World.ownsRow.alloc HO6.out _) ⟨wr.heap.size, 0, none⟩ 1 1 [.string st] rfl rfl (by intro j u hj; match j, hj with | 0, hj => (simp at hj; subst hj; simp [Addr.add]) | j + 1, hj => simp at hj) (by intro u hu; simp at hu; subst hu; rfl) (by have := HLN.out; unfold maxLen; omega) (by have := HLN.out; omega) (by simp; omega) ?_; intro v' w5 hown' hgrow _; have hB5 := below_grown (w1 := wr.alloc (.cells #[.string st] 9)) (hBX3.alloc (by omega) _) hgrow (fun j hj => (HO6.out.lt j hj).1) (by simp; omega); have own5 := ownST_snoc hown' HSL.out; have HOW5 := Lib.hid own5; clear own5 hown' hgrow hcv)
              go_wp2
              go_roundw
              case rel => exact ⟨m + 1, _, rfl, by omega, by go_num, HOW5.out, hB5⟩
              case measure => simp [intOf]; omega
        · obtain rfl : m = nq := by omega
          have hown := HO2.out
          rw [← HLY.out] at hown
          obtain ⟨A9, c9, rfl, hr9, hc9, _⟩ := own_rdST hown
          have HR9 := Lib.hid hr9
          have HC9 := Lib.hid hc9
          clear hown hr9 hc9
          go_wp2
          go_ret
          exact ⟨A9, c9, rfl, HR9.out, HC9.out, hBx.trans (hB2.mono hBx.size)⟩
end Go.Proofs.YtbcnkcndhgihaaaDoor

/- Credit of the reference: the walk. -/
import Derived.Test.YthccpdefgjneiaaDoorOC1
namespace Go.Proofs.YthccpdefgjneiaaDoor
open Go.RowKit Go.Shelf

theorem credit_amt {am ls : List Int} (h1 : am.length ≤ 40) (h2 : ls.length ≤ 40) (h : (am.any fun a => !amt a) = true) : creditS am ls = ([], 0, 2) := by
  unfold creditS; rw [if_neg (by omega), h]; simp
set_option maxRecDepth 100000 in
set_option maxHeartbeats 2000000 in
theorem Credit2_any (A A2 : Option Addr) (cp cp2 : Nat) (am ls : List Int) (w : World) (hl : RdI w w.heap.size A am) (hl2 : RdI w w.heap.size A2 ls) :
    Calls Tryd.prog 24 #[.slice A am.length cp, .slice A2 ls.length cp2] w (RetL (creditS am ls).1 [.int .i64 (creditS am ls).2.1, .int .i64 (creditS am ls).2.2] w) := by
  have HL := Lib.hid hl; clear hl
  have HL2 := Lib.hid hl2; clear hl2
  by_cases h40 : 40 < am.length ∨ 40 < ls.length
  · have HS := Lib.hid (show creditS am ls = ([], 0, 4) by unfold creditS; rw [if_pos h40])
    by_cases g1 : 40 < am.length
    · have g1I : (40 : Int) < (am.length : Int) := by omega
      go_enter Tryd.func24, Tryd.ntmps24
      go_wp2
      go_ret3
      rw [HS.out]; exact ⟨none, 0, rfl, fun i p hp => by simp at hp, Nat.le_refl _, Below.refl _ _⟩
    · have g1I : ¬ (40 : Int) < (am.length : Int) := by omega
      have g2I : (40 : Int) < (ls.length : Int) := by omega
      go_enter Tryd.func24, Tryd.ntmps24
      go_wp2
      go_ret3
      rw [HS.out]; exact ⟨none, 0, rfl, fun i p hp => by simp at hp, Nat.le_refl _, Below.refl _ _⟩
  have g1I : ¬ (40 : Int) < (am.length : Int) := by omega
  have g2I : ¬ (40 : Int) < (ls.length : Int) := by omega
  obtain ⟨i0, hi0, hz0', hz1', hz2'⟩ := info_partsI Tryd.infoI
  have HJ := Lib.hid hi0; clear hi0
  obtain ⟨i1, hi1, hb0', hb1', hb2'⟩ : ∃ i0, Tryd.prog.info? 4 = some i0 ∧ i0.zero = some (.bool false) ∧ i0.size = 1 ∧ i0.bytes = 1 := by
    obtain ⟨i0, h1, h2⟩ := Option.map_eq_some_iff.1 Tryd.infoB
    simp at h2
    exact ⟨i0, h1, h2.1, h2.2.1, h2.2.2⟩
  have HJ1 := Lib.hid hi1; clear hi1
  go_enter Tryd.func24, Tryd.ntmps24
  go_wp2
  go_loopw [7] (fun i wr => ∃ k : Nat, k ≤ am.length ∧ i = .int .i64 k ∧ (∀ x ∈ am.take k, amt x = true) ∧ wr = w) (fun i _ => am.length - (intOf i).toNat)
  case atStart => exact ⟨0, Nat.zero_le _, rfl, fun x hx => by simp at hx, rfl⟩
  case round =>
    obtain ⟨k, hk, rfl, hgood, hw⟩ := hrel
    have hw := hw.symm
    subst hw
    have HG := Lib.hid hgood; clear hgood
    by_cases hlt : k < am.length
    · obtain ⟨v, hv⟩ := getElem?_of_lt hlt
      obtain ⟨b1, off, hA, hb1, d0⟩ := HL.out k v hv
      subst hA
      have HV := Lib.hid hv; clear hv
      cases ha : amt v
      · have HS := Lib.hid (credit_amt (am := am) (ls := ls) (by omega) (by omega) (List.any_eq_true.2 ⟨v, List.mem_of_getElem? HV.out, by rw [ha]; rfl⟩))
        have HA := Lib.hid ha; clear ha
        go_wp2_with fail
        refine (isAmount_any v _).mono ?_
        rintro e w2 ⟨rfl, rfl⟩
        rw [HA.out]
        go_wp2
        go_ret3
        rw [HS.out]; exact ⟨none, 0, rfl, fun i p hp => by simp at hp, Nat.le_refl _, Below.refl _ _⟩
      · have HA := Lib.hid ha; clear ha
        go_wp2_with fail
        refine (isAmount_any v _).mono ?_
        rintro e w2 ⟨rfl, rfl⟩
        rw [HA.out]
        go_wp2
        go_roundw
        case rel =>
          refine ⟨k + 1, by omega, by go_num, fun x hx => ?_, trivial⟩
          rw [take_succ_of HV.out] at hx
          rcases List.mem_append.1 hx with hx | hx
          · exact HG.out x hx
          · simp at hx; subst hx; exact HA.out
        case measure => simp [intOf]; omega
    · obtain rfl : k = am.length := by omega
      have hany : (am.any fun a => !amt a) = false := by
        rw [List.any_eq_false]; intro x hx; rw [HG.out x (by rw [List.take_length]; exact hx)]; simp
      have HAN := Lib.hid hany; clear hany HG hk hlt
      go_wp2_with (at_make; refine wpList_make_full _ rfl _ _ 80 rfl w.heap.size 4 i1 (.bool false) 1 Tryd.underlying80 HJ1.out hb0' hb1' _ _ _ _ am.length rfl rfl rfl rfl (by rw [hb2']; omega) (by unfold Go.maxLen; omega) (Nat.le_refl _) ?_; intro w6 hown6 hgrow6)
      have hb6 : Below w.heap.size w w6 := below_grown (Below.refl _ _) hgrow6 (fun k h => by cases h) (Nat.le_refl _)
      have HRI : Hid (RowB w6 w.heap.size (List.replicate am.length false) ∧ w.heap.size < w6.heap.size) := by
        rcases hown6.2 with ⟨e, _⟩ | ⟨g, cap, cur, e, _, hg, _, _, hcs, htk⟩
        · cases e
        · injection e with e1 e2 e3
          injection e1 with e1
          injection e1 with e4 e5 e6
          subst e4 e3
          refine ⟨?_, (Array.getElem?_eq_some_iff.1 hg).1⟩
          unfold RowB
          rw [hg]
          have hz : (Value.bool false).cells = #[.bool false] := rfl
          rw [hz, toList_madeCells_one, List.take_of_length_le (by simp; omega)] at htk
          have : cur = (List.map Value.bool (List.replicate am.length false)).toArray := by
            apply Array.toList_inj.1
            rw [htk]; simp
          rw [this]
      clear hown6 hgrow6
      have hw6 := HRI.out.2
      go_wp2
      go_loopw [9] (fun i wr => ∃ (k : Nat), k ≤ ls.length ∧ i = .int .i64 k ∧ RowB wr w.heap.size (inTo am.length (ls.take k)) ∧ (∀ x ∈ ls.take k, 0 ≤ x ∧ x < (am.length : Int)) ∧ (ls.take k).Nodup ∧ Below w.heap.size w wr) (fun i _ => ls.length - (intOf i).toNat)
      case atStart => exact ⟨0, Nat.zero_le _, rfl, HRI.out.1, fun x hx => by simp at hx, by simp, hb6⟩
      case round =>
        obtain ⟨k, hk, rfl, hrow, hin, hnd, hB⟩ := hrel
        have HRW := Lib.hid hrow; clear hrow
        have HIN := Lib.hid hin; clear hin
        have HND := Lib.hid hnd; clear hnd
        have hsB := hB.size
        by_cases hlt : k < ls.length
        · obtain ⟨i, hi⟩ := getElem?_of_lt hlt
          obtain ⟨b2, off2, hA2, hbb2, d0⟩ := (HL2.out.now hB) k i hi
          subst hA2
          have HI := Lib.hid hi; clear hi
          by_cases hin : 0 ≤ i ∧ i < (am.length : Int)
          · obtain ⟨hi0, hi1⟩ := hin
            obtain ⟨n, rfl⟩ : ∃ n : Nat, i = (n : Int) := ⟨i.toNat, by omega⟩
            have hnl : n < am.length := by omega
            have hget := inTo_get (n := am.length) (ls := ls.take k) (fun x hx => (HIN.out x hx).1) hnl
            have j1 : ¬ ((n : Int) < 0) := by omega
            have j2 : ¬ ((am.length : Int) ≤ (n : Int)) := by omega
            by_cases hmem : (n : Int) ∈ ls.take k
            · have HS := Lib.hid (credit_bad (by omega) (by omega) (show ¬ idxOk am.length ls from fun h => not_nodup8 HI.out hmem h.2))
              rw [decide_eq_true hmem] at hget
              have c0 : wr.cell? ⟨w.heap.size, n, none⟩ = some (.bool true) := HRW.out.c hget
              clear hget hmem
              go_wp2
              go_ret3
              rw [HS.out]; exact ⟨none, 0, rfl, fun i p hp => by simp at hp, Nat.le_refl _, hB⟩
            rw [decide_eq_false hmem] at hget
            have c0 : wr.cell? ⟨w.heap.size, n, none⟩ = some (.bool false) := HRW.out.c hget
            have f0 : wr.frozen? ⟨w.heap.size, n, none⟩ = false := HRW.out.f n
            have hBs : Below w.heap.size w (wr.setCell ⟨w.heap.size, n, none⟩ (.bool true)) := hB.setCell (p := ⟨w.heap.size, n, none⟩) (by simp) _
            have hii : inTo am.length (ls.take (k + 1)) = (inTo am.length (ls.take k)).set n true := by rw [take_succ_of HI.out, inTo_snoc]; rfl
            have hgood : ∀ x ∈ ls.take (k + 1), 0 ≤ x ∧ x < (am.length : Int) := fun x hx => by
              rw [take_succ_of HI.out] at hx
              rcases List.mem_append.1 hx with hx | hx
              · exact HIN.out x hx
              · simp at hx; subst hx; omega
            have hnd2 := nodup_take8 HI.out HND.out hmem
            have HG := Lib.hid (And.intro hgood hnd2); clear hgood hnd2
            have HRW2 := Lib.hid (hii ▸ HRW.out.put n true)
            clear hii hmem hget HRW
            go_wp2
            go_roundw
            case rel => exact ⟨k + 1, by omega, by go_num, HRW2.out, HG.out.1, HG.out.2, hBs⟩
            case measure => simp [intOf]; omega
          · have HS := Lib.hid (credit_bad (by omega) (by omega) (show ¬ idxOk am.length ls from fun h => hin (h.1 i (List.mem_of_getElem? HI.out))))
            by_cases j1 : i < 0
            · clear hin
              go_wp2
              go_ret3
              rw [HS.out]; exact ⟨none, 0, rfl, fun i p hp => by simp at hp, Nat.le_refl _, hB⟩
            · have j2 : (am.length : Int) ≤ i := by omega
              clear hin
              go_wp2
              go_ret3
              rw [HS.out]; exact ⟨none, 0, rfl, fun i p hp => by simp at hp, Nat.le_refl _, hB⟩
        · obtain rfl : k = ls.length := by omega
          have hid : idxOk am.length ls := ⟨by have := HIN.out; rwa [List.take_length] at this, by have := HND.out; rwa [List.take_length] at this⟩
          have hspl : creditS am ls = (negW am ls, sumW am ls, 0) := by
            unfold creditS; rw [if_neg h40, decide_eq_true hid, HAN.out]; rfl
          have HSP := Lib.hid hspl; clear hspl
          have HID := Lib.hid hid; clear hid HIN HND HRW hk hlt hsB
          obtain ⟨w7, hw7⟩ : ∃ w7, w7 = wr := ⟨_, rfl⟩
          subst hw7
          go_wp2
          go_loopw [10, 11, 12] (fun u s i wr => ∃ (k : Nat) (v : Value), v = u ∧ k ≤ ls.length ∧ i = .int .i64 k ∧ s = .int .i64 (sumW am (ls.take k)) ∧ OwnI wr w.heap.size v (negW am (ls.take k)) ∧ Below w.heap.size w wr) (fun _ _ i _ => ls.length - (intOf i).toNat)
          case atStart => exact ⟨0, _, rfl, Nat.zero_le _, rfl, rfl, World.ownsRow_nil _ _ _ _, hB⟩
          case round =>
            clear hB
            obtain ⟨k, u, rfl, hk, rfl, rfl, hown, hB⟩ := hrel
            have HO := Lib.hid hown; clear hown
            have hsB := hB.size
            by_cases hlt : k < ls.length
            · obtain ⟨i, hi⟩ := getElem?_of_lt hlt
              obtain ⟨b2, off2, hA2, hbb2, d00⟩ := HL2.out k i hi
              subst hA2
              have HI := Lib.hid hi; clear hi
              obtain ⟨hx0, hx1⟩ := HID.out.1 i (List.mem_of_getElem? HI.out)
              obtain ⟨n, rfl⟩ : ∃ n : Nat, i = (n : Int) := ⟨i.toNat, by omega⟩
              have hnl : n < am.length := by omega
              obtain ⟨a, ha⟩ := getElem?_of_lt hnl
              obtain ⟨b1, off1, hA1, hbb1, e00⟩ := HL.out n a ha
              subst hA1
              have d0 : wr.cell? ⟨b2, off2 + k, none⟩ = some (.int .i64 (n : Int)) := (hB.cell (p := ⟨b2, off2 + k, none⟩) hbb2).trans d00
              have e0 : wr.cell? ⟨b1, off1 + n, none⟩ = some (.int .i64 a) := (hB.cell (p := ⟨b1, off1 + n, none⟩) hbb1).trans e00
              have hatn : atN am (n : Int) = a := by unfold atN; rw [show (n : Int).toNat = n from rfl, ha]; rfl
              have hsn : sumW am (ls.take (k + 1)) = wrap64 (sumW am (ls.take k) - a) := by unfold sumW; rw [take_succ_of HI.out, List.foldl_append, ← hatn]; rfl
              have hnn : negW am (ls.take (k + 1)) = negW am (ls.take k) ++ [wrap64 (-a)] := by unfold negW; rw [take_succ_of HI.out, List.map_append, ← hatn]; rfl
              have hlen : (negW am (ls.take k)).length = k := by unfold negW; rw [List.length_map, List.length_take]; omega
              obtain ⟨R, hR⟩ : ∃ R, negW am (ls.take k) = R := ⟨_, rfl⟩
              obtain ⟨T, hT⟩ : ∃ T, sumW am (ls.take k) = T := ⟨_, rfl⟩
              have hown := HO.out
              rw [hR] at hown hnn hlen
              rw [hT] at hsn
              rw [hT]
              have HO2 := Lib.hid hown
              have HSN := Lib.hid hsn
              have HNN := Lib.hid hnn
              have HLN := Lib.hid hlen
              have HC := Lib.hid e00
              have HD := Lib.hid d00
              clear hown hsn hnn hlen hR hT hatn e00 d00 ha HO
              go_wp2_with (at_builtin; refine wpList_append_own _ rfl _ _ 36 rfl w.heap.size 3 i0 (.int .i64 0) 1 8 Tryd.underlying36 HJ.out hz0' hz1' hz2' rfl (by decide) _ _ _ rfl (HO2.out.alloc _) ⟨wr.heap.size, 0, none⟩ 1 1 [.int .i64 (wrap64 (-a))] rfl rfl (by intro j u hj; match j, hj with | 0, hj => (simp at hj; subst hj; simp [Addr.add]) | j + 1, hj => simp at hj) (by intro u hu; simp at hu; subst hu; rfl) (by have := HLN.out; unfold maxLen; omega) (by have := HLN.out; omega) (by simp; omega) ?_; intro v' w4 hown' hgrow _; have hB4 := below_grown (w1 := wr.alloc (.cells #[.int .i64 (wrap64 (-a))] 3)) (hB.alloc (by omega) _) hgrow (fun j hj => (HO2.out.lt j hj).1) (by simp; omega); have own4 := ownI_snoc hown' HNN.out; have HOW := Lib.hid own4; clear own4 hown' hgrow; have e9 : w4.cell? ⟨b1, off1 + n, none⟩ = some (.int .i64 a) := (hB4.cell (p := ⟨b1, off1 + n, none⟩) hbb1).trans HC.out; have d9 : w4.cell? ⟨b2, off2 + k, none⟩ = some (.int .i64 (n : Int)) := (hB4.cell (p := ⟨b2, off2 + k, none⟩) hbb2).trans HD.out)
              go_wp2
              go_roundw
              case rel => exact ⟨k + 1, _, rfl, by omega, by go_num, by rw [HSN.out], HOW.out, hB4⟩
              case measure => simp [intOf]; omega
            · obtain rfl : k = ls.length := by omega
              obtain ⟨A8, c8, hv8, hr8, hc8⟩ := own_rdI HO.out
              have hln : (negW am ls).length = ls.length := by unfold negW; rw [List.length_map]
              rw [List.take_length, hln] at hv8 hc8
              rw [List.take_length] at hr8
              subst hv8
              have HR8 := Lib.hid hr8; clear hr8 HO
              rw [List.take_length]
              go_wp2
              go_ret3
              rw [HSP.out]
              exact ⟨A8, c8, by show _ = _; rw [hln]; rfl, HR8.out, by show _ ≤ _; rw [hln]; exact hc8, hB⟩
end Go.Proofs.YthccpdefgjneiaaDoor

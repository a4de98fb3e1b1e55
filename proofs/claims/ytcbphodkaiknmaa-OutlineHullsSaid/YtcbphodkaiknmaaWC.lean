/- slices.Clone, and the reference's Turn: the walks. The canonical form, in the program: the walk. The reference's Turn: the walk. The canonical forms of both texts agree. Canonical and Same, in the program: the walks. Canonical and Same, in the reference: the walks. -/
import Derived.Test.YtcbphodkaiknmaaBaseM
import Derived.Test.YtcbphodkaiknmaaWA
import Derived.StillTailTactics
import Derived.Deep.RegionWith
import Derived.BigRegion
import Derived.Deep.AppendLies
import Derived.Deep.RegionLaw
import Derived.Test.YtcbphodkaiknmaaWB
import Derived.Test.YtcbphodkaiknmaaMathN
import Derived.Test.YtcbphodkaiknmaaWF
namespace Go.Proofs.Ytcbphodkaiknmaa
open Go.RowKit

set_option maxRecDepth 100000 in
set_option maxHeartbeats 400000 in
theorem clone_any (A : Option Addr) (c : Nat) (l : List XY) (w : World) (hm : l.length ≤ 1000000) (hl : Rd w w.heap.size A l) (hA : ∀ a, A = some a → ∃ b off, a = ⟨b, off, none⟩) :
    Calls Try.prog 12 #[.slice A l.length c] w (RetO l w) := by
  have heq : ∀ (a : Option Addr) (n : Nat) (w' : World), (binOp .eql 22 (.slice a n c) (.slice none 0 0)).run Try.prog w' = .ok (.bool a.isNone) w' := fun a n w' => Lib.run_eql_slice_nil w' 22 29 a n c 0 0 Try.underlying22
  cases A with
  | none =>
    have h0 : l = [] := by
      match l, hl with
      | [], _ => rfl
      | p :: l, hl => obtain ⟨b, off, h, _⟩ := hl 0 p rfl; cases h
    subst h0
    go_enter Try.func12, Try.ntmps12
    go_wp2
    go_ret
    exact ⟨_, rfl, World.ownsRow_nil _ _ _ _, by (repeat (first | exact Below.refl _ _ | assumption | refine Below.alloc ?_ (by first | exact Nat.le_refl _ | exact Below.size (by assumption) | omega | (simp <;> omega)) _ | refine Below.setCell ?_ (by first | exact Nat.le_refl _ | exact Below.size (by assumption) | omega | (simp <;> omega)) _ | refine below_drewN ?_ _ | refine Below.drew ?_))⟩
  | some a =>
    obtain ⟨b, off, rfl⟩ := hA a rfl
    obtain ⟨i0, hi, hz0, hz1, hz2⟩ := info_parts Try.infoXY
    have hc : Rd (w.alloc (.cells #[] 29)) w.heap.size (some ⟨b, off, none⟩) l := hl.keep fun p hp => World.cell?_alloc_lt _ _ _ hp
    have HC := Lib.hid hc; clear hc
    have HI := Lib.hid hi; clear hi
    have own0 := World.ownsRow_made (base := w.heap.size) (e := 29) (size := 2) w #[] 0 (Nat.le_refl _) (by unfold maxLen; omega) rfl
    have HO := Lib.hid own0; clear own0
    go_enter Try.func12, Try.ntmps12
    go_wp2_with (at_builtin; refine wpList_append_own _ rfl _ _ 22 rfl w.heap.size 29 i0 (.agg #[.int .i64 0, .int .i64 0]) 2 16 Try.underlying22 HI.out hz0 hz1 hz2 rfl (by decide) _ _ _ rfl HO.out ⟨b, off, none⟩ l.length c (flat l) rfl (flat_length l) (rd_cells HC.out) (fun u hu => flat_one hu) (by unfold maxLen; omega) (by omega) (by simp) ?_; intro v' w1 hown hgrow _)
    go_wp2
    go_ret
    refine ⟨_, rfl, ?_, below_grown (w1 := w.alloc (.cells #[] 29)) (by (repeat (first | exact Below.refl _ _ | assumption | refine Below.alloc ?_ (by first | exact Nat.le_refl _ | exact Below.size (by assumption) | omega | (simp <;> omega)) _ | refine Below.setCell ?_ (by first | exact Nat.le_refl _ | exact Below.size (by assumption) | omega | (simp <;> omega)) _ | refine below_drewN ?_ _ | refine Below.drew ?_))) hgrow (fun k hk => by cases hk; exact Nat.le_refl _) (by simp)⟩
    simpa [OwnL] using hown
end Go.Proofs.Ytcbphodkaiknmaa

namespace Go.Proofs.Ytcbphodkaiknmaa
open Go.RowKit

/-- append onto a row of the call's own, at a step of a region that draws its order; what is appended may be empty. -/
theorem step_append_own {P : Program} (w : World) {ops : Array Oper} {o : Oper} {a : Act} {K : Act → World → Prop} {Q : Exit → Act → World → Prop} {E : Prop} (hgd : o.guard = none) (s x : Operand) (t : TypeId)
    (ho : o.op = .call { callee := .builtin .append, args := #[s, x], argTypes := #[t, t] })
    (base : Nat) (e : TypeId) (i : TypeInfo) (z : Value) (size bytes : Nat) (ht : P.underlying t = some (.slice e)) (hi : P.info? e = some i) (hz : i.zero = some z)
    (hsize : i.size = size) (hby : i.bytes = bytes) (hzs : z.cells.size = size) (hsz : 0 < size)
    (v : Value) (n : Nat) (xs : List Value) (hs : a.eval s = v) (hown : w.ownsRow base e size v n xs)
    (ad : Addr) (m c : Nat) (news : List Value) (hx : a.eval x = .slice (some ad) m c) (hl : news.length = m * size) (hnews : ∀ j u, news[j]? = some u → w.cell? (ad.add j) = some u) (h1 : ∀ u ∈ news, u.oneCell' = true)
    (h63 : n + m ≤ maxLen) (hbytes : (n + m) * bytes ≤ 140737488355328) (hbase : base ≤ w.heap.size)
    (h : ∀ v' w', w'.ownsRow base e size v' (n + m) (xs ++ news) → w.grownBy w' v.ownBlock → (v' = .slice none 0 0 ↔ v = .slice none 0 0 ∧ m = 0) → K (a.put o.dst v') w') :
    if Region.wanted o (yielded ops a.tmps) = true then Oper.wp P o a w K Q else E := by
  have hw : Region.wanted o (yielded ops a.tmps) = true := by simp [Region.wanted, hgd]
  rw [if_pos hw]
  exact wp_append_own w s x t ho base e i z size bytes ht hi hz hsize hby hzs hsz v n xs hs hown ad m c news hx hl hnews h1 h63 hbytes hbase h

theorem clone_drop (b off c : Nat) (l : List XY) (k : Nat) (w : World) (hm : l.length ≤ 1000000) (hl : Rd w w.heap.size (some ⟨b, off, none⟩) l) :
    Calls Try.prog 12 #[.slice (some ⟨b, off + k * 2, none⟩) (l.length - k) (c - k)] w (RetO (l.drop k) w) := by
  have h := clone_any (some ⟨b, off + k * 2, none⟩) (c - k) (l.drop k) w (by rw [List.length_drop]; omega) (rd_drop hl k) (fun a ha => ⟨b, off + k * 2, by cases ha; rfl⟩)
  rwa [List.length_drop] at h

theorem canonL_eq (l : List XY) : canonL l = l.drop (idxOf l (minW l)) ++ l.take (idxOf l (minW l)) := rfl

set_option maxRecDepth 100000 in
set_option maxHeartbeats 1000000 in
theorem canonical_any (A : Option Addr) (c : Nat) (l : List XY) (w : World) (h0 : 0 < l.length) (hm : l.length ≤ 1000000) (hc : l.length ≤ c) (hl : Rd w w.heap.size A l) (k : Nat) (hk : k < l.length) (hik : idxF (fun q => decide (minW l = q)) l = (k : Int)) (hcl : canonL l = l.drop k ++ l.take k) :
    Calls Try.prog 18 #[.slice A l.length c] w (RetO (canonL l) w) := by
  obtain ⟨p, hp⟩ := getElem?_of_lt h0
  obtain ⟨b, off, hA, hb, hx, hy⟩ := hl 0 p hp
  subst hA
  clear hx hy hp
  have HL := Lib.hid hl; clear hl
  have HI := Lib.hid hik; clear hik
  have HC := Lib.hid hcl; clear hcl
  have hmx : Try.prog.follows .mixedOrders = true := by kernel_rfl
  go_enter Try.func18, Try.ntmps18
  go_wp2_with fail
  refine (minFunc_any _ c l _ h0 hm HL.out).mono ?_
  rintro e w1 ⟨rfl, hb1⟩
  go_wp2_with fail
  refine (index_any _ c l (minW l) _ hm (HL.out.now hb1)).mono ?_
  rintro e w2 ⟨rfl, hb2⟩
  have hB2 := hb1.trans (hb2.mono hb1.size)
  rw [HI.out]
  clear hb1 hb2
  go_wp2
  have hkl : k ≤ l.length := by omega
  have hkc : k ≤ c := by omega
  have hne : ¬ c = k := by omega
  obtain ⟨i0, hi, hz0, hz1, hz2⟩ := info_parts Try.infoXY
  have HJ := Lib.hid hi; clear hi
  have hsB := hB2.size
  go_region_law (first | (refine step_append_own _ rfl (.tmp 11) (.tmp 14) 22 rfl w2.heap.size 29 i0 (.agg #[.int .i64 0, .int .i64 0]) 2 16 Try.underlying22 HJ.out hz0 hz1 hz2 rfl (by decide) v3 (l.drop k).length (flat (l.drop k)) rfl hown3 ⟨b, off, none⟩ k c (flat (l.take k)) rfl (by rw [flat_length, List.length_take]; omega) (rd_cells (rd_take (((HL.out.below hB2).below (below_drewN (Below.refl w.heap.size w2) 1)).below (hb3.mono hsB)) k)) (fun u hu => flat_one hu) (by rw [List.length_drop]; unfold maxLen; omega) (by rw [List.length_drop]; omega) hb3.size ?_; intro v4 w4 hown4 hgrow4 _) | (go_simp; go_at_call 12; refine (clone_drop b off c l k w2.drew hm (HL.out.now (Below.drew hB2))).mono ?_; rintro e w3 ⟨v3, rfl, hown3, hb3⟩))
  go_wp2
  go_ret
  have hb3' : Below w2.heap.size w2 w3 := below_of_drew hb3
  refine ⟨v4, rfl, ?_, below_grown (hB2.trans (hb3'.mono hsB)) hgrow4 (fun j hj => by have := (hown3.lt j hj).1; have e : w2.drew.heap.size = w2.heap.size := rfl; omega) (by have := hb3'.size; omega)⟩
  have e1 : (canonL l).length = (l.drop k).length + k := by rw [HC.out, List.length_append, List.length_take]; omega
  have e2 : flat (canonL l) = flat (l.drop k) ++ flat (l.take k) := by rw [HC.out, flat_append]
  unfold OwnL
  rw [e1, e2]
  exact own_base hown4 hsB
end Go.Proofs.Ytcbphodkaiknmaa

namespace Go.Proofs.Ytcbphodkaiknmaa
open Go.RowKit

theorem atTo_succ (l : List XY) (k : Nat) : atTo l (k + 1) = if lowB (cy l k) (cy l (atTo l k)) then k else atTo l k := by
  unfold atTo; rw [List.range_succ, List.foldl_append]; rfl
theorem atTo_lt {l : List XY} (h0 : 0 < l.length) : ∀ k, k ≤ l.length → atTo l k < l.length
  | 0, _ => h0
  | k + 1, h => by
    rw [atTo_succ]
    split
    · omega
    · exact atTo_lt h0 k (by omega)
theorem turnL_take (l : List XY) (k : Nat) : (List.range (k + 1)).map (fun i => cy l (atTo l l.length + i)) = (List.range k).map (fun i => cy l (atTo l l.length + i)) ++ [cy l (atTo l l.length + k)] := by
  rw [List.range_succ, List.map_append]; rfl

set_option maxRecDepth 100000 in
set_option maxHeartbeats 1000000 in
theorem Turn_any (A : Option Addr) (c : Nat) (l : List XY) (w : World) (h0 : 0 < l.length) (hm : l.length ≤ 1000000) (hl : Rd w w.heap.size A l) :
    Calls Try.prog 32 #[.slice A l.length c] w (RetO (turnL l) w) := by
  have HL := Lib.hid hl; clear hl
  have hmx : Try.prog.follows .mixedOrders = true := by kernel_rfl
  obtain ⟨i0, hi, hz0, hz1, hz2⟩ := info_parts Try.infoXY
  have HJ := Lib.hid hi; clear hi
  go_enter Try.func32, Try.ntmps32
  go_wp2
  go_loopw [3, 4, 5, 10] (fun at' _ _ i wr => ∃ k : Nat, k ≤ l.length ∧ i = .int .i64 k ∧ at' = .int .i64 (atTo l k : Nat) ∧ Below w.heap.size w wr) (fun _ _ _ i _ => l.length - (intOf i).toNat)
  case atStart => exact ⟨0, Nat.zero_le _, rfl, rfl, by (repeat (first | exact Below.refl _ _ | assumption | refine Below.alloc ?_ (by first | exact Nat.le_refl _ | exact Below.size (by assumption) | omega | (simp <;> omega)) _ | refine Below.setCell ?_ (by first | exact Nat.le_refl _ | exact Below.size (by assumption) | omega | (simp <;> omega)) _ | refine below_drewN ?_ _ | refine Below.drew ?_))⟩
  case round =>
    obtain ⟨k, hk, rfl, rfl, hB⟩ := hrel
    by_cases hlt : k < l.length
    · obtain ⟨q, hq⟩ := getElem?_of_lt hlt
      obtain ⟨b, off, hA, hb, hcx, hcy⟩ := (HL.out.below hB) k q hq
      subst hA
      have hat := atTo_lt h0 k hk
      have hst := atTo_succ l k
      obtain ⟨m, hm2⟩ : ∃ m, atTo l k = m := ⟨_, rfl⟩
      rw [hm2] at hat hst ⊢
      obtain ⟨r, hr⟩ := getElem?_of_lt hat
      obtain ⟨b1, off1, hA, hb1, hdx, hdy⟩ := (HL.out.below hB) m r hr
      obtain ⟨rfl, rfl⟩ : b = b1 ∧ off = off1 := by simpa using hA
      clear hA
      rw [cy_lt hq, cy_lt hr] at hst
      have HST := Lib.hid hst; clear hst
      clear hq hr hm2
      have hbw : b < wr.heap.size := by have := hB.size; omega
      have hsB := hB.size
      obtain ⟨wa, hwa⟩ : ∃ wa : World, wr.alloc (.cells #[.int .i64 q.X, .int .i64 q.Y] 29) = wa := ⟨_, rfl⟩
      have hBa : Below w.heap.size w wa := hwa ▸ hB.alloc hB.size _
      go_wp2
      have ecx : wa.cell? ⟨b, off + m * 2, none⟩ = some (.int .i64 r.X) := by rw [← hwa, World.cell?_alloc_lt _ _ _ hbw]; exact hdx
      have ecy : wa.cell? ⟨b, off + m * 2 + 1, none⟩ = some (.int .i64 r.Y) := by rw [← hwa, World.cell?_alloc_lt _ _ _ hbw]; exact hdy
      have epx : wa.cell? ⟨wr.heap.size, 0, none⟩ = some (.int .i64 q.X) := by rw [← hwa]; simp
      have epy : wa.cell? ⟨wr.heap.size, 1, none⟩ = some (.int .i64 q.Y) := by rw [← hwa]; simp
      clear hwa
      go_still_tail 5, (by kernel_rfl)
      change wpList _ _ _ _ _ wa.drew
      go_wp2_with fail
      refine (low_any q r _).mono ?_
      rintro e w2 ⟨rfl, hb2⟩
      have hB2 := hBa.trans ((below_of_drew hb2).mono hBa.size)
      clear hb2
      cases hlo : lowB q r
      · have HLO := Lib.hid hlo; clear hlo
        go_wp2
        go_roundw
        case rel => exact ⟨k + 1, by omega, by go_num, by rw [HST.out, HLO.out]; rfl, hB2⟩
        case measure => simp [intOf]; omega
      · have HLO := Lib.hid hlo; clear hlo
        go_wp2
        go_roundw
        case rel => exact ⟨k + 1, by omega, by go_num, by rw [HST.out, HLO.out]; rfl, hB2⟩
        case measure => simp [intOf]; omega
    · obtain rfl : k = l.length := by omega
      have hat := atTo_lt h0 l.length (Nat.le_refl _)
      have htk := turnL_take l
      have hfin : turnL l = (List.range l.length).map (fun i => cy l (atTo l l.length + i)) := rfl
      obtain ⟨m, hm2⟩ : ∃ m, atTo l l.length = m := ⟨_, rfl⟩
      rw [hm2] at hat htk hfin ⊢
      have HTK := Lib.hid htk; clear htk
      have HF := Lib.hid hfin; clear hfin
      clear hm2
      go_wp2
      go_loopw [6, 7, 25] (fun v _ i wr => ∃ k : Nat, k ≤ l.length ∧ i = .int .i64 k ∧ OwnL wr w.heap.size v ((List.range k).map fun i => cy l (m + i)) ∧ Below w.heap.size w wr) (fun _ _ i _ => l.length - (intOf i).toNat)
      case atStart => exact ⟨0, Nat.zero_le _, rfl, World.ownsRow_nil _ _ _ _, hB⟩
      case round =>
        obtain ⟨k, hk, rfl, hown, hB⟩ := hrel
        by_cases hlt : k < l.length
        · have hlt2 : (m + k) % l.length < l.length := Nat.mod_lt _ (by omega)
          obtain ⟨r, hr⟩ := getElem?_of_lt hlt2
          obtain ⟨b, off, hA, hb, hdx, hdy⟩ := (HL.out.below hB) _ r hr
          subst hA
          have htk := HTK.out k
          rw [cy_of hr] at htk
          have HT := Lib.hid htk; clear htk hr
          have HO := Lib.hid hown; clear hown
          have e2 : ((m : Int) + (k : Int)).tmod (l.length : Int) = ((m : Int) + (k : Int)) % (l.length : Int) := tmod_pos (by omega)
          obtain ⟨e4, e5⟩ := emod_bd (x := (m : Int) + (k : Int)) (n := l.length) (by omega)
          have e6 : (((m : Int) + (k : Int)) % (l.length : Int)).toNat = (m + k) % l.length := emod_toNat rfl
          have e3 : ¬ l = [] := ne_nil_of_lt hlt
          have hsB := hB.size
          go_wp2_with (at_builtin; refine wpList_append_own _ rfl _ _ 22 rfl w.heap.size 29 i0 (.agg #[.int .i64 0, .int .i64 0]) 2 16 Try.underlying22 HJ.out hz0 hz1 hz2 rfl (by decide) _ _ _ rfl (HO.out.alloc _) ⟨wr.heap.size, 0, none⟩ 1 1 [.int .i64 r.X, .int .i64 r.Y] rfl rfl (by intro j u hj; match j, hj with | 0, hj => (simp at hj; subst hj; simp [Addr.add]) | 1, hj => (simp at hj; subst hj; simp [Addr.add]) | j + 2, hj => simp at hj) (by intro u hu; simp at hu; rcases hu with rfl | rfl <;> rfl) (by simp; unfold maxLen; omega) (by simp; omega) (by simp; omega) ?_; intro v' w1 hown' hgrow _)
          go_wp2
          go_roundw
          case rel =>
            refine ⟨k + 1, by omega, by go_num, ?_, below_grown (w1 := wr.alloc (.cells #[.int .i64 r.X, .int .i64 r.Y] 29)) (by (repeat (first | exact Below.refl _ _ | assumption | refine Below.alloc ?_ (by first | exact Nat.le_refl _ | exact Below.size (by assumption) | omega | (simp <;> omega)) _ | refine Below.setCell ?_ (by first | exact Nat.le_refl _ | exact Below.size (by assumption) | omega | (simp <;> omega)) _ | refine below_drewN ?_ _ | refine Below.drew ?_))) hgrow (fun j hj => (HO.out.lt j hj).1) (by simp; omega)⟩
            rw [HT.out]
            have e := hown'
            unfold OwnL
            rw [flat_append]
            simpa [flat_cons, flat_nil] using e
          case measure => simp [intOf]; omega
        · obtain rfl : k = l.length := by omega
          go_wp2
          go_ret
          exact ⟨_, rfl, by rw [HF.out]; exact hown, hB⟩
end Go.Proofs.Ytcbphodkaiknmaa

namespace Go.Proofs.Ytcbphodkaiknmaa
open Go.RowKit (wrap64)

theorem lowB_iff (a b : XY) : lowB a b = true ↔ lx a b := by
  unfold lowB lx; simp only [Bool.or_eq_true, Bool.and_eq_true, decide_eq_true_eq]
theorem lowerW_iff {a b : XY} (ha : Bd 100000 a) (hb : Bd 100000 b) : lowerW a b < 0 ↔ lx a b := by
  obtain ⟨a1, a2, a3, a4⟩ := ha
  obtain ⟨b1, b2, b3, b4⟩ := hb
  unfold lowerW lx
  by_cases h : a.Y ≠ b.Y
  · rw [if_pos h, w64_id (by omega) (by omega)]; omega
  · rw [if_neg h, w64_id (by omega) (by omega)]; omega

theorem cy_get {l : List XY} {i : Nat} (h : i < l.length) : cy l i = l[i] := by unfold cy; rw [Nat.mod_eq_of_lt h, List.getElem?_eq_getElem h]; rfl

/-- The place of the lowest corner: none is lower, and those ahead are higher. -/
theorem atTo_low {l : List XY} (h0 : 0 < l.length) : ∀ k, k ≤ l.length → (∀ j, j < k → ¬ lx (cy l j) (cy l (atTo l k))) ∧ (∀ j, j < atTo l k → lx (cy l (atTo l k)) (cy l j))
  | 0, _ => ⟨fun j h => by omega, fun j h => by unfold atTo at h; simp at h⟩
  | k + 1, h => by
    obtain ⟨h1, h2⟩ := atTo_low h0 k (by omega)
    rw [atTo_succ]
    by_cases hl : lowB (cy l k) (cy l (atTo l k)) = true
    · rw [if_pos hl]
      rw [lowB_iff] at hl
      refine ⟨fun j hj => ?_, fun j hj => ?_⟩
      · rcases Nat.lt_or_ge j k with hh | hh
        · have := h1 j hh; unfold lx at *; omega
        · obtain rfl : j = k := by omega
          exact lx_irr _
      · have := h1 j hj; unfold lx at *; omega
    · rw [if_neg hl]
      rw [lowB_iff] at hl
      refine ⟨fun j hj => ?_, h2⟩
      rcases Nat.lt_or_ge j k with hh | hh
      · exact h1 j hh
      · obtain rfl : j = k := by omega
        exact hl

theorem minTo_at {l : List XY} (h0 : 0 < l.length) (hb : ∀ j, Bd 100000 (cy l j)) : ∀ k, k ≤ l.length → minTo l k = cy l (atTo l k)
  | 0, _ => by
    obtain ⟨p, hp⟩ := getElem?_of_lt h0
    unfold minTo atTo
    simp only [List.take_zero, List.foldl_nil, List.range_zero]
    rw [hd_of hp, cy_lt hp]
  | k + 1, h => by
    obtain ⟨q, hq⟩ := getElem?_of_lt (show k < l.length by omega)
    have e : minTo l (k + 1) = if lowerW q (minTo l k) < 0 then q else minTo l k := by
      unfold minTo; rw [take_succ_of hq, List.foldl_append]; rfl
    rw [e, minTo_at h0 hb k (by omega), atTo_succ]
    rw [← cy_lt hq]
    by_cases hl : lx (cy l k) (cy l (atTo l k))
    · rw [if_pos ((lowerW_iff (hb _) (hb _)).2 hl), if_pos ((lowB_iff _ _).2 hl)]
    · rw [if_neg (fun hc => hl ((lowerW_iff (hb _) (hb _)).1 hc)), if_neg (fun hc => hl ((lowB_iff _ _).1 hc))]

/-- A list turned, so that it begins with its corner number k. -/
def rotL (l : List XY) (k : Nat) : List XY := l.drop k ++ l.take k
theorem rotL_length (l : List XY) (k : Nat) : (rotL l k).length = l.length := by unfold rotL; simp; omega
theorem rotL_get {l : List XY} {k : Nat} (hk : k < l.length) (i : Nat) (hi : i < l.length) : (rotL l k)[i]? = some (cy l (k + i)) := by
  unfold rotL cy
  rcases Nat.lt_or_ge i (l.length - k) with h | h
  · rw [List.getElem?_append_left (by simpa using h), List.getElem?_drop, Nat.mod_eq_of_lt (by omega), List.getElem?_eq_getElem (by omega)]
    rfl
  · rw [List.getElem?_append_right (by simpa using h), List.length_drop, List.getElem?_take, if_pos (by omega)]
    rw [Nat.mod_eq_sub_mod (by omega), Nat.mod_eq_of_lt (by omega), List.getElem?_eq_getElem (by omega), List.getElem?_eq_getElem (by omega)]
    simp only [Option.getD_some, Option.some.injEq]
    congr 1
    omega
theorem turnL_rot {l : List XY} (h0 : 0 < l.length) : turnL l = rotL l (atTo l l.length) := by
  have hat := atTo_lt h0 l.length (Nat.le_refl _)
  apply List.ext_getElem?
  intro i
  by_cases hi : i < l.length
  · rw [rotL_get hat i hi]
    unfold turnL
    simp [hi]
  · rw [List.getElem?_eq_none (by unfold turnL; simp; omega), List.getElem?_eq_none (by rw [rotL_length]; omega)]

theorem idx_at {l : List XY} (h0 : 0 < l.length) (hb : ∀ j, Bd 100000 (cy l j)) (f : XY → Bool) (hf : ∀ q, f q = true ↔ q = minW l) : l.findIdx f = atTo l l.length ∧ l.any f = true := by
  have hat := atTo_lt h0 l.length (Nat.le_refl _)
  have e : minW l = cy l (atTo l l.length) := minTo_at h0 hb l.length (Nat.le_refl _)
  have hit : f l[atTo l l.length] = true := by rw [hf, e, cy_get hat]
  refine ⟨?_, List.any_eq_true.2 ⟨_, List.getElem_mem hat, hit⟩⟩
  rw [List.findIdx_eq hat]
  refine ⟨hit, fun j hj => ?_⟩
  have := (atTo_low h0 l.length (Nat.le_refl _)).2 j hj
  rw [Bool.eq_false_iff]
  intro hc
  rw [hf, e, ← cy_get (show j < l.length by omega)] at hc
  rw [hc] at this
  exact lx_irr _ this

theorem canon_facts {l : List XY} (h0 : 0 < l.length) (hb : ∀ j, Bd 100000 (cy l j)) : ∃ k, k < l.length ∧ idxF (fun q => decide (minW l = q)) l = (k : Int) ∧ canonL l = l.drop k ++ l.take k ∧ canonL l = turnL l := by
  have hat := atTo_lt h0 l.length (Nat.le_refl _)
  obtain ⟨e1, e2⟩ := idx_at h0 hb (fun q => decide (minW l = q)) (fun q => by simp only [decide_eq_true_eq]; exact eq_comm)
  obtain ⟨e3, _⟩ := idx_at h0 hb (fun q => decide (q = minW l)) (fun q => by simp only [decide_eq_true_eq])
  have e4 : canonL l = rotL l (atTo l l.length) := by unfold canonL idxOf rotL; rw [e3]
  refine ⟨_, hat, by unfold idxF; rw [if_pos e2, e1], e4, ?_⟩
  rw [e4, turnL_rot h0]
end Go.Proofs.Ytcbphodkaiknmaa

namespace Go.Proofs.Ytcbphodkaiknmaa
open Go.RowKit

def canonS (va : List XY → Bool) (can : List XY → List XY) (l : List XY) : List XY × Int := if va l then (can l, 0) else ([], 10)
def sameS (va : List XY → Bool) (can : List XY → List XY) (l l2 : List XY) : Bool × Int := if !va l || !va l2 then (false, 10) else (decide (can l = can l2), 0)

theorem canon_any {A : Option Addr} {c : Nat} {l : List XY} {w : World} (hv : validB l = true) (hc : l.length ≤ c) (hl : Rd w w.heap.size A l) : Calls Try.prog 18 #[.slice A l.length c] w (RetO (canonL l) w) := by
  have hlen := validB_len' hv
  obtain ⟨k, hk, h1, h2, _⟩ := canon_facts (show 0 < l.length by omega) (bd_cy' (by omega) (validB_ranged hv))
  exact canonical_any A c l w (by omega) (by omega) hc hl k hk h1 h2

end Go.Proofs.Ytcbphodkaiknmaa

namespace Go.Proofs.Ytcbphodkaiknmaa
open Go.RowKit

theorem turn_any {A : Option Addr} {c : Nat} {l : List XY} {w : World} (hv : validRB l = true) (hl : Rd w w.heap.size A l) : Calls Try.prog 32 #[.slice A l.length c] w (RetO (turnL l) w) := by
  have hlen := validRB_len hv
  exact Turn_any A c l w (by omega) (by omega) hl

end Go.Proofs.Ytcbphodkaiknmaa

/- chain, the walk of the program's hull. -/
import Derived.Test.YtcbphodkaiknmaaWE
import Derived.Test.YtcbphodkaiknmaaRound2
import Derived.Test.YtcbphodkaiknmaaW50
namespace Go.Proofs.Ytcbphodkaiknmaa
open Go.RowKit
set_option linter.unusedSimpArgs false

def popW : List XY → XY → List XY
  | b :: a :: r, p => if crossW a b p ≤ 0 then popW (a :: r) p else b :: a :: r
  | st, _ => st
def chainW (S : List XY) : List XY := S.foldl (fun st p => p :: popW st p) []
theorem chainW_succ {S : List XY} {k : Nat} {p : XY} (h : S[k]? = some p) : chainW (S.take (k + 1)) = p :: popW (chainW (S.take k)) p := by unfold chainW; rw [take_succ_of h, List.foldl_append]; rfl
theorem popW_hit {b a p : XY} {r : List XY} (h : crossW a b p ≤ 0) : popW (b :: a :: r) p = popW (a :: r) p := by
  show (if crossW a b p ≤ 0 then popW (a :: r) p else b :: a :: r) = _
  rw [if_pos h]
theorem popW_miss {b a p : XY} {r : List XY} (h : ¬ crossW a b p ≤ 0) : popW (b :: a :: r) p = b :: a :: r := by
  show (if crossW a b p ≤ 0 then popW (a :: r) p else b :: a :: r) = _
  rw [if_neg h]
theorem popW_len : ∀ (st : List XY) (p : XY), (popW st p).length ≤ st.length
  | b :: a :: r, p => by
    unfold popW
    split
    · have := popW_len (a :: r) p; simp only [List.length_cons] at this ⊢; omega
    · exact Nat.le_refl _
  | [a], p => by unfold popW; exact Nat.le_refl _
  | [], p => by unfold popW; exact Nat.le_refl _
theorem chainW_len (S : List XY) : ∀ k, (chainW (S.take k)).length ≤ k
  | 0 => by unfold chainW; simp
  | k + 1 => by
    cases h : S[k]? with
    | none =>
      have hl := List.getElem?_eq_none_iff.1 h
      have e : S.take (k + 1) = S.take k := by rw [List.take_of_length_le (by omega), List.take_of_length_le hl]
      rw [e]; exact Nat.le_succ_of_le (chainW_len S k)
    | some p => rw [chainW_succ h, List.length_cons]; have := popW_len (chainW (S.take k)) p; have := chainW_len S k; omega
theorem own_take {w : World} {B e size g n c k : Nat} {xs : List Value} (h : w.ownsRow B e size (.slice (some ⟨g, 0, none⟩) n c) n xs) (hk : k ≤ n) : w.ownsRow B e size (.slice (some ⟨g, 0, none⟩) k c) k (xs.take (k * size)) := by
  have hm := Nat.mul_le_mul_right size hk
  refine ⟨by rw [List.length_take, h.1]; omega, ?_⟩
  rcases h.2 with ⟨e, _⟩ | ⟨g', cap, cur, e, hB, hg, h1, h2, h3, h4⟩
  · cases e
  · injection e with e1 e2 e3
    injection e1 with e1
    injection e1 with e1
    subst e1 e3
    refine .inr ⟨g, c, cur, rfl, hB, hg, by omega, h2, h3, ?_⟩
    rw [← h4, List.take_take, Nat.min_eq_left hm]
theorem flat_take (l : List XY) : ∀ k, (flat l).take (k * 2) = flat (l.take k) := by
  induction l with
  | nil => intro k; simp [flat]
  | cons p l ih =>
    intro k
    cases k with
    | zero => simp [flat]
    | succ k => rw [flat_cons, show (k + 1) * 2 = k * 2 + 1 + 1 by omega, List.take_succ_cons, List.take_succ_cons, ih, List.take_succ_cons, flat_cons]
theorem ownL_take {w : World} {B g c k : Nat} {l : List XY} (h : OwnL w B (.slice (some ⟨g, 0, none⟩) l.length c) l) (hk : k ≤ l.length) : OwnL w B (.slice (some ⟨g, 0, none⟩) k c) (l.take k) := by
  have := own_take (size := 2) h hk
  rw [flat_take] at this
  show World.ownsRow _ _ _ _ _ (l.take k).length _
  rw [List.length_take, Nat.min_eq_left hk]
  exact this
theorem own_below8' {w w' : World} {B e size n : Nat} {v : Value} {xs : List Value} (h : w.ownsRow B e size v n xs) (hb : Below w.heap.size w w') : w'.ownsRow B e size v n xs := by
  refine ⟨h.1, ?_⟩
  rcases h.2 with hn | ⟨g, cap, cur, rfl, hg, hgg, rest⟩
  · exact .inl hn
  · exact .inr ⟨g, cap, cur, rfl, hg, by rw [hb.block g (Array.getElem?_eq_some_iff.1 hgg).1]; exact hgg, rest⟩
set_option maxRecDepth 100000 in
set_option maxHeartbeats 4000000 in
theorem chain_any (A : Option Addr) (c : Nat) (S : List XY) (w : World) (h0 : 0 < S.length) (hm : S.length ≤ 1000000) (hl : Rd w w.heap.size A S) :
    Calls Try.prog 16 #[.slice A S.length c] w (RetO (chainW S).tail.reverse w) := by
  have HL := Lib.hid hl; clear hl
  have hmx : Try.prog.follows .mixedOrders = true := by kernel_rfl
  obtain ⟨i0, hi, hz0', hz1', hz2'⟩ := info_parts Try.infoXY
  have HJ := Lib.hid hi; clear hi
  go_enter Try.func16, Try.ntmps16
  go_wp2
  go_loopw [3, 5, 6, 9] (fun v _ _ i wr => ∃ k : Nat, k ≤ S.length ∧ i = .int .i64 k ∧ OwnL wr w.heap.size v (chainW (S.take k)).reverse ∧ Below w.heap.size w wr) (fun _ _ _ i _ => S.length - (intOf i).toNat)
  case atStart => exact ⟨0, Nat.zero_le _, rfl, by unfold chainW; exact World.ownsRow_nil _ _ _ _, Below.refl _ _⟩
  case round =>
    obtain ⟨k, hk, rfl, hown, hB⟩ := hrel
    have HOW := Lib.hid hown; clear hown
    have hsB := hB.size
    by_cases hlt : k < S.length
    · obtain ⟨p, hp⟩ := getElem?_of_lt hlt
      obtain ⟨b, off, hA, hb, d0, d1⟩ := (HL.out.now hB) k p hp
      have HCS := Lib.hid (chainW_succ hp)
      have HLN := Lib.hid (chainW_len S k)
      subst hA
      clear hp
      obtain ⟨st, hst⟩ : ∃ st, chainW (S.take k) = st := ⟨_, rfl⟩
      rw [hst] at HCS HOW HLN
      clear hst
      obtain ⟨A1, c1, hv1, hr1⟩ := own_rd HOW.out
      rw [List.length_reverse] at hv1
      subst hv1
      clear hr1
      obtain ⟨wz, hwz⟩ : ∃ wz, wr.alloc (.cells #[.int .i64 p.X, .int .i64 p.Y] 29) = wz := ⟨_, rfl⟩
      have hbz : Below wr.heap.size wr wz := by rw [← hwz]; (repeat (first | exact Below.refl _ _ | assumption | refine Below.alloc ?_ (by first | exact Nat.le_refl _ | exact Below.size (by assumption) | omega | (simp <;> omega)) _ | refine Below.setCell ?_ (by first | exact Nat.le_refl _ | exact Below.size (by assumption) | omega | (simp <;> omega)) _ | refine below_drewN ?_ _ | refine Below.drew ?_))
      have hzz : wr.heap.size < wz.heap.size := by rw [← hwz]; simp
      have HZ := Lib.hid (show Pt wz wr.heap.size p by rw [← hwz]; exact ⟨by simp, by simp⟩)
      have HOZ := Lib.hid (own_below HOW.out hbz)
      have hBz := hB.trans (hbz.mono hB.size)
      have HW := Lib.hid hwz; clear hwz
      go_upto_region 5 with fail
      rw [HW.out]
      clear HW d0 d1
      go_wp2
      obtain ⟨wo, rfl⟩ : ∃ wo : World, wo = wr := ⟨_, rfl⟩
      go_loopw [3, 6] (fun v n ww => ∃ (s2 : List XY) (A2 : Option Addr) (c2 : Nat), v = .slice A2 s2.length c2 ∧ n = .int .i64 s2.length ∧ s2.length ≤ st.length ∧ popW s2 p = popW st p ∧ OwnL ww w.heap.size (.slice A2 s2.length c2) s2.reverse ∧ Below wz.heap.size wz ww) (fun _ n _ => (intOf n).toNat)
      case atStart => exact ⟨st, A1, c1, rfl, rfl, Nat.le_refl _, rfl, HOZ.out, Below.refl _ _⟩
      case round =>
        obtain ⟨s2, A2, c2, rfl, rfl, hs2, hpop, hown2, hBw⟩ := hrel
        have HP2 := Lib.hid hpop; clear hpop
        have HO2 := Lib.hid hown2; clear hown2
        have hBB := hBz.trans (hBw.mono hBz.size)
        have HPT := Lib.hid (HZ.out.below hBw hzz)
        have hzw : wo.heap.size < wr.heap.size := by have := hBw.size; omega
        have hexit : (s2 = [] ∨ (∃ a, s2 = [a]) ∨ ∃ b a r, s2 = b :: a :: r) := by
          match s2 with
          | [] => exact .inl rfl
          | [a] => exact .inr (.inl ⟨a, rfl⟩)
          | b :: a :: r => exact .inr (.inr ⟨b, a, r, rfl⟩)
        obtain ⟨n, hn⟩ : ∃ n, s2.length = n := ⟨_, rfl⟩
        have HNB : Hid (n ≤ 1000000) := by have := HLN.out; show n ≤ _; omega
        have HBw := Lib.hid hBB; clear hBB
        rw [hn] at HO2 ⊢
        have HON : Hid (wr.ownsRow w.heap.size 29 2 (.slice A2 n c2) n (flat s2.reverse)) := by
          have h := HO2.out
          unfold OwnL at h
          rw [List.length_reverse, hn] at h
          exact h
        obtain ⟨x0, x1⟩ := HPT.out
        have hs2w := HBw.out.size
        have HN := Lib.hid hn
        have hHC : Hid (∀ w', Below wr.heap.size wr w' → w'.cell? ⟨wo.heap.size, 0, none⟩ = some (.int .i64 p.X) ∧ w'.cell? ⟨wo.heap.size, 1, none⟩ = some (.int .i64 p.Y)) := fun w' hC =>
          ⟨(hC.cell (p := ⟨wo.heap.size, 0, none⟩) hzw).trans x0, (hC.cell (p := ⟨wo.heap.size, 1, none⟩) hzw).trans x1⟩
        clear x0 x1
        by_cases hshort : n < 2
        · have HPE : Hid (popW st p = s2) := HP2.out.symm.trans (by
            match s2, hn with
            | [], _ => rfl
            | [a], _ => rfl
            | b :: a :: r, hn => simp at hn; omega)
          have hd2 : decide ((2 : Int) ≤ (n : Int)) = false := decide_eq_false (by omega)
          clear hn hexit
          go_wp2
          refine region_qw (fun w' => Below wr.heap.size wr w') hmx (by kernel_rfl) (by (repeat (first | exact Below.refl _ _ | assumption | refine Below.alloc ?_ (by first | exact Nat.le_refl _ | exact Below.size (by assumption) | omega | (simp <;> omega)) _ | refine Below.setCell ?_ (by first | exact Nat.le_refl _ | exact Below.size (by assumption) | omega | (simp <;> omega)) _ | refine below_drewN ?_ _ | refine Below.drew ?_))) ?_
          repeat (first | (refine qw_read rfl (fun w' hC => by obtain ⟨f0, f1⟩ := hHC.out w' hC; clear hC; go_simp; rfl) ?_; simp only [Act.put, List.setIfInBounds_toArray, List.set_cons_succ, List.set_cons_zero]) | (refine qw_pass (by first | (simp [Region.wanted, yielded]; done) | (simp [Region.wanted, yielded]; intro h; cases h)) ?_; simp only [Act.put, List.setIfInBounds_toArray, List.set_cons_succ, List.set_cons_zero]))
          refine qw_nil ?_
          intro w9 hb9
          obtain ⟨f0, f1⟩ := hHC.out w9 hb9
          have hz9 : wo.heap.size < w9.heap.size := by have := hb9.size; omega
          have HOA := Lib.hid (own_below8' HON.out hb9)
          have hBA := HBw.out.trans (hb9.mono hs2w)
          have hsA := hBA.size
          go_wp2_with (at_builtin; refine wpList_append_own _ rfl _ _ 22 rfl w.heap.size 29 i0 (.agg #[.int .i64 0, .int .i64 0]) 2 16 Try.underlying22 HJ.out hz0' hz1' hz2' rfl (by decide) _ n _ rfl (World.ownsRow.alloc HOA.out _) ⟨w9.heap.size, 0, none⟩ 1 1 [.int .i64 p.X, .int .i64 p.Y] rfl rfl (by intro j u hj; match j, hj with | 0, hj => (simp at hj; subst hj; simp [Addr.add]) | 1, hj => (simp at hj; subst hj; simp [Addr.add]) | j + 2, hj => simp at hj) (by intro u hu; simp at hu; rcases hu with rfl | rfl <;> rfl) (by have := HNB.out; unfold maxLen; omega) (by have := HNB.out; omega) (by simp; omega) ?_; intro v5 w5 hown5 hgrow _; have hB5 := below_grown (w1 := w9.alloc (.cells #[.int .i64 p.X, .int .i64 p.Y] 29)) (hBA.alloc (by omega) (.cells #[.int .i64 p.X, .int .i64 p.Y] 29)) hgrow (fun j hj => (HOA.out.lt j hj).1) (by simp; omega); have HO5 := Lib.hid hown5; clear hown5 hgrow)
          go_wp2
          go_roundw
          case rel =>
            refine ⟨k + 1, by omega, by go_num, ?_, hB5⟩
            rw [HCS.out, HPE.out, List.reverse_cons]
            show World.ownsRow _ _ _ _ _ (s2.reverse ++ [p]).length _
            rw [flat_append, List.length_append, List.length_reverse, HN.out]
            exact HO5.out
          case measure => simp [intOf]; omega
        · obtain ⟨b', a', r, rfl⟩ : ∃ b a r, s2 = b :: a :: r := by
            rcases hexit with h | ⟨a, h⟩ | ⟨b, a, r, h⟩
            · subst h; simp at hn; omega
            · subst h; simp at hn; omega
            · exact ⟨b, a, r, h⟩
          have hrn : r.length + 2 = n := by simpa using hn
          have ga : (b' :: a' :: r).reverse[r.length]? = some a' := by rw [List.getElem?_reverse (by simp only [List.length_cons]; omega)]; simp
          have gb : (b' :: a' :: r).reverse[r.length + 1]? = some b' := by rw [List.getElem?_reverse (by simp only [List.length_cons]; omega)]; simp
          obtain ⟨i2, hi2⟩ : ∃ i2, r.length = i2 := ⟨_, rfl⟩
          obtain ⟨i1, hi1⟩ : ∃ i1, i2 + 1 = i1 := ⟨_, rfl⟩
          have hown3 : OwnL wr w.heap.size (.slice A2 n c2) (b' :: a' :: r).reverse := HO2.out
          obtain ⟨A3, c3, hv3, hr3, hc3⟩ := own_rdc hown3
          rw [List.length_reverse, hn] at hv3 hc3
          have hAc : A2 = A3 ∧ c2 = c3 := by injection hv3 with e1 _ e3; exact ⟨e1, e3⟩
          obtain ⟨rfl, rfl⟩ := hAc
          obtain ⟨g, og, hAg, hgl, ya0, ya1⟩ := hr3 _ _ ga
          obtain ⟨g', og', hAg', _, yb0, yb1⟩ := hr3 _ _ gb
          obtain ⟨rfl, rfl⟩ : g = g' ∧ og = og' := by rw [hAg] at hAg'; simpa using hAg'
          obtain ⟨gg, cc, hform, _⟩ := own_form hown3 (by simp)
          have hog : og = 0 := by rw [hAg] at hform; injection hform with e1; injection e1 with e1; injection e1
          subst hog
          rw [hi2] at ya0 ya1
          rw [hi2, hi1] at yb0 yb1
          have HCC : Hid (∀ w', Below wr.heap.size wr w' → (w'.cell? ⟨wo.heap.size, 0, none⟩ = some (.int .i64 p.X) ∧ w'.cell? ⟨wo.heap.size, 1, none⟩ = some (.int .i64 p.Y)) ∧ w'.cell? ⟨g, 0 + i2 * 2, none⟩ = some (.int .i64 a'.X) ∧ w'.cell? ⟨g, 0 + i2 * 2 + 1, none⟩ = some (.int .i64 a'.Y) ∧ w'.cell? ⟨g, 0 + i1 * 2, none⟩ = some (.int .i64 b'.X) ∧ w'.cell? ⟨g, 0 + i1 * 2 + 1, none⟩ = some (.int .i64 b'.Y)) := fun w' hC =>
            ⟨hHC.out w' hC, (hC.cell (p := ⟨g, 0 + i2 * 2, none⟩) hgl).trans ya0, (hC.cell (p := ⟨g, 0 + i2 * 2 + 1, none⟩) hgl).trans ya1, (hC.cell (p := ⟨g, 0 + i1 * 2, none⟩) hgl).trans yb0, (hC.cell (p := ⟨g, 0 + i1 * 2 + 1, none⟩) hgl).trans yb1⟩
          simp only [Nat.zero_add] at HCC
          have HOF := Lib.hid hown3
          have HCN := Lib.hid hc3
          have e2 : IntKind.i64.wrap ((n : Int) - 2) = (i2 : Int) := by rw [IntWalk.i64_in _ (by have := HNB.out; omega)]; omega
          have e1 : IntKind.i64.wrap ((n : Int) - 1) = (i1 : Int) := by rw [IntWalk.i64_in _ (by have := HNB.out; omega)]; omega
          have e3 : wrap64 ((n : Int) - 1) = (i1 : Int) := by rw [w64_id (by omega) (by have := HNB.out; omega)]; omega
          have hd2 : decide ((2 : Int) ≤ (n : Int)) = true := decide_eq_true (by omega)
          have l2 : i2 < n := by omega
          have l1 : i1 < n := by omega
          have hrl := Lib.hid (And.intro hi2 hi1)
          have hi1c : (i1 : Int) ≤ (c2 : Int) := by omega
          have hHRN := Lib.hid hrn
          clear ya0 ya1 yb0 yb1 hv3 hr3 hAg' hform hown3 ga gb hexit hi2 hi1 hn hrn hc3
          subst hAg
          go_wp2
          refine region_qw (fun w' => Below wr.heap.size wr w') hmx (by kernel_rfl) (by (repeat (first | exact Below.refl _ _ | assumption | refine Below.alloc ?_ (by first | exact Nat.le_refl _ | exact Below.size (by assumption) | omega | (simp <;> omega)) _ | refine Below.setCell ?_ (by first | exact Nat.le_refl _ | exact Below.size (by assumption) | omega | (simp <;> omega)) _ | refine below_drewN ?_ _ | refine Below.drew ?_))) ?_
          repeat (first | (refine qw_read rfl (fun w' hC => by obtain ⟨⟨f0, f1⟩, f2, f3, f4, f5⟩ := HCC.out w' hC; clear hC; go_simp; rfl) ?_; simp only [Act.put, List.setIfInBounds_toArray, List.set_cons_succ, List.set_cons_zero]) | (refine qw_pass (by first | (simp [Region.wanted, yielded]; done) | (simp [Region.wanted, yielded]; intro h; cases h)) ?_; simp only [Act.put, List.setIfInBounds_toArray, List.set_cons_succ, List.set_cons_zero]))
          (refine qw_call rfl (fun w' hC => by (go_simp; try rfl)) (fun w' hC => (cross_any a' b' p w').mono (fun e w2 hr => ⟨hr.1, hC.trans (hr.2.mono hC.size)⟩)) ?_; simp only [Act.put, List.setIfInBounds_toArray, List.set_cons_succ, List.set_cons_zero])
          repeat (first | (refine qw_read rfl (fun w' hC => by obtain ⟨⟨f0, f1⟩, f2, f3, f4, f5⟩ := HCC.out w' hC; clear hC; go_simp; rfl) ?_; simp only [Act.put, List.setIfInBounds_toArray, List.set_cons_succ, List.set_cons_zero]) | (refine qw_pass (by first | (simp [Region.wanted, yielded]; done) | (simp [Region.wanted, yielded]; intro h; cases h)) ?_; simp only [Act.put, List.setIfInBounds_toArray, List.set_cons_succ, List.set_cons_zero]))
          refine qw_nil ?_
          intro w9 hb9
          have hBA := HBw.out.trans (hb9.mono hs2w)
          by_cases hcr : crossW a' b' p ≤ 0
          · have HPE : Hid (popW (a' :: r) p = popW st p) := (popW_hit hcr).symm.trans HP2.out
            have HOT : Hid (OwnL w9 w.heap.size (.slice (some ⟨g, 0, none⟩) i1 c2) (a' :: r).reverse) := by
              have h1 := HOF.out
              have hl1 : (b' :: a' :: r).reverse.length = n := by rw [List.length_reverse]; simpa using hHRN.out
              rw [← hl1] at h1
              have h2 := ownL_take (k := i1) h1 (by omega)
              have ht : (b' :: a' :: r).reverse.take i1 = (a' :: r).reverse := by
                rw [List.reverse_cons, List.take_left']
                rw [List.length_reverse, List.length_cons, ← hrl.out.1.symm]
                have := hrl.out.1; have := hrl.out.2; omega
              rw [ht] at h2
              exact own_below h2 hb9
            have hlen2 : Hid ((a' :: r).length = i1) := by show _ = _; rw [List.length_cons]; have := hrl.out.1; have := hrl.out.2; omega
            go_wp2
            go_roundw
            case rel =>
              refine ⟨a' :: r, some ⟨g, 0, none⟩, c2, by rw [hlen2.out], by rw [hlen2.out], ?_, HPE.out, by rw [hlen2.out]; exact HOT.out, hBw.trans (hb9.mono hBw.size)⟩
              simp only [List.length_cons] at hs2 ⊢; omega
            case measure => simp [intOf]; omega
          · have HPE : Hid (popW st p = b' :: a' :: r) := HP2.out.symm.trans (popW_miss hcr)
            obtain ⟨⟨f0, f1⟩, _⟩ := HCC.out w9 hb9
            have hz9 : wo.heap.size < w9.heap.size := by have := hb9.size; omega
            have HOA := Lib.hid (own_below8' HON.out hb9)
            have hsA := hBA.size
            go_wp2_with (at_builtin; refine wpList_append_own _ rfl _ _ 22 rfl w.heap.size 29 i0 (.agg #[.int .i64 0, .int .i64 0]) 2 16 Try.underlying22 HJ.out hz0' hz1' hz2' rfl (by decide) _ n _ rfl (World.ownsRow.alloc HOA.out _) ⟨w9.heap.size, 0, none⟩ 1 1 [.int .i64 p.X, .int .i64 p.Y] rfl rfl (by intro j u hj; match j, hj with | 0, hj => (simp at hj; subst hj; simp [Addr.add]) | 1, hj => (simp at hj; subst hj; simp [Addr.add]) | j + 2, hj => simp at hj) (by intro u hu; simp at hu; rcases hu with rfl | rfl <;> rfl) (by have := HNB.out; unfold maxLen; omega) (by have := HNB.out; omega) (by simp; omega) ?_; intro v5 w5 hown5 hgrow _; have hB5 := below_grown (w1 := w9.alloc (.cells #[.int .i64 p.X, .int .i64 p.Y] 29)) (hBA.alloc (by omega) (.cells #[.int .i64 p.X, .int .i64 p.Y] 29)) hgrow (fun j hj => (HOA.out.lt j hj).1) (by simp; omega); have HO5 := Lib.hid hown5; clear hown5 hgrow)
            go_wp2
            go_roundw
            case rel =>
              refine ⟨k + 1, by omega, by go_num, ?_, hB5⟩
              rw [HCS.out, HPE.out, List.reverse_cons]
              show World.ownsRow _ _ _ _ _ ((b' :: a' :: r).reverse ++ [p]).length _
              rw [flat_append, List.length_append, List.length_reverse, HN.out]
              exact HO5.out
            case measure => simp [intOf]; omega
    · obtain rfl : k = S.length := by omega
      rw [List.take_length] at HOW
      obtain ⟨q, rr, hq⟩ : ∃ q rr, chainW S = q :: rr := by
        obtain ⟨p, hp⟩ := getElem?_of_lt (show S.length - 1 < S.length by omega)
        have h := chainW_succ hp
        rw [show S.length - 1 + 1 = S.length by omega, List.take_length] at h
        exact ⟨_, _, h⟩
      have hln := chainW_len S S.length
      rw [List.take_length] at hln
      rw [hq] at HOW hln
      have HQ := Lib.hid hq
      obtain ⟨g, c1, hv, _⟩ := own_form HOW.out (by simp)
      obtain ⟨_, _, hv2, _, hc1⟩ := own_rdc HOW.out
      rw [hv] at hv2
      injection hv2 with hva hvb hc2
      rw [← hc2] at hc1
      clear hva hvb
      subst hv
      obtain ⟨n, hn⟩ : ∃ n, (q :: rr).reverse.length = n := ⟨_, rfl⟩
      have hn2 : rr.length + 1 = n := by rw [← hn]; simp
      have hO := ownL_take (k := rr.length) HOW.out (by rw [hn]; omega)
      have ht : (q :: rr).reverse.take rr.length = (q :: rr).tail.reverse := by
        rw [List.reverse_cons, List.take_left' (by simp)]; rfl
      rw [ht] at hO
      obtain ⟨m, hm2⟩ : ∃ m, rr.length = m := ⟨_, rfl⟩
      rw [hm2] at hO hn2
      have HO := Lib.hid hO
      rw [hn] at hc1 ⊢
      have e3 : wrap64 ((n : Int) - 1) = (m : Int) := by rw [w64_id (by omega) (by simp only [List.length_cons] at hln; omega)]; omega
      have hmc : (m : Int) ≤ (c1 : Int) := by omega
      clear hO ht hn hm2 hln hc2 hq HOW
      go_wp2
      go_ret
      refine ⟨_, rfl, ?_, hB⟩
      rw [HQ.out]
      exact HO.out
end Go.Proofs.Ytcbphodkaiknmaa

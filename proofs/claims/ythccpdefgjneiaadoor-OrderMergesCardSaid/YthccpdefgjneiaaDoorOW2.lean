/- Split of both: the walks; lists of numbers that are the same. -/
import Derived.Test.YthccpdefgjneiaaDoorOW1
namespace Go.Proofs.YthccpdefgjneiaaDoor
open Go.RowKit Go.Shelf

def badI (l : List Int) : Bool := l.any fun v => !bet 0 v 10000
def cum (l : List Int) (k : Nat) : Int := (l.take k).sum
def shS (c all : Int) (l : List Int) (k : Nat) : Int := c * cum l k / all
def splitTo (c all : Int) (l : List Int) (k : Nat) : List Int := (List.range k).map fun i => shS c all l (i + 1) - shS c all l i
def splitS (c : Int) (l : List Int) : List Int × Int := if 100 < l.length then ([], 4) else if badI l || (!amt c || decide (l.sum = 0)) then ([], 2) else (splitTo c l.sum l l.length, 0)
theorem cum_succ {l : List Int} {k : Nat} {v : Int} (h : l[k]? = some v) : cum l (k + 1) = cum l k + v := by
  unfold cum
  rw [take_succ_of h, List.sum_append]
  simp
theorem cum_all (l : List Int) : cum l l.length = l.sum := by unfold cum; rw [List.take_length]
theorem splitTo_succ (c all : Int) (l : List Int) (k : Nat) : splitTo c all l (k + 1) = splitTo c all l k ++ [shS c all l (k + 1) - shS c all l k] := by
  unfold splitTo; rw [List.range_succ, List.map_append]; rfl
theorem splitTo_len (c all : Int) (l : List Int) (k : Nat) : (splitTo c all l k).length = k := by unfold splitTo; simp
theorem cum_bd {l : List Int} : ∀ k, k ≤ l.length → (∀ x ∈ l.take k, bet 0 x 10000 = true) → 0 ≤ cum l k ∧ cum l k ≤ 10000 * (k : Int)
  | 0, _, _ => by unfold cum; simp
  | k + 1, hk, h => by
    obtain ⟨v, hv⟩ := getElem?_of_lt (show k < l.length by omega)
    have h1 := cum_bd (l := l) k (by omega) (fun x hx => h x (by rw [take_succ_of hv]; exact List.mem_append_left _ hx))
    have h2 := bet_iff.1 (h v (by rw [take_succ_of hv]; simp))
    rw [cum_succ hv]
    push_cast
    omega
theorem cum_mono {l : List Int} (h : ∀ x ∈ l, bet 0 x 10000 = true) (k : Nat) : 0 ≤ cum l k ∧ cum l k ≤ l.sum := by
  have pos : ∀ m : List Int, (∀ x ∈ m, bet 0 x 10000 = true) → 0 ≤ m.sum := by
    intro m
    induction m with
    | nil => intro _; simp
    | cons x m ih =>
      intro hm
      have h1 := bet_iff.1 (hm x List.mem_cons_self)
      have h2 := ih (fun y hy => hm y (List.mem_cons_of_mem _ hy))
      rw [List.sum_cons]; omega
  have h1 := pos (l.take k) (fun x hx => h x (List.mem_of_mem_take hx))
  have h2 := pos (l.drop k) (fun x hx => h x (List.mem_of_mem_drop hx))
  have e : l.sum = cum l k + (l.drop k).sum := by
    unfold cum
    rw [← List.sum_append, List.take_append_drop]
  exact ⟨h1, by omega⟩
theorem sh_bd {c all : Int} {l : List Int} {k : Nat} (h1 : -1099511627776 ≤ c) (h2 : c ≤ 1099511627776) (ha : 0 < all) (f0 : 0 ≤ cum l k) (f1 : cum l k ≤ 1000000) : -1099511627776000000 ≤ c * cum l k ∧ c * cum l k ≤ 1099511627776000000 ∧ -1099511627776000000 ≤ shS c all l k ∧ shS c all l k ≤ 1099511627776000000 := by
  have mm := mul_bd (a := c) (b := cum l k) (A := 1099511627776) (B := 1000000) (by omega) (by omega) (by omega) (by omega)
  unfold shS
  refine ⟨by omega, by omega, ?_, ?_⟩
  · refine (Int.le_ediv_iff_mul_le ha).2 ?_
    have : (-1099511627776000000 : Int) * all ≤ -1099511627776000000 * 1 := Int.mul_le_mul_of_nonpos_left (by omega) (by omega)
    omega
  · rcases Int.le_total 0 (c * cum l k) with h0 | h0
    · have := Int.ediv_le_self all h0; omega
    · have : c * cum l k / all < 1 := Int.ediv_lt_of_lt_mul ha (by omega)
      omega
theorem split_bad {c : Int} {l : List Int} (h : l.length ≤ 100) (hb : badI l = true) : splitS c l = ([], 2) := by unfold splitS; rw [if_neg (by omega), hb]; rfl
theorem all_good {l : List Int} (h : ∀ x ∈ l, bet 0 x 10000 = true) : badI l = false := by
  unfold badI; rw [List.any_eq_false]; intro x hx; rw [h x hx]; simp

set_option maxRecDepth 100000 in
set_option maxHeartbeats 2000000 in
theorem Split_any (A : Option Addr) (cp : Nat) (c : Int) (l : List Int) (w : World) (hl : RdI w w.heap.size A l) :
    Calls Tryd.prog 17 #[.int .i64 c, .slice A l.length cp] w (RetL (splitS c l).1 [.int .i64 (splitS c l).2] w) := by
  have HL := Lib.hid hl; clear hl
  by_cases h100 : 100 < l.length
  · have HS := Lib.hid (show splitS c l = ([], 4) by unfold splitS; rw [if_pos h100])
    have h100I : (100 : Int) < (l.length : Int) := by omega
    go_enter Tryd.func17, Tryd.ntmps17
    go_wp2
    go_ret2
    rw [HS.out]; exact ⟨none, 0, rfl, fun i p hp => by simp at hp, Nat.le_refl _, Below.refl _ _⟩
  have h100I : ¬ (100 : Int) < (l.length : Int) := by omega
  obtain ⟨i0, hi0, hz0', hz1', hz2'⟩ := info_partsI Tryd.infoI
  have HJ := Lib.hid hi0; clear hi0
  go_enter Tryd.func17, Tryd.ntmps17
  go_wp2
  go_loopw [6, 8, 20] (fun a _ i wr => ∃ k : Nat, k ≤ l.length ∧ i = .int .i64 k ∧ a = .int .i64 (cum l k) ∧ (∀ x ∈ l.take k, bet 0 x 10000 = true) ∧ wr = w) (fun _ _ i _ => l.length - (intOf i).toNat)
  case atStart => exact ⟨0, Nat.zero_le _, rfl, rfl, fun x hx => by simp at hx, rfl⟩
  case round =>
    obtain ⟨k, hk, rfl, rfl, hgood, rfl⟩ := hrel
    have HG := Lib.hid hgood; clear hgood
    by_cases hlt : k < l.length
    · obtain ⟨v, hv⟩ := getElem?_of_lt hlt
      obtain ⟨b1, off, hA, hb1, d0⟩ := HL.out k v hv
      have hbd := cum_bd k hk HG.out
      subst hA
      have hcs := cum_succ hv
      have HV := Lib.hid hv; clear hv
      cases hbv : bet 0 v 10000
      · have HS := Lib.hid (split_bad (c := c) (by omega) (show badI l = true from List.any_eq_true.2 ⟨v, List.mem_of_getElem? HV.out, by rw [hbv]; rfl⟩))
        have HBV := Lib.hid hbv; clear hbv hcs
        go_wp2_with fail
        refine (bet_any 0 v 10000 _).mono ?_
        rintro e w2 ⟨rfl, rfl⟩
        rw [HBV.out]
        go_wp2
        go_ret2
        rw [HS.out]; exact ⟨none, 0, rfl, fun i p hp => by simp at hp, Nat.le_refl _, Below.refl _ _⟩
      · have hvb := bet_iff.1 hbv
        have HBV := Lib.hid hbv; clear hbv
        have e1 : wrap64 (cum l k + v) = cum l (k + 1) := by rw [hcs]; exact w64_id (by omega) (by omega)
        have HCS := Lib.hid hcs; clear hcs
        go_wp2_with fail
        refine (bet_any 0 v 10000 _).mono ?_
        rintro e w2 ⟨rfl, rfl⟩
        rw [HBV.out]
        go_wp2
        go_roundw
        case rel =>
          refine ⟨k + 1, by omega, by go_num, by rw [HCS.out], fun x hx => ?_, trivial⟩
          rw [take_succ_of HV.out] at hx
          rcases List.mem_append.1 hx with hx | hx
          · exact HG.out x hx
          · simp at hx; subst hx; exact HBV.out
        case measure => simp [intOf]; omega
    · obtain rfl : k = l.length := by omega
      have hgood := HG.out
      rw [List.take_length] at hgood
      have hnb := all_good hgood
      have hcm := fun k => cum_mono hgood k
      have hbd := cum_bd l.length (Nat.le_refl _) HG.out
      rw [cum_all] at hbd ⊢
      obtain ⟨S, hS⟩ : ∃ S, l.sum = S := ⟨_, rfl⟩
      have hspl : splitS c l = if (!amt c || decide (S = 0)) then ([], 2) else (splitTo c S l l.length, 0) := by
        unfold splitS; rw [if_neg h100, hnb, Bool.false_or, hS]
      rw [hS] at hbd ⊢
      rw [hS] at hcm
      have HSP := Lib.hid hspl; clear hspl
      have HCM := Lib.hid hcm; clear hcm hS hgood
      cases ha : amt c
      · have HA := Lib.hid ha; clear ha
        go_wp2_with fail
        refine (amount_any c _).mono ?_
        rintro e w2 ⟨rfl, rfl⟩
        rw [HA.out]
        go_wp2
        go_ret2
        rw [HSP.out, HA.out]; exact ⟨none, 0, rfl, fun i p hp => by simp at hp, Nat.le_refl _, Below.refl _ _⟩
      have hab := bet_iff.1 ha
      have HA := Lib.hid ha; clear ha
      by_cases hS0 : S = 0
      · have hSb : (S == 0) = true := by simp [hS0]
        go_wp2_with fail
        refine (amount_any c _).mono ?_
        rintro e w2 ⟨rfl, rfl⟩
        rw [HA.out]
        go_wp2
        go_ret2
        rw [HSP.out, HA.out, hS0]; exact ⟨none, 0, rfl, fun i p hp => by simp at hp, Nat.le_refl _, Below.refl _ _⟩
      have hSb : (S == 0) = false := by simp [hS0]
      have HF : Hid (splitS c l = (splitTo c S l l.length, 0)) := by show splitS c l = _; rw [HSP.out, HA.out]; simp [hS0]
      go_wp2_with fail
      refine (amount_any c _).mono ?_
      rintro e w2 ⟨rfl, rfl⟩
      rw [HA.out]
      go_wp2
      clear hk hlt
      go_loopw [9, 10, 11, 13, 14, 40] (fun u f g _ _ i wr => ∃ (k : Nat) (v : Value), v = u ∧ k ≤ l.length ∧ i = .int .i64 k ∧ f = .int .i64 (cum l k) ∧ g = .int .i64 (shS c S l k) ∧ OwnI wr w2.heap.size v (splitTo c S l k) ∧ Below w2.heap.size w2 wr) (fun _ _ _ _ _ i _ => l.length - (intOf i).toNat)
      case atStart => exact ⟨0, _, rfl, Nat.zero_le _, rfl, rfl, by unfold shS cum; simp, World.ownsRow_nil _ _ _ _, Below.refl _ _⟩
      case round =>
        obtain ⟨k, u, rfl, hk, rfl, rfl, rfl, hown, hB⟩ := hrel
        have HO := Lib.hid hown; clear hown
        have hsB := hB.size
        by_cases hlt : k < l.length
        · obtain ⟨v, hv⟩ := getElem?_of_lt hlt
          obtain ⟨b1, off, hA, hb1, d0⟩ := (HL.out.now hB) k v hv
          subst hA
          have hcs := cum_succ hv
          clear hv
          obtain ⟨c1, c2⟩ := HCM.out k
          obtain ⟨c3, c4⟩ := HCM.out (k + 1)
          obtain ⟨s1, s2, s3, s4⟩ := sh_bd (c := c) (all := S) (l := l) (k := k) (by omega) (by omega) (by omega) (by omega) (by omega)
          obtain ⟨t1, t2, t3, t4⟩ := sh_bd (c := c) (all := S) (l := l) (k := k + 1) (by omega) (by omega) (by omega) (by omega) (by omega)
          have hsn := splitTo_succ c S l k
          have hln := splitTo_len c S l k
          obtain ⟨F, hF⟩ : ∃ F, cum l (k + 1) = F := ⟨_, rfl⟩
          obtain ⟨G, hG⟩ : ∃ G, shS c S l k = G := ⟨_, rfl⟩
          obtain ⟨K, hK⟩ : ∃ K, shS c S l (k + 1) = K := ⟨_, rfl⟩
          have hK2 : c * F / S = K := by rw [← hK, ← hF]; rfl
          rw [hF] at hcs t1 t2 c3 c4
          rw [hG] at s3 s4 hsn
          rw [hK] at t3 t4 hsn
          have e1 : wrap64 (cum l k + v) = F := by rw [hcs]; exact w64_id (by omega) (by omega)
          have e2 : wrap64 (c * F) = c * F := w64_id (by omega) (by omega)
          have e3 : wrap64 (K - G) = K - G := w64_id (by omega) (by omega)
          obtain ⟨R, hR⟩ : ∃ R, splitTo c S l k = R := ⟨_, rfl⟩
          have hown := HO.out
          rw [hR] at hown hsn hln
          have HO2 := Lib.hid hown
          have HSN := Lib.hid hsn
          have HLN := Lib.hid hln
          have HF1 := Lib.hid hF; clear hF
          have HK1 := Lib.hid hK; clear hK
          have HK2 := Lib.hid hK2; clear hK2
          rw [hG]
          clear hown hsn hR hG hcs hln
          go_wp2_with fail
          refine (floor_any (c * F) S _ (by omega) (by omega) (by omega)).mono ?_
          rintro e w3 ⟨rfl, rfl⟩
          rw [HK2.out]
          go_wp2_with (at_builtin; refine wpList_append_own _ rfl _ _ 36 rfl w2.heap.size 3 i0 (.int .i64 0) 1 8 Tryd.underlying36 HJ.out hz0' hz1' hz2' rfl (by decide) _ _ _ rfl (HO2.out.alloc _) ⟨w3.heap.size, 0, none⟩ 1 1 [.int .i64 (K - G)] rfl rfl (by intro j u hj; match j, hj with | 0, hj => (simp at hj; subst hj; simp [Addr.add]) | j + 1, hj => simp at hj) (by intro u hu; simp at hu; subst hu; rfl) (by have := HLN.out; unfold maxLen; omega) (by have := HLN.out; omega) (by simp; omega) ?_; intro v' w4 hown' hgrow _; have hB4 := below_grown (w1 := w3.alloc (.cells #[.int .i64 (K - G)] 3)) (hB.alloc (by omega) _) hgrow (fun j hj => (HO2.out.lt j hj).1) (by simp; omega); have own4 := ownI_snoc hown' HSN.out; have HOW := Lib.hid own4; clear own4 hown' hgrow)
          go_wp2
          go_roundw
          case rel => exact ⟨k + 1, _, rfl, by omega, by go_num, by rw [HF1.out], by rw [HK1.out], HOW.out, hB4⟩
          case measure => simp [intOf]; omega
        · obtain rfl : k = l.length := by omega
          obtain ⟨A8, c8, hv8, hr8, hc8⟩ := own_rdI HO.out
          rw [splitTo_len] at hv8 hc8
          subst hv8
          have HR8 := Lib.hid hr8; clear hr8 HO
          go_wp2
          go_ret2
          rw [HF.out]
          exact ⟨A8, c8, by rw [splitTo_len]; rfl, HR8.out, by rw [splitTo_len]; exact hc8, hB⟩

theorem share_ref {c S F q r : Int} (hS : 0 < S) (hr : c - q * S = r) : q * F + r * F / S = c * F / S := by
  have e : c * F = r * F + (q * F) * S := by rw [← hr]; grind
  rw [e, Int.add_mul_ediv_right _ _ (by omega)]
  omega

set_option maxRecDepth 100000 in
set_option maxHeartbeats 2000000 in
theorem Split2_any (A : Option Addr) (cp : Nat) (c : Int) (l : List Int) (w : World) (hl : RdI w w.heap.size A l) :
    Calls Tryd.prog 19 #[.int .i64 c, .slice A l.length cp] w (RetL (splitS c l).1 [.int .i64 (splitS c l).2] w) := by
  have HL := Lib.hid hl; clear hl
  by_cases h100 : 100 < l.length
  · have HS := Lib.hid (show splitS c l = ([], 4) by unfold splitS; rw [if_pos h100])
    have h100I : (100 : Int) < (l.length : Int) := by omega
    go_enter Tryd.func19, Tryd.ntmps19
    go_wp2
    go_ret2
    rw [HS.out]; exact ⟨none, 0, rfl, fun i p hp => by simp at hp, Nat.le_refl _, Below.refl _ _⟩
  have h100I : ¬ (100 : Int) < (l.length : Int) := by omega
  obtain ⟨i0, hi0, hz0', hz1', hz2'⟩ := info_partsI Tryd.infoI
  have HJ := Lib.hid hi0; clear hi0
  go_enter Tryd.func19, Tryd.ntmps19
  go_wp2
  go_loopw [6, 7] (fun a i wr => ∃ k : Nat, k ≤ l.length ∧ i = .int .i64 k ∧ a = .int .i64 (cum l k) ∧ (∀ x ∈ l.take k, bet 0 x 10000 = true) ∧ wr = w) (fun _ i _ => l.length - (intOf i).toNat)
  case atStart => exact ⟨0, Nat.zero_le _, rfl, rfl, fun x hx => by simp at hx, rfl⟩
  case round =>
    obtain ⟨k, hk, rfl, rfl, hgood, rfl⟩ := hrel
    have HG := Lib.hid hgood; clear hgood
    by_cases hlt : k < l.length
    · obtain ⟨v, hv⟩ := getElem?_of_lt hlt
      obtain ⟨b1, off, hA, hb1, d0⟩ := HL.out k v hv
      have hbd := cum_bd k hk HG.out
      subst hA
      have hcs := cum_succ hv
      have HV := Lib.hid hv; clear hv
      cases hbv : bet 0 v 10000
      · have HS := Lib.hid (split_bad (c := c) (by omega) (show badI l = true from List.any_eq_true.2 ⟨v, List.mem_of_getElem? HV.out, by rw [hbv]; rfl⟩))
        have hvb := bet_false.1 hbv
        clear hbv hcs
        go_wp2
        all_goals first | (exfalso; omega) | skip
        all_goals
          go_ret2
          rw [HS.out]; exact ⟨none, 0, rfl, fun i p hp => by simp at hp, Nat.le_refl _, Below.refl _ _⟩
      · have hvb := bet_iff.1 hbv
        have HBV := Lib.hid hbv; clear hbv
        have hn1 : ¬ v < 0 := by omega
        have hn2 : ¬ 10000 < v := by omega
        have HCS := Lib.hid hcs; clear hcs
        go_wp2
        go_roundw
        case rel =>
          refine ⟨k + 1, by omega, by go_num, by rw [HCS.out] <;> rfl, fun x hx => ?_, trivial⟩
          rw [take_succ_of HV.out] at hx
          rcases List.mem_append.1 hx with hx | hx
          · exact HG.out x hx
          · simp at hx; subst hx; exact HBV.out
        case measure => simp [intOf]; omega
    · obtain rfl : k = l.length := by omega
      have hgood := HG.out
      rw [List.take_length] at hgood
      have hnb := all_good hgood
      have hcm := fun k => cum_mono hgood k
      have hbd := cum_bd l.length (Nat.le_refl _) HG.out
      rw [cum_all] at hbd ⊢
      obtain ⟨S, hS⟩ : ∃ S, l.sum = S := ⟨_, rfl⟩
      have hspl : splitS c l = if (!amt c || decide (S = 0)) then ([], 2) else (splitTo c S l l.length, 0) := by
        unfold splitS; rw [if_neg h100, hnb, Bool.false_or, hS]
      rw [hS] at hbd ⊢
      rw [hS] at hcm
      have HSP := Lib.hid hspl; clear hspl
      have HCM := Lib.hid hcm; clear hcm hS hgood
      cases ha : amt c
      · have HA := Lib.hid ha; clear ha
        go_wp2_with fail
        refine (isAmount_any c _).mono ?_
        rintro e w2 ⟨rfl, rfl⟩
        rw [HA.out]
        go_wp2
        go_ret2
        rw [HSP.out, HA.out]; exact ⟨none, 0, rfl, fun i p hp => by simp at hp, Nat.le_refl _, Below.refl _ _⟩
      have hab := bet_iff.1 ha
      have HA := Lib.hid ha; clear ha
      by_cases hS0 : S = 0
      · have hSb : (S == 0) = true := by simp [hS0]
        go_wp2_with fail
        refine (isAmount_any c _).mono ?_
        rintro e w2 ⟨rfl, rfl⟩
        rw [HA.out]
        go_wp2
        go_ret2
        rw [HSP.out, HA.out, hS0]; exact ⟨none, 0, rfl, fun i p hp => by simp at hp, Nat.le_refl _, Below.refl _ _⟩
      have hSb : (S == 0) = false := by simp [hS0]
      have HF : Hid (splitS c l = (splitTo c S l l.length, 0)) := by show splitS c l = _; rw [HSP.out, HA.out]; simp [hS0]
      obtain ⟨q, hq⟩ : ∃ q, c / S = q := ⟨_, rfl⟩
      obtain ⟨r, hr⟩ : ∃ r, c - q * S = r := ⟨_, rfl⟩
      have hsr := fun F => share_ref (F := F) (show 0 < S by omega) hr
      have hd := Int.mul_ediv_add_emod c S
      have hm0 := Int.emod_nonneg c (by omega : S ≠ 0)
      have hm1 := Int.emod_lt_of_pos c (show 0 < S by omega)
      rw [hq] at hd
      have hqS : S * q = q * S := Int.mul_comm _ _
      have hq1 : -1099511627776 ≤ q := by rw [← hq]; exact (Int.le_ediv_iff_mul_le (by omega)).2 (by have : (-1099511627776 : Int) * S ≤ -1099511627776 * 1 := Int.mul_le_mul_of_nonpos_left (by omega) (by omega); omega)
      have hq2 : q ≤ 1099511627776 := by
        rw [← hq]
        rcases Int.le_total 0 c with h0 | h0
        · have := Int.ediv_le_self S h0; omega
        · have : c / S < 1 := Int.ediv_lt_of_lt_mul (by omega) (by omega); omega
      have hr1 : 0 ≤ r ∧ r < S := by omega
      have e1 : wrap64 (q * S) = q * S := w64_id (by omega) (by omega)
      have e2 : wrap64 (c - q * S) = r := by rw [hr]; exact w64_id (by omega) (by omega)
      have HQ := Lib.hid hq; clear hq
      have HSR := Lib.hid hsr; clear hsr hd hm0 hm1 hqS hr
      go_wp2_with fail
      refine (isAmount_any c _).mono ?_
      rintro e w2 ⟨rfl, rfl⟩
      rw [HA.out]
      go_wp2
      clear hk hlt
      go_loopw [8, 9, 10, 11, 12, 13] (fun u f g i _ _ wr => ∃ (k : Nat) (v : Value), v = u ∧ k ≤ l.length ∧ i = .int .i64 k ∧ f = .int .i64 (cum l k) ∧ g = .int .i64 (shS c S l k) ∧ OwnI wr w2.heap.size v (splitTo c S l k) ∧ Below w2.heap.size w2 wr) (fun _ _ _ i _ _ _ => l.length - (intOf i).toNat)
      case atStart => exact ⟨0, _, rfl, Nat.zero_le _, rfl, rfl, by unfold shS cum; simp, World.ownsRow_nil _ _ _ _, Below.refl _ _⟩
      case round =>
        obtain ⟨k, u, rfl, hk, rfl, rfl, rfl, hown, hB⟩ := hrel
        have HO := Lib.hid hown; clear hown
        have hsB := hB.size
        by_cases hlt : k < l.length
        · obtain ⟨v, hv⟩ := getElem?_of_lt hlt
          obtain ⟨b1, off, hA, hb1, d0⟩ := (HL.out.now hB) k v hv
          subst hA
          have hcs := cum_succ hv
          clear hv
          obtain ⟨c1, c2⟩ := HCM.out k
          obtain ⟨c3, c4⟩ := HCM.out (k + 1)
          obtain ⟨s1, s2, s3, s4⟩ := sh_bd (c := c) (all := S) (l := l) (k := k) (by omega) (by omega) (by omega) (by omega) (by omega)
          obtain ⟨t1, t2, t3, t4⟩ := sh_bd (c := c) (all := S) (l := l) (k := k + 1) (by omega) (by omega) (by omega) (by omega) (by omega)
          have hsn := splitTo_succ c S l k
          have hln := splitTo_len c S l k
          obtain ⟨F, hF⟩ : ∃ F, cum l (k + 1) = F := ⟨_, rfl⟩
          obtain ⟨G, hG⟩ : ∃ G, shS c S l k = G := ⟨_, rfl⟩
          obtain ⟨K, hK⟩ : ∃ K, shS c S l (k + 1) = K := ⟨_, rfl⟩
          have hK2 : c * F / S = K := by rw [← hK, ← hF]; rfl
          have hsF := HSR.out F
          rw [hK2] at hsF
          rw [hF] at hcs t1 t2 c3 c4
          rw [hG] at s3 s4 hsn
          rw [hK] at t3 t4 hsn
          have m1 := mul_bd (a := q) (b := F) (A := 1099511627776) (B := 1000000) (by omega) (by omega) (by omega) (by omega)
          have m2 := mul_bd (a := r) (b := F) (A := 1000000) (B := 1000000) (by omega) (by omega) (by omega) (by omega)
          obtain ⟨x, hx⟩ : ∃ x, r * F / S = x := ⟨_, rfl⟩
          rw [hx] at hsF
          have e3 : wrap64 (cum l k + v) = F := by rw [hcs]; exact w64_id (by omega) (by omega)
          have e4 : wrap64 (q * F) = q * F := w64_id (by omega) (by omega)
          have e5 : wrap64 (r * F) = r * F := w64_id (by omega) (by omega)
          have e6 : wrap64 (q * F + x) = K := by rw [hsF]; exact w64_id (by omega) (by omega)
          have e7 : wrap64 (K - G) = K - G := w64_id (by omega) (by omega)
          obtain ⟨R, hR⟩ : ∃ R, splitTo c S l k = R := ⟨_, rfl⟩
          have hown := HO.out
          rw [hR] at hown hsn hln
          have HO2 := Lib.hid hown
          have HSN := Lib.hid hsn
          have HLN := Lib.hid hln
          have HF1 := Lib.hid hF; clear hF
          have HK1 := Lib.hid hK; clear hK
          have HX := Lib.hid hx; clear hx
          rw [hG]
          clear hown hsn hR hG hcs hln hK2 hsF
          go_wp2_with fail
          refine (below_any c S _ (by omega) (by omega) (by omega)).mono ?_
          rintro e w3 ⟨rfl, rfl⟩
          rw [HQ.out]
          go_wp2_with fail
          refine (below_any (r * F) S _ (by omega) (by omega) (by omega)).mono ?_
          rintro e w4 ⟨rfl, rfl⟩
          rw [HX.out]
          go_wp2_with (at_builtin; refine wpList_append_own _ rfl _ _ 36 rfl w2.heap.size 3 i0 (.int .i64 0) 1 8 Tryd.underlying36 HJ.out hz0' hz1' hz2' rfl (by decide) _ _ _ rfl (HO2.out.alloc _) ⟨w4.heap.size, 0, none⟩ 1 1 [.int .i64 (K - G)] rfl rfl (by intro j u hj; match j, hj with | 0, hj => (simp at hj; subst hj; simp [Addr.add]) | j + 1, hj => simp at hj) (by intro u hu; simp at hu; subst hu; rfl) (by have := HLN.out; unfold maxLen; omega) (by have := HLN.out; omega) (by simp; omega) ?_; intro v' w5 hown' hgrow _; have hB4 := below_grown (w1 := w4.alloc (.cells #[.int .i64 (K - G)] 3)) (hB.alloc (by omega) _) hgrow (fun j hj => (HO2.out.lt j hj).1) (by simp; omega); have own4 := ownI_snoc hown' HSN.out; have HOW := Lib.hid own4; clear own4 hown' hgrow)
          go_wp2
          go_roundw
          case rel => exact ⟨k + 1, _, rfl, by omega, by go_num, by rw [HF1.out], by rw [HK1.out], HOW.out, hB4⟩
          case measure => simp [intOf]; omega
        · obtain rfl : k = l.length := by omega
          obtain ⟨A8, c8, hv8, hr8, hc8⟩ := own_rdI HO.out
          rw [splitTo_len] at hv8 hc8
          subst hv8
          have HR8 := Lib.hid hr8; clear hr8 HO
          go_wp2
          go_ret2
          rw [HF.out]
          exact ⟨A8, c8, by rw [splitTo_len]; rfl, HR8.out, by rw [splitTo_len]; exact hc8, hB⟩

set_option maxRecDepth 100000 in
set_option maxHeartbeats 1000000 in
theorem same_any (A A2 : Option Addr) (c c2 : Nat) (l : List Int) (w : World) (hm : l.length ≤ 1000000) (hl : RdI w w.heap.size A l) (hl2 : RdI w w.heap.size A2 l) :
    Calls Tryd.prog 22 #[.slice A l.length c, .slice A2 l.length c2] w (Ret (.bool true) w) := by
  have HL := Lib.hid hl; clear hl
  have HL2 := Lib.hid hl2; clear hl2
  go_enter Tryd.func22, Tryd.ntmps22
  go_wp2
  go_loopw [5] (fun i wr => ∃ k : Nat, k ≤ l.length ∧ i = .int .i64 k ∧ Below w.heap.size w wr) (fun i _ => l.length - (intOf i).toNat)
  case atStart => exact ⟨0, Nat.zero_le _, rfl, Below.refl _ _⟩
  case round =>
    obtain ⟨k, hk, rfl, hB⟩ := hrel
    by_cases hlt : k < l.length
    · obtain ⟨v, hv⟩ := getElem?_of_lt hlt
      obtain ⟨b1, off, hA, hb1, d0⟩ := (HL.out.now hB) k v hv
      obtain ⟨b2, off2, hA2, hb2, e0⟩ := (HL2.out.now hB) k v hv
      subst hA hA2
      go_wp2
      go_quiet (fail)
      go_wp2
      go_roundw
      case rel => exact ⟨k + 1, by omega, by go_num, by (repeat (first | exact Below.refl _ _ | assumption | refine Below.alloc ?_ (by first | exact Nat.le_refl _ | exact Below.size (by assumption) | omega | (simp <;> omega)) _ | refine Below.setCell ?_ (by first | exact Nat.le_refl _ | exact Below.size (by assumption) | omega | (simp <;> omega)) _ | refine below_drewN ?_ _ | refine Below.drew ?_))⟩
      case measure => simp [intOf]; omega
    · obtain rfl : k = l.length := by omega
      go_wp2
      go_ret
      exact Ret.mk rfl hB
end Go.Proofs.YthccpdefgjneiaaDoor

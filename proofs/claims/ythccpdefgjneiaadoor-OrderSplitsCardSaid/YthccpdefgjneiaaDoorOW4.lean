/- The laws OrderSplits and OrderShares: the walks. -/
import Derived.Test.YthccpdefgjneiaaDoorOW3
import Derived.Test.YthccpdefgjneiaaDoorRound
namespace Go.Proofs.YthccpdefgjneiaaDoor
open Go.RowKit Go.Shelf

theorem splitS_len (c : Int) (l : List Int) : (splitS c l).1.length ≤ 100 := by
  unfold splitS
  split
  · simp
  · split
    · simp
    · rw [splitTo_len]; omega
theorem splitS_err {c : Int} {l : List Int} (h : (splitS c l).2 ≠ 0) : (splitS c l).1 = [] := by
  unfold splitS at h ⊢
  split
  · rfl
  · rename_i h1
    rw [if_neg h1] at h
    split
    · rfl
    · rename_i h2
      rw [if_neg h2] at h
      exact absurd rfl h
structure SplitOk (c : Int) (l : List Int) : Prop where
  len : l.length ≤ 100
  good : ∀ x ∈ l, bet 0 x 10000 = true
  am : amt c = true
  pos : 0 < l.sum
  eq : (splitS c l).1 = splitTo c l.sum l l.length
theorem splitS_ok {c : Int} {l : List Int} (h : (splitS c l).2 = 0) : SplitOk c l := by
  unfold splitS at h
  split at h
  · cases h
  rename_i h1
  split at h
  · cases h
  rename_i h2
  simp only [Bool.or_eq_true, Bool.not_eq_true', decide_eq_true_eq, not_or, Bool.not_eq_true, Bool.not_eq_false] at h2
  obtain ⟨h3, h4, h5⟩ := h2
  have hgood : ∀ x ∈ l, bet 0 x 10000 = true := by
    unfold badI at h3
    rw [List.any_eq_false] at h3
    intro x hx
    have := h3 x hx
    simpa using this
  have hp := cum_mono hgood l.length
  rw [cum_all] at hp
  refine ⟨by omega, hgood, h4, by omega, ?_⟩
  unfold splitS
  rw [if_neg h1, if_neg (by simp [h3, h4, h5])]
theorem sum_split (c S : Int) (l : List Int) (n : Nat) : ∀ k, k ≤ n → ((splitTo c S l n).take k).sum = shS c S l k
  | 0, _ => by unfold shS cum; simp
  | k + 1, h => by
    have ih := sum_split c S l n k (by omega)
    have hg : (splitTo c S l n)[k]? = some (shS c S l (k + 1) - shS c S l k) := by
      unfold splitTo
      rw [List.getElem?_map, List.getElem?_range (by omega)]
      rfl
    rw [take_succ_of hg, List.sum_append, ih]
    simp
    omega
theorem share_near {c S : Int} {l : List Int} {k : Nat} {v : Int} (hS : 0 < S) (hv : l[k]? = some v) : -S < (shS c S l (k + 1) - shS c S l k) * S - c * v ∧ (shS c S l (k + 1) - shS c S l k) * S - c * v < S ∧ (v = 0 → shS c S l (k + 1) - shS c S l k = 0) := by
  have hc := cum_succ hv
  have d1 := Int.mul_ediv_add_emod (c * cum l (k + 1)) S
  have d0 := Int.mul_ediv_add_emod (c * cum l k) S
  have m1 := Int.emod_nonneg (c * cum l (k + 1)) (by omega : S ≠ 0)
  have m2 := Int.emod_lt_of_pos (c * cum l (k + 1)) hS
  have m3 := Int.emod_nonneg (c * cum l k) (by omega : S ≠ 0)
  have m4 := Int.emod_lt_of_pos (c * cum l k) hS
  have e1 : (shS c S l (k + 1) - shS c S l k) * S = S * (c * cum l (k + 1) / S) - S * (c * cum l k / S) := by unfold shS; grind
  have e2 : c * cum l (k + 1) = c * cum l k + c * v := by rw [hc]; grind
  refine ⟨by omega, by omega, fun h0 => ?_⟩
  subst h0
  unfold shS
  rw [hc, Int.add_zero]
  omega

set_option maxRecDepth 100000 in
set_option maxHeartbeats 1000000 in
theorem far_any (a v S x : Int) (w : World) (hS : 0 < S) (hS2 : S ≤ 1000000) (ha : -1000000000000 ≤ a) (ha2 : a ≤ 1000000000000) (hv : 0 ≤ v) (hv2 : v ≤ 10000) (h1 : -S < x * S - a * v) (h2 : x * S - a * v < S) :
    Calls Tryd.prog 18 #[.int .i64 a, .int .i64 v, .int .i64 S, .int .i64 x] w (Ret (.int .i64 (x * S - a * v)) w) := by
  have hd := Int.mul_tdiv_add_tmod a S
  have t1 := Int.tmod_lt_of_pos a hS
  have t0 : -S < a.tmod S := by
    have := Int.tmod_lt_of_pos (-a) hS
    rw [Int.neg_tmod] at this
    omega
  obtain ⟨q, hq⟩ : ∃ q, a.tdiv S = q := ⟨_, rfl⟩
  obtain ⟨r, hr⟩ : ∃ r, a.tmod S = r := ⟨_, rfl⟩
  rw [hq, hr] at hd
  rw [hr] at t1 t0
  have hq1 : -1000000000000 ≤ q ∧ q ≤ 1000000000000 := by
    rw [← hq]
    have := Int.natAbs_tdiv a S
    have h3 : (a.tdiv S).natAbs ≤ a.natAbs := by rw [this]; exact Nat.div_le_self _ _
    omega
  have m1 := mul_bd (a := q) (b := v) (A := 1000000000000) (B := 10000) (by omega) (by omega) (by omega) (by omega)
  have m2 := mul_bd (a := r) (b := v) (A := 1000000) (B := 10000) (by omega) (by omega) (by omega) (by omega)
  obtain ⟨y, hy⟩ : ∃ y, x - q * v = y := ⟨_, rfl⟩
  have hrv : -(S * v) ≤ r * v ∧ r * v ≤ S * v := by
    constructor
    · have : -S * v ≤ r * v := Int.mul_le_mul_of_nonneg_right (by omega) hv
      rw [Int.neg_mul] at this; omega
    · exact Int.mul_le_mul_of_nonneg_right (by omega) hv
  have hyS : y * S = (x * S - a * v) + r * v := by rw [← hy, ← hd]; grind
  have hSv : S * v = v * S := Int.mul_comm _ _
  have hy1 : -20000 ≤ y := by
    apply Int.le_of_lt_add_one
    refine Int.lt_of_mul_lt_mul_right (a := S) ?_ (by omega)
    have : (-20000 - 1 : Int) * S ≤ (-(v) - 1) * S := Int.mul_le_mul_of_nonneg_right (by omega) (by omega)
    have e : (-v - 1) * S = -(v * S) - S := by grind
    have e3 : (y + 1) * S = y * S + S := by grind
    have e4 : (-20000 : Int) * S = (-20000 - 1) * S + S := by grind
    omega
  have hy2 : y ≤ 20000 := by
    apply Int.le_of_lt_add_one
    refine Int.lt_of_mul_lt_mul_right (a := S) ?_ (by omega)
    have : (v + 1) * S ≤ (20000 + 1) * S := Int.mul_le_mul_of_nonneg_right (by omega) (by omega)
    have e : (v + 1) * S = v * S + S := by grind
    omega
  have m3 := mul_bd (a := y) (b := S) (A := 20000) (B := 1000000) (by omega) (by omega) (by omega) (by omega)
  have hres : y * S - r * v = x * S - a * v := by omega
  have e1 : wrap64 (q * v) = q * v := w64_id (by omega) (by omega)
  have e2 : wrap64 (x - q * v) = y := by rw [hy]; exact w64_id (by omega) (by omega)
  have e3 : wrap64 (y * S) = y * S := w64_id (by omega) (by omega)
  have e4 : wrap64 (r * v) = r * v := w64_id (by omega) (by omega)
  have e5 : wrap64 (y * S - r * v) = x * S - a * v := by rw [hres]; exact w64_id (by omega) (by omega)
  have hn1 : ¬ 20000 < y := by omega
  have hn2 : ¬ y < -20000 := by omega
  have hSn : ¬ S = 0 := by omega
  have HRES := Lib.hid hres
  clear hd hyS hres hrv hSv hy
  have hmx : Tryd.prog.follows .mixedOrders = true := by kernel_rfl
  go_enter Tryd.func18, Tryd.ntmps18
  go_wp2
  go_quiet (fail)
  go_wp2
  go_ret
  exact Ret.mk (by rw [← HRES.out]; rfl) (by (repeat (first | exact Below.refl _ _ | assumption | refine Below.alloc ?_ (by first | exact Nat.le_refl _ | exact Below.size (by assumption) | omega | (simp <;> omega)) _ | refine Below.setCell ?_ (by first | exact Nat.le_refl _ | exact Below.size (by assumption) | omega | (simp <;> omega)) _ | refine below_drewN ?_ _ | refine Below.drew ?_)))

set_option maxRecDepth 100000 in
set_option maxHeartbeats 1000000 in
theorem lawSplits_any (A : Option Addr) (cp : Nat) (c m : Int) (l : List Int) (w : World) (hl : RdI w w.heap.size A l) :
    Calls Tryd.prog 5 #[.int .i64 c, .slice A l.length cp, .int .i64 m] w (Ret (.bool true) w) := by
  have HL := Lib.hid hl; clear hl
  by_cases h110 : 110 < l.length
  · have h110I : (110 : Int) < (l.length : Int) := by omega
    go_enter Tryd.func5, Tryd.ntmps5
    go_wp2_with fail
    refine (sane_any _).mono ?_
    rintro e w2 ⟨rfl, hb2⟩
    go_wp2
    go_ret
    exact Ret.mk rfl hb2
  have h110I : ¬ (110 : Int) < (l.length : Int) := by omega
  have hlen := splitS_len c l
  obtain ⟨⟨R, e⟩, hR⟩ : ∃ r, splitS c l = r := ⟨_, rfl⟩
  rw [hR] at hlen
  dsimp only at hlen
  have HR := Lib.hid hR; clear hR
  obtain ⟨⟨n, g⟩, hD⟩ : ∃ r, discS c m = r := ⟨_, rfl⟩
  have HD := Lib.hid hD; clear hD
  go_enter Tryd.func5, Tryd.ntmps5
  go_wp2_with fail
  refine (Split_any A cp c l _ HL.out).mono ?_
  rintro e' w1 ⟨A1, c1, rfl, hr1, _, hb1⟩
  rw [HR.out] at hr1 ⊢
  have HR1 := Lib.hid hr1; clear hr1
  go_wp2_with fail
  refine (Split2_any A cp c l _ (HL.out.now hb1)).mono ?_
  rintro e' w2 ⟨A2, c2, rfl, hr2, _, hb2⟩
  rw [HR.out] at hr2 ⊢
  have HR2 := Lib.hid hr2; clear hr2
  have hB2 := hb1.trans (hb2.mono hb1.size)
  go_wp2_with fail
  refine (disc_any c m _).mono ?_
  rintro e' w3 ⟨rfl, rfl⟩
  rw [HD.out]
  go_wp2_with fail
  refine (discRef_any c m _).mono ?_
  rintro e' w4 ⟨rfl, rfl⟩
  rw [HD.out]
  go_wp2_with fail
  refine (same_any A1 A2 c1 c2 R _ (by omega) (HR1.out.now hb2) HR2.out).mono ?_
  rintro e' w5 ⟨rfl, hb5⟩
  have hB5 := hB2.trans (hb5.mono hB2.size)
  go_wp2_with fail
  refine (sane_any _).mono ?_
  rintro e' w6 ⟨rfl, hb6⟩
  go_wp2
  go_ret
  exact Ret.mk rfl (hB5.trans (hb6.mono hB5.size))

set_option maxRecDepth 100000 in
set_option maxHeartbeats 2000000 in
theorem lawShares_any (A : Option Addr) (cp : Nat) (c : Int) (l : List Int) (w : World) (hl : RdI w w.heap.size A l) :
    Calls Tryd.prog 4 #[.int .i64 c, .slice A l.length cp] w (Ret (.bool true) w) := by
  have HL := Lib.hid hl; clear hl
  have hmx : Tryd.prog.follows .mixedOrders = true := by kernel_rfl
  by_cases he : (splitS c l).2 = 0
  case neg =>
    have h0 := splitS_err he
    obtain ⟨⟨R, e⟩, hR⟩ : ∃ r, splitS c l = r := ⟨_, rfl⟩
    rw [hR] at h0 he
    dsimp only at h0 he
    subst h0
    have HR := Lib.hid hR; clear hR
    have heb : (e == (0 : Int)) = false := by simpa using he
    go_enter Tryd.func4, Tryd.ntmps4
    go_wp2_with fail
    refine (Split_any A cp c l _ HL.out).mono ?_
    rintro e' w1 ⟨A1, c1, rfl, hr1, _, hb1⟩
    rw [HR.out] at hr1 ⊢
    clear hr1
    go_wp2_with fail
    refine (sane_any _).mono ?_
    rintro e' w2 ⟨rfl, hb2⟩
    go_wp2
    go_ret
    exact Ret.mk rfl (hb1.trans (hb2.mono hb1.size))
  have hok := splitS_ok he
  obtain ⟨o1, o2, o3, o4, o5⟩ := hok
  have ob := bet_iff.1 o3
  have hsum := fun k hk => sum_split c l.sum l l.length k hk
  have hnear := fun k v (h : l[k]? = some v) => share_near (c := c) o4 h
  have hcm := fun k => cum_mono o2 k
  have hbd := cum_bd l.length (Nat.le_refl _) (by rw [List.take_length]; exact o2)
  rw [cum_all] at hbd
  have hfin : shS c l.sum l l.length = c := by unfold shS; rw [cum_all]; exact Int.mul_ediv_cancel _ (by omega)
  obtain ⟨⟨R, e⟩, hR⟩ : ∃ r, splitS c l = r := ⟨_, rfl⟩
  rw [hR] at o5 he
  dsimp only at o5 he
  subst he
  have hRl : R.length = l.length := by rw [o5, splitTo_len]
  have hRg : ∀ k, k < l.length → R[k]? = some (shS c l.sum l (k + 1) - shS c l.sum l k) := fun k hk => by
    rw [o5]
    unfold splitTo
    rw [List.getElem?_map, List.getElem?_range hk]
    rfl
  obtain ⟨S, hS⟩ : ∃ S, l.sum = S := ⟨_, rfl⟩
  rw [hS] at hbd o4 hfin hcm hsum hnear hRg
  have HR := Lib.hid hR; clear hR
  have HGOOD := Lib.hid o2; clear o2
  have HRL := Lib.hid hRl; clear hRl
  have HRG := Lib.hid hRg; clear hRg
  have HS := Lib.hid hS; clear hS
  have HNEAR := Lib.hid hnear; clear hnear
  have HCM := Lib.hid hcm; clear hcm hsum o5
  have HFIN := Lib.hid hfin; clear hfin o3
  go_enter Tryd.func4, Tryd.ntmps4
  go_wp2_with fail
  refine (Split_any A cp c l _ HL.out).mono ?_
  rintro e' w1 ⟨A1, c1, rfl, hr1, _, hb1⟩
  rw [HR.out] at hr1 ⊢
  dsimp only at hr1 ⊢
  rw [HRL.out]
  have HR1 := Lib.hid hr1; clear hr1
  by_cases hrange : c < -1000000000000 ∨ 1000000000000 < c
  · have hr1 : ¬ c < -1000000000000 → 1000000000000 < c := by omega
    have HRR := Lib.hid hr1; clear hr1
    rcases hrange with hr | hr
    · go_wp2_with fail
      refine (sane_any _).mono ?_
      rintro e' w2 ⟨rfl, hb2⟩
      go_wp2
      go_ret
      exact Ret.mk rfl (hb1.trans (hb2.mono hb1.size))
    · go_wp2_with fail
      refine (sane_any _).mono ?_
      rintro e' w2 ⟨rfl, hb2⟩
      go_wp2
      go_ret
      exact Ret.mk rfl (hb1.trans (hb2.mono hb1.size))
  have hc1 : ¬ c < -1000000000000 := by omega
  have hc2 : ¬ 1000000000000 < c := by omega
  go_wp2
  clear hrange
  go_loopw [7, 8, 9] (fun a s i wr => ∃ k : Nat, k ≤ l.length ∧ i = .int .i64 k ∧ a = .int .i64 (cum l k) ∧ s = .int .i64 (shS c S l k) ∧ wr = w1) (fun _ _ i _ => l.length - (intOf i).toNat)
  case atStart => exact ⟨0, Nat.zero_le _, rfl, by unfold cum; simp, by unfold shS cum; simp, rfl⟩
  case round =>
    obtain ⟨k, hk, rfl, rfl, rfl, rfl⟩ := hrel
    by_cases hlt : k < l.length
    · obtain ⟨v, hv⟩ := getElem?_of_lt hlt
      obtain ⟨b1, off, hA, hbb, d0⟩ := (HL.out.now hb1) k v hv
      obtain ⟨b2, off2, hA2, hbb2, e0⟩ := HR1.out k _ (HRG.out k hlt)
      have hcs := cum_succ hv
      obtain ⟨m1, m2⟩ := HCM.out k
      obtain ⟨m3, m4⟩ := HCM.out (k + 1)
      obtain ⟨s1, s2, s3, s4⟩ := sh_bd (c := c) (all := S) (l := l) (k := k) (by omega) (by omega) (by omega) (by omega) (by omega)
      obtain ⟨t1, t2, t3, t4⟩ := sh_bd (c := c) (all := S) (l := l) (k := k + 1) (by omega) (by omega) (by omega) (by omega) (by omega)
      have hlt2 : k < R.length := by rw [HRL.out]; exact hlt
      subst hA hA2
      clear hv
      have e1 : wrap64 (cum l k + v) = cum l (k + 1) := by rw [hcs]; exact w64_id (by omega) (by omega)
      obtain ⟨G, hG⟩ : ∃ G, shS c S l k = G := ⟨_, rfl⟩
      obtain ⟨K, hK⟩ : ∃ K, shS c S l (k + 1) = K := ⟨_, rfl⟩
      rw [hG] at s3 s4 e0
      rw [hK] at t3 t4 e0
      obtain ⟨d, hd⟩ : ∃ d, K - G = d := ⟨_, rfl⟩
      rw [hd] at e0
      have e2 : wrap64 (G + d) = K := by rw [← hd, show G + (K - G) = K by omega]; exact w64_id (by omega) (by omega)
      rw [hG]
      have HK := Lib.hid hK
      have HCS := Lib.hid hcs
      clear hG hK hd hcs
      go_wp2
      go_roundw
      case rel => exact ⟨k + 1, by omega, by go_num, by rw [e1], by rw [e2, HK.out], trivial⟩
      case measure => simp [intOf]; omega
    · obtain rfl : k = l.length := by omega
      rw [cum_all, HS.out, HFIN.out]
      go_wp2
      clear hk hlt
      obtain ⟨ws, rfl⟩ : ∃ ws : World, ws = wr := ⟨_, rfl⟩
      go_loopw [10, 11] (fun i _ wr => ∃ k : Nat, k ≤ l.length ∧ i = .int .i64 k ∧ Below ws.heap.size ws wr) (fun i _ _ => l.length - (intOf i).toNat)
      case atStart => exact ⟨0, Nat.zero_le _, rfl, Below.refl _ _⟩
      case round =>
        obtain ⟨k, hk, rfl, hB⟩ := hrel
        have hsB := hB.size
        have hBr := hb1.trans (hB.mono hb1.size)
        by_cases hlt : k < l.length
        · obtain ⟨v, hv⟩ := getElem?_of_lt hlt
          obtain ⟨b1, off, hA, hbb, d0⟩ := (HL.out.now hBr) k v hv
          obtain ⟨b2, off2, hA2, hbb2, e0⟩ := (HR1.out.now hB) k _ (HRG.out k hlt)
          obtain ⟨n1, n2, n3⟩ := HNEAR.out k v hv
          have hvg := bet_iff.1 (HGOOD.out v (List.mem_of_getElem? hv))
          obtain ⟨x, hx⟩ : ∃ x, shS c S l (k + 1) - shS c S l k = x := ⟨_, rfl⟩
          rw [hx] at e0 n1 n2 n3
          have hlt2 : k < R.length := by rw [HRL.out]; exact hlt
          subst hA hA2
          clear hv hx
          obtain ⟨d, hd⟩ : ∃ d, x * S - c * v = d := ⟨_, rfl⟩
          have hfar := fun w' => far_any c v S x w' (by omega) (by omega) (by omega) (by omega) (by omega) (by omega) n1 n2
          rw [hd] at n1 n2
          have hfar2 : ∀ w', Calls Tryd.prog 18 #[.int .i64 c, .int .i64 v, .int .i64 S, .int .i64 x] w' (Ret (.int .i64 d) w') := fun w' => by rw [← hd]; exact hfar w'
          have HFAR := Lib.hid hfar2
          clear hfar hfar2 hd
          have hD0 : Hid (∀ w', Below wr.heap.size wr w' → w'.cell? ⟨b1, off + k, none⟩ = some (.int .i64 v)) := fun w' hC => (hC.cell (p := ⟨b1, off + k, none⟩) hbb).trans d0
          have hE0 : Hid (∀ w', Below wr.heap.size wr w' → w'.cell? ⟨b2, off2 + k, none⟩ = some (.int .i64 x)) := fun w' hC => (hC.cell (p := ⟨b2, off2 + k, none⟩) hbb2).trans e0
          clear d0 e0
          go_wp2
          refine region_class (fun w' => Below wr.heap.size wr w') hmx (by kernel_rfl) (by (repeat (first | exact Below.refl _ _ | assumption | refine Below.alloc ?_ (by first | exact Nat.le_refl _ | exact Below.size (by assumption) | omega | (simp <;> omega)) _ | refine Below.setCell ?_ (by first | exact Nat.le_refl _ | exact Below.size (by assumption) | omega | (simp <;> omega)) _ | refine below_drewN ?_ _ | refine Below.drew ?_))) ?_
          repeat (refine quiet_read rfl (fun w' hC => by have f0 := hD0.out w' hC; have f1 := hE0.out w' hC; clear hC; go_simp; rfl) ?_; simp only [Act.put, List.setIfInBounds_toArray, List.set_cons_succ, List.set_cons_zero])
          (refine quiet_call rfl (fun w' hC => by (go_simp; try rfl)) (fun w' hC => (HFAR.out w').mono (fun e w2 hr => ⟨hr.1, hC.trans (hr.2.mono hC.size)⟩)) ?_; simp only [Act.put, List.setIfInBounds_toArray, List.set_cons_succ, List.set_cons_zero])
          repeat (refine quiet_read rfl (fun w' hC => by have f0 := hD0.out w' hC; have f1 := hE0.out w' hC; clear hC; go_simp; rfl) ?_; simp only [Act.put, List.setIfInBounds_toArray, List.set_cons_succ, List.set_cons_zero])
          refine wpQuiet_nil ?_
          intro y hy
          have d0 := hD0.out y hy
          have e0 := hE0.out y hy
          have hbb' : b1 < y.heap.size := by have := hy.size; omega
          have hbb2' : b2 < y.heap.size := by have := hy.size; omega
          have hneg : wrap64 (-S) = -S := w64_id (by omega) (by omega)
          have hn1 : ¬ d ≤ -S := by omega
          have hn2 : ¬ S ≤ d := by omega
          by_cases hv0 : v = 0
          · have hx0 := n3 hv0
            subst hv0 hx0
            go_wp2
            go_roundw
            case rel => exact ⟨k + 1, by omega, by go_num, hB.trans (hy.mono hsB)⟩
            case measure => simp [intOf]; omega
          · have hvb : (v == (0 : Int)) = false := by simpa using hv0
            go_wp2
            go_roundw
            case rel => exact ⟨k + 1, by omega, by go_num, hB.trans (hy.mono hsB)⟩
            case measure => simp [intOf]; omega
        · obtain rfl : k = l.length := by omega
          go_wp2_with fail
          refine (sane_any _).mono ?_
          rintro e' w2 ⟨rfl, hb2⟩
          go_wp2
          go_ret
          exact Ret.mk rfl (hBr.trans (hb2.mono hBr.size))
end Go.Proofs.YthccpdefgjneiaaDoor

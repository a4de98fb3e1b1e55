/- OrderCredits: the law's walk. -/
import Derived.Test.YthccpdefgjneiaaDoorOC2
import Derived.Test.YthccpdefgjneiaaDoorOC3
import Derived.Laws.AppendOwnNone
namespace Go.Proofs.YthccpdefgjneiaaDoor
open Go.RowKit Go.Shelf

theorem wpList_append_any {P : Program} {w : World} {ops : Array Oper} {rest : List Oper} {o : Oper} {a : Act} {Q : Exit → Act → World → Prop} (hgd : o.guard = none) (s x : Operand) (t : TypeId)
    (ho : o.op = .call { callee := .builtin .append, args := #[s, x], argTypes := #[t, t] })
    (base : Nat) (e : TypeId) (i : TypeInfo) (z : Value) (size bytes : Nat) (ht : P.underlying t = some (.slice e)) (hi : P.info? e = some i) (hz : i.zero = some z)
    (hsize : i.size = size) (hby : i.bytes = bytes) (hzs : z.cells.size = size) (hsz : 0 < size)
    (v : Value) (n : Nat) (xs : List Value) (hs : a.eval s = v) (hown : w.ownsRow base e size v n xs)
    (A : Option Addr) (m c : Nat) (news : List Value) (hx : a.eval x = .slice A m c) (hA : A = none → m = 0 ∧ c = 0) (hl : news.length = m * size) (hnews : ∀ ad, A = some ad → ∀ j u, news[j]? = some u → w.cell? (ad.add j) = some u) (h1 : ∀ u ∈ news, u.oneCell' = true)
    (h63 : n + m ≤ maxLen) (hbytes : (n + m) * bytes ≤ 140737488355328) (hbase : base ≤ w.heap.size)
    (h : ∀ v' w', w'.ownsRow base e size v' (n + m) (xs ++ news) → w.grownBy w' v.ownBlock → wpList P ops Q rest (a.put o.dst v') w') : wpList P ops Q (o :: rest) a w := by
  cases A with
  | some ad => exact wpList_append_own w hgd s x t ho base e i z size bytes ht hi hz hsize hby hzs hsz v n xs hs hown ad m c news hx hl (hnews ad rfl) h1 h63 hbytes hbase (fun v' w' h1 h2 _ => h v' w' h1 h2)
  | none =>
    obtain ⟨rfl, rfl⟩ := hA rfl
    obtain rfl : news = [] := List.length_eq_zero_iff.1 (by omega)
    exact wpList_append_own_none hgd s x t ho base e i size ht hi v n xs hs hown hx (h v w (by simpa using hown) (World.grownBy.refl _ _))

def NoneZ (A2 : Option Addr) (n cp cut : Nat) : Prop := A2 = none → n = 0 ∧ cp = 0 ∧ cut = 0
def RestAt (A2 : Option Addr) (w : World) (cp cut : Nat) (ls : List Int) : Prop := ∀ (a : Addr), A2 = some a → ∀ W : World, Below w.heap.size w W → ∀ j u, (vI (ls.drop cut))[j]? = some u → W.cell? ((if cp = cut then a else a.add cut).add j) = some u
def RestD (A2 : Option Addr) (w : World) (cp cut : Nat) (D : List Int) : Prop := ∀ (a : Addr), A2 = some a → ∀ W : World, Below w.heap.size w W → ∀ j u, (vI D)[j]? = some u → W.cell? ((if cp = cut then a else a.add cut).add j) = some u
theorem RestD.shift {a : Addr} {w W : World} {cp cut : Nat} {D : List Int} (h : RestD (some a) w cp cut D) (hc : ¬ cp = cut) (hW : Below w.heap.size w W) : ∀ j u, (vI D)[j]? = some u → W.cell? ((a.add cut).add j) = some u := by
  have := h a rfl W hW
  rwa [if_neg hc] at this
theorem RestD.keep {a : Addr} {w W : World} {cp cut : Nat} {D : List Int} (h : RestD (some a) w cp cut D) (hc : cp = cut) (hW : Below w.heap.size w W) : ∀ j u, (vI D)[j]? = some u → W.cell? (a.add j) = some u := by
  have := h a rfl W hW
  rwa [if_pos hc] at this
theorem RestAt.keep {a : Addr} {w W : World} {cp cut : Nat} {ls : List Int} (h : RestAt (some a) w cp cut ls) (hc : cp = cut) (hW : Below w.heap.size w W) : ∀ j u, (vI (ls.drop cut))[j]? = some u → W.cell? (a.add j) = some u := by
  have := h a rfl W hW
  rwa [if_pos hc] at this
theorem RestAt.shift {a : Addr} {w W : World} {cp cut : Nat} {ls : List Int} (h : RestAt (some a) w cp cut ls) (hc : ¬ cp = cut) (hW : Below w.heap.size w W) : ∀ j u, (vI (ls.drop cut))[j]? = some u → W.cell? ((a.add cut).add j) = some u := by
  have := h a rfl W hW
  rwa [if_neg hc] at this
set_option maxRecDepth 100000 in
set_option maxHeartbeats 4000000 in
theorem lawCredits_keep (A : Option Addr) (a : Addr) (cp : Nat) (am ls : List Int) (n : Int) (cut : Nat) (w : World) (HL : Hid (RdI w w.heap.size A am)) (HL2 : Hid (RdI w w.heap.size (some a) ls)) (HC2 : Hid (ls.length ≤ cut)) (HNO : Hid (NoneZ (some a) ls.length cut 0)) (hn0 : 0 ≤ n) (hn1 : n ≤ 255) (HG : Hid (GoodC am ls))
    (hcut : n.tmod ((ls.length : Int) + 1) = cut) (HC5 : Hid (cut ≤ ls.length)) :
    Calls Tryd.prog 6 #[.slice A am.length cp, .slice (some a) ls.length cut, .int .u8 n] w (Ret (.bool true) w) := by
  have hmx : Tryd.prog.follows .mixedOrders = true := by kernel_rfl
  have hg := HG.out
  have g1I : ¬ (60 : Int) < (am.length : Int) := by have := hg.n1; omega
  have g2I : ¬ (60 : Int) < (ls.length : Int) := by have := hg.n2; omega
  have HE := Lib.hid (credit_good hg)
  have hlR : (negW am ls).length = ls.length := by unfold negW; rw [List.length_map]
  obtain ⟨R, hR⟩ : ∃ R, negW am ls = R := ⟨_, rfl⟩
  obtain ⟨s, hs⟩ : ∃ s, sumW am ls = s := ⟨_, rfl⟩
  rw [hR, hs] at HE
  rw [hR] at hlR
  have e1 : wrap64 ((ls.length : Int) + 1) = (ls.length : Int) + 1 := w64_id (by omega) (by omega)
  have e2 : wrap64 n = n := w64_id (by omega) (by omega)
  obtain ⟨i0, hi0, hz0', hz1', hz2'⟩ := info_partsI Tryd.infoI
  have HJ := Lib.hid hi0; clear hi0
  have HLR := Lib.hid hlR; clear hlR hR hs
  clear hg
  go_enter Tryd.func6, Tryd.ntmps6
  go_wp2_with fail
  refine (Credit_any A (some a) cp cut am ls _ HL.out HL2.out).mono ?_
  rintro e' w1 ⟨A1, c1, rfl, hr1, _, hb1⟩
  rw [HE.out] at hr1 ⊢
  have HR1 := Lib.hid hr1; clear hr1
  go_wp2_with fail
  refine (Credit2_any A (some a) cp cut am ls _ (HL.out.now hb1) (HL2.out.now hb1)).mono ?_
  rintro e' w2 ⟨A3, c3, rfl, hr2, _, hb2⟩
  rw [HE.out] at hr2 ⊢
  have HR2 := Lib.hid hr2; clear hr2
  have hB2 := hb1.trans (hb2.mono hb1.size)
  go_wp2_with fail
  refine (same_any A1 A3 c1 c3 R _ (by have := HLR.out; omega) (HR1.out.now hb2) HR2.out).mono ?_
  rintro e' w5 ⟨rfl, hb5⟩
  have hB5 := hB2.trans (hb5.mono hB2.size)
  have hc := HC5.out
  have hcI : (cut : Int) ≤ (ls.length : Int) := by omega
  have hc3 : (cut : Int) ≤ (cut : Int) := by have := HC2.out; omega
  have hc4 : ls.length ≤ cut := HC2.out
  have htl : (ls.take cut).length = cut := by rw [List.length_take]; omega
  have hdl : (ls.drop cut).length = 0 := by rw [List.length_drop]; omega
  have HTL := Lib.hid htl; clear htl
  have HDL := Lib.hid hdl; clear hdl
  clear hc
  have hgt := Lib.hid (good_take HG.out cut)
  have hgd := Lib.hid (good_drop HG.out cut)
  have HE1 := Lib.hid (credit_good hgt.out)
  have HE2 := Lib.hid (credit_good hgd.out)
  have hsp := sum_parts HG.out cut
  obtain ⟨u1, hu1⟩ : ∃ u, sumW am (ls.take cut) = u := ⟨_, rfl⟩
  obtain ⟨u2, hu2⟩ : ∃ u, sumW am (ls.drop cut) = u := ⟨_, rfl⟩
  rw [hu1] at HE1
  rw [hu2] at HE2
  have hs' : sumW am ls = s := by have h := credit_good HG.out; rw [HE.out] at h; simpa using (congrArg (fun t => t.2.1) h).symm
  rw [hu1, hu2, hs'] at hsp
  clear hu1 hu2 hs'
  have HP0 : Hid (∀ (a2 : Addr) (B : Nat) (W : World), RdI W B (some a2) ls → ∀ j u, (vI (ls.take cut))[j]? = some u → W.cell? (a2.add j) = some u) := Lib.hid (fun _ _ _ h => h.part cut)
  have HNZ : Hid (NoneZ (some a) ls.length cut cut) := by
    intro h
    obtain ⟨e, e', _⟩ := HNO.out h
    have := HC5.out
    exact ⟨e, e', by omega⟩
  have HRS : Hid (RestAt (some a) w cut cut ls) := by
    intro a h W hW j u hj
    injection h with h
    subst h
    by_cases hcc : cut = cut
    · have : ls.drop cut = [] := List.drop_eq_nil_of_le (by omega)
      rw [this] at hj
      simp at hj
    · rw [if_neg hcc]
      exact RdI.rest (HL2.out.below hW) cut j u hj
  obtain ⟨P, hP⟩ : ∃ P, ls.take cut = P := ⟨_, rfl⟩
  obtain ⟨D, hD⟩ : ∃ D, ls.drop cut = D := ⟨_, rfl⟩
  have HRS2 : Hid (RestD (some a) w cut cut D) := Lib.hid (hD ▸ HRS.out)
  rw [hP] at HTL HE1 HP0
  rw [hD] at HDL HE2
  have HPP := Lib.hid hP; clear hP
  have HDD := Lib.hid hD; clear hD
  all_goals go_wp2_with (at_builtin; go_loud (refine wpList_append_any rfl _ _ 36 rfl w5.heap.size 3 i0 (.int .i64 0) 1 8 Tryd.underlying36 HJ.out hz0' hz1' hz2' rfl (by decide) _ 0 [] rfl (World.ownsRow_lit w5 #[] 0 (Nat.le_refl _) (by decide) rfl) _ cut _ (vI (P)) rfl (by intro h; first | (cases h; done) | exact ⟨by have := HNZ.out rfl; omega, by have := HNZ.out rfl; omega⟩) (by rw [List.length_map, HTL.out, Nat.mul_one]) (fun ad h => by first | (cases h; done) | (cases h; exact fun j u hj => HP0.out _ _ _ ((HL2.out.now hB5).now ((Below.refl w5.heap.size w5).alloc (o := .cells #[] 3) (Nat.le_refl _))) j u hj)) (by intro u hu; obtain ⟨x, _, rfl⟩ := List.mem_map.1 hu; rfl) (by have := HC5.out; unfold maxLen; omega) (by have := HC5.out; omega) (by simp) ?_; intro v6 w6 hown' hgrow; have own6 : OwnI w6 w5.heap.size v6 (P) := (by show w6.ownsRow _ _ 1 v6 (P).length (vI (P)); rw [HTL.out]; have h := hown'; rw [Nat.zero_add] at h; exact h); have hb6 := below_grown (w1 := w5.alloc (.cells #[] 3)) ((Below.refl w5.heap.size w5).alloc (o := .cells #[] 3) (Nat.le_refl _)) hgrow (fun j hj => ((World.ownsRow_lit (e := 3) (size := 1) w5 #[] 0 (Nat.le_refl _) (by decide) rfl).lt j hj).1) (by simp); clear hown' hgrow; obtain ⟨A6, c6, rfl, hr6, _⟩ := own_rdI own6; have HR6 := Lib.hid hr6; clear hr6 own6))
  all_goals
    have hB6 := hB5.trans (hb6.mono hB5.size)
    refine (Credit_any A A6 cp c6 am (P) _ (HL.out.now hB6) HR6.out).mono ?_
    rintro e' w7 ⟨A7, c7, rfl, _, _, hb7⟩
    rw [HE1.out]
    have hB7 := hB6.trans (hb7.mono hB6.size)
    have hz7 := hB7.size
  all_goals go_wp2_with (at_builtin; go_loud (refine wpList_append_any rfl _ _ 36 rfl w7.heap.size 3 i0 (.int .i64 0) 1 8 Tryd.underlying36 HJ.out hz0' hz1' hz2' rfl (by decide) _ 0 [] rfl (World.ownsRow_lit w7 #[] 0 (Nat.le_refl _) (by decide) rfl) _ 0 _ (vI (D)) rfl (by intro h; first | (cases h; done) | exact ⟨by have := HNZ.out rfl; omega, by have := HNZ.out rfl; omega⟩) (by rw [List.length_map, HDL.out, Nat.mul_one]) (fun ad h => by first | (cases h; done) | (cases h; exact HRS2.out.keep rfl (hB7.alloc (by omega) (.cells #[] 3)))) (by intro u hu; obtain ⟨x, _, rfl⟩ := List.mem_map.1 hu; rfl) (by have := HC5.out; unfold maxLen; omega) (by have := HC5.out; omega) (by simp) ?_; intro v8 w8 hown' hgrow; have own8 : OwnI w8 w7.heap.size v8 (D) := (by show w8.ownsRow _ _ 1 v8 (D).length (vI (D)); rw [HDL.out]; have h := hown'; rw [Nat.zero_add] at h; exact h); have hb8 := below_grown (w1 := w7.alloc (.cells #[] 3)) ((Below.refl w7.heap.size w7).alloc (o := .cells #[] 3) (Nat.le_refl _)) hgrow (fun j hj => ((World.ownsRow_lit (e := 3) (size := 1) w7 #[] 0 (Nat.le_refl _) (by decide) rfl).lt j hj).1) (by simp); clear hown' hgrow; obtain ⟨A8, c8, rfl, hr8, _⟩ := own_rdI own8; have HR8 := Lib.hid hr8; clear hr8 own8))
  all_goals
    have hB8 := hB7.trans (hb8.mono hB7.size)
    refine (Credit_any A A8 cp c8 am (D) _ (HL.out.now hB8) HR8.out).mono ?_
    rintro e' w9 ⟨A9, c9, rfl, _, _, hb9⟩
    rw [HE2.out]
    have hB9 := hB8.trans (hb9.mono hB8.size)
    have hz9 := hB9.size
    have heq9 : (wrap64 (u1 + u2) != s) = false := by simp [hsp]
    clear hb1 hb2 hb5 hB2 hB5 hb6 hB6 hb7 hB7 hb8 hB8 hb9 hz7 hsp
    go_wp2
  clear heq9
  have HGA := Lib.hid HG.out.ga
  go_loopw [20, 21, 22] (fun u s i wr => ∃ (k : Nat) (v : Value), v = u ∧ k ≤ am.length ∧ i = .int .i64 k ∧ s = .int .i64 (cum am k) ∧ OwnI wr w9.heap.size v (allN k) ∧ Below w9.heap.size w9 wr) (fun _ _ i _ => am.length - (intOf i).toNat)
  case atStart => exact ⟨0, _, rfl, Nat.zero_le _, rfl, by unfold cum; rfl, World.ownsRow_nil _ _ _ _, Below.refl _ _⟩
  case round =>
    obtain ⟨k, u, rfl, hk, rfl, rfl, hown, hB⟩ := hrel
    have hBw := hB9.trans (hB.mono hB9.size)
    have hsB := hB.size
    by_cases hlt : k < am.length
    · obtain ⟨v, hv⟩ := getElem?_of_lt hlt
      obtain ⟨b1, off1, hA1, hbb1, e00⟩ := HL.out k v hv
      subst hA1
      have hbd := cum_bdA HGA.out k hk
      have hvb := bet_iff.1 (HGA.out v (List.mem_of_getElem? hv))
      have hcs := cum_succ hv
      have ew : wrap64 (cum am k + v) = cum am (k + 1) := by rw [hcs]; exact w64_id (by omega) (by omega)
      have hln := allN_len k
      obtain ⟨Rk, hRk⟩ : ∃ R, allN k = R := ⟨_, rfl⟩
      have hsn := allN_succ k
      rw [hRk] at hown hln hsn
      have HO2 := Lib.hid hown
      have HSN := Lib.hid hsn
      have HLN := Lib.hid hln
      have HC := Lib.hid e00
      clear hown hsn hln hRk e00 hcs hbd hv
      go_wp2_with (at_builtin; refine wpList_append_own _ rfl _ _ 36 rfl w9.heap.size 3 i0 (.int .i64 0) 1 8 Tryd.underlying36 HJ.out hz0' hz1' hz2' rfl (by decide) _ _ _ rfl (HO2.out.alloc _) ⟨wr.heap.size, 0, none⟩ 1 1 [.int .i64 (k : Int)] rfl rfl (by intro j u hj; match j, hj with | 0, hj => (simp at hj; subst hj; simp [Addr.add]) | j + 1, hj => simp at hj) (by intro u hu; simp at hu; subst hu; rfl) (by have := HLN.out; unfold maxLen; omega) (by have := HLN.out; omega) (by simp; omega) ?_; intro v' w4 hown' hgrow _; have hB4 := below_grown (w1 := wr.alloc (.cells #[.int .i64 (k : Int)] 3)) (hB.alloc (by omega) _) hgrow (fun j hj => (HO2.out.lt j hj).1) (by simp; omega); have own4 := ownI_snoc hown' HSN.out; have HOW := Lib.hid own4; clear own4 hown' hgrow; have e9 : w4.cell? ⟨b1, off1 + k, none⟩ = some (.int .i64 v) := ((hB9.trans (hB4.mono hB9.size)).cell (p := ⟨b1, off1 + k, none⟩) hbb1).trans HC.out)
      go_wp2
      go_roundw
      case rel => exact ⟨k + 1, _, rfl, by omega, by go_num, by rw [ew], HOW.out, hB4⟩
      case measure => simp [intOf]; omega
    · obtain rfl : k = am.length := by omega
      obtain ⟨A8x, c8x, rfl, hr8x, hc8x⟩ := own_rdI hown
      have hln := allN_len am.length
      have hSum := all_sum HG.out
      have HGA2 := good_all HG.out
      have hcr := credit_good HGA2
      have hna := neg_all am
      have hca : cum am am.length = am.sum := cum_all am
      rw [hca]
      rw [hln] at hc8x ⊢
      obtain ⟨L, hL⟩ : ∃ L, allN am.length = L := ⟨_, rfl⟩
      rw [hL] at hr8x hcr hna hln hSum
      rw [hSum.1] at hcr
      obtain ⟨Q, hQ⟩ : ∃ Q, negW am L = Q := ⟨_, rfl⟩
      obtain ⟨t, ht⟩ : ∃ t, am.sum = t := ⟨_, rfl⟩
      rw [ht] at hSum hcr ⊢
      rw [hQ] at hcr hna
      have hQL : Q.length = am.length := by rw [hna, List.length_map]
      have wt : wrap64 (-t) = -t := w64_id (by omega) (by omega)
      have HQ := Lib.hid hna
      have HQL := Lib.hid hQL
      have HCR := Lib.hid hcr
      have HLN := Lib.hid hln
      have HR9 := Lib.hid hr8x
      clear hna hQL hcr hln hr8x hSum hL hQ ht hca HGA2 hown
      have hBw := hB9.trans (hB.mono hB9.size)
      have ctr := Credit_any A A8x cp c8x am L wr (HL.out.now hBw) HR9.out
      rw [HLN.out, HCR.out] at ctr
      have CTR := Lib.hid ctr; clear ctr
      go_wp2_with fail
      refine CTR.out.mono ?_
      rintro e' wq ⟨Aq, cq, rfl, hrq, hcq, hbq⟩
      have HRQ := Lib.hid hrq; clear hrq
      have hBq := hBw.trans (hbq.mono hBw.size)
      dsimp only
      rw [HQL.out]
      clear hcq hc8x CTR HCR
      have hne : (-t != -t) = false := by simp
      have hne2 : (-t != wrap64 (-t)) = false := by rw [wt]; simp
      go_wp2
      clear hne hne2
      go_loopw [26] (fun i wr2 => ∃ k : Nat, k ≤ am.length ∧ i = .int .i64 k ∧ Below wq.heap.size wq wr2) (fun i _ => am.length - (intOf i).toNat)
      case atStart => exact ⟨0, Nat.zero_le _, rfl, Below.refl _ _⟩
      case round =>
        obtain ⟨k, hk, rfl, hBB⟩ := hrel
        have hBr := hBq.trans (hBB.mono hBq.size)
        by_cases hlt : k < am.length
        · obtain ⟨v, hv⟩ := getElem?_of_lt hlt
          obtain ⟨b1, off, hA, hb1, d0⟩ := (HL.out.now hBr) k v hv
          obtain ⟨b2, off2, hA2, hb2, e0⟩ := (HRQ.out.now hBB) k (wrap64 (-v)) (by rw [HQ.out, List.getElem?_map, hv]; rfl)
          subst hA hA2
          clear hv
          go_wp2
          go_quiet (fail)
          go_wp2
          go_roundw
          case rel => exact ⟨k + 1, by omega, by go_num, by (repeat (first | exact Below.refl _ _ | assumption | refine Below.alloc ?_ (by first | exact Nat.le_refl _ | exact Below.size (by assumption) | omega | (simp <;> omega)) _ | refine Below.setCell ?_ (by first | exact Nat.le_refl _ | exact Below.size (by assumption) | omega | (simp <;> omega)) _ | refine below_drewN ?_ _ | refine Below.drew ?_))⟩
          case measure => simp [intOf]; omega
        · obtain rfl : k = am.length := by omega
          go_wp2_with fail
          refine (sane_any _).mono ?_
          rintro e' wz ⟨rfl, hbz⟩
          go_wp2
          go_ret
          exact Ret.mk rfl (hBr.trans (hbz.mono hBr.size))

set_option maxRecDepth 100000 in
set_option maxHeartbeats 4000000 in
theorem lawCredits_none (A : Option Addr) (cp cp2 : Nat) (am ls : List Int) (n : Int) (cut : Nat) (w : World) (HL : Hid (RdI w w.heap.size A am)) (HL2 : Hid (RdI w w.heap.size none ls)) (HC2 : Hid (ls.length ≤ cp2)) (HNO : Hid (NoneZ none ls.length cp2 0)) (hn0 : 0 ≤ n) (hn1 : n ≤ 255) (HG : Hid (GoodC am ls))
    (hcut : n.tmod ((ls.length : Int) + 1) = cut) (HC5 : Hid (cut ≤ ls.length)) :
    Calls Tryd.prog 6 #[.slice A am.length cp, .slice none ls.length cp2, .int .u8 n] w (Ret (.bool true) w) := by
  have hmx : Tryd.prog.follows .mixedOrders = true := by kernel_rfl
  have hg := HG.out
  have g1I : ¬ (60 : Int) < (am.length : Int) := by have := hg.n1; omega
  have g2I : ¬ (60 : Int) < (ls.length : Int) := by have := hg.n2; omega
  have HE := Lib.hid (credit_good hg)
  have hlR : (negW am ls).length = ls.length := by unfold negW; rw [List.length_map]
  obtain ⟨R, hR⟩ : ∃ R, negW am ls = R := ⟨_, rfl⟩
  obtain ⟨s, hs⟩ : ∃ s, sumW am ls = s := ⟨_, rfl⟩
  rw [hR, hs] at HE
  rw [hR] at hlR
  have e1 : wrap64 ((ls.length : Int) + 1) = (ls.length : Int) + 1 := w64_id (by omega) (by omega)
  have e2 : wrap64 n = n := w64_id (by omega) (by omega)
  obtain ⟨i0, hi0, hz0', hz1', hz2'⟩ := info_partsI Tryd.infoI
  have HJ := Lib.hid hi0; clear hi0
  have HLR := Lib.hid hlR; clear hlR hR hs
  clear hg
  go_enter Tryd.func6, Tryd.ntmps6
  go_wp2_with fail
  refine (Credit_any A none cp cp2 am ls _ HL.out HL2.out).mono ?_
  rintro e' w1 ⟨A1, c1, rfl, hr1, _, hb1⟩
  rw [HE.out] at hr1 ⊢
  have HR1 := Lib.hid hr1; clear hr1
  go_wp2_with fail
  refine (Credit2_any A none cp cp2 am ls _ (HL.out.now hb1) (HL2.out.now hb1)).mono ?_
  rintro e' w2 ⟨A3, c3, rfl, hr2, _, hb2⟩
  rw [HE.out] at hr2 ⊢
  have HR2 := Lib.hid hr2; clear hr2
  have hB2 := hb1.trans (hb2.mono hb1.size)
  go_wp2_with fail
  refine (same_any A1 A3 c1 c3 R _ (by have := HLR.out; omega) (HR1.out.now hb2) HR2.out).mono ?_
  rintro e' w5 ⟨rfl, hb5⟩
  have hB5 := hB2.trans (hb5.mono hB2.size)
  have hc := HC5.out
  have hcI : (cut : Int) ≤ (ls.length : Int) := by omega
  have hc3 : (cut : Int) ≤ (cp2 : Int) := by have := HC2.out; omega
  have hc4 : ls.length ≤ cp2 := HC2.out
  have htl : (ls.take cut).length = cut := by rw [List.length_take]; omega
  have hdl : (ls.drop cut).length = ls.length - cut := List.length_drop
  have HTL := Lib.hid htl; clear htl
  have HDL := Lib.hid hdl; clear hdl
  clear hc
  have hgt := Lib.hid (good_take HG.out cut)
  have hgd := Lib.hid (good_drop HG.out cut)
  have HE1 := Lib.hid (credit_good hgt.out)
  have HE2 := Lib.hid (credit_good hgd.out)
  have hsp := sum_parts HG.out cut
  obtain ⟨u1, hu1⟩ : ∃ u, sumW am (ls.take cut) = u := ⟨_, rfl⟩
  obtain ⟨u2, hu2⟩ : ∃ u, sumW am (ls.drop cut) = u := ⟨_, rfl⟩
  rw [hu1] at HE1
  rw [hu2] at HE2
  have hs' : sumW am ls = s := by have h := credit_good HG.out; rw [HE.out] at h; simpa using (congrArg (fun t => t.2.1) h).symm
  rw [hu1, hu2, hs'] at hsp
  clear hu1 hu2 hs'
  have HP0 : Hid (∀ (a2 : Addr) (B : Nat) (W : World), RdI W B (some a2) ls → ∀ j u, (vI (ls.take cut))[j]? = some u → W.cell? (a2.add j) = some u) := Lib.hid (fun _ _ _ h => h.part cut)
  have HNZ : Hid (NoneZ none ls.length cp2 cut) := by
    intro h
    obtain ⟨e, e', _⟩ := HNO.out h
    have := HC5.out
    exact ⟨e, e', by omega⟩
  have HRS : Hid (RestAt none w cp2 cut ls) := by
    intro a h W hW j u hj
    cases h
  obtain ⟨P, hP⟩ : ∃ P, ls.take cut = P := ⟨_, rfl⟩
  obtain ⟨D, hD⟩ : ∃ D, ls.drop cut = D := ⟨_, rfl⟩
  have HRS2 : Hid (RestD none w cp2 cut D) := Lib.hid (hD ▸ HRS.out)
  rw [hP] at HTL HE1 HP0
  rw [hD] at HDL HE2
  have HPP := Lib.hid hP; clear hP
  have HDD := Lib.hid hD; clear hD
  all_goals go_wp2_with (at_builtin; go_loud (refine wpList_append_any rfl _ _ 36 rfl w5.heap.size 3 i0 (.int .i64 0) 1 8 Tryd.underlying36 HJ.out hz0' hz1' hz2' rfl (by decide) _ 0 [] rfl (World.ownsRow_lit w5 #[] 0 (Nat.le_refl _) (by decide) rfl) _ cut _ (vI (P)) rfl (by intro h; first | (cases h; done) | exact ⟨by have := HNZ.out rfl; omega, by have := HNZ.out rfl; omega⟩) (by rw [List.length_map, HTL.out, Nat.mul_one]) (fun ad h => by first | (cases h; done) | (cases h; exact fun j u hj => HP0.out _ _ _ ((HL2.out.now hB5).now ((Below.refl w5.heap.size w5).alloc (o := .cells #[] 3) (Nat.le_refl _))) j u hj)) (by intro u hu; obtain ⟨x, _, rfl⟩ := List.mem_map.1 hu; rfl) (by have := HC5.out; unfold maxLen; omega) (by have := HC5.out; omega) (by simp) ?_; intro v6 w6 hown' hgrow; have own6 : OwnI w6 w5.heap.size v6 (P) := (by show w6.ownsRow _ _ 1 v6 (P).length (vI (P)); rw [HTL.out]; have h := hown'; rw [Nat.zero_add] at h; exact h); have hb6 := below_grown (w1 := w5.alloc (.cells #[] 3)) ((Below.refl w5.heap.size w5).alloc (o := .cells #[] 3) (Nat.le_refl _)) hgrow (fun j hj => ((World.ownsRow_lit (e := 3) (size := 1) w5 #[] 0 (Nat.le_refl _) (by decide) rfl).lt j hj).1) (by simp); clear hown' hgrow; obtain ⟨A6, c6, rfl, hr6, _⟩ := own_rdI own6; have HR6 := Lib.hid hr6; clear hr6 own6))
  all_goals
    have hB6 := hB5.trans (hb6.mono hB5.size)
    refine (Credit_any A A6 cp c6 am (P) _ (HL.out.now hB6) HR6.out).mono ?_
    rintro e' w7 ⟨A7, c7, rfl, _, _, hb7⟩
    rw [HE1.out]
    have hB7 := hB6.trans (hb7.mono hB6.size)
    have hz7 := hB7.size
  all_goals go_wp2_with (at_builtin; go_loud (refine wpList_append_any rfl _ _ 36 rfl w7.heap.size 3 i0 (.int .i64 0) 1 8 Tryd.underlying36 HJ.out hz0' hz1' hz2' rfl (by decide) _ 0 [] rfl (World.ownsRow_lit w7 #[] 0 (Nat.le_refl _) (by decide) rfl) _ (ls.length - cut) _ (vI (D)) rfl (by intro h; first | (cases h; done) | exact ⟨by have := HNZ.out rfl; omega, by have := HNZ.out rfl; omega⟩) (by rw [List.length_map, HDL.out, Nat.mul_one]) (fun ad h => by first | (cases h; done) | (cases h; exact HRS2.out.keep rfl (hB7.alloc (by omega) (.cells #[] 3))) | (cases h; exact HRS2.out.shift hcc (hB7.alloc (by omega) (.cells #[] 3)))) (by intro u hu; obtain ⟨x, _, rfl⟩ := List.mem_map.1 hu; rfl) (by have := HC5.out; unfold maxLen; omega) (by have := HC5.out; omega) (by simp) ?_; intro v8 w8 hown' hgrow; have own8 : OwnI w8 w7.heap.size v8 (D) := (by show w8.ownsRow _ _ 1 v8 (D).length (vI (D)); rw [HDL.out]; have h := hown'; rw [Nat.zero_add] at h; exact h); have hb8 := below_grown (w1 := w7.alloc (.cells #[] 3)) ((Below.refl w7.heap.size w7).alloc (o := .cells #[] 3) (Nat.le_refl _)) hgrow (fun j hj => ((World.ownsRow_lit (e := 3) (size := 1) w7 #[] 0 (Nat.le_refl _) (by decide) rfl).lt j hj).1) (by simp); clear hown' hgrow; obtain ⟨A8, c8, rfl, hr8, _⟩ := own_rdI own8; have HR8 := Lib.hid hr8; clear hr8 own8))
  all_goals
    have hB8 := hB7.trans (hb8.mono hB7.size)
    refine (Credit_any A A8 cp c8 am (D) _ (HL.out.now hB8) HR8.out).mono ?_
    rintro e' w9 ⟨A9, c9, rfl, _, _, hb9⟩
    rw [HE2.out]
    have hB9 := hB8.trans (hb9.mono hB8.size)
    have hz9 := hB9.size
    have heq9 : (wrap64 (u1 + u2) != s) = false := by simp [hsp]
    clear hb1 hb2 hb5 hB2 hB5 hb6 hB6 hb7 hB7 hb8 hB8 hb9 hz7 hsp
    go_wp2
  clear heq9
  have HGA := Lib.hid HG.out.ga
  go_loopw [20, 21, 22] (fun u s i wr => ∃ (k : Nat) (v : Value), v = u ∧ k ≤ am.length ∧ i = .int .i64 k ∧ s = .int .i64 (cum am k) ∧ OwnI wr w9.heap.size v (allN k) ∧ Below w9.heap.size w9 wr) (fun _ _ i _ => am.length - (intOf i).toNat)
  case atStart => exact ⟨0, _, rfl, Nat.zero_le _, rfl, by unfold cum; rfl, World.ownsRow_nil _ _ _ _, Below.refl _ _⟩
  case round =>
    obtain ⟨k, u, rfl, hk, rfl, rfl, hown, hB⟩ := hrel
    have hBw := hB9.trans (hB.mono hB9.size)
    have hsB := hB.size
    by_cases hlt : k < am.length
    · obtain ⟨v, hv⟩ := getElem?_of_lt hlt
      obtain ⟨b1, off1, hA1, hbb1, e00⟩ := HL.out k v hv
      subst hA1
      have hbd := cum_bdA HGA.out k hk
      have hvb := bet_iff.1 (HGA.out v (List.mem_of_getElem? hv))
      have hcs := cum_succ hv
      have ew : wrap64 (cum am k + v) = cum am (k + 1) := by rw [hcs]; exact w64_id (by omega) (by omega)
      have hln := allN_len k
      obtain ⟨Rk, hRk⟩ : ∃ R, allN k = R := ⟨_, rfl⟩
      have hsn := allN_succ k
      rw [hRk] at hown hln hsn
      have HO2 := Lib.hid hown
      have HSN := Lib.hid hsn
      have HLN := Lib.hid hln
      have HC := Lib.hid e00
      clear hown hsn hln hRk e00 hcs hbd hv
      go_wp2_with (at_builtin; refine wpList_append_own _ rfl _ _ 36 rfl w9.heap.size 3 i0 (.int .i64 0) 1 8 Tryd.underlying36 HJ.out hz0' hz1' hz2' rfl (by decide) _ _ _ rfl (HO2.out.alloc _) ⟨wr.heap.size, 0, none⟩ 1 1 [.int .i64 (k : Int)] rfl rfl (by intro j u hj; match j, hj with | 0, hj => (simp at hj; subst hj; simp [Addr.add]) | j + 1, hj => simp at hj) (by intro u hu; simp at hu; subst hu; rfl) (by have := HLN.out; unfold maxLen; omega) (by have := HLN.out; omega) (by simp; omega) ?_; intro v' w4 hown' hgrow _; have hB4 := below_grown (w1 := wr.alloc (.cells #[.int .i64 (k : Int)] 3)) (hB.alloc (by omega) _) hgrow (fun j hj => (HO2.out.lt j hj).1) (by simp; omega); have own4 := ownI_snoc hown' HSN.out; have HOW := Lib.hid own4; clear own4 hown' hgrow; have e9 : w4.cell? ⟨b1, off1 + k, none⟩ = some (.int .i64 v) := ((hB9.trans (hB4.mono hB9.size)).cell (p := ⟨b1, off1 + k, none⟩) hbb1).trans HC.out)
      go_wp2
      go_roundw
      case rel => exact ⟨k + 1, _, rfl, by omega, by go_num, by rw [ew], HOW.out, hB4⟩
      case measure => simp [intOf]; omega
    · obtain rfl : k = am.length := by omega
      obtain ⟨A8x, c8x, rfl, hr8x, hc8x⟩ := own_rdI hown
      have hln := allN_len am.length
      have hSum := all_sum HG.out
      have HGA2 := good_all HG.out
      have hcr := credit_good HGA2
      have hna := neg_all am
      have hca : cum am am.length = am.sum := cum_all am
      rw [hca]
      rw [hln] at hc8x ⊢
      obtain ⟨L, hL⟩ : ∃ L, allN am.length = L := ⟨_, rfl⟩
      rw [hL] at hr8x hcr hna hln hSum
      rw [hSum.1] at hcr
      obtain ⟨Q, hQ⟩ : ∃ Q, negW am L = Q := ⟨_, rfl⟩
      obtain ⟨t, ht⟩ : ∃ t, am.sum = t := ⟨_, rfl⟩
      rw [ht] at hSum hcr ⊢
      rw [hQ] at hcr hna
      have hQL : Q.length = am.length := by rw [hna, List.length_map]
      have wt : wrap64 (-t) = -t := w64_id (by omega) (by omega)
      have HQ := Lib.hid hna
      have HQL := Lib.hid hQL
      have HCR := Lib.hid hcr
      have HLN := Lib.hid hln
      have HR9 := Lib.hid hr8x
      clear hna hQL hcr hln hr8x hSum hL hQ ht hca HGA2 hown
      have hBw := hB9.trans (hB.mono hB9.size)
      have ctr := Credit_any A A8x cp c8x am L wr (HL.out.now hBw) HR9.out
      rw [HLN.out, HCR.out] at ctr
      have CTR := Lib.hid ctr; clear ctr
      go_wp2_with fail
      refine CTR.out.mono ?_
      rintro e' wq ⟨Aq, cq, rfl, hrq, hcq, hbq⟩
      have HRQ := Lib.hid hrq; clear hrq
      have hBq := hBw.trans (hbq.mono hBw.size)
      dsimp only
      rw [HQL.out]
      clear hcq hc8x CTR HCR
      have hne : (-t != -t) = false := by simp
      have hne2 : (-t != wrap64 (-t)) = false := by rw [wt]; simp
      go_wp2
      clear hne hne2
      go_loopw [26] (fun i wr2 => ∃ k : Nat, k ≤ am.length ∧ i = .int .i64 k ∧ Below wq.heap.size wq wr2) (fun i _ => am.length - (intOf i).toNat)
      case atStart => exact ⟨0, Nat.zero_le _, rfl, Below.refl _ _⟩
      case round =>
        obtain ⟨k, hk, rfl, hBB⟩ := hrel
        have hBr := hBq.trans (hBB.mono hBq.size)
        by_cases hlt : k < am.length
        · obtain ⟨v, hv⟩ := getElem?_of_lt hlt
          obtain ⟨b1, off, hA, hb1, d0⟩ := (HL.out.now hBr) k v hv
          obtain ⟨b2, off2, hA2, hb2, e0⟩ := (HRQ.out.now hBB) k (wrap64 (-v)) (by rw [HQ.out, List.getElem?_map, hv]; rfl)
          subst hA hA2
          clear hv
          go_wp2
          go_quiet (fail)
          go_wp2
          go_roundw
          case rel => exact ⟨k + 1, by omega, by go_num, by (repeat (first | exact Below.refl _ _ | assumption | refine Below.alloc ?_ (by first | exact Nat.le_refl _ | exact Below.size (by assumption) | omega | (simp <;> omega)) _ | refine Below.setCell ?_ (by first | exact Nat.le_refl _ | exact Below.size (by assumption) | omega | (simp <;> omega)) _ | refine below_drewN ?_ _ | refine Below.drew ?_))⟩
          case measure => simp [intOf]; omega
        · obtain rfl : k = am.length := by omega
          go_wp2_with fail
          refine (sane_any _).mono ?_
          rintro e' wz ⟨rfl, hbz⟩
          go_wp2
          go_ret
          exact Ret.mk rfl (hBr.trans (hbz.mono hBr.size))

set_option maxRecDepth 100000 in
set_option maxHeartbeats 4000000 in
theorem lawCredits_shift (A : Option Addr) (a : Addr) (cp cp2 : Nat) (am ls : List Int) (n : Int) (cut : Nat) (w : World) (HL : Hid (RdI w w.heap.size A am)) (HL2 : Hid (RdI w w.heap.size (some a) ls)) (HC2 : Hid (ls.length ≤ cp2)) (HNO : Hid (NoneZ (some a) ls.length cp2 0)) (hn0 : 0 ≤ n) (hn1 : n ≤ 255) (HG : Hid (GoodC am ls))
    (hcut : n.tmod ((ls.length : Int) + 1) = cut) (HC5 : Hid (cut ≤ ls.length)) (HCC : Hid (¬ cp2 = cut)) :
    Calls Tryd.prog 6 #[.slice A am.length cp, .slice (some a) ls.length cp2, .int .u8 n] w (Ret (.bool true) w) := by
  have hmx : Tryd.prog.follows .mixedOrders = true := by kernel_rfl
  have hg := HG.out
  have g1I : ¬ (60 : Int) < (am.length : Int) := by have := hg.n1; omega
  have g2I : ¬ (60 : Int) < (ls.length : Int) := by have := hg.n2; omega
  have HE := Lib.hid (credit_good hg)
  have hlR : (negW am ls).length = ls.length := by unfold negW; rw [List.length_map]
  obtain ⟨R, hR⟩ : ∃ R, negW am ls = R := ⟨_, rfl⟩
  obtain ⟨s, hs⟩ : ∃ s, sumW am ls = s := ⟨_, rfl⟩
  rw [hR, hs] at HE
  rw [hR] at hlR
  have e1 : wrap64 ((ls.length : Int) + 1) = (ls.length : Int) + 1 := w64_id (by omega) (by omega)
  have e2 : wrap64 n = n := w64_id (by omega) (by omega)
  obtain ⟨i0, hi0, hz0', hz1', hz2'⟩ := info_partsI Tryd.infoI
  have HJ := Lib.hid hi0; clear hi0
  have HLR := Lib.hid hlR; clear hlR hR hs
  clear hg
  go_enter Tryd.func6, Tryd.ntmps6
  go_wp2_with fail
  refine (Credit_any A (some a) cp cp2 am ls _ HL.out HL2.out).mono ?_
  rintro e' w1 ⟨A1, c1, rfl, hr1, _, hb1⟩
  rw [HE.out] at hr1 ⊢
  have HR1 := Lib.hid hr1; clear hr1
  go_wp2_with fail
  refine (Credit2_any A (some a) cp cp2 am ls _ (HL.out.now hb1) (HL2.out.now hb1)).mono ?_
  rintro e' w2 ⟨A3, c3, rfl, hr2, _, hb2⟩
  rw [HE.out] at hr2 ⊢
  have HR2 := Lib.hid hr2; clear hr2
  have hB2 := hb1.trans (hb2.mono hb1.size)
  go_wp2_with fail
  refine (same_any A1 A3 c1 c3 R _ (by have := HLR.out; omega) (HR1.out.now hb2) HR2.out).mono ?_
  rintro e' w5 ⟨rfl, hb5⟩
  have hB5 := hB2.trans (hb5.mono hB2.size)
  have hcc := HCC.out
  have hc := HC5.out
  have hcI : (cut : Int) ≤ (ls.length : Int) := by omega
  have hc3 : (cut : Int) ≤ (cp2 : Int) := by have := HC2.out; omega
  have hc4 : ls.length ≤ cp2 := HC2.out
  have htl : (ls.take cut).length = cut := by rw [List.length_take]; omega
  have hdl : (ls.drop cut).length = ls.length - cut := List.length_drop
  have HTL := Lib.hid htl; clear htl
  have HDL := Lib.hid hdl; clear hdl
  clear hc
  have hgt := Lib.hid (good_take HG.out cut)
  have hgd := Lib.hid (good_drop HG.out cut)
  have HE1 := Lib.hid (credit_good hgt.out)
  have HE2 := Lib.hid (credit_good hgd.out)
  have hsp := sum_parts HG.out cut
  obtain ⟨u1, hu1⟩ : ∃ u, sumW am (ls.take cut) = u := ⟨_, rfl⟩
  obtain ⟨u2, hu2⟩ : ∃ u, sumW am (ls.drop cut) = u := ⟨_, rfl⟩
  rw [hu1] at HE1
  rw [hu2] at HE2
  have hs' : sumW am ls = s := by have h := credit_good HG.out; rw [HE.out] at h; simpa using (congrArg (fun t => t.2.1) h).symm
  rw [hu1, hu2, hs'] at hsp
  clear hu1 hu2 hs'
  have HP0 : Hid (∀ (a2 : Addr) (B : Nat) (W : World), RdI W B (some a2) ls → ∀ j u, (vI (ls.take cut))[j]? = some u → W.cell? (a2.add j) = some u) := Lib.hid (fun _ _ _ h => h.part cut)
  have HNZ : Hid (NoneZ (some a) ls.length cp2 cut) := by
    intro h
    obtain ⟨e, e', _⟩ := HNO.out h
    have := HC5.out
    exact ⟨e, e', by omega⟩
  have HRS : Hid (RestAt (some a) w cp2 cut ls) := by
    intro a h W hW j u hj
    injection h with h
    subst h
    by_cases hcc : cp2 = cut
    · have : ls.drop cut = [] := List.drop_eq_nil_of_le (by omega)
      rw [this] at hj
      simp at hj
    · rw [if_neg hcc]
      exact RdI.rest (HL2.out.below hW) cut j u hj
  obtain ⟨P, hP⟩ : ∃ P, ls.take cut = P := ⟨_, rfl⟩
  obtain ⟨D, hD⟩ : ∃ D, ls.drop cut = D := ⟨_, rfl⟩
  have HRS2 : Hid (RestD (some a) w cp2 cut D) := Lib.hid (hD ▸ HRS.out)
  rw [hP] at HTL HE1 HP0
  rw [hD] at HDL HE2
  have HPP := Lib.hid hP; clear hP
  have HDD := Lib.hid hD; clear hD
  all_goals go_wp2_with (at_builtin; go_loud (refine wpList_append_any rfl _ _ 36 rfl w5.heap.size 3 i0 (.int .i64 0) 1 8 Tryd.underlying36 HJ.out hz0' hz1' hz2' rfl (by decide) _ 0 [] rfl (World.ownsRow_lit w5 #[] 0 (Nat.le_refl _) (by decide) rfl) _ cut _ (vI (P)) rfl (by intro h; first | (cases h; done) | exact ⟨by have := HNZ.out rfl; omega, by have := HNZ.out rfl; omega⟩) (by rw [List.length_map, HTL.out, Nat.mul_one]) (fun ad h => by first | (cases h; done) | (cases h; exact fun j u hj => HP0.out _ _ _ ((HL2.out.now hB5).now ((Below.refl w5.heap.size w5).alloc (o := .cells #[] 3) (Nat.le_refl _))) j u hj)) (by intro u hu; obtain ⟨x, _, rfl⟩ := List.mem_map.1 hu; rfl) (by have := HC5.out; unfold maxLen; omega) (by have := HC5.out; omega) (by simp) ?_; intro v6 w6 hown' hgrow; have own6 : OwnI w6 w5.heap.size v6 (P) := (by show w6.ownsRow _ _ 1 v6 (P).length (vI (P)); rw [HTL.out]; have h := hown'; rw [Nat.zero_add] at h; exact h); have hb6 := below_grown (w1 := w5.alloc (.cells #[] 3)) ((Below.refl w5.heap.size w5).alloc (o := .cells #[] 3) (Nat.le_refl _)) hgrow (fun j hj => ((World.ownsRow_lit (e := 3) (size := 1) w5 #[] 0 (Nat.le_refl _) (by decide) rfl).lt j hj).1) (by simp); clear hown' hgrow; obtain ⟨A6, c6, rfl, hr6, _⟩ := own_rdI own6; have HR6 := Lib.hid hr6; clear hr6 own6))
  all_goals
    have hB6 := hB5.trans (hb6.mono hB5.size)
    refine (Credit_any A A6 cp c6 am (P) _ (HL.out.now hB6) HR6.out).mono ?_
    rintro e' w7 ⟨A7, c7, rfl, _, _, hb7⟩
    rw [HE1.out]
    have hB7 := hB6.trans (hb7.mono hB6.size)
    have hz7 := hB7.size
  all_goals go_wp2_with (at_builtin; go_loud (refine wpList_append_any rfl _ _ 36 rfl w7.heap.size 3 i0 (.int .i64 0) 1 8 Tryd.underlying36 HJ.out hz0' hz1' hz2' rfl (by decide) _ 0 [] rfl (World.ownsRow_lit w7 #[] 0 (Nat.le_refl _) (by decide) rfl) _ (ls.length - cut) _ (vI (D)) rfl (by intro h; first | (cases h; done) | exact ⟨by have := HNZ.out rfl; omega, by have := HNZ.out rfl; omega⟩) (by rw [List.length_map, HDL.out, Nat.mul_one]) (fun ad h => by first | (cases h; done) | (cases h; exact HRS2.out.keep hcc (hB7.alloc (by omega) (.cells #[] 3))) | (cases h; exact HRS2.out.shift hcc (hB7.alloc (by omega) (.cells #[] 3)))) (by intro u hu; obtain ⟨x, _, rfl⟩ := List.mem_map.1 hu; rfl) (by have := HC5.out; unfold maxLen; omega) (by have := HC5.out; omega) (by simp) ?_; intro v8 w8 hown' hgrow; have own8 : OwnI w8 w7.heap.size v8 (D) := (by show w8.ownsRow _ _ 1 v8 (D).length (vI (D)); rw [HDL.out]; have h := hown'; rw [Nat.zero_add] at h; exact h); have hb8 := below_grown (w1 := w7.alloc (.cells #[] 3)) ((Below.refl w7.heap.size w7).alloc (o := .cells #[] 3) (Nat.le_refl _)) hgrow (fun j hj => ((World.ownsRow_lit (e := 3) (size := 1) w7 #[] 0 (Nat.le_refl _) (by decide) rfl).lt j hj).1) (by simp); clear hown' hgrow; obtain ⟨A8, c8, rfl, hr8, _⟩ := own_rdI own8; have HR8 := Lib.hid hr8; clear hr8 own8))
  all_goals
    have hB8 := hB7.trans (hb8.mono hB7.size)
    refine (Credit_any A A8 cp c8 am (D) _ (HL.out.now hB8) HR8.out).mono ?_
    rintro e' w9 ⟨A9, c9, rfl, _, _, hb9⟩
    rw [HE2.out]
    have hB9 := hB8.trans (hb9.mono hB8.size)
    have hz9 := hB9.size
    have heq9 : (wrap64 (u1 + u2) != s) = false := by simp [hsp]
    clear hb1 hb2 hb5 hB2 hB5 hb6 hB6 hb7 hB7 hb8 hB8 hb9 hz7 hsp
    go_wp2
  clear heq9
  have HGA := Lib.hid HG.out.ga
  go_loopw [20, 21, 22] (fun u s i wr => ∃ (k : Nat) (v : Value), v = u ∧ k ≤ am.length ∧ i = .int .i64 k ∧ s = .int .i64 (cum am k) ∧ OwnI wr w9.heap.size v (allN k) ∧ Below w9.heap.size w9 wr) (fun _ _ i _ => am.length - (intOf i).toNat)
  case atStart => exact ⟨0, _, rfl, Nat.zero_le _, rfl, by unfold cum; rfl, World.ownsRow_nil _ _ _ _, Below.refl _ _⟩
  case round =>
    obtain ⟨k, u, rfl, hk, rfl, rfl, hown, hB⟩ := hrel
    have hBw := hB9.trans (hB.mono hB9.size)
    have hsB := hB.size
    by_cases hlt : k < am.length
    · obtain ⟨v, hv⟩ := getElem?_of_lt hlt
      obtain ⟨b1, off1, hA1, hbb1, e00⟩ := HL.out k v hv
      subst hA1
      have hbd := cum_bdA HGA.out k hk
      have hvb := bet_iff.1 (HGA.out v (List.mem_of_getElem? hv))
      have hcs := cum_succ hv
      have ew : wrap64 (cum am k + v) = cum am (k + 1) := by rw [hcs]; exact w64_id (by omega) (by omega)
      have hln := allN_len k
      obtain ⟨Rk, hRk⟩ : ∃ R, allN k = R := ⟨_, rfl⟩
      have hsn := allN_succ k
      rw [hRk] at hown hln hsn
      have HO2 := Lib.hid hown
      have HSN := Lib.hid hsn
      have HLN := Lib.hid hln
      have HC := Lib.hid e00
      clear hown hsn hln hRk e00 hcs hbd hv
      go_wp2_with (at_builtin; refine wpList_append_own _ rfl _ _ 36 rfl w9.heap.size 3 i0 (.int .i64 0) 1 8 Tryd.underlying36 HJ.out hz0' hz1' hz2' rfl (by decide) _ _ _ rfl (HO2.out.alloc _) ⟨wr.heap.size, 0, none⟩ 1 1 [.int .i64 (k : Int)] rfl rfl (by intro j u hj; match j, hj with | 0, hj => (simp at hj; subst hj; simp [Addr.add]) | j + 1, hj => simp at hj) (by intro u hu; simp at hu; subst hu; rfl) (by have := HLN.out; unfold maxLen; omega) (by have := HLN.out; omega) (by simp; omega) ?_; intro v' w4 hown' hgrow _; have hB4 := below_grown (w1 := wr.alloc (.cells #[.int .i64 (k : Int)] 3)) (hB.alloc (by omega) _) hgrow (fun j hj => (HO2.out.lt j hj).1) (by simp; omega); have own4 := ownI_snoc hown' HSN.out; have HOW := Lib.hid own4; clear own4 hown' hgrow; have e9 : w4.cell? ⟨b1, off1 + k, none⟩ = some (.int .i64 v) := ((hB9.trans (hB4.mono hB9.size)).cell (p := ⟨b1, off1 + k, none⟩) hbb1).trans HC.out)
      go_wp2
      go_roundw
      case rel => exact ⟨k + 1, _, rfl, by omega, by go_num, by rw [ew], HOW.out, hB4⟩
      case measure => simp [intOf]; omega
    · obtain rfl : k = am.length := by omega
      obtain ⟨A8x, c8x, rfl, hr8x, hc8x⟩ := own_rdI hown
      have hln := allN_len am.length
      have hSum := all_sum HG.out
      have HGA2 := good_all HG.out
      have hcr := credit_good HGA2
      have hna := neg_all am
      have hca : cum am am.length = am.sum := cum_all am
      rw [hca]
      rw [hln] at hc8x ⊢
      obtain ⟨L, hL⟩ : ∃ L, allN am.length = L := ⟨_, rfl⟩
      rw [hL] at hr8x hcr hna hln hSum
      rw [hSum.1] at hcr
      obtain ⟨Q, hQ⟩ : ∃ Q, negW am L = Q := ⟨_, rfl⟩
      obtain ⟨t, ht⟩ : ∃ t, am.sum = t := ⟨_, rfl⟩
      rw [ht] at hSum hcr ⊢
      rw [hQ] at hcr hna
      have hQL : Q.length = am.length := by rw [hna, List.length_map]
      have wt : wrap64 (-t) = -t := w64_id (by omega) (by omega)
      have HQ := Lib.hid hna
      have HQL := Lib.hid hQL
      have HCR := Lib.hid hcr
      have HLN := Lib.hid hln
      have HR9 := Lib.hid hr8x
      clear hna hQL hcr hln hr8x hSum hL hQ ht hca HGA2 hown
      have hBw := hB9.trans (hB.mono hB9.size)
      have ctr := Credit_any A A8x cp c8x am L wr (HL.out.now hBw) HR9.out
      rw [HLN.out, HCR.out] at ctr
      have CTR := Lib.hid ctr; clear ctr
      go_wp2_with fail
      refine CTR.out.mono ?_
      rintro e' wq ⟨Aq, cq, rfl, hrq, hcq, hbq⟩
      have HRQ := Lib.hid hrq; clear hrq
      have hBq := hBw.trans (hbq.mono hBw.size)
      dsimp only
      rw [HQL.out]
      clear hcq hc8x CTR HCR
      have hne : (-t != -t) = false := by simp
      have hne2 : (-t != wrap64 (-t)) = false := by rw [wt]; simp
      go_wp2
      clear hne hne2
      go_loopw [26] (fun i wr2 => ∃ k : Nat, k ≤ am.length ∧ i = .int .i64 k ∧ Below wq.heap.size wq wr2) (fun i _ => am.length - (intOf i).toNat)
      case atStart => exact ⟨0, Nat.zero_le _, rfl, Below.refl _ _⟩
      case round =>
        obtain ⟨k, hk, rfl, hBB⟩ := hrel
        have hBr := hBq.trans (hBB.mono hBq.size)
        by_cases hlt : k < am.length
        · obtain ⟨v, hv⟩ := getElem?_of_lt hlt
          obtain ⟨b1, off, hA, hb1, d0⟩ := (HL.out.now hBr) k v hv
          obtain ⟨b2, off2, hA2, hb2, e0⟩ := (HRQ.out.now hBB) k (wrap64 (-v)) (by rw [HQ.out, List.getElem?_map, hv]; rfl)
          subst hA hA2
          clear hv
          go_wp2
          go_quiet (fail)
          go_wp2
          go_roundw
          case rel => exact ⟨k + 1, by omega, by go_num, by (repeat (first | exact Below.refl _ _ | assumption | refine Below.alloc ?_ (by first | exact Nat.le_refl _ | exact Below.size (by assumption) | omega | (simp <;> omega)) _ | refine Below.setCell ?_ (by first | exact Nat.le_refl _ | exact Below.size (by assumption) | omega | (simp <;> omega)) _ | refine below_drewN ?_ _ | refine Below.drew ?_))⟩
          case measure => simp [intOf]; omega
        · obtain rfl : k = am.length := by omega
          go_wp2_with fail
          refine (sane_any _).mono ?_
          rintro e' wz ⟨rfl, hbz⟩
          go_wp2
          go_ret
          exact Ret.mk rfl (hBr.trans (hbz.mono hBr.size))

set_option maxRecDepth 100000 in
set_option maxHeartbeats 2000000 in
theorem lawCredits_any (A A2 : Option Addr) (cp cp2 : Nat) (am ls : List Int) (n : Int) (w : World) (hl : RdI w w.heap.size A am) (hl2 : RdI w w.heap.size A2 ls) (hc2 : ls.length ≤ cp2) (hnone : A2 = none → ls = [] ∧ cp2 = 0) (hn0 : 0 ≤ n) (hn1 : n ≤ 255) :
    Calls Tryd.prog 6 #[.slice A am.length cp, .slice A2 ls.length cp2, .int .u8 n] w (Ret (.bool true) w) := by
  have HL := Lib.hid hl; clear hl
  have HL2 := Lib.hid hl2; clear hl2
  have HNO := Lib.hid hnone; clear hnone
  have HC2 := Lib.hid hc2; clear hc2
  have hmx : Tryd.prog.follows .mixedOrders = true := by kernel_rfl
  by_cases h60 : 60 < am.length
  · have g1I : (60 : Int) < (am.length : Int) := by omega
    go_enter Tryd.func6, Tryd.ntmps6
    go_wp2_with fail
    refine (sane_any _).mono ?_
    rintro e w2 ⟨rfl, hb2⟩
    go_wp2
    go_ret
    exact Ret.mk rfl hb2
  have g1I : ¬ (60 : Int) < (am.length : Int) := by omega
  by_cases h61 : 60 < ls.length
  · have g2I : (60 : Int) < (ls.length : Int) := by omega
    go_enter Tryd.func6, Tryd.ntmps6
    go_wp2_with fail
    refine (sane_any _).mono ?_
    rintro e w2 ⟨rfl, hb2⟩
    go_wp2
    go_ret
    exact Ret.mk rfl hb2
  have g2I : ¬ (60 : Int) < (ls.length : Int) := by omega
  by_cases he : (creditS am ls).2.2 = 0
  case neg =>
    have hlen := credit_len am ls
    obtain ⟨⟨R, s, e⟩, hR⟩ : ∃ r, creditS am ls = r := ⟨_, rfl⟩
    rw [hR] at he hlen
    dsimp only at he hlen
    have HR := Lib.hid hR; clear hR
    have heb : (e == (0 : Int)) = false := by simpa using he
    have HLE := Lib.hid hlen; clear hlen he h60 h61
    go_enter Tryd.func6, Tryd.ntmps6
    go_wp2_with fail
    refine (Credit_any A A2 cp cp2 am ls _ HL.out HL2.out).mono ?_
    rintro e' w1 ⟨A1, c1, rfl, hr1, _, hb1⟩
    rw [HR.out] at hr1 ⊢
    have HR1 := Lib.hid hr1; clear hr1
    go_wp2_with fail
    refine (Credit2_any A A2 cp cp2 am ls _ (HL.out.now hb1) (HL2.out.now hb1)).mono ?_
    rintro e' w2 ⟨A3, c3, rfl, hr2, _, hb2⟩
    rw [HR.out] at hr2 ⊢
    have HR2 := Lib.hid hr2; clear hr2
    have hB2 := hb1.trans (hb2.mono hb1.size)
    go_wp2_with fail
    refine (same_any A1 A3 c1 c3 R _ (by have := HLE.out; omega) (HR1.out.now hb2) HR2.out).mono ?_
    rintro e' w5 ⟨rfl, hb5⟩
    have hB5 := hB2.trans (hb5.mono hB2.size)
    go_wp2_with fail
    refine (sane_any _).mono ?_
    rintro e' w6 ⟨rfl, hb6⟩
    go_wp2
    go_ret
    exact Ret.mk rfl (hB5.trans (hb6.mono hB5.size))
  have hg := credit_ok he
  have hlp : (0 : Int) < (ls.length : Int) + 1 := by omega
  have t1 := Int.tmod_nonneg ((ls.length : Int) + 1) hn0
  have t2 := Int.tmod_lt_of_pos n hlp
  obtain ⟨cut, hcut⟩ : ∃ cut : Nat, n.tmod ((ls.length : Int) + 1) = cut := ⟨(n.tmod ((ls.length : Int) + 1)).toNat, by omega⟩
  have hcl : cut ≤ ls.length := by omega
  cases A2 with
  | none =>
    exact lawCredits_none A cp cp2 am ls n cut w HL HL2 HC2 (Lib.hid (fun _ => by obtain ⟨e1, e2⟩ := HNO.out rfl; exact ⟨by rw [e1]; rfl, e2, rfl⟩)) hn0 hn1 (Lib.hid hg) hcut (Lib.hid hcl)
  | some a =>
    by_cases hcc : cp2 = cut
    · subst hcc
      exact lawCredits_keep A a cp am ls n cp2 w HL HL2 HC2 (Lib.hid (fun h => by cases h)) hn0 hn1 (Lib.hid hg) hcut (Lib.hid hcl)
    · exact lawCredits_shift A a cp cp2 am ls n cut w HL HL2 HC2 (Lib.hid (fun h => by cases h)) hn0 hn1 (Lib.hid hg) hcut (Lib.hid hcl) (Lib.hid hcc)
end Go.Proofs.YthccpdefgjneiaaDoor

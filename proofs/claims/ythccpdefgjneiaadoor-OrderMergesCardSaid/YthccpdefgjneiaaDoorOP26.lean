/- OrderMerges: the plain law; SameForm of equal forms: the walk. -/
import Derived.Test.YthccpdefgjneiaaDoorOP25
import Derived.Test.YthccpdefgjneiaaDoorOP11
namespace Go.Proofs.YthccpdefgjneiaaDoor
open Go.RowKit Go.Shelf Go.Maps
set_option linter.unusedSimpArgs false

def sumP (P : ByteArray → Int) (l : List GT) : Int := (l.map fun g => P g.m * g.n).sum
theorem sumP_cons (P : ByteArray → Int) (y : GT) (l : List GT) : sumP P (y :: l) = P y.m * y.n + sumP P l := by unfold sumP; rw [List.map_cons, List.sum_cons]
theorem sumP_append (P : ByteArray → Int) (a b : List GT) : sumP P (a ++ b) = sumP P a + sumP P b := by unfold sumP; rw [List.map_append, List.sum_append]
theorem sumP_bump (P : ByteArray → Int) (x : GT) (hx : 0 ≤ x.n ∧ x.n ≤ 1000) : ∀ acc : List GT, (acc.map keyG).Nodup → (∀ y ∈ acc, 0 ≤ y.n ∧ y.n ≤ 1000000) → (acc.any fun o => sameK o x) = true → sumP P (bumpAll acc x) = sumP P acc + P x.m * x.n
  | [], _, _, h => by simp at h
  | y :: l, hn, hb, h => by
    have hy := hb y List.mem_cons_self
    rw [List.map_cons, List.nodup_cons] at hn
    show sumP P ((if sameK y x then bump y x else y) :: bumpAll l x) = _
    by_cases hs : sameK y x = true
    · have hno : (l.any fun o => sameK o x) = false := by
        rw [List.any_eq_false]
        intro o ho hos
        exact hn.1 (List.mem_map.2 ⟨o, ho, (sameK_iff.1 hos).trans (sameK_iff.1 hs).symm⟩)
      have hm : y.m = x.m := by have := sameK_iff.1 hs; unfold keyG at this; simp only [Prod.mk.injEq] at this; exact this.1
      rw [if_pos hs, bumpAll_none hno, sumP_cons, sumP_cons]
      show P y.m * wrap64 (y.n + x.n) + sumP P l = _
      rw [w64_id (by omega) (by omega), hm, Int.mul_add]; omega
    · have ha : (l.any fun o => sameK o x) = true := by
        rw [List.any_cons] at h
        simp only [Bool.or_eq_true] at h
        exact h.resolve_left hs
      rw [if_neg hs, sumP_cons, sumP_cons, sumP_bump P x hx l hn.2 (fun z hz => hb z (List.mem_cons_of_mem _ hz)) ha]; omega
theorem merge_bd {ls : List GT} (hv : ∀ g ∈ ls, 1 ≤ g.n ∧ g.n ≤ 1000) (hl : ls.length ≤ 40) : ∀ k, k ≤ ls.length → ∀ y ∈ mergeK ls k, 0 ≤ y.n ∧ y.n ≤ 1000 * (k : Int)
  | 0, _ => by unfold mergeK; intro y hy; simp at hy
  | k + 1, hk => by
    have ih := merge_bd hv hl k (by omega)
    obtain ⟨x, hx⟩ := getElem?_of_lt (show k < ls.length by omega)
    have hxn := hv x (List.mem_of_getElem? hx)
    rw [merge_succ hx]
    intro y hy
    unfold addG at hy
    split at hy
    · unfold bumpAll at hy
      obtain ⟨z, hz, rfl⟩ := List.mem_map.1 hy
      have := ih z hz
      show 0 ≤ (if sameK z x then bump z x else z).n ∧ (if sameK z x then bump z x else z).n ≤ _
      split
      · show 0 ≤ wrap64 (z.n + x.n) ∧ wrap64 (z.n + x.n) ≤ _
        rw [w64_id (by omega) (by omega)]; omega
      · omega
    · rcases List.mem_append.1 hy with hy | hy
      · have := ih y hy; omega
      · simp at hy; subst hy; omega
theorem sumP_merge (P : ByteArray → Int) {ls : List GT} (hv : ∀ g ∈ ls, 1 ≤ g.n ∧ g.n ≤ 1000) (hl : ls.length ≤ 40) : ∀ k, k ≤ ls.length → sumP P (mergeK ls k) = sumP P (ls.take k)
  | 0, _ => by unfold mergeK; rfl
  | k + 1, hk => by
    have ih := sumP_merge P hv hl k (by omega)
    obtain ⟨x, hx⟩ := getElem?_of_lt (show k < ls.length by omega)
    have hxn := hv x (List.mem_of_getElem? hx)
    have hbd := merge_bd hv hl k (by omega)
    rw [merge_succ hx, take_succ_of hx, sumP_append, ← ih]
    have h1 : sumP P [x] = P x.m * x.n := by rw [sumP_cons]; unfold sumP; simp
    rw [h1]
    unfold addG
    split
    · next ha => exact sumP_bump P x (by omega) _ (merge_nodup ls k) (fun y hy => by have := hbd y hy; omega) ha
    · rw [sumP_append, h1]
theorem sumM_P (l : List GT) (m : ByteArray) : sumM l m = sumP (fun m' => if m' = m then 1 else 0) l := by
  unfold sumM sumP
  congr 1
  apply List.map_congr_left
  intro g _
  by_cases h : g.m = m
  · simp [h]
  · simp [h]
/-- The sum in EUR of a form whose lines are right: every line's price times its count. -/
theorem inv_eur {lp : List QT} {lr : List RT} {g : FT} {P : ByteArray → Int} (hc : checkE lp lr g = 0) (he : isEur g.cr = true) (hcur : curB g.cr = true) (hd : dayB g.d = true)
    (hP : ∀ x ∈ g.ls, priceV lp x.m g.d (ofM g.ls x.m) = (P x.m, 0) ∧ 0 ≤ P x.m ∧ P x.m ≤ 10000000) : (invV lp lr g).2.2 = 0 ∧ (invV lp lr g).2.1 = sumP P g.ls := by
  obtain ⟨_, hvr, hvf⟩ := check_form hc
  obtain ⟨h40, hls⟩ := form_lines hvf
  have hline : ∀ k x, g.ls[k]? = some x → lineK lp lr g k = (P x.m * x.n, 0) ∧ amt (P x.m * x.n) = true := by
    intro k x hx
    have hmem := List.mem_of_getElem? hx
    obtain ⟨hp, p0, p1⟩ := hP x hmem
    obtain ⟨_, _, _, _, _, n0, n1⟩ := line_nums (hls x hmem)
    have hb : 0 ≤ P x.m * x.n ∧ P x.m * x.n ≤ 10000000000 := by
      refine ⟨Int.mul_nonneg p0 (by omega), ?_⟩
      calc P x.m * x.n ≤ 10000000 * x.n := Int.mul_le_mul_of_nonneg_right p1 (by omega)
        _ ≤ 10000000 * 1000 := Int.mul_le_mul_of_nonneg_left n1 (by omega)
        _ = 10000000000 := by decide
    have hamt : amt (P x.m * x.n) = true := bet_iff.2 (by omega)
    refine ⟨?_, hamt⟩
    unfold lineK
    rw [lineV_get hc hx]
    unfold lineG
    rw [hp]
    show (if (0 : Int) = 0 then convS lr g.cr g.d (wrap64 (P x.m * x.n)) else (0, 0)) = _
    rw [if_pos rfl, w64_id (by omega) (by omega)]
    unfold convS
    rw [hvr, hcur, hd, hamt]
    show convV lr g.cr g.d (P x.m * x.n) = _
    unfold convV
    rw [he]; rfl
  have hf : firstE lp lr g g.ls.length = 0 := (firstE_iff _).2 fun k hk => by
    obtain ⟨x, hx⟩ := getElem?_of_lt hk
    rw [(hline k x hx).1]
  have hinv : invV lp lr g = (invA lp lr g g.ls.length, wsum (invA lp lr g g.ls.length), 0) := by unfold invV; rw [if_pos hc, if_pos hf]
  have hA : invA lp lr g g.ls.length = g.ls.map fun x => P x.m * x.n := by
    apply List.ext_getElem?
    intro k
    by_cases hk : k < g.ls.length
    · obtain ⟨x, hx⟩ := getElem?_of_lt hk
      rw [invA_get hk, (hline k x hx).1, List.getElem?_map, hx]; rfl
    · rw [List.getElem?_eq_none (by rw [invA_len]; omega), List.getElem?_eq_none (by simpa using hk)]
  rw [hinv]
  refine ⟨rfl, ?_⟩
  show wsum _ = _
  rw [wsum_eq (fun y hy => by
    rw [hA] at hy
    obtain ⟨x, hx, rfl⟩ := List.mem_map.1 hy
    obtain ⟨k, hk⟩ := List.getElem?_of_mem hx
    exact (hline k x hk).2) (by rw [invA_len]; exact h40), hA]
  rfl
theorem price_bd {lp : List QT} {s : ByteArray} {day n : Int} (h : (priceV lp s day n).2 = 0) : 0 ≤ (priceV lp s day n).1 ∧ (priceV lp s day n).1 ≤ 10000000 := by
  obtain ⟨⟨o, e0⟩, hf⟩ : ∃ r, foundE lp s day n = r := ⟨_, rfl⟩
  have hpv : priceV lp s day n = (match (o, e0) with | (none, e) => (0, e) | (some j, e) => (centsP (bestQ lp (some j)).st n, e)) := by unfold priceV; rw [hf] <;> rfl
  rw [hpv] at h ⊢
  cases o with
  | none =>
    have hne := found_none hf
    dsimp only at h
    rw [h] at hne
    simp at hne
  | some j =>
    obtain ⟨_, hv, _, _, _, p, hp, hbp⟩ := found_inv hf
    have hps := price_steps ((validP_all hv).2 p (List.mem_of_getElem? hp))
    dsimp only
    rw [hbp]
    exact cents_bd hps n
/-- What the law asks of the invoice of the merged form. -/
theorem merges_law {lp : List QT} {lr : List RT} {f : FT} (A : Option Addr) (c : Nat) (hm : mergeE f = 0) (hi : (invV lp lr f).2.2 = 0) (he : isEur f.cr = true) :
    (invV lp lr (withL f A c (mergeK f.ls f.ls.length))).2.2 = 0 ∧ (invV lp lr (withL f A c (mergeK f.ls f.ls.length))).2.1 = (invV lp lr f).2.1 := by
  have hvG : validFS (withL f none 0 (mergeK f.ls f.ls.length)) = true := by
    unfold mergeE at hm
    split at hm
    · split at hm
      · next h => exact h
      · simp at hm
    · simp at hm
  have hvG' : validFS (withL f A c (mergeK f.ls f.ls.length)) = true := hvG
  have hc : checkE lp lr f = 0 := by
    by_cases h : checkE lp lr f = 0
    · exact h
    · unfold invV at hi; rw [if_neg h] at hi; exact absurd hi h
  obtain ⟨hvp, hvr, hvf⟩ := check_form hc
  obtain ⟨h40, hls⟩ := form_lines hvf
  have hn : ∀ g ∈ f.ls, 1 ≤ g.n ∧ g.n ≤ 1000 := fun g hg => (line_nums (hls g hg)).2.2.2.2.2
  have hcG : checkE lp lr (withL f A c (mergeK f.ls f.ls.length)) = 0 := by unfold checkE; rw [hvp, hvr, hvG']; rfl
  have hcd : curB f.cr = true ∧ dayB f.d = true := by
    unfold validFS at hvf
    simp only [Bool.and_eq_true] at hvf
    exact ⟨hvf.2.2.2.1, hvf.2.2.1⟩
  have hff : firstE lp lr f f.ls.length = 0 := by
    by_cases h : firstE lp lr f f.ls.length = 0
    · exact h
    · unfold invV at hi; rw [if_pos hc, if_neg h] at hi; exact absurd hi h
  have hpr : ∀ x ∈ f.ls, (priceV lp x.m f.d (ofM f.ls x.m)).2 = 0 := by
    intro x hx
    obtain ⟨k, hk⟩ := List.getElem?_of_mem hx
    have hlk := (firstE_iff _).1 hff k (List.getElem?_eq_some_iff.1 hk).1
    unfold lineK at hlk
    rw [lineV_get hc hk] at hlk
    unfold lineG at hlk
    by_cases h : (priceV lp x.m f.d (ofM f.ls x.m)).2 = 0
    · exact h
    · rw [if_neg h] at hlk; exact absurd hlk h
  have hof : ∀ m, ofM (withL f A c (mergeK f.ls f.ls.length)).ls m = ofM f.ls m := by
    intro m
    rw [ofM_sum hvG', ofM_sum hvf, sumM_P, sumM_P]
    show sumP _ (mergeK f.ls f.ls.length) = _
    rw [sumP_merge _ hn h40 _ (Nat.le_refl _), List.take_length]
  have h1 := inv_eur (P := fun m => (priceV lp m f.d (ofM f.ls m)).1) hc he hcd.1 hcd.2 (fun x hx => by
    have := hpr x hx
    exact ⟨Prod.ext rfl this, price_bd this⟩)
  have h2 := inv_eur (lp := lp) (lr := lr) (g := withL f A c (mergeK f.ls f.ls.length)) (P := fun m => (priceV lp m f.d (ofM f.ls m)).1) hcG he hcd.1 hcd.2 (fun x hx => by
    obtain ⟨z, hz, e⟩ := merge_models f.ls f.ls.length x hx
    have := hpr z hz
    rw [← e] at this
    rw [hof]
    exact ⟨Prod.ext rfl this, price_bd this⟩)
  refine ⟨h2.1, ?_⟩
  rw [h2.2, h1.2]
  show sumP _ (mergeK f.ls f.ls.length) = _
  rw [sumP_merge _ hn h40 _ (Nat.le_refl _), List.take_length]
set_option maxRecDepth 100000 in
set_option maxHeartbeats 2000000 in
theorem SameForm_any (f : FT) (A A2 : Option Addr) (c c2 : Nat) (M : List GT) (w : World) (hm : M.length ≤ 1000000) (h1 : RdG w w.heap.size A M) (h2 : RdG w w.heap.size A2 M) :
    Calls Tryd.prog 41 #[valF (withL f A c M), valF (withL f A2 c2 M)] w (Ret (.bool true) w) := by
  have H1 := Lib.hid h1; clear h1
  have H2 := Lib.hid h2; clear h2
  have hmx : Tryd.prog.follows .mixedOrders = true := by kernel_rfl
  obtain ⟨w0, hw0⟩ : ∃ w0, (w.alloc (.cells #[.string f.cu, .int .i64 f.d, .string f.cr, .slice A M.length c] 30)).alloc (.cells #[.string f.cu, .int .i64 f.d, .string f.cr, .slice A2 M.length c2] 30) = w0 := ⟨_, rfl⟩
  have hB0 : Below w.heap.size w w0 := by rw [← hw0]; (repeat (first | exact Below.refl _ _ | assumption | refine Below.alloc ?_ (by first | exact Nat.le_refl _ | exact Below.size (by assumption) | omega | (simp <;> omega)) _ | refine Below.setCell ?_ (by first | exact Nat.le_refl _ | exact Below.size (by assumption) | omega | (simp <;> omega)) _ | refine below_drewN ?_ _ | refine Below.drew ?_))
  have hz0 : w0.heap.size = w.heap.size + 2 := by rw [← hw0]; simp
  have m0 : w0.cell? ⟨w.heap.size, 0, none⟩ = some (.string f.cu) := by rw [← hw0]; simp
  have m1 : w0.cell? ⟨w.heap.size, 1, none⟩ = some (.int .i64 f.d) := by rw [← hw0]; simp
  have m2 : w0.cell? ⟨w.heap.size, 2, none⟩ = some (.string f.cr) := by rw [← hw0]; simp
  have m3 : w0.cell? ⟨w.heap.size, 3, none⟩ = some (.slice A M.length c) := by rw [← hw0]; simp
  have f0 : w0.cell? ⟨w.heap.size + 1, 0, none⟩ = some (.string f.cu) := by rw [← hw0]; simp
  have f1 : w0.cell? ⟨w.heap.size + 1, 1, none⟩ = some (.int .i64 f.d) := by rw [← hw0]; simp
  have f2 : w0.cell? ⟨w.heap.size + 1, 2, none⟩ = some (.string f.cr) := by rw [← hw0]; simp
  have f3 : w0.cell? ⟨w.heap.size + 1, 3, none⟩ = some (.slice A2 M.length c2) := by rw [← hw0]; simp
  have HM := Lib.hid (And.intro m3 f3)
  have HC : Hid (∀ w', Below w0.heap.size w0 w' → w'.cell? ⟨w.heap.size, 3, none⟩ = some (.slice A M.length c) ∧ w'.cell? ⟨w.heap.size + 1, 3, none⟩ = some (.slice A2 M.length c2)) := fun w' h =>
    ⟨(h.cell (p := ⟨w.heap.size, 3, none⟩) (by show w.heap.size < _; omega)).trans HM.out.1, (h.cell (p := ⟨w.heap.size + 1, 3, none⟩) (by show w.heap.size + 1 < _; omega)).trans HM.out.2⟩
  have sb : (f.cu.toList != f.cu.toList) = false := by simp
  have sc : (f.cr.toList != f.cr.toList) = false := by simp
  have sd : (f.d != f.d) = false := by simp
  have sl : ((M.length : Int) != (M.length : Int)) = false := by simp
  unfold valF withL
  dsimp only
  go_enter Tryd.func41, Tryd.ntmps41
  go_wp2
  clear hw0 m0 m1 m2 m3 f0 f1 f2 f3 sb sc sd sl
  go_loopw [5] (fun i wr => ∃ k : Nat, k ≤ M.length ∧ i = .int .i64 k ∧ Below w0.heap.size w0 wr) (fun i _ => M.length - (intOf i).toNat)
  case atStart => exact ⟨0, Nat.zero_le _, rfl, Below.refl _ _⟩
  case round =>
    obtain ⟨k, hk, rfl, hB⟩ := hrel
    have hBw := hB0.trans (hB.mono hB0.size)
    by_cases hlt : k < M.length
    · obtain ⟨x, hx⟩ := getElem?_of_lt hlt
      obtain ⟨b, off, hA, hb, d0, d1, d2, d3⟩ := (H1.out.now hBw) k x hx
      obtain ⟨b2, off2, hA2, hb2, e0, e1, e2, e3⟩ := (H2.out.now hBw) k x hx
      subst hA hA2
      have HCC : Hid (∀ w', Below wr.heap.size wr w' → (w'.cell? ⟨w.heap.size, 3, none⟩ = some (.slice (some ⟨b, off, none⟩) M.length c) ∧ w'.cell? ⟨w.heap.size + 1, 3, none⟩ = some (.slice (some ⟨b2, off2, none⟩) M.length c2)) ∧ (w'.cell? ⟨b, off + k * 4, none⟩ = some (.string x.m) ∧ w'.cell? ⟨b, off + k * 4 + 1, none⟩ = some (.int .i64 x.c) ∧ w'.cell? ⟨b, off + k * 4 + 2, none⟩ = some (.int .i64 x.z) ∧ w'.cell? ⟨b, off + k * 4 + 3, none⟩ = some (.int .i64 x.n)) ∧
          w'.cell? ⟨b2, off2 + k * 4, none⟩ = some (.string x.m) ∧ w'.cell? ⟨b2, off2 + k * 4 + 1, none⟩ = some (.int .i64 x.c) ∧ w'.cell? ⟨b2, off2 + k * 4 + 2, none⟩ = some (.int .i64 x.z) ∧ w'.cell? ⟨b2, off2 + k * 4 + 3, none⟩ = some (.int .i64 x.n)) := fun w' hC =>
        ⟨HC.out w' (hB.trans (hC.mono hB.size)), ⟨(hC.cell (p := ⟨b, off + k * 4, none⟩) hb).trans d0, (hC.cell (p := ⟨b, off + k * 4 + 1, none⟩) hb).trans d1, (hC.cell (p := ⟨b, off + k * 4 + 2, none⟩) hb).trans d2, (hC.cell (p := ⟨b, off + k * 4 + 3, none⟩) hb).trans d3⟩,
          (hC.cell (p := ⟨b2, off2 + k * 4, none⟩) hb2).trans e0, (hC.cell (p := ⟨b2, off2 + k * 4 + 1, none⟩) hb2).trans e1, (hC.cell (p := ⟨b2, off2 + k * 4 + 2, none⟩) hb2).trans e2, (hC.cell (p := ⟨b2, off2 + k * 4 + 3, none⟩) hb2).trans e3⟩
      clear hx d0 d1 d2 d3 e0 e1 e2 e3
      obtain ⟨⟨m3, f3⟩, _⟩ := HCC.out wr (Below.refl _ _)
      go_wp2
      clear m3 f3
      refine region_qw (fun w' => Below wr.heap.size wr w') hmx (by kernel_rfl) (by (repeat (first | exact Below.refl _ _ | assumption | refine Below.alloc ?_ (by first | exact Nat.le_refl _ | exact Below.size (by assumption) | omega | (simp <;> omega)) _ | refine Below.setCell ?_ (by first | exact Nat.le_refl _ | exact Below.size (by assumption) | omega | (simp <;> omega)) _ | refine below_drewN ?_ _ | refine Below.drew ?_))) ?_
      repeat (first | (refine qw_read rfl (fun w' hC => by obtain ⟨⟨m3, f3⟩, ⟨d0, d1, d2, d3⟩, e0, e1, e2, e3⟩ := HCC.out w' hC; clear hC; go_simp; rfl) ?_; simp only [Act.put, List.setIfInBounds_toArray, List.set_cons_succ, List.set_cons_zero]) | (refine qw_pass (by first | (simp [Region.wanted, yielded]; done) | (simp [Region.wanted, yielded]; intro h; cases h)) ?_; simp only [Act.put, List.setIfInBounds_toArray, List.set_cons_succ, List.set_cons_zero]))
      refine qw_nil ?_
      intro w9 hb9
      go_wp2
      go_roundw
      case rel => exact ⟨k + 1, by omega, by go_num, hB.trans (hb9.mono hB.size)⟩
      case measure => simp [intOf]; omega
    · obtain rfl : k = M.length := by omega
      obtain ⟨m3, f3⟩ := HC.out wr hB
      go_wp2
      go_ret
      exact Ret.mk rfl hBw
end Go.Proofs.YthccpdefgjneiaaDoor

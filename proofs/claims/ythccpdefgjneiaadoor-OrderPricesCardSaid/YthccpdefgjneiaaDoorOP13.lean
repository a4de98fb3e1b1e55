/- The law OrderPrices: the walk. -/
import Derived.Test.YthccpdefgjneiaaDoorOP12
import Derived.Test.YthccpdefgjneiaaDoorOM9
namespace Go.Proofs.YthccpdefgjneiaaDoor
open Go.RowKit Go.Shelf Go.Maps
set_option linter.unusedSimpArgs false

theorem cheap_le (l : List ST) (n c0 : Int) : ∀ k, k ≤ l.length → n ≤ (cheapK l n c0 k).1 ∧ (cheapK l n c0 k).2 ≤ n * c0
  | 0, _ => by unfold cheapK; exact ⟨Int.le_refl _, Int.le_refl _⟩
  | k + 1, hk => by
    obtain ⟨s, hs⟩ := getElem?_of_lt (show k < l.length by omega)
    obtain ⟨h1, h2⟩ := cheap_le l n c0 k (by omega)
    rw [cheap_snoc hs]
    unfold cheapF
    split
    · next h => exact ⟨by have := h.1; dsimp only; omega, by have := h.2; dsimp only; omega⟩
    · exact ⟨h1, h2⟩
/-- What the law asks of the answers. -/
theorem prices_law {l : List QT} {s : ByteArray} {day n x y z e e' : Int} (h1 : priceV l s day n = (x, e)) (h2 : cheapV l s day n = (y, z, e')) : e' = e ∧ (e = 0 → wrap64 (n * x) = n * x ∧ z ≤ n * x ∧ n ≤ y) := by
  obtain ⟨⟨o, e0⟩, hf⟩ : ∃ r, foundE l s day n = r := ⟨_, rfl⟩
  unfold priceV at h1
  unfold cheapV at h2
  rw [hf] at h1 h2
  cases o with
  | none =>
    have hne := found_none hf
    dsimp only at h1 h2
    simp only [Prod.mk.injEq] at h1 h2
    refine ⟨by rw [← h1.2, ← h2.2.2], fun h => ?_⟩
    rw [h1.2, h] at hne
    simp at hne
  | some j =>
    obtain ⟨rfl, hv, hn1, hn2, _, p, hp, hbp⟩ := found_inv hf
    dsimp only at h1 h2
    rw [hbp] at h1 h2
    simp only [Prod.mk.injEq] at h1 h2
    have hps := price_steps ((validP_all hv).2 p (List.mem_of_getElem? hp))
    obtain ⟨hc1, hc2⟩ := cents_bd hps n
    obtain ⟨hx1, hx2⟩ := prod_bd hn1 hn2 hc1 hc2
    have hc := cheap_le p.st n (centsP p.st n) p.st.length (Nat.le_refl _)
    refine ⟨by rw [← h1.2, ← h2.2.2], fun _ => ?_⟩
    rw [← h1.1, ← h2.1, ← h2.2.1]
    exact ⟨w64_id (by omega) (by omega), hc.2, hc.1⟩
set_option maxRecDepth 100000 in
set_option maxHeartbeats 2000000 in
theorem lawPrices_any (Ap Ar : Option Addr) (cp cr : Nat) (lp : List QT) (lr : List RT) (m : ByteArray) (d n : Int) (w : World) (hQ : OkQ w lp) (hp : RdQ w w.heap.size Ap lp) (hr : RdT w w.heap.size Ar lr) :
    Calls Tryd.prog 9 #[.agg #[.slice Ap lp.length cp, .slice Ar lr.length cr], .agg #[.string m, .int .i64 d, .int .i64 n]] w (Ret (.bool true) w) := by
  have HP := Lib.hid hp; clear hp
  have HR := Lib.hid hr; clear hr
  have HQ := Lib.hid hQ; clear hQ
  have hmx : Tryd.prog.follows .mixedOrders = true := by kernel_rfl
  obtain ⟨w0, hw0⟩ : ∃ w0, (w.alloc (.cells #[.slice Ap lp.length cp, .slice Ar lr.length cr] 25)).alloc (.cells #[.string m, .int .i64 d, .int .i64 n] 51) = w0 := ⟨_, rfl⟩
  have hB0 : Below w.heap.size w w0 := by rw [← hw0]; (repeat (first | exact Below.refl _ _ | assumption | refine Below.alloc ?_ (by first | exact Nat.le_refl _ | exact Below.size (by assumption) | omega | (simp <;> omega)) _ | refine Below.setCell ?_ (by first | exact Nat.le_refl _ | exact Below.size (by assumption) | omega | (simp <;> omega)) _ | refine below_drewN ?_ _ | refine Below.drew ?_))
  have hz0 : w0.heap.size = w.heap.size + 2 := by rw [← hw0]; simp
  have m0 : w0.cell? ⟨w.heap.size, 0, none⟩ = some (.slice Ap lp.length cp) := by rw [← hw0]; simp
  have m1 : w0.cell? ⟨w.heap.size, 1, none⟩ = some (.slice Ar lr.length cr) := by rw [← hw0]; simp
  have a0 : w0.cell? ⟨w.heap.size + 1, 0, none⟩ = some (.string m) := by rw [← hw0]; simp
  have a1 : w0.cell? ⟨w.heap.size + 1, 1, none⟩ = some (.int .i64 d) := by rw [← hw0]; simp
  have a2 : w0.cell? ⟨w.heap.size + 1, 2, none⟩ = some (.int .i64 n) := by rw [← hw0]; simp
  have HM := Lib.hid (And.intro m0 (And.intro m1 (And.intro a0 (And.intro a1 a2))))
  have HC : Hid (∀ w', Below w0.heap.size w0 w' → w'.cell? ⟨w.heap.size, 0, none⟩ = some (.slice Ap lp.length cp) ∧ w'.cell? ⟨w.heap.size + 1, 0, none⟩ = some (.string m) ∧ w'.cell? ⟨w.heap.size + 1, 1, none⟩ = some (.int .i64 d) ∧ w'.cell? ⟨w.heap.size + 1, 2, none⟩ = some (.int .i64 n)) := fun w' h =>
    ⟨(h.cell (p := ⟨w.heap.size, 0, none⟩) (by show w.heap.size < _; omega)).trans HM.out.1,
     (h.cell (p := ⟨w.heap.size + 1, 0, none⟩) (by show w.heap.size + 1 < _; omega)).trans HM.out.2.2.1, (h.cell (p := ⟨w.heap.size + 1, 1, none⟩) (by show w.heap.size + 1 < _; omega)).trans HM.out.2.2.2.1,
     (h.cell (p := ⟨w.heap.size + 1, 2, none⟩) (by show w.heap.size + 1 < _; omega)).trans HM.out.2.2.2.2⟩
  obtain ⟨⟨x, e⟩, hpv⟩ : ∃ r, priceV lp m d n = r := ⟨_, rfl⟩
  obtain ⟨⟨y, z, e2⟩, hcv⟩ : ∃ r, cheapV lp m d n = r := ⟨_, rfl⟩
  obtain ⟨rfl, hlaw⟩ := prices_law hpv hcv
  have hsane : ∀ (w2 : World), Below w.heap.size w w2 → Calls Tryd.prog 14 #[] w2 (fun e w' => e = .returned (.bool true) ∧ Below w.heap.size w w') := fun w2 h2 => (sane_any w2).mono fun e w' h => ⟨h.1, h2.trans (h.2.mono h2.size)⟩
  have HSA := Lib.hid hsane; clear hsane
  have HPV := Lib.hid hpv
  have HCV := Lib.hid hcv
  have HLAW := Lib.hid hlaw
  clear hpv hcv hlaw
  go_enter Tryd.func9, Tryd.ntmps9
  go_wp2_with fail
  clear hw0
  refine (Wide_any Ap Ar cp cr lp lr zeroF _ (HP.out.now hB0) (HR.out.now hB0) (fun i p hp => by simp [zeroF] at hp)).mono ?_
  rintro e' w1 ⟨b, rfl, hb1⟩
  have hB1 := hB0.trans (hb1.mono hB0.size)
  clear m0 m1 a0 a1 a2
  cases b
  case true =>
    go_wp2_with fail
    refine (HSA.out _ hB1).mono ?_
    rintro e' w2 ⟨rfl, hb2⟩
    go_wp2
    go_ret
    exact Ret.mk rfl hb2
  obtain ⟨m0, a0, a1, a2⟩ := HC.out w1 hb1
  by_cases h40 : 40 < m.size
  · have h40I : (40 : Int) < (m.size : Int) := by omega
    go_wp2_with fail
    refine (HSA.out _ hB1).mono ?_
    rintro e' w2 ⟨rfl, hb2⟩
    go_wp2
    go_ret
    exact Ret.mk rfl hb2
  have h40I : ¬ (40 : Int) < (m.size : Int) := by omega
  go_wp2_with fail
  refine (Price_any Ap cp lp m d n _ (HQ.out.now hB1) (HP.out.now hB1)).mono ?_
  rintro e' w2 ⟨rfl, hb2⟩
  rw [HPV.out]
  have hb12 := hb1.trans (hb2.mono hb1.size)
  have hB2 := hB0.trans (hb12.mono hB0.size)
  clear m0 a0 a1 a2
  obtain ⟨m0, a0, a1, a2⟩ := HC.out w2 hb12
  go_wp2_with fail
  refine (Price2_any Ap cp lp m d n _ (HQ.out.now hB2) (HP.out.now hB2)).mono ?_
  rintro e' w3 ⟨rfl, hb3⟩
  rw [HPV.out]
  have hb13 := hb12.trans (hb3.mono hb12.size)
  have hB3 := hB0.trans (hb13.mono hB0.size)
  clear m0 a0 a1 a2
  obtain ⟨m0, a0, a1, a2⟩ := HC.out w3 hb13
  go_wp2_with fail
  refine (Cheapest_any Ap cp lp m d n _ (HQ.out.now hB3) (HP.out.now hB3)).mono ?_
  rintro e' w4 ⟨rfl, hb4⟩
  rw [HCV.out]
  have hb14 := hb13.trans (hb4.mono hb13.size)
  have hB4 := hB0.trans (hb14.mono hB0.size)
  clear m0 a0 a1 a2
  obtain ⟨m0, a0, a1, a2⟩ := HC.out w4 hb14
  go_wp2_with fail
  refine (Cheapest2_any Ap cp lp m d n _ (HQ.out.now hB4) (HP.out.now hB4)).mono ?_
  rintro e' w5 ⟨rfl, hb5⟩
  rw [HCV.out]
  have hb15 := hb14.trans (hb5.mono hb14.size)
  have hB5 := hB0.trans (hb15.mono hB0.size)
  clear m0 a0 a1 a2
  have sx : (x != x) = false := by simp
  have se : (e2 != e2) = false := by simp
  have sy : (y != y) = false := by simp
  have sz : (z != z) = false := by simp
  go_wp2_with fail
  refine (sane_any _).mono ?_
  rintro e' w6 ⟨rfl, hb6⟩
  have hb16 := hb15.trans (hb6.mono hb15.size)
  have hB6 := hB0.trans (hb16.mono hB0.size)
  obtain ⟨m0, a0, a1, a2⟩ := HC.out w6 hb16
  by_cases he : e2 = 0
  · obtain ⟨l1, l2, l3⟩ := HLAW.out he
    subst he
    have l4 : z ≤ wrap64 (n * x) := by rw [l1]; exact l2
    clear l1 l2
    go_wp2
    go_ret
    exact Ret.mk (by simp [l3, l4]) hB6
  · have hne : (e2 != 0) = true := by simpa using he
    clear he
    go_wp2
    go_ret
    exact Ret.mk rfl hB6
end Go.Proofs.YthccpdefgjneiaaDoor

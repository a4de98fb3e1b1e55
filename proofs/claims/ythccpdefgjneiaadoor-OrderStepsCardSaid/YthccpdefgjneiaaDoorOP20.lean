/- The law OrderSteps: the plain law and the walk. -/
import Derived.Test.YthccpdefgjneiaaDoorOP10
import Derived.Test.YthccpdefgjneiaaDoorOM9
import Derived.Test.YthccpdefgjneiaaDoorOwn8
namespace Go.Proofs.YthccpdefgjneiaaDoor
open Go.RowKit Go.Shelf Go.Maps
set_option linter.unusedSimpArgs false

theorem late_app {α : Type} {key : α → NK} {name : ByteArray} {day : Int} {l r : List α} : ∀ k, k ≤ l.length → lateI key name day (l ++ r) k = lateI key name day l k
  | 0, _ => by unfold lateI; rfl
  | k + 1, hk => by
    obtain ⟨x, hx⟩ := getElem?_of_lt (show k < l.length by omega)
    have hx2 : (l ++ r)[k]? = some x := by rw [List.getElem?_append_left (by omega)]; exact hx
    have ih := late_app (key := key) (name := name) (day := day) (l := l) (r := r) k (by omega)
    rw [lateI_step hx, lateI_step hx2, ih]
    have hh : hits key name day (l ++ r) x (lateI key name day l k) = hits key name day l x (lateI key name day l k) := by
      unfold hits beats
      cases ho : lateI key name day l k with
      | none => rfl
      | some j =>
        have hj := (lateI_lt ho).2
        dsimp only
        rw [List.getElem?_append_left hj]
    rw [hh]
theorem price_app {l : List QT} {p : QT} {s : ByteArray} {day n : Int} (hv : validPS l = true) (hv2 : validPS (l ++ [p]) = true) (h : ¬ (p.m = s ∧ p.d ≤ day)) : priceV (l ++ [p]) s day n = priceV l s day n := by
  have hget : (l ++ [p])[l.length]? = some p := by simp
  have hl : lateI keyQ s day (l ++ [p]) (l ++ [p]).length = lateI keyQ s day l l.length := by
    rw [List.length_append, show [p].length = 1 from rfl, ← late_app (key := keyQ) (r := [p]) l.length (Nat.le_refl _)]
    by_cases h1 : p.m = s
    · exact late_miss2 hget (fun h2 => h ⟨h1, h2⟩)
    · exact late_miss1 hget h1
  unfold priceV foundE
  rw [hv, hv2, hl]
  cases dayB day && bet 1 n 100000
  · rfl
  · cases ho : lateI keyQ s day l l.length with
    | none => rfl
    | some j =>
      have hj := (lateI_lt ho).2
      have hb : bestQ (l ++ [p]) (some j) = bestQ l (some j) := by
        unfold bestQ
        show ((l ++ [p])[j]?).getD _ = (l[j]?).getD _
        rw [List.getElem?_append_left hj]
      show (centsP (bestQ (l ++ [p]) (some j)).st n, 0) = (centsP (bestQ l (some j)).st n, 0)
      rw [hb]
theorem price_bad {l : List QT} {s : ByteArray} {day n : Int} (hv : validPS l = false) : priceV l s day n = (0, 80) := by unfold priceV foundE; rw [hv]; rfl
set_option maxRecDepth 100000 in
set_option maxHeartbeats 4000000 in
theorem lawSteps_any (Ap Ar : Option Addr) (cp cr : Nat) (lp : List QT) (lr : List RT) (m : ByteArray) (d n : Int) (o : QT) (w : World) (hQ : OkQ w lp) (hp : RdQ w w.heap.size Ap lp) (hr : RdT w w.heap.size Ar lr) (hnone : Ap = none → cp = 0) (ho : OkK (keyQ o) ∧ RdT2 w w.heap.size o.A o.st ∧ o.st.length ≤ maxLen) :
    Calls Tryd.prog 8 #[.agg #[.slice Ap lp.length cp, .slice Ar lr.length cr], .agg #[.string m, .int .i64 d, .int .i64 n], valQ o] w (Ret (.bool true) w) := by
  have HP := Lib.hid hp; clear hp
  have HR := Lib.hid hr; clear hr
  have HQ := Lib.hid hQ; clear hQ
  have HO := Lib.hid ho; clear ho
  have HNO := Lib.hid hnone; clear hnone
  obtain ⟨i0, hi0, hz0', hz1', hz2'⟩ := info8_partsQ Tryd.info8Q
  have HJ := Lib.hid hi0; clear hi0
  obtain ⟨w0, hw0⟩ : ∃ w0, ((w.alloc (.cells #[.slice Ap lp.length cp, .slice Ar lr.length cr] 25)).alloc (.cells #[.string m, .int .i64 d, .int .i64 n] 51)).alloc (.cells #[.string o.m, .int .i64 o.d, .slice o.A o.st.length o.cp] 54) = w0 := ⟨_, rfl⟩
  have hB0 : Below w.heap.size w w0 := by rw [← hw0]; (repeat (first | exact Below.refl _ _ | assumption | refine Below.alloc ?_ (by first | exact Nat.le_refl _ | exact Below.size (by assumption) | omega | (simp <;> omega)) _ | refine Below.setCell ?_ (by first | exact Nat.le_refl _ | exact Below.size (by assumption) | omega | (simp <;> omega)) _ | refine below_drewN ?_ _ | refine Below.drew ?_))
  have hz0 : w0.heap.size = w.heap.size + 3 := by rw [← hw0]; simp
  have B1 : Below (w.heap.size + 1) (w.alloc (.cells #[.slice Ap lp.length cp, .slice Ar lr.length cr] 25)) w0 := by rw [← hw0]; (repeat (first | exact Below.refl _ _ | assumption | refine Below.alloc ?_ (by first | exact Nat.le_refl _ | exact Below.size (by assumption) | omega | (simp <;> omega)) _ | refine Below.setCell ?_ (by first | exact Nat.le_refl _ | exact Below.size (by assumption) | omega | (simp <;> omega)) _ | refine below_drewN ?_ _ | refine Below.drew ?_))
  have B2 : Below (w.heap.size + 2) ((w.alloc (.cells #[.slice Ap lp.length cp, .slice Ar lr.length cr] 25)).alloc (.cells #[.string m, .int .i64 d, .int .i64 n] 51)) w0 := by rw [← hw0]; (repeat (first | exact Below.refl _ _ | assumption | refine Below.alloc ?_ (by first | exact Nat.le_refl _ | exact Below.size (by assumption) | omega | (simp <;> omega)) _ | refine Below.setCell ?_ (by first | exact Nat.le_refl _ | exact Below.size (by assumption) | omega | (simp <;> omega)) _ | refine below_drewN ?_ _ | refine Below.drew ?_))
  have m0 : w0.cell? ⟨w.heap.size, 0, none⟩ = some (.slice Ap lp.length cp) := (B1.cell (p := ⟨w.heap.size, 0, none⟩) (by show w.heap.size < _; omega)).trans (by simp)
  have m1 : w0.cell? ⟨w.heap.size, 1, none⟩ = some (.slice Ar lr.length cr) := (B1.cell (p := ⟨w.heap.size, 1, none⟩) (by show w.heap.size < _; omega)).trans (by simp)
  have a0 : w0.cell? ⟨w.heap.size + 1, 0, none⟩ = some (.string m) := (B2.cell (p := ⟨w.heap.size + 1, 0, none⟩) (by show w.heap.size + 1 < _; omega)).trans (by simp)
  have a1 : w0.cell? ⟨w.heap.size + 1, 1, none⟩ = some (.int .i64 d) := (B2.cell (p := ⟨w.heap.size + 1, 1, none⟩) (by show w.heap.size + 1 < _; omega)).trans (by simp)
  have a2 : w0.cell? ⟨w.heap.size + 1, 2, none⟩ = some (.int .i64 n) := (B2.cell (p := ⟨w.heap.size + 1, 2, none⟩) (by show w.heap.size + 1 < _; omega)).trans (by simp)
  have o0 : w0.cell? ⟨w.heap.size + 1 + 1, 0, none⟩ = some (.string o.m) := by rw [← hw0, show w.heap.size + 1 + 1 = ((w.alloc (.cells #[.slice Ap lp.length cp, .slice Ar lr.length cr] 25)).alloc (.cells #[.string m, .int .i64 d, .int .i64 n] 51)).heap.size by simp]; exact (AtQ.new _ o).c0
  have o1 : w0.cell? ⟨w.heap.size + 1 + 1, 1, none⟩ = some (.int .i64 o.d) := by rw [← hw0, show w.heap.size + 1 + 1 = ((w.alloc (.cells #[.slice Ap lp.length cp, .slice Ar lr.length cr] 25)).alloc (.cells #[.string m, .int .i64 d, .int .i64 n] 51)).heap.size by simp]; exact (AtQ.new _ o).c1
  have o2 : w0.cell? ⟨w.heap.size + 1 + 1, 2, none⟩ = some (.slice o.A o.st.length o.cp) := by rw [← hw0, show w.heap.size + 1 + 1 = ((w.alloc (.cells #[.slice Ap lp.length cp, .slice Ar lr.length cr] 25)).alloc (.cells #[.string m, .int .i64 d, .int .i64 n] 51)).heap.size by simp]; exact (AtQ.new _ o).c2
  have HM := Lib.hid (And.intro m0 (And.intro (And.intro a0 (And.intro a1 a2)) (And.intro o0 (And.intro o1 o2))))
  have HC : Hid (∀ w', Below w0.heap.size w0 w' → w'.cell? ⟨w.heap.size, 0, none⟩ = some (.slice Ap lp.length cp) ∧ (w'.cell? ⟨w.heap.size + 1, 0, none⟩ = some (.string m) ∧ w'.cell? ⟨w.heap.size + 1, 1, none⟩ = some (.int .i64 d) ∧ w'.cell? ⟨w.heap.size + 1, 2, none⟩ = some (.int .i64 n)) ∧ w'.cell? ⟨w.heap.size + 1 + 1, 0, none⟩ = some (.string o.m) ∧ w'.cell? ⟨w.heap.size + 1 + 1, 1, none⟩ = some (.int .i64 o.d) ∧ w'.cell? ⟨w.heap.size + 1 + 1, 2, none⟩ = some (.slice o.A o.st.length o.cp)) := fun w' h =>
    ⟨(h.cell (p := ⟨w.heap.size, 0, none⟩) (by show w.heap.size < _; omega)).trans HM.out.1,
     ⟨(h.cell (p := ⟨w.heap.size + 1, 0, none⟩) (by show w.heap.size + 1 < _; omega)).trans HM.out.2.1.1, (h.cell (p := ⟨w.heap.size + 1, 1, none⟩) (by show w.heap.size + 1 < _; omega)).trans HM.out.2.1.2.1,
      (h.cell (p := ⟨w.heap.size + 1, 2, none⟩) (by show w.heap.size + 1 < _; omega)).trans HM.out.2.1.2.2⟩,
     (h.cell (p := ⟨w.heap.size + 1 + 1, 0, none⟩) (by show w.heap.size + 1 + 1 < _; omega)).trans HM.out.2.2.1, (h.cell (p := ⟨w.heap.size + 1 + 1, 1, none⟩) (by show w.heap.size + 1 + 1 < _; omega)).trans HM.out.2.2.2.1,
     (h.cell (p := ⟨w.heap.size + 1 + 1, 2, none⟩) (by show w.heap.size + 1 + 1 < _; omega)).trans HM.out.2.2.2.2⟩
  have hsane : ∀ (w2 : World), Below w.heap.size w w2 → Calls Tryd.prog 14 #[] w2 (fun e w' => e = .returned (.bool true) ∧ Below w.heap.size w w') := fun w2 h2 => (sane_any w2).mono fun e w' h => ⟨h.1, h2.trans (h.2.mono h2.size)⟩
  have HSA := Lib.hid hsane; clear hsane
  clear B1 B2
  go_enter Tryd.func8, Tryd.ntmps8
  go_wp2_with fail
  clear hw0
  refine (Wide_any Ap Ar cp cr lp lr zeroF _ (HP.out.now hB0) (HR.out.now hB0) (fun i p hp => by simp [zeroF] at hp)).mono ?_
  rintro e' w1 ⟨b, rfl, hb1⟩
  have hB1 := hB0.trans (hb1.mono hB0.size)
  clear m0 m1 a0 a1 a2 o0 o1 o2
  cases b
  case true =>
    go_wp2_with fail
    refine (HSA.out _ hB1).mono ?_
    rintro e' w2 ⟨rfl, hb2⟩
    go_wp2
    go_ret
    exact Ret.mk rfl hb2
  obtain ⟨m0, ⟨a0, a1, a2⟩, o0, o1, o2⟩ := HC.out w1 hb1
  by_cases h40 : (40 : Int) < (m.size : Int)
  · go_wp2_with fail
    refine (HSA.out _ hB1).mono ?_
    rintro e' w2 ⟨rfl, hb2⟩
    go_wp2
    go_ret
    exact Ret.mk rfl hb2
  by_cases h12 : (12 : Int) < (o.st.length : Int)
  · go_wp2_with fail
    refine (HSA.out _ hB1).mono ?_
    rintro e' w2 ⟨rfl, hb2⟩
    go_wp2
    go_ret
    exact Ret.mk rfl hb2
  by_cases h41 : (40 : Int) < (o.m.size : Int)
  · go_wp2_with fail
    refine (HSA.out _ hB1).mono ?_
    rintro e' w2 ⟨rfl, hb2⟩
    go_wp2
    go_ret
    exact Ret.mk rfl hb2
  go_wp2_with fail
  refine (validP2_any Ap cp lp _ (HQ.out.now hB1) (HP.out.now hB1)).mono ?_
  rintro e' w2 ⟨rfl, hb2⟩
  have hb02 := hb1.trans (hb2.mono hb1.size)
  have hB2 := hB0.trans (hb02.mono hB0.size)
  clear m0 a0 a1 a2 o0 o1 o2
  obtain ⟨m0, ⟨a0, a1, a2⟩, o0, o1, o2⟩ := HC.out w2 hb02
  cases hv : validPS lp
  · clear hv
    go_wp2_with fail
    refine (HSA.out _ hB2).mono ?_
    rintro e' w3 ⟨rfl, hb3⟩
    go_wp2
    go_ret
    exact Ret.mk rfl hb3
  have HL60 := Lib.hid (validP_all hv).1
  have HV := Lib.hid hv; clear hv
  obtain ⟨⟨x, e⟩, hpv⟩ : ∃ r, priceV lp m d n = r := ⟨_, rfl⟩
  have HPV := Lib.hid hpv; clear hpv
  go_wp2_with fail
  refine (Price_any Ap cp lp m d n _ (HQ.out.now hB2) (HP.out.now hB2)).mono ?_
  rintro e' w3 ⟨rfl, hb3⟩
  clear h40 h12 h41
  rw [HPV.out]
  have hb03 := hb02.trans (hb3.mono hb02.size)
  have hB3 := hB0.trans (hb03.mono hB0.size)
  clear m0 a0 a1 a2 o0 o1 o2
  obtain ⟨m0, ⟨a0, a1, a2⟩, o0, o1, o2⟩ := HC.out w3 hb03
  have hpl : Hid (Ap = none → lp.length = 0 ∧ cp = 0) := fun h => by
    refine ⟨?_, HNO.out h⟩
    cases hl : lp with
    | nil => rfl
    | cons q l =>
      obtain ⟨b, off, hA, _⟩ := HP.out 0 q (by rw [hl]; rfl)
      rw [h] at hA; cases hA
  have hcells : Hid (∀ ad, Ap = some ad → ∀ j u, (flatQ lp)[j]? = some u → w3.cell? (ad.add j) = some u) := fun ad h j u hj => by
    have hq := HP.out.now hB3
    rw [h] at hq
    exact hq.all j u hj
  obtain ⟨M, hM⟩ : ∃ M, lp ++ [o] = M := ⟨_, rfl⟩
  have HMM := Lib.hid hM; clear hM
  go_wp2_with (at_builtin; first | (refine wpList_append_any8 rfl _ _ 22 rfl w3.heap.size 54 i0 _ 3 48 Tryd.underlying22 HJ.out hz0' hz1' hz2' rfl (by decide) _ 0 [] rfl (World.ownsRow_nil _ _ _ _) Ap lp.length cp (flatQ lp) rfl hpl.out (flatQ_length _) hcells.out (fun u hu => flatQ_one hu) (by have := HL60.out; unfold maxLen; omega) (by have := HL60.out; omega) (Nat.le_refl _) ?_; intro v4 w4 hown4 hgrow; have own4 : Own8Q w4 w3.heap.size v4 lp := (by rw [Nat.zero_add, List.nil_append] at hown4; exact hown4); have hb4 := below_grown (w1 := w3) (Below.refl _ _) hgrow (fun k h => by cases h) (Nat.le_refl _); have HO4 := Lib.hid own4; clear own4 hown4 hgrow; have hb04 := hb03.trans (hb4.mono hb03.size); have hs4 := hb4.size; have hB4 := hB0.trans (hb04.mono hB0.size); clear m0 a0 a1 a2 o0 o1 o2; obtain ⟨m0, ⟨a0, a1, a2⟩, o0, o1, o2⟩ := HC.out w4 hb04) | (refine wpList_append_own _ rfl _ _ 22 rfl w3.heap.size 54 i0 _ 3 48 Tryd.underlying22 HJ.out hz0' hz1' hz2' rfl (by decide) _ _ _ rfl (World.ownsRow.alloc HO4.out _) ⟨w4.heap.size, 0, none⟩ 1 1 [.string o.m, .int .i64 o.d, .slice o.A o.st.length o.cp] rfl rfl (by intro j u hj; match j, hj with | 0, hj => (simp at hj; subst hj; simp [Addr.add]) | 1, hj => (simp at hj; subst hj; simp [Addr.add]) | 2, hj => (simp at hj; subst hj; simp [Addr.add]) | j + 3, hj => simp at hj) (by intro u hu; simp at hu; rcases hu with rfl | rfl | rfl <;> rfl) (by have := HL60.out; unfold maxLen; omega) (by have := HL60.out; omega) (by simp; omega) ?_; intro v5 w5 hown5 hgrow _; have hb5 := below_grown (w1 := w4.alloc (.cells #[.string o.m, .int .i64 o.d, .slice o.A o.st.length o.cp] 54)) (hb4.alloc (by omega) _) hgrow (fun j hj => (HO4.out.lt j hj).1) (by simp; omega); have own5 := own8Q_snoc hown5 HMM.out.symm; have HO5 := Lib.hid own5; clear own5 hown5 hgrow; have hb05 := hb03.trans (hb5.mono hb03.size); have hB5 := hB0.trans (hb05.mono hB0.size); clear m0 a0 a1 a2 o0 o1 o2; obtain ⟨m0, ⟨a0, a1, a2⟩, o0, o1, o2⟩ := HC.out w5 hb05))
  obtain ⟨A9, c9, rfl, hr9, _, _⟩ := own_rd8Q HO5.out
  have HR9 := Lib.hid hr9; clear hr9
  have hok : OkQ w5 M := by
    rw [← HMM.out]
    intro p hp
    rcases List.mem_append.1 hp with hp | hp
    · exact (HQ.out.now hB5) p hp
    · simp at hp
      subst hp
      exact ⟨HO.out.1, HO.out.2.1.now hB5, HO.out.2.2⟩
  have HOK := Lib.hid hok; clear hok
  obtain ⟨⟨y, g⟩, hpw⟩ : ∃ r, priceV M m d n = r := ⟨_, rfl⟩
  have HPW := Lib.hid hpw; clear hpw
  go_wp2_with fail
  refine (Price_any A9 c9 M m d n _ HOK.out HR9.out).mono ?_
  rintro e' w6 ⟨rfl, hb6⟩
  rw [HPW.out]
  have hb06 := hb05.trans (hb6.mono hb05.size)
  have hB6 := hB0.trans (hb06.mono hB0.size)
  clear m0 a0 a1 a2 o0 o1 o2
  go_wp2_with fail
  refine (validP2_any A9 c9 M _ (HOK.out.now hb6) (HR9.out.now hb6)).mono ?_
  rintro e' w7 ⟨rfl, hb7⟩
  have hb07 := hb06.trans (hb7.mono hb06.size)
  have hB7 := hB0.trans (hb07.mono hB0.size)
  obtain ⟨m0, ⟨a0, a1, a2⟩, o0, o1, o2⟩ := HC.out w7 hb07
  cases hv2 : validPS M
  · have hyg := HPW.out
    rw [price_bad hv2] at hyg
    obtain ⟨rfl, rfl⟩ : y = 0 ∧ g = 80 := by simp only [Prod.mk.injEq] at hyg; exact ⟨hyg.1.symm, hyg.2.symm⟩
    clear hv2 hyg
    go_wp2_with fail
    refine (HSA.out _ hB7).mono ?_
    rintro e' w8 ⟨rfl, hb8⟩
    go_wp2
    go_ret
    exact Ret.mk rfl hb8
  have hstr := str_eq o.m m
  by_cases hh : o.m = m ∧ o.d ≤ d
  · obtain ⟨hh1, hh2⟩ := hh
    rw [decide_eq_true hh1] at hstr
    have hdd : decide (o.d ≤ d) = true := decide_eq_true hh2
    clear hh1 hv2
    go_wp2_with fail
    refine (HSA.out _ hB7).mono ?_
    rintro e' w8 ⟨rfl, hb8⟩
    go_wp2
    go_ret
    exact Ret.mk rfl hb8
  have heq := price_app HV.out (HMM.out.symm ▸ hv2) hh (n := n)
  rw [HMM.out, HPW.out, HPV.out] at heq
  obtain ⟨rfl, rfl⟩ : y = x ∧ g = e := by simp only [Prod.mk.injEq] at heq; exact heq
  clear heq hv2
  have sy : (y == y) = true := by simp
  have sg : (g == g) = true := by simp
  by_cases hh1 : o.m = m
  · rw [decide_eq_true hh1] at hstr
    have hh2 : ¬ o.d ≤ d := fun h => hh ⟨hh1, h⟩
    have hdd : decide (o.d ≤ d) = false := decide_eq_false hh2
    clear hh hh1
    go_wp2_with fail
    refine (HSA.out _ hB7).mono ?_
    rintro e' w8 ⟨rfl, hb8⟩
    go_wp2
    go_ret
    exact Ret.mk rfl hb8
  · rw [decide_eq_false hh1] at hstr
    clear hh hh1
    go_wp2_with fail
    refine (HSA.out _ hB7).mono ?_
    rintro e' w8 ⟨rfl, hb8⟩
    go_wp2
    go_ret
    exact Ret.mk rfl hb8
end Go.Proofs.YthccpdefgjneiaaDoor

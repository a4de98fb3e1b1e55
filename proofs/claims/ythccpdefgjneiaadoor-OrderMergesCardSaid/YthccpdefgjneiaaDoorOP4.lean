/- Valid prices of the reference: the walk. -/
import Derived.Test.YthccpdefgjneiaaDoorOP3
import Derived.Test.YthccpdefgjneiaaDoorOM4
namespace Go.Proofs.YthccpdefgjneiaaDoor
open Go.RowKit Go.Shelf Go.Maps
set_option linter.unusedSimpArgs false

theorem keyQ_eq {a b : QT} : keyQ a = keyQ b ↔ a.m = b.m ∧ a.d = b.d := by unfold keyQ; simp
set_option maxRecDepth 100000 in
set_option maxHeartbeats 4000000 in
theorem validP2_any (A : Option Addr) (c : Nat) (l : List QT) (w : World) (ho : OkQ w l) (hl : RdQ w w.heap.size A l) : Calls Tryd.prog 26 #[.slice A l.length c] w (Ret (.bool (validPS l)) w) := by
  have HL := Lib.hid hl; clear hl
  have HOK := Lib.hid ho; clear ho
  have hmx : Tryd.prog.follows .mixedOrders = true := by kernel_rfl
  by_cases h60 : 60 < l.length
  · have HS := Lib.hid (show validPS l = false by unfold validPS; rw [decide_eq_false (by omega)]; rfl)
    have h60I : (60 : Int) < (l.length : Int) := by omega
    go_enter Tryd.func26, Tryd.ntmps26
    go_wp2
    go_ret
    exact Ret.mk (by rw [HS.out] <;> rfl) (Below.refl _ _)
  have h60I : ¬ (60 : Int) < (l.length : Int) := by omega
  go_enter Tryd.func26, Tryd.ntmps26
  go_wp2
  go_loopw [3, 4] (fun i _ wr => ∃ k : Nat, k ≤ l.length ∧ i = .int .i64 k ∧ (∀ r ∈ l.take k, priceB r = true) ∧ ((l.map keyQ).take k).Nodup ∧ Below w.heap.size w wr) (fun i _ _ => l.length - (intOf i).toNat)
  case atStart => exact ⟨0, Nat.zero_le _, rfl, fun x hx => by simp at hx, by simp, Below.refl _ _⟩
  case round =>
    obtain ⟨k, hk, rfl, hgood, hnd, hB⟩ := hrel
    have HG := Lib.hid hgood; clear hgood
    have HN := Lib.hid hnd; clear hnd
    have hsB := hB.size
    by_cases hlt : k < l.length
    · obtain ⟨r, hr⟩ := getElem?_of_lt hlt
      obtain ⟨b, off, hA, hb, d0, d1, d2⟩ := (HL.out.now hB) k r hr
      have hs := okQ_size HOK.out (List.mem_of_getElem? hr)
      have HRS := Lib.hid ((HOK.out r (List.mem_of_getElem? hr)).2.1)
      have hkr : (l.map keyQ)[k]? = some (keyQ r) := by rw [List.getElem?_map, hr]; rfl
      have HKR := Lib.hid hkr; clear hkr
      have HR := Lib.hid hr
      subst hA
      clear hr
      have HC : Hid (∀ w', Below wr.heap.size wr w' → w'.cell? ⟨b, off + k * 3, none⟩ = some (.string r.m) ∧ w'.cell? ⟨b, off + k * 3 + 1, none⟩ = some (.int .i64 r.d) ∧ w'.cell? ⟨b, off + k * 3 + 2, none⟩ = some (.slice r.A r.st.length r.cp)) := fun w' hC =>
        ⟨(hC.cell (p := ⟨b, off + k * 3, none⟩) hb).trans d0, (hC.cell (p := ⟨b, off + k * 3 + 1, none⟩) hb).trans d1, (hC.cell (p := ⟨b, off + k * 3 + 2, none⟩) hb).trans d2⟩
      clear d0 d1 d2
      obtain ⟨d0, d1, d2⟩ := HC.out wr (Below.refl _ _)
      have hbad : priceB r = false → validPS l = false := fun h => by
        unfold validPS
        rw [show l.all priceB = false from List.all_eq_false.2 ⟨r, List.mem_of_getElem? HR.out, by rw [h]; simp⟩]
        simp
      have HBAD := Lib.hid hbad; clear hbad
      go_wp2_with fail
      refine (isWord_any r.m _ hs).mono ?_
      rintro e w2 ⟨rfl, hb2⟩
      have hB2 := hB.trans (hb2.mono hB.size)
      clear d0 d1 d2
      obtain ⟨d0, d1, d2⟩ := HC.out w2 hb2
      cases h0 : wordB r.m
      · have HS := Lib.hid (HBAD.out (by unfold priceB; rw [h0]; rfl))
        have H0 := Lib.hid h0; clear h0
        go_wp2
        go_ret
        exact Ret.mk (by rw [HS.out] <;> rfl) hB2
      have H0 := Lib.hid h0; clear h0
      go_wp2_with fail
      refine (isDay_any r.d _).mono ?_
      rintro e w3 ⟨rfl, rfl⟩
      cases h1 : dayB r.d
      · have HS := Lib.hid (HBAD.out (by unfold priceB; rw [h1]; simp))
        have H1 := Lib.hid h1; clear h1
        go_wp2
        go_ret
        exact Ret.mk (by rw [HS.out] <;> rfl) hB2
      have H1 := Lib.hid h1; clear h1
      go_wp2_with fail
      refine (steps2_any r.A r.cp r.st _ (HRS.out.now hB2)).mono ?_
      rintro e w4 ⟨rfl, hb4⟩
      have hB4 := hB2.trans (hb4.mono hB2.size)
      have hb24 := hb2.trans (hb4.mono hb2.size)
      cases h2 : stepsB r.st
      · have HS := Lib.hid (HBAD.out (by unfold priceB; rw [h2]; simp))
        have H2 := Lib.hid h2; clear h2
        go_wp2
        go_ret
        exact Ret.mk (by rw [HS.out] <;> rfl) hB4
      have HGR := Lib.hid (show priceB r = true by unfold priceB; rw [H0.out, H1.out, h2]; rfl)
      clear h2 H0 H1 d0 d1 d2
      go_wp2
      obtain ⟨wo, rfl⟩ : ∃ wo : World, wo = wr := ⟨_, rfl⟩
      go_loopw [4] (fun j wj => ∃ m : Nat, m ≤ k ∧ j = .int .i64 m ∧ (∀ q ∈ l.take m, keyQ q ≠ keyQ r) ∧ Below w4.heap.size w4 wj) (fun j _ => k - (intOf j).toNat)
      case atStart => exact ⟨0, Nat.zero_le _, rfl, fun x hx => by simp at hx, Below.refl _ _⟩
      case round =>
        obtain ⟨m, hm, rfl, hne, hBj⟩ := hrel
        have HNE := Lib.hid hne; clear hne
        have hBBj := hB4.trans (hBj.mono hB4.size)
        have hbwr := hb24.trans (hBj.mono hb24.size)
        by_cases hlm : m < k
        · obtain ⟨q, hq⟩ := getElem?_of_lt (show m < l.length by omega)
          have HQ := Lib.hid hq
          have HCQ : Hid (∀ w', Below wr.heap.size wr w' → w'.cell? ⟨b, off + m * 3, none⟩ = some (.string q.m) ∧ w'.cell? ⟨b, off + m * 3 + 1, none⟩ = some (.int .i64 q.d) ∧ w'.cell? ⟨b, off + k * 3, none⟩ = some (.string r.m) ∧ w'.cell? ⟨b, off + k * 3 + 1, none⟩ = some (.int .i64 r.d)) := fun w' hC => by
            obtain ⟨b', off', hA, hbb, y0, y1, _⟩ := (HL.out.now (hBBj.trans (hC.mono hBBj.size))) m q HQ.out
            obtain ⟨rfl, rfl⟩ : b = b' ∧ off = off' := by simpa using hA
            obtain ⟨z0, z1, _⟩ := HC.out w' (hbwr.trans (hC.mono hbwr.size))
            exact ⟨y0, y1, z0, z1⟩
          have hml : m < l.length := by omega
          clear hq
          have hstr := str_eq q.m r.m
          by_cases hc : q.m = r.m
          · rw [decide_eq_true hc] at hstr
            have HC := Lib.hid hc; clear hc
            by_cases hd : q.d = r.d
            · have HNO := Lib.hid (show validPS l = false by
                unfold validPS
                rw [decide_eq_false (not_nodup (l := l.map keyQ) HKR.out (by
                  rw [← List.map_take]
                  exact List.mem_map.2 ⟨q, List.mem_of_getElem? (show (l.take k)[m]? = some q by rw [List.getElem?_take, if_pos hlm]; exact HQ.out), keyQ_eq.2 ⟨HC.out, hd⟩⟩))]
                simp)
              have hdb : (q.d == r.d) = true := by simpa using hd
              clear hd
              go_wp2
              refine region_qw (fun w' => Below wr.heap.size wr w') hmx (by kernel_rfl) (by (repeat (first | exact Below.refl _ _ | assumption | refine Below.alloc ?_ (by first | exact Nat.le_refl _ | exact Below.size (by assumption) | omega | (simp <;> omega)) _ | refine Below.setCell ?_ (by first | exact Nat.le_refl _ | exact Below.size (by assumption) | omega | (simp <;> omega)) _ | refine below_drewN ?_ _ | refine Below.drew ?_))) ?_
              repeat (first | (refine qw_read rfl (fun w' hC => by obtain ⟨f0, f1, f2, f3⟩ := HCQ.out w' hC; clear hC; go_simp; rfl) ?_; simp only [Act.put, List.setIfInBounds_toArray, List.set_cons_succ, List.set_cons_zero]) | (refine qw_pass (by first | (simp [Region.wanted, yielded]; done) | (simp [Region.wanted, yielded]; intro h; cases h)) ?_; simp only [Act.put, List.setIfInBounds_toArray, List.set_cons_succ, List.set_cons_zero]))
              refine qw_nil ?_
              intro w9 hb9
              go_wp2
              go_ret
              exact Ret.mk (by rw [HNO.out] <;> rfl) (hBBj.trans (hb9.mono hBBj.size))
            · have hdb : (q.d == r.d) = false := by simpa using hd
              have HD := Lib.hid hd; clear hd
              go_wp2
              refine region_qw (fun w' => Below wr.heap.size wr w') hmx (by kernel_rfl) (by (repeat (first | exact Below.refl _ _ | assumption | refine Below.alloc ?_ (by first | exact Nat.le_refl _ | exact Below.size (by assumption) | omega | (simp <;> omega)) _ | refine Below.setCell ?_ (by first | exact Nat.le_refl _ | exact Below.size (by assumption) | omega | (simp <;> omega)) _ | refine below_drewN ?_ _ | refine Below.drew ?_))) ?_
              repeat (first | (refine qw_read rfl (fun w' hC => by obtain ⟨f0, f1, f2, f3⟩ := HCQ.out w' hC; clear hC; go_simp; rfl) ?_; simp only [Act.put, List.setIfInBounds_toArray, List.set_cons_succ, List.set_cons_zero]) | (refine qw_pass (by first | (simp [Region.wanted, yielded]; done) | (simp [Region.wanted, yielded]; intro h; cases h)) ?_; simp only [Act.put, List.setIfInBounds_toArray, List.set_cons_succ, List.set_cons_zero]))
              refine qw_nil ?_
              intro w9 hb9
              go_wp2
              go_roundw
              case rel =>
                refine ⟨m + 1, by omega, by go_num, fun x hx => ?_, hBj.trans (hb9.mono hBj.size)⟩
                rw [take_succ_of HQ.out] at hx
                rcases List.mem_append.1 hx with hx | hx
                · exact HNE.out x hx
                · simp at hx; subst hx; exact fun e => HD.out (keyQ_eq.1 e).2
              case measure => simp [intOf]; omega
          · rw [decide_eq_false hc] at hstr
            have HC := Lib.hid hc; clear hc
            go_wp2
            refine region_qw (fun w' => Below wr.heap.size wr w') hmx (by kernel_rfl) (by (repeat (first | exact Below.refl _ _ | assumption | refine Below.alloc ?_ (by first | exact Nat.le_refl _ | exact Below.size (by assumption) | omega | (simp <;> omega)) _ | refine Below.setCell ?_ (by first | exact Nat.le_refl _ | exact Below.size (by assumption) | omega | (simp <;> omega)) _ | refine below_drewN ?_ _ | refine Below.drew ?_))) ?_
            repeat (first | (refine qw_read rfl (fun w' hC => by obtain ⟨f0, f1, f2, f3⟩ := HCQ.out w' hC; clear hC; go_simp; rfl) ?_; simp only [Act.put, List.setIfInBounds_toArray, List.set_cons_succ, List.set_cons_zero]) | (refine qw_pass (by first | (simp [Region.wanted, yielded]; done) | (simp [Region.wanted, yielded]; intro h; cases h)) ?_; simp only [Act.put, List.setIfInBounds_toArray, List.set_cons_succ, List.set_cons_zero]))
            refine qw_nil ?_
            intro w9 hb9
            go_wp2
            go_roundw
            case rel =>
              refine ⟨m + 1, by omega, by go_num, fun x hx => ?_, hBj.trans (hb9.mono hBj.size)⟩
              rw [take_succ_of HQ.out] at hx
              rcases List.mem_append.1 hx with hx | hx
              · exact HNE.out x hx
              · simp at hx; subst hx; exact fun e => HC.out (keyQ_eq.1 e).1
            case measure => simp [intOf]; omega
        · obtain rfl : m = k := by omega
          go_wp2
          go_roundw
          case rel =>
            refine ⟨m + 1, by omega, by go_num, fun x hx => ?_, nodup_take HKR.out HN.out ?_, hBBj⟩
            · rw [take_succ_of HR.out] at hx
              rcases List.mem_append.1 hx with hx | hx
              · exact HG.out x hx
              · simp at hx; subst hx; exact HGR.out
            · rw [← List.map_take]
              intro hc
              obtain ⟨q, hq, e⟩ := List.mem_map.1 hc
              exact HNE.out q hq e
          case measure => simp [intOf]; omega
    · obtain rfl : k = l.length := by omega
      have HS := Lib.hid (show validPS l = true by
        unfold validPS
        rw [decide_eq_true (by omega), decide_eq_true (by have := HN.out; rwa [List.take_of_length_le (by simp)] at this), show l.all priceB = true from List.all_eq_true.2 fun x hx => HG.out x (by rw [List.take_length]; exact hx)]
        rfl)
      go_wp2
      go_ret
      exact Ret.mk (by rw [HS.out] <;> rfl) hB
end Go.Proofs.YthccpdefgjneiaaDoor

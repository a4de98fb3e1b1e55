/- Hulls: the closed line of two chains is convex. -/
import Derived.Test.YtcbphodkaiknmaaMathH2
namespace Go.Proofs.Ytcbphodkaiknmaa
open Go.RowKit

theorem poly_mem {S C D : List XY} (hC : Arc up S C) (hD : Arc (fun v => up (ng v)) S D) (hc : 2 ≤ C.length) (hd : 2 ≤ D.length) (j : Nat) : cy (C.dropLast ++ D.dropLast) j ∈ S := by
  have hl := poly_len C D
  have hm := Nat.mod_lt j (show 0 < (C.length - 1) + (D.length - 1) by omega)
  have e1 : cy (C.dropLast ++ D.dropLast) (j % ((C.length - 1) + (D.length - 1))) = cy (C.dropLast ++ D.dropLast) j := by unfold cy; rw [hl, Nat.mod_mod]
  rw [← e1]
  rcases poly_side hC hD hc hd hm with ⟨_, h1, _⟩ | ⟨_, h1, _⟩
  · exact hC.mem _ (List.mem_of_getElem? h1)
  · exact hD.mem _ (List.mem_of_getElem? h1)
theorem line_no {S C D : List XY} (hC : Arc up S C) (hD : Arc (fun v => up (ng v)) S D) (h3 : 3 ≤ (C.length - 1) + (D.length - 1)) (hc : 2 ≤ C.length) (hd : 2 ≤ D.length) {u z : XY} (hu : up u) (h : ∀ x ∈ S, vx u (sb z x) = 0) : False := by
  have key : ∀ a b c, a ∈ S → b ∈ S → c ∈ S → 0 < vx (sb a b) (sb b c) → False := fun a b c ha hb hc' ht => by
    have h1 := vx_split u z a b
    have h2 := vx_split u z b c
    rw [h a ha, h b hb] at h1
    rw [h b hb, h c hc'] at h2
    have := vx_nil hu (s := sb a b) (t := sb b c) (by omega) (by omega)
    omega
  by_cases hc3 : 3 ≤ C.length
  · obtain ⟨a, ha⟩ := getElem?_of_lt (show 0 < C.length by omega)
    obtain ⟨b, hb⟩ := getElem?_of_lt (show 1 < C.length by omega)
    obtain ⟨c, hcc⟩ := getElem?_of_lt (show 2 < C.length by omega)
    exact key a b c (hC.mem a (List.mem_of_getElem? ha)) (hC.mem b (List.mem_of_getElem? hb)) (hC.mem c (List.mem_of_getElem? hcc)) (hC.turn 0 a b c ha hb hcc)
  · obtain ⟨a, ha⟩ := getElem?_of_lt (show 0 < D.length by omega)
    obtain ⟨b, hb⟩ := getElem?_of_lt (show 1 < D.length by omega)
    obtain ⟨c, hcc⟩ := getElem?_of_lt (show 2 < D.length by omega)
    exact key a b c (hD.mem a (List.mem_of_getElem? ha)) (hD.mem b (List.mem_of_getElem? hb)) (hD.mem c (List.mem_of_getElem? hcc)) (hD.turn 0 a b c ha hb hcc)
theorem poly_conv {S C D : List XY} (hC : Arc up S C) (hD : Arc (fun v => up (ng v)) S D) (hc : 2 ≤ C.length) (hd : 2 ≤ D.length) (h3 : 3 ≤ (C.length - 1) + (D.length - 1)) : Conv (C.dropLast ++ D.dropLast) := by
  have hl := poly_len C D
  obtain ⟨n, hn⟩ : ∃ n, (C.length - 1) + (D.length - 1) = n := ⟨_, rfl⟩
  obtain ⟨P, hP⟩ : ∃ P, C.dropLast ++ D.dropLast = P := ⟨_, rfl⟩
  have hside := fun {i : Nat} hi => poly_side hC hD hc hd (i := i) hi
  have hleft := poly_left hC hD hc hd
  have hmem := poly_mem hC hD hc hd
  have hno := fun {u z : XY} => line_no hC hD h3 hc hd (u := u) (z := z)
  rw [hn] at hl h3
  rw [hP] at hl hleft hmem ⊢
  simp only [hn, hP] at hside
  have per : ∀ j, cy P (j + n) = cy P j := fun j => by rw [← hl]; exact cy_per P j
  have ddm : ∀ j, dd (cy P) (j % n) = dd (cy P) j := fun j => by
    have hd2 : ∀ k, cy P (k % n) = cy P k := fun k => by unfold cy; rw [hl, Nat.mod_mod]
    unfold dd
    have e2 : cy P (j % n + 1) = cy P (j + 1) := by rw [← hd2 (j % n + 1), ← hd2 (j + 1)]; congr 1; simp [Nat.add_mod]
    rw [hd2, e2]
  have upC : ∀ i, i < C.length - 1 → up (dd (cy P) i) := fun i hi => by
    rcases hside (i := i) (by omega) with ⟨_, h1, h2⟩ | ⟨h, _, _⟩
    · exact (hC.side _ _ _ h1 h2).1
    · omega
  have upD : ∀ i, C.length - 1 ≤ i → i < n → up (ng (dd (cy P) i)) := fun i h hi => by
    rcases hside (i := i) hi with ⟨h', _, _⟩ | ⟨_, h1, h2⟩
    · omega
    · exact (hD.side _ _ _ h1 h2).1
  have nup : ∀ v : XY, up (ng v) → ¬ up v := fun v h h' => not_up_ng h' h
  have hnn : ∀ i, 0 ≤ vx (dd (cy P) i) (dd (cy P) (i + 1)) := fun i => by
    have := hleft i _ (hmem (i + 2))
    have e : vx (dd (cy P) i) (sb (cy P i) (cy P (i + 2))) = vx (dd (cy P) i) (dd (cy P) (i + 1)) := by unfold vx dd sb; grind
    rwa [e] at this
  have hbeyond : ∀ i, ∀ x ∈ S, 0 ≤ vx (dd (cy P) i) (sb (cy P (i + 1)) x) := fun i x hx => by
    have := hleft i x hx
    unfold dd at this ⊢
    rwa [vx_via] at this
  have left0 : ∀ i, i < n → 0 < vx (dd (cy P) i) (dd (cy P) (i + 1)) := fun i hi => by
    by_cases h1 : i + 1 < C.length - 1
    · rcases hside (i := i) hi with ⟨_, a1, a2⟩ | ⟨h, _, _⟩
      · rcases hside (i := i + 1) (by omega) with ⟨_, _, b2⟩ | ⟨h, _, _⟩
        · exact hC.turn _ _ _ _ a1 a2 b2
        · omega
      · omega
    · by_cases h2 : i < C.length - 1
      · -- from the first chain to the other one
        refine Int.not_le.1 fun hle => ?_
        have h0 : 0 = vx (dd (cy P) i) (dd (cy P) (i + 1)) := by have := hnn i; omega
        have hu := upC i h2
        have hv := upD (i + 1) (by omega) (by omega)
        exact hno hu (fun x hx => all_on hu hv h0.symm (hbeyond i x hx) (hleft (i + 1) x hx))
      · by_cases h4 : i + 1 < n
        · rcases hside (i := i) hi with ⟨h, _, _⟩ | ⟨_, a1, a2⟩
          · omega
          · rcases hside (i := i + 1) h4 with ⟨h, _, _⟩ | ⟨_, b1, b2⟩
            · omega
            · rw [show i + 1 - (C.length - 1) + 1 = i - (C.length - 1) + 2 by omega] at b2
              exact hD.turn _ _ _ _ a1 a2 b2
        · -- and back
          have e1 : dd (cy P) (i + 1) = dd (cy P) 0 := by rw [← ddm (i + 1), show i + 1 = n by omega, Nat.mod_self]
          refine Int.not_le.1 fun hle => ?_
          have h0 : 0 = vx (dd (cy P) i) (dd (cy P) (i + 1)) := by have := hnn i; omega
          have hu := upD i (by omega) hi
          have hv : up (dd (cy P) (i + 1)) := by rw [e1]; exact upC 0 (by omega)
          have ngng : ng (ng (dd (cy P) (i + 1))) = dd (cy P) (i + 1) := by unfold ng; simp
          refine hno (z := cy P (i + 1)) hu (fun x hx => ?_)
          have := all_on (u := ng (dd (cy P) i)) (v := ng (dd (cy P) (i + 1))) (w := ng (sb (cy P (i + 1)) x)) hu (by rw [ngng]; exact hv) (by rw [vx_ng2]; exact h0.symm) (by rw [vx_ng2]; exact hbeyond i x hx) (by rw [vx_ng2]; exact hleft (i + 1) x hx)
          rw [vx_ng2] at this
          rw [vx_ngl, this]; rfl
  have left : ∀ j, 0 < vx (dd (cy P) j) (dd (cy P) (j + 1)) := fun j => by
    have hm := Nat.mod_lt j (show 0 < n by omega)
    have := left0 _ hm
    rw [ddm] at this
    have e : dd (cy P) (j % n + 1) = dd (cy P) (j + 1) := by rw [← ddm (j % n + 1), ← ddm (j + 1)]; congr 1; simp [Nat.add_mod]
    rwa [e] at this
  have e0 : dd (cy P) (n - 1 + 1) = dd (cy P) 0 := by rw [← ddm (n - 1 + 1), show n - 1 + 1 = n by omega, Nat.mod_self]
  have h0 : ¬ up (dd (cy P) (n - 1)) ∧ up (dd (cy P) (n - 1 + 1)) := ⟨nup _ (upD (n - 1) (by omega) (by omega)), by rw [e0]; exact upC 0 (by omega)⟩
  have uniq : ∀ j, ¬ up (dd (cy P) j) ∧ up (dd (cy P) (j + 1)) → j % n = (n - 1) % n := fun j hj => by
    have hm := Nat.mod_lt j (show 0 < n by omega)
    rw [Nat.mod_eq_of_lt (show n - 1 < n by omega)]
    by_cases h1 : j % n + 1 < n
    · exfalso
      by_cases h2 : j % n < C.length - 1
      · exact hj.1 (by rw [← ddm]; exact upC _ h2)
      · have := nup _ (upD (j % n + 1) (by omega) h1)
        apply this
        have e : dd (cy P) (j % n + 1) = dd (cy P) (j + 1) := by rw [← ddm (j % n + 1), ← ddm (j + 1)]; congr 1; simp [Nat.add_mod]
        rw [e]; exact hj.2
    · omega
  intro i t ht htn
  rw [hl] at htn
  exact convex_of_once h3 per left (n - 1) h0 uniq i t ht htn
end Go.Proofs.Ytcbphodkaiknmaa

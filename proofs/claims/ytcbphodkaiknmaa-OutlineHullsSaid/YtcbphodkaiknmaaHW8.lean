/- The reference's Hull: the walk. -/
import Derived.Test.YtcbphodkaiknmaaHW7
import Derived.Test.YtcbphodkaiknmaaW50
namespace Go.Proofs.Ytcbphodkaiknmaa
open Go.RowKit
set_option linter.unusedSimpArgs false

theorem wrap_nil (A : Option Addr) (c : Nat) (w : World) : Calls Try.prog 20 #[.slice A 0 c] w (RetO [] w) := by
  go_enter Try.func20, Try.ntmps20
  go_wp2
  go_ret
  exact ⟨_, rfl, World.ownsRow_nil _ _ _ _, Below.refl _ _⟩

set_option maxRecDepth 100000 in
set_option maxHeartbeats 4000000 in
theorem Hull2_any (A : Option Addr) (c : Nat) (l : List XY) (r : List XY × Int) (w : World) (hR : HullIs l r) (hl : Rd w w.heap.size A l) :
    Calls Try.prog 5 #[.slice A l.length c] w (RetO2 r.1 r.2 w) := by
  have HL := Lib.hid hl; clear hl
  by_cases h200 : 200 < l.length
  · obtain rfl : r = ([], 4) := by
      rcases hR with ⟨_, h⟩ | ⟨h, _⟩ | ⟨h, _⟩
      · exact h
      · omega
      · omega
    have hI : (200 : Int) < (l.length : Int) := by omega
    go_enter Try.func5, Try.ntmps5
    go_wp2
    go_ret2
    exact ⟨_, rfl, World.ownsRow_nil _ _ _ _, Below.refl _ _⟩
  have hI : ¬ (200 : Int) < (l.length : Int) := by omega
  have HR : Hid ((l = [] ∧ r = ([], 2)) ∨ (l.all rangedB = false ∧ r = ([], 2)) ∨ (0 < l.length ∧ l.all rangedB = true ∧ ∃ P, Wraps l P ∧ P.length ≤ 1000 ∧ r = hull2Res P)) := by
    rcases hR with ⟨h, _⟩ | ⟨_, h | h, e⟩ | ⟨_, a, b, h⟩
    · omega
    · exact .inl ⟨h, e⟩
    · exact .inr (.inl ⟨h, e⟩)
    · exact .inr (.inr ⟨a, b, h⟩)
  clear hR
  go_enter Try.func5, Try.ntmps5
  go_wp2
  go_loopw [12] (fun i wr => ∃ k : Nat, k ≤ l.length ∧ i = .int .i64 k ∧ (∀ x ∈ l.take k, rangedB x = true) ∧ Below w.heap.size w wr) (fun i _ => l.length - (intOf i).toNat)
  case atStart => exact ⟨0, Nat.zero_le _, rfl, by simp, Below.refl _ _⟩
  case round =>
    obtain ⟨k, hk, rfl, hno, hB⟩ := hrel
    have HN := Lib.hid hno; clear hno
    by_cases hlt : k < l.length
    · obtain ⟨q, hq⟩ := getElem?_of_lt hlt
      obtain ⟨b, off, hA, hb, hcx, hcy⟩ := (HL.out.below hB) k q hq
      subst hA
      have HQ := Lib.hid hq; clear hq
      go_wp2_with fail
      refine (in_any q _).mono ?_
      rintro e w2 ⟨rfl, hb2⟩
      have hB2 : Below w.heap.size w w2 := (hB.alloc hB.size _).trans (hb2.mono (by have := hB.size; simp; omega))
      cases hi : rangedB q
      · have e : r = ([], 2) := by
          have hf : l.all rangedB = false := all_false_of HQ.out hi
          rcases HR.out with ⟨_, e⟩ | ⟨_, e⟩ | ⟨_, h, _⟩
          · exact e
          · exact e
          · rw [hf] at h; cases h
        subst e
        clear HR
        go_wp2
        go_ret2
        exact ⟨_, rfl, World.ownsRow_nil _ _ _ _, hB2⟩
      · go_wp2
        go_roundw
        case rel => exact ⟨k + 1, by omega, by go_num, all_take_succ HN.out HQ.out hi, hB2⟩
        case measure => simp [intOf]; omega
    · have HRg : Hid (l.all rangedB = true) := all_of_take HN.out hlt
      clear HN
      have HKL : Hid (k = l.length) := show k = l.length by omega
      by_cases h0 : l.length = 0
      · have e : r = ([], 2) := by
          rcases HR.out with ⟨_, e⟩ | ⟨_, e⟩ | ⟨h, _, _⟩
          · exact e
          · exact e
          · omega
        subst e
        clear HR
        have hw := wrap_nil A c wr
        rw [← h0] at hw
        have HW := Lib.hid hw; clear hw
        clear h0 hlt
        have hlt : ¬ (k : Int) < (l.length : Int) := by have := HKL.out; omega
        go_wp2_with fail
        refine HW.out.mono ?_
        rintro e w3 ⟨v3, rfl, hown3, hb3⟩
        obtain ⟨A3, c3, hv3, _⟩ := own_rd hown3
        subst hv3
        go_wp2
        go_ret2
        exact ⟨_, rfl, World.ownsRow_nil _ _ _ _, hB.trans (hb3.mono hB.size)⟩
      · obtain ⟨P, hW, hP1000, e⟩ : ∃ P, Wraps l P ∧ P.length ≤ 1000 ∧ r = hull2Res P := by
          rcases HR.out with ⟨h, _⟩ | ⟨h, _⟩ | ⟨_, _, h⟩
          · rw [h] at h0; simp at h0
          · rw [HRg.out] at h; cases h
          · exact h
        clear HR
        have HE := Lib.hid e; clear e
        have hlt : ¬ (k : Int) < (l.length : Int) := by have := HKL.out; omega
        go_wp2_with fail
        refine (Wrap_any A c l P _ hW (by omega) (by omega) (by omega) (HL.out.now hB)).mono ?_
        rintro e w3 ⟨v3, rfl, hown3, hb3⟩
        obtain ⟨A3, c3, hv3, _⟩ := own_rd hown3
        subst hv3
        have hB3 := hB.trans (hb3.mono hB.size)
        have HO := Lib.hid (own_base hown3 hB.size); clear hown3
        by_cases h3 : P.length < 3
        · have e : r = ([], 2) := by rw [HE.out]; unfold hull2Res; rw [if_pos h3]
          subst e
          clear HE
          have h3I : ((P.length : Nat) : Int) < 3 := by omega
          go_wp2
          go_ret2
          exact ⟨_, rfl, World.ownsRow_nil _ _ _ _, hB3⟩
        · have h3I : ¬ ((P.length : Nat) : Int) < 3 := by omega
          by_cases h64 : 64 < P.length
          · have e : r = ([], 4) := by rw [HE.out]; unfold hull2Res; rw [if_neg h3, if_pos h64]
            subst e
            clear HE
            have h64I : (64 : Int) < ((P.length : Nat) : Int) := by omega
            go_wp2
            go_ret2
            exact ⟨_, rfl, World.ownsRow_nil _ _ _ _, hB3⟩
          · have e : r = (P, 0) := by rw [HE.out]; unfold hull2Res; rw [if_neg h3, if_neg h64]
            subst e
            clear HE
            have h64I : ¬ (64 : Int) < ((P.length : Nat) : Int) := by omega
            go_wp2
            go_ret2
            exact ⟨_, rfl, HO.out, hB3⟩
end Go.Proofs.Ytcbphodkaiknmaa

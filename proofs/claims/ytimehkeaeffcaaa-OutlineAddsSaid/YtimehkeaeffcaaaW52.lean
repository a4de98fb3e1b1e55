/- The sum of two outlines: the program's answer is the reference's; the law's walk. -/
import Derived.Test.YtimehkeaeffcaaaW49
import Derived.Test.YtimehkeaeffcaaaW51
import Derived.Test.YtimehkeaeffcaaaW33
import Derived.Test.YtimehkeaeffcaaaW15
namespace Go.Proofs.Ytimehkeaeffcaaa
open Go.RowKit

theorem sumRes_eq {out : List XY} (h3 : 3 ≤ out.length) (hc : Conv out) (hcan : canonL out = out) : sumRes out = sum2Res out ∧ (sum2Res out = ([], 4) ∨ (sum2Res out = (out, 0) ∧ validB out = true)) := by
  have hv := validB_iff out
  unfold sumRes sum2Res
  rw [hcan]
  by_cases h64 : 64 < out.length
  · rw [if_pos (.inl h64), if_pos (.inr h64)]
    exact ⟨rfl, .inl rfl⟩
  · cases hr : out.all rangedB
    · have : validB out = false := by
        cases hb : validB out
        · rfl
        · have := (hv.1 hb).2.2.1; rw [hr] at this; cases this
      rw [if_pos (.inr this), if_pos (.inl rfl)]
      exact ⟨rfl, .inl rfl⟩
    · have : validB out = true := hv.2 ⟨h3, by omega, hr, hc⟩
      rw [if_neg (by simp [this, h64]), if_neg (by simp [h64])]
      exact ⟨rfl, .inr ⟨rfl, this⟩⟩

/-- What Sum answers, in both. -/
structure SumIs (o p : List XY) (r : List XY × Int) : Prop where
  len : r.1.length ≤ 64
  prog : ∀ (A A2 : Option Addr) (c c2 : Nat) (w : World), o.length ≤ c → p.length ≤ c2 → Rd w w.heap.size A o → Rd w w.heap.size A2 p → Calls Try.prog 36 #[.slice A o.length c, .slice A2 p.length c2] w (RetO2 r.1 r.2 w)
  ref : ∀ (A A2 : Option Addr) (c c2 : Nat) (w : World), Rd w w.heap.size A o → Rd w w.heap.size A2 p → Calls Try.prog 37 #[.slice A o.length c, .slice A2 p.length c2] w (RetO2 r.1 r.2 w)
  says : (r = ([], 10) ∧ (validB o && validB p) = false) ∨ (validB o = true ∧ validB p = true ∧ ∃ N, SumPath (canonL o) (canonL p) N ∧ (r = ([], 4) ∨ (r = (outL (canonL o) (canonL p) N, 0) ∧ validB (outL (canonL o) (canonL p) N) = true)))

theorem sum_with {o p : List XY} (ho : validB o = true) (hp : validB p = true) {N : Nat} (S : SumPath (canonL o) (canonL p) N) : SumIs o p (sum2Res (outL (canonL o) (canonL p) N)) := by
  obtain ⟨out, hout, hlen, hconv, hcan, hW, hbd, hin, hcor, hins⟩ := sum_facts ho hp S
  have h3 := S.lo
  have hN := S.hi
  obtain ⟨_, _, _, lena, _⟩ := sorted_canon ho
  obtain ⟨_, _, _, lenb, _⟩ := sorted_canon hp
  have lo := validB_len' ho
  have lp := validB_len' hp
  obtain ⟨e1, e2⟩ := sumRes_eq (by omega) hconv hcan
  refine ⟨?_, fun A A2 c c2 w hc hc2 hl hl2 => ?_, fun A A2 c c2 w hl hl2 => ?_, .inr ⟨ho, hp, N, S, ?_⟩⟩
  · rw [hout]
    rcases e2 with e2 | ⟨e2, hv⟩ <;> rw [e2]
    · simp
    · exact (validB_len' hv).2
  · have := Sum_yes A A2 c c2 o p w ho hp hc hc2 N S hl hl2
    rw [hout, e1] at this
    rw [hout]
    exact this
  · rw [hout]
    exact Sum2_yes A A2 c c2 o p out w (by rw [← valid_eq]; exact ho) (by rw [← valid_eq]; exact hp) hW (by omega) hl hl2
  · rw [hout]
    exact e2

theorem sum_both (o p : List XY) : ∃ r, SumIs o p r := by
  cases hv : validB o && validB p
  · refine ⟨([], 10), ⟨by simp, fun A A2 c c2 w hc hc2 hl hl2 => Sum_no A A2 c c2 o p w hv hl hl2, fun A A2 c c2 w hl hl2 => Sum2_no A A2 c c2 o p w (by rw [← valid_eq, ← valid_eq]; exact hv) hl hl2, .inl ⟨rfl, hv⟩⟩⟩
  · simp only [Bool.and_eq_true] at hv
    obtain ⟨N, S⟩ := sum_path (sorted_canon hv.1).1 (sorted_canon hv.2).1
    exact ⟨_, sum_with hv.1 hv.2 S⟩

set_option maxHeartbeats 1000000 in
theorem lawSums_any (A A2 : Option Addr) (c c2 : Nat) (o p : List XY) (w : World) (hc : o.length ≤ c) (hc2 : p.length ≤ c2) (hl : Rd w w.heap.size A o) (hl2 : Rd w w.heap.size A2 p) :
    Calls Try.prog 8 #[.slice A o.length c, .slice A2 p.length c2] w (Ret (.bool true) w) := by
  obtain ⟨⟨r1, r2⟩, H⟩ := sum_both o p
  have hlen := H.len
  have hp := H.prog
  have hr := H.ref
  clear H
  dsimp only at hlen hp hr
  have HL := Lib.hid hl; clear hl
  have HL2 := Lib.hid hl2; clear hl2
  have HP := Lib.hid hp; clear hp
  have HR := Lib.hid hr; clear hr
  go_enter Try.func8, Try.ntmps8
  go_wp2_with fail
  refine (HP.out A A2 c c2 _ hc hc2 HL.out HL2.out).mono ?_
  rintro e w1 ⟨v1, rfl, hown1, hb1⟩
  obtain ⟨A1, c1, rfl, hr1⟩ := own_rd hown1
  clear hown1
  have hr1' := Lib.hid hr1; clear hr1
  go_wp2_with fail
  refine (HR.out A A2 c c2 _ (HL.out.now hb1) (HL2.out.now hb1)).mono ?_
  rintro e w2 ⟨v2, rfl, hown2, hb2⟩
  obtain ⟨A3, c3, rfl, hr2⟩ := own_rd hown2
  clear hown2
  have hB2 := hb1.trans (hb2.mono hb1.size)
  have hr3 := hr1'.out.now hb2
  have HX := Lib.hid (And.intro hr2 hr3); clear hr2 hr3 hr1'
  go_wp2_with fail
  refine (same_any A1 A3 c1 c3 r1 r1 _ (by omega) HX.out.2 HX.out.1).mono ?_
  rintro e w4 ⟨rfl, hb4⟩
  have hB4 := hB2.trans (hb4.mono hB2.size)
  go_wp2_with fail
  refine (awake_any _).mono ?_
  rintro e w5 ⟨rfl, hb5⟩
  go_wp2
  go_ret
  exact Ret.mk rfl (hB4.trans (hb5.mono hB4.size))
end Go.Proofs.Ytimehkeaeffcaaa

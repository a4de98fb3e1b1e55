/- The law OutlineAdds: reaches and areas of a sum; the order plays no part. The law's walk. -/
import Derived.Test.YtimehkeaeffcaaaW52
import Derived.Test.YtimehkeaeffcaaaW18
namespace Go.Proofs.Ytimehkeaeffcaaa
open Go.RowKit

theorem adds_prep (o p : List XY) : ∃ r, SumIs o p r ∧ SumIs p o r ∧ ((r.1 = [] ∧ (r.2 = 10 ∨ r.2 = 4)) ∨ (r.2 = 0 ∧ validB o = true ∧ validB p = true ∧ validB r.1 = true ∧ areaW o + areaW p ≤ areaW r.1 ∧ (-4000000000 ≤ areaW o ∧ areaW o ≤ 4000000000 ∧ -4000000000 ≤ areaW p ∧ areaW p ≤ 4000000000) ∧
    ∀ u v, ¬ offUV u v → farW u v r.1 = farW u v o + farW u v p ∧ -1000000000 ≤ farW u v o ∧ farW u v o ≤ 1000000000 ∧ -1000000000 ≤ farW u v p ∧ farW u v p ≤ 1000000000)) := by
  cases hv : validB o && validB p
  · obtain ⟨r, H⟩ := sum_both o p
    obtain ⟨r', H'⟩ := sum_both p o
    have e1 : r = ([], 10) := by
      rcases H.says with h | ⟨h1, h2, _⟩
      · exact h.1
      · rw [h1, h2] at hv; cases hv
    have e2 : r' = ([], 10) := by
      rcases H'.says with h | ⟨h1, h2, _⟩
      · exact h.1
      · rw [h1, h2] at hv; cases hv
    subst e1 e2
    exact ⟨_, H, H', .inl ⟨rfl, .inl rfl⟩⟩
  · simp only [Bool.and_eq_true] at hv
    obtain ⟨N, S⟩ := sum_path (sorted_canon hv.1).1 (sorted_canon hv.2).1
    have H := sum_with hv.1 hv.2 S
    have H' := sum_with hv.2 hv.1 (path_swap S)
    rw [out_swap S] at H'
    obtain ⟨out, hout, hlen, hconv, hcan, _⟩ := sum_facts hv.1 hv.2 S
    have h3 := S.lo
    obtain ⟨_, e2⟩ := sumRes_eq (by omega) hconv hcan
    refine ⟨_, H, H', ?_⟩
    rcases e2 with e2 | ⟨e2, hvo⟩
    · left; rw [hout, e2]; exact ⟨rfl, .inr rfl⟩
    · right
      rw [hout, e2]
      rw [← hout] at hvo
      obtain ⟨a1, a2, a3, a4, a5⟩ := sum_area hv.1 hv.2 S hvo
      rw [hout] at a1 hvo
      refine ⟨rfl, hv.1, hv.2, hvo, a1, ⟨a2, a3, a4, a5⟩, fun u v hn => ?_⟩
      have := sum_reach hv.1 hv.2 S (u := u) (v := v) (by unfold offUV at hn; omega) (by unfold offUV at hn; omega) (by unfold offUV at hn; omega) (by unfold offUV at hn; omega)
      rw [hout] at this
      exact this

theorem adds_reach {o p s : List XY} (ho : validB o = true) (hp : validB p = true) (hs : validB s = true) (u v : Int)
    (H : ¬ offUV u v → farW u v s = farW u v o + farW u v p ∧ -1000000000 ≤ farW u v o ∧ farW u v o ≤ 1000000000 ∧ -1000000000 ≤ farW u v p ∧ farW u v p ≤ 1000000000) :
    ∃ x y z e, reachS validB o u v = (x, e) ∧ reachS validB p u v = (y, e) ∧ reachS validB s u v = (z, e) ∧ wrap64 (x + y) = z := by
  unfold reachS
  rw [ho, hp, hs]
  by_cases h : offUV u v
  · exact ⟨0, 0, 0, 2, by simp [h], by simp [h], by simp [h], w64_id (by omega) (by omega)⟩
  · obtain ⟨h1, h2, h3, h4, h5⟩ := H h
    exact ⟨_, _, _, 0, by simp only [h]; rfl, by simp only [h]; rfl, by simp only [h]; rfl, by rw [h1, w64_id (by omega) (by omega)]⟩

set_option maxHeartbeats 2000000 in
theorem lawAdds_any (A A2 : Option Addr) (c c2 : Nat) (o p : List XY) (u v : Int) (w : World) (hc : o.length ≤ c) (hc2 : p.length ≤ c2) (hl : Rd w w.heap.size A o) (hl2 : Rd w w.heap.size A2 p) :
    Calls Try.prog 11 #[.slice A o.length c, .slice A2 p.length c2, .int .i64 u, .int .i64 v] w (Ret (.bool true) w) := by
  obtain ⟨⟨r1, r2⟩, H, H', hcase⟩ := adds_prep o p
  have hlen := H.len
  have hp := H.prog
  have hr := H'.prog
  clear H H'
  dsimp only at hlen hp hr hcase
  have HL := Lib.hid hl; clear hl
  have HL2 := Lib.hid hl2; clear hl2
  have HP := Lib.hid hp; clear hp
  have HR := Lib.hid hr; clear hr
  rcases hcase with ⟨rfl, hz⟩ | ⟨rfl, ho, hpv, hs, har, ⟨a2, a3, a4, a5⟩, hre⟩
  · have hne : (r2 != 0) = true := by rcases hz with rfl | rfl <;> rfl
    have hne2 : ¬ r2 = 0 := by omega
    clear hz
    go_enter Try.func11, Try.ntmps11
    go_wp2_with fail
    refine (HP.out A A2 c c2 _ hc hc2 HL.out HL2.out).mono ?_
    rintro e w1 ⟨v1, rfl, hown1, hb1⟩
    obtain ⟨A1, c1, rfl, hr1⟩ := own_rd hown1
    clear hown1
    have hr1' := Lib.hid hr1; clear hr1
    go_wp2_with fail
    refine (HR.out A2 A c2 c _ hc2 hc (HL2.out.now hb1) (HL.out.now hb1)).mono ?_
    rintro e w2 ⟨v2, rfl, hown2, hb2⟩
    obtain ⟨A3, c3, rfl, hr2⟩ := own_rd hown2
    clear hown2
    have hB2 := hb1.trans (hb2.mono hb1.size)
    have hr3 := hr1'.out.now hb2
    have HX := Lib.hid (And.intro hr2 hr3); clear hr2 hr3 hr1'
    go_wp2_with fail
    refine (same_any A1 A3 c1 c3 [] [] _ (by simp) HX.out.2 HX.out.1).mono ?_
    rintro e w4 ⟨rfl, hb4⟩
    have hB4 := hB2.trans (hb4.mono hB2.size)
    go_wp2_with fail
    refine (awake_any _).mono ?_
    rintro e w5 ⟨rfl, hb5⟩
    go_wp2
    go_ret
    exact Ret.mk rfl (hB4.trans (hb5.mono hB4.size))
  · obtain ⟨x, y, z, er, hx, hy, hz, hxy⟩ := adds_reach ho hpv hs u v (hre u v)
    clear hre
    have A1s : area2S o = (areaW o, 0) := by unfold area2S; rw [if_pos ho]
    have A2s : area2S p = (areaW p, 0) := by unfold area2S; rw [if_pos hpv]
    have A3s : area2S r1 = (areaW r1, 0) := by unfold area2S; rw [if_pos hs]
    generalize areaW o = n1 at *
    generalize areaW p = n2 at *
    generalize areaW r1 = n3 at *
    have hw : wrap64 (n1 + n2) = n1 + n2 := w64_id (by omega) (by omega)
    have HA1 := Lib.hid A1s; clear A1s
    have HA2 := Lib.hid A2s; clear A2s
    have HA3 := Lib.hid A3s; clear A3s
    have HX := Lib.hid hx; clear hx
    have HY := Lib.hid hy; clear hy
    have HZ := Lib.hid hz; clear hz
    clear ho hpv hs
    go_enter Try.func11, Try.ntmps11
    go_wp2_with fail
    refine (HP.out A A2 c c2 _ hc hc2 HL.out HL2.out).mono ?_
    rintro e w1 ⟨v1, rfl, hown1, hb1⟩
    obtain ⟨A1, c1, rfl, hr1⟩ := own_rd hown1
    clear hown1
    have hr1' := Lib.hid hr1; clear hr1
    go_wp2_with fail
    refine (HR.out A2 A c2 c _ hc2 hc (HL2.out.now hb1) (HL.out.now hb1)).mono ?_
    rintro e w2 ⟨v2, rfl, hown2, hb2⟩
    obtain ⟨A3, c3, rfl, hr2⟩ := own_rd hown2
    clear hown2
    have hB2 := hb1.trans (hb2.mono hb1.size)
    have hr3 := hr1'.out.now hb2
    have HXX := Lib.hid (And.intro hr2 hr3); clear hr2 hr3 hr1'
    go_wp2_with fail
    refine (same_any A1 A3 c1 c3 r1 r1 _ (by omega) HXX.out.2 HXX.out.1).mono ?_
    rintro e w4 ⟨rfl, hb4⟩
    have hB4 := hB2.trans (hb4.mono hB2.size)
    have hS4 := Lib.hid (HXX.out.2.now hb4)
    clear HXX hb4
    go_wp2_with fail
    refine (Area2_any A c o _ (HL.out.now hB4)).mono ?_
    rintro e w5 ⟨rfl, hb5⟩
    rw [HA1.out]
    have hB5 := hB4.trans (hb5.mono hB4.size)
    have hS5 := Lib.hid (hS4.out.now hb5)
    clear hS4 hb5
    go_wp2_with fail
    refine (Area2_any A2 c2 p _ (HL2.out.now hB5)).mono ?_
    rintro e w6 ⟨rfl, hb6⟩
    rw [HA2.out]
    have hB6 := hB5.trans (hb6.mono hB5.size)
    have hS6 := Lib.hid (hS5.out.now hb6)
    clear hS5 hb6
    go_wp2_with fail
    refine (Area2_any A1 c1 r1 _ hS6.out).mono ?_
    rintro e w7 ⟨rfl, hb7⟩
    rw [HA3.out]
    have hB7 := hB6.trans (hb7.mono hB6.size)
    have hS7 := Lib.hid (hS6.out.now hb7)
    clear hS6 hb7
    have hlt : ¬ n3 < n1 + n2 := by omega
    go_wp2_with fail
    refine (Reach_any u v A c o _ (HL.out.now hB7)).mono ?_
    rintro e w8 ⟨rfl, hb8⟩
    rw [HX.out]
    have hB8 := hB7.trans (hb8.mono hB7.size)
    have hS8 := Lib.hid (hS7.out.now hb8)
    clear hS7 hb8
    go_wp2_with fail
    refine (Reach_any u v A2 c2 p _ (HL2.out.now hB8)).mono ?_
    rintro e w9 ⟨rfl, hb9⟩
    rw [HY.out]
    have hB9 := hB8.trans (hb9.mono hB8.size)
    have hS9 := Lib.hid (hS8.out.now hb9)
    clear hS8 hb9
    go_wp2_with fail
    refine (Reach_any u v A1 c1 r1 _ hS9.out).mono ?_
    rintro e w10 ⟨rfl, hb10⟩
    rw [HZ.out]
    have hB10 := hB9.trans (hb10.mono hB9.size)
    clear hS9 hb10
    go_wp2_with fail
    refine (awake_any _).mono ?_
    rintro e w11 ⟨rfl, hb11⟩
    go_wp2
    go_ret
    exact Ret.mk rfl (hB10.trans (hb11.mono hB10.size))
end Go.Proofs.Ytimehkeaeffcaaa

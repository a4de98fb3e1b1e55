/- The law OutlineForms: the walk. -/
import Derived.Test.YtimehkeaeffcaaaW15
import Derived.Test.YtimehkeaeffcaaaWC
namespace Go.Proofs.Ytimehkeaeffcaaa
open Go.RowKit Go.Shelf

theorem canonL_turnL {l : List XY} (h : validB l = true) : canonL l = turnL l := by
  have hl := validB_len' h
  obtain ⟨k, _, _, _, e⟩ := canon_facts (show 0 < l.length by omega) (bd_cy' (by omega) (validB_ranged h))
  exact e
theorem canonS_eq (l : List XY) : canonS validB canonL l = canonS validRB turnL l := by
  unfold canonS
  rw [← valid_eq]
  cases h : validB l
  · rfl
  · rw [canonL_turnL h]
theorem sameS_eq (l l2 : List XY) : sameS validB canonL l l2 = sameS validRB turnL l l2 := by
  unfold sameS
  rw [← valid_eq, ← valid_eq]
  cases h : validB l
  · rfl
  · cases h2 : validB l2
    · rfl
    · rw [canonL_turnL h, canonL_turnL h2]

/-- same of the laws. -/
theorem same_any (A A2 : Option Addr) (c c2 : Nat) (l l2 : List XY) (w : World) (hm : l.length ≤ 1000000) (hl : Rd w w.heap.size A l) (hl2 : Rd w w.heap.size A2 l2) :
    Calls Try.prog 35 #[.slice A l.length c, .slice A2 l2.length c2] w (Ret (.bool (decide (l = l2))) w) := by
  have HL := Lib.hid hl; clear hl
  have HL2 := Lib.hid hl2; clear hl2
  go_enter Try.func35, Try.ntmps35
  go_wp2_with fail
  refine (equal2_any A A2 c c2 l l2 _ hm HL.out HL2.out).mono ?_
  rintro e w1 ⟨rfl, hb1⟩
  go_wp2
  go_ret
  exact Ret.mk rfl hb1

theorem canonS_len (l : List XY) : (canonS validRB turnL l).1.length ≤ 64 := by
  unfold canonS
  cases h : validRB l
  · simp
  · have := validRB_len h
    simp [turnL]; omega

set_option maxHeartbeats 1000000 in
theorem lawForms_any (A A2 : Option Addr) (c c2 : Nat) (o p : List XY) (w : World) (hc : o.length ≤ c) (hc2 : p.length ≤ c2) (hl : Rd w w.heap.size A o) (hl2 : Rd w w.heap.size A2 p) :
    Calls Try.prog 7 #[.slice A o.length c, .slice A2 p.length c2] w (Ret (.bool true) w) := by
  have HL := Lib.hid hl; clear hl
  have HL2 := Lib.hid hl2; clear hl2
  go_enter Try.func7, Try.ntmps7
  go_wp2_with fail
  refine (Canonical_any A c o _ hc HL.out).mono ?_
  rintro e w1 ⟨v1, rfl, hown1, hb1⟩
  obtain ⟨A1, d1, rfl, hr1⟩ := own_rd hown1
  have hlen := canonS_len o
  obtain ⟨⟨a1, a2⟩, ha⟩ : ∃ r, canonS validRB turnL o = r := ⟨_, rfl⟩
  rw [canonS_eq, ha] at hr1 ⊢
  rw [ha] at hlen
  clear hown1
  dsimp only at hr1 hlen
  go_wp2_with fail
  refine (Canonical2_any A c o _ (HL.out.now hb1)).mono ?_
  rintro e w2 ⟨v2, rfl, hown2, hb2⟩
  obtain ⟨A2', d2, rfl, hr2⟩ := own_rd hown2
  have hB2 := hb1.trans (hb2.mono hb1.size)
  rw [ha] at hr2 ⊢
  clear ha hown2
  dsimp only at hr2
  have hr1 := hr1.now hb2
  clear hb1 hb2
  go_wp2_with fail
  refine (Same_any A A2 c c2 o p _ hc hc2 (HL.out.now hB2) (HL2.out.now hB2)).mono ?_
  rintro e w3 ⟨rfl, hb3⟩
  have hB3 := hB2.trans (hb3.mono hB2.size)
  obtain ⟨⟨b1, b2⟩, hb⟩ : ∃ r, sameS validRB turnL o p = r := ⟨_, rfl⟩
  rw [sameS_eq, hb]
  have hr1 := hr1.now hb3
  have hr2 := hr2.now hb3
  go_wp2_with fail
  refine (Same2_any A A2 c c2 o p _ (HL.out.now hB3) (HL2.out.now hB3)).mono ?_
  rintro e w4 ⟨rfl, hb4⟩
  have hB4 := hB3.trans (hb4.mono hB3.size)
  rw [hb]
  have hr1 := hr1.now hb4
  have hr2 := hr2.now hb4
  clear hb hb3 hb4
  go_wp2_with fail
  refine (valid_any A c o _ (HL.out.now hB4)).mono ?_
  rintro e w5 ⟨rfl, hb5⟩
  have hB5 := hB4.trans (hb5.mono hB4.size)
  have hr1 := hr1.now hb5
  have hr2 := hr2.now hb5
  rw [valid_eq]
  go_wp2_with fail
  refine (validR_any A c o _ (HL.out.now hB5)).mono ?_
  rintro e w6 ⟨rfl, hb6⟩
  have hB6 := hB5.trans (hb6.mono hB5.size)
  have hr1 := hr1.now hb6
  have hr2 := hr2.now hb6
  go_wp2_with fail
  refine (same_any A1 A2' d1 d2 a1 a1 _ (by omega) hr1 hr2).mono ?_
  rintro e w7 ⟨rfl, hb7⟩
  have hB7 := hB6.trans (hb7.mono hB6.size)
  go_wp2_with fail
  refine (awake_any _).mono ?_
  rintro e w8 ⟨rfl, hb8⟩
  go_wp2
  go_ret
  exact Ret.mk rfl (hB7.trans (hb8.mono hB7.size))
end Go.Proofs.Ytimehkeaeffcaaa

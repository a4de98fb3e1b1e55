/- The law OutlineBoxes: the walk. -/
import Derived.Test.YtimehkeaeffcaaaW15
import Derived.Test.YtimehkeaeffcaaaW33
import Derived.Test.YtimehkeaeffcaaaMathB
namespace Go.Proofs.Ytimehkeaeffcaaa
open Go.RowKit Go.Shelf

theorem centred2_len (l : List XY) : (centred2S l).1.length ≤ 64 := by
  unfold centred2S
  cases h : validRB l
  · simp
  · have := validRB_len h
    simp [turnL]; omega

set_option maxHeartbeats 1000000 in
theorem lawBoxes_any (A : Option Addr) (c : Nat) (o : List XY) (w : World) (hl : Rd w w.heap.size A o) :
    Calls Try.prog 9 #[.slice A o.length c] w (Ret (.bool true) w) := by
  have HL := Lib.hid hl; clear hl
  go_enter Try.func9, Try.ntmps9
  go_wp2_with fail
  refine (Box_any A c o _ HL.out).mono ?_
  rintro e w1 ⟨rfl, hb1⟩
  obtain ⟨⟨a1, a2, a3⟩, ha⟩ : ∃ r, box2S o = r := ⟨_, rfl⟩
  rw [boxS_eq, ha]
  go_wp2_with fail
  refine (Box2_any A c o _ (HL.out.now hb1)).mono ?_
  rintro e w2 ⟨rfl, hb2⟩
  have hB2 := hb1.trans (hb2.mono hb1.size)
  rw [ha]
  clear ha hb1 hb2
  go_wp2_with fail
  refine (Centred_any A c o _ (HL.out.now hB2)).mono ?_
  rintro e w3 ⟨v3, rfl, hown3, hb3⟩
  obtain ⟨A3, c3, rfl, hr3⟩ := own_rd hown3
  have hB3 := hB2.trans (hb3.mono hB2.size)
  have hlen := centred2_len o
  obtain ⟨⟨d1, d2⟩, hd⟩ : ∃ r, centred2S o = r := ⟨_, rfl⟩
  rw [centredS_eq, hd] at hr3 ⊢
  rw [hd] at hlen
  clear hown3
  dsimp only at hr3 hlen
  go_wp2_with fail
  refine (Centred2_any A c o _ (HL.out.now hB3) (fun h => ends_bd (by have := validRB_len h; omega) (by rw [← valid_eq] at h; exact validB_ranged h))).mono ?_
  rintro e w4 ⟨v4, rfl, hown4, hb4⟩
  obtain ⟨A4, c4, rfl, hr4⟩ := own_rd hown4
  have hB4 := hB3.trans (hb4.mono hB3.size)
  rw [hd] at hr4 ⊢
  clear hd hown4
  dsimp only at hr4
  have hr3 := hr3.now hb4
  clear hb3 hb4
  go_wp2_with fail
  refine (Area2_any A c o _ (HL.out.now hB4)).mono ?_
  rintro e w5 ⟨rfl, hb5⟩
  have hB5 := hB4.trans (hb5.mono hB4.size)
  obtain ⟨⟨n1, n2⟩, hn⟩ : ∃ r, area22S o = r := ⟨_, rfl⟩
  rw [area2S_eq, hn]
  have hr3 := hr3.now hb5
  have hr4 := hr4.now hb5
  go_wp2_with fail
  refine (Area22_any A c o _ (HL.out.now hB5)).mono ?_
  rintro e w6 ⟨rfl, hb6⟩
  have hB6 := hB5.trans (hb6.mono hB5.size)
  rw [hn]
  have hr3 := hr3.now hb6
  have hr4 := hr4.now hb6
  clear hn hb5 hb6
  go_wp2_with fail
  refine (same_any A3 A4 c3 c4 d1 d1 _ (by omega) hr3 hr4).mono ?_
  rintro e w7 ⟨rfl, hb7⟩
  have hB7 := hB6.trans (hb7.mono hB6.size)
  go_wp2_with fail
  refine (awake_any _).mono ?_
  rintro e w8 ⟨rfl, hb8⟩
  go_wp2
  go_ret
  exact Ret.mk rfl (hB7.trans (hb8.mono hB7.size))
end Go.Proofs.Ytimehkeaeffcaaa

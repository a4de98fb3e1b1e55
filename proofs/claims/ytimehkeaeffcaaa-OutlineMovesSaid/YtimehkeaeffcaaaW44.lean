/- The law OutlineMoves: the walk. -/
import Derived.Test.YtimehkeaeffcaaaW15
import Derived.Test.YtimehkeaeffcaaaW33
import Derived.Test.YtimehkeaeffcaaaW43
import Derived.Test.YtimehkeaeffcaaaMathO
namespace Go.Proofs.Ytimehkeaeffcaaa
open Go.RowKit Go.Shelf

theorem turned2_len (l : List XY) : (turnedS validRB turnL l).1.length ≤ 64 := by
  unfold turnedS
  cases h : validRB l
  · simp
  · have := validRB_len h
    simp [turnL]; omega
theorem mirror2_len (l : List XY) : (mirrorS validRB turnL l).1.length ≤ 64 := by
  unfold mirrorS
  cases h : validRB l
  · simp
  · have := validRB_len h
    simp [turnL]; omega
theorem moved2_len (l : List XY) (dx dy : Int) : (moved2S l dx dy).1.length ≤ 64 := by
  unfold moved2S
  cases h : validRB l
  · simp
  · have := validRB_len h
    simp only [Bool.not_true, Bool.false_eq_true, if_false]
    split
    · simp
    · split
      · simp
      · simp [turnL]; omega

set_option maxHeartbeats 1000000 in
theorem lawMoves_any (A : Option Addr) (c : Nat) (o : List XY) (dx dy : Int) (w : World) (hl : Rd w w.heap.size A o) :
    Calls Try.prog 10 #[.slice A o.length c, .int .i64 dx, .int .i64 dy] w (Ret (.bool true) w) := by
  have HL := Lib.hid hl; clear hl
  go_enter Try.func10, Try.ntmps10
  go_wp2_with fail
  refine (Mirror_any A c o _ HL.out).mono ?_
  rintro e w1 ⟨v1, rfl, hown1, hb1⟩
  obtain ⟨A1, c1, rfl, hr1⟩ := own_rd hown1
  have hlen1 := mirror2_len o
  obtain ⟨⟨a1, a2⟩, ha⟩ : ∃ r, mirrorS validRB turnL o = r := ⟨_, rfl⟩
  rw [mirrorS_eq, ha] at hr1 ⊢
  rw [ha] at hlen1
  clear hown1
  dsimp only at hr1 hlen1
  go_wp2_with fail
  refine (Mirror2_any A c o _ (HL.out.now hb1)).mono ?_
  rintro e w2 ⟨v2, rfl, hown2, hb2⟩
  obtain ⟨A2, c2, rfl, hr2⟩ := own_rd hown2
  have hB2 := hb1.trans (hb2.mono hb1.size)
  rw [ha] at hr2 ⊢
  clear ha hown2
  dsimp only at hr2
  have hr1 := hr1.now hb2
  clear hb1 hb2
  go_wp2_with fail
  refine (same_any A1 A2 c1 c2 a1 a1 _ (by omega) hr1 hr2).mono ?_
  rintro e w3 ⟨rfl, hb3⟩
  have hB3 := hB2.trans (hb3.mono hB2.size)
  clear hb3 hr1 hr2
  go_wp2_with fail
  refine (Turned_any A c o _ (HL.out.now hB3)).mono ?_
  rintro e w4 ⟨v4, rfl, hown4, hb4⟩
  obtain ⟨A4, c4, rfl, hr4⟩ := own_rd hown4
  have hB4 := hB3.trans (hb4.mono hB3.size)
  have hlen2 := turned2_len o
  obtain ⟨⟨b1, b2⟩, hb⟩ : ∃ r, turnedS validRB turnL o = r := ⟨_, rfl⟩
  rw [turnedS_eq, hb] at hr4 ⊢
  rw [hb] at hlen2
  clear hown4 hb4
  dsimp only at hr4 hlen2
  go_wp2_with fail
  refine (Turned2_any A c o _ (HL.out.now hB4)).mono ?_
  rintro e w5 ⟨v5, rfl, hown5, hb5⟩
  obtain ⟨A5, c5, rfl, hr5⟩ := own_rd hown5
  have hB5 := hB4.trans (hb5.mono hB4.size)
  rw [hb] at hr5 ⊢
  clear hb hown5
  dsimp only at hr5
  have hr4 := hr4.now hb5
  clear hb5
  go_wp2_with fail
  refine (same_any A4 A5 c4 c5 b1 b1 _ (by omega) hr4 hr5).mono ?_
  rintro e w6 ⟨rfl, hb6⟩
  have hB6 := hB5.trans (hb6.mono hB5.size)
  clear hb6 hr4 hr5
  go_wp2_with fail
  refine (Moved_any dx dy A c o _ (HL.out.now hB6)).mono ?_
  rintro e w7 ⟨v7, rfl, hown7, hb7⟩
  obtain ⟨A7, c7, rfl, hr7⟩ := own_rd hown7
  have hB7 := hB6.trans (hb7.mono hB6.size)
  have hlen3 := moved2_len o dx dy
  obtain ⟨⟨d1, d2⟩, hd⟩ : ∃ r, moved2S o dx dy = r := ⟨_, rfl⟩
  rw [movedS_eq, hd] at hr7 ⊢
  rw [hd] at hlen3
  clear hown7 hb7
  dsimp only at hr7 hlen3
  go_wp2_with fail
  refine (Moved2_any dx dy A c o _ (HL.out.now hB7)).mono ?_
  rintro e w8 ⟨v8, rfl, hown8, hb8⟩
  obtain ⟨A8, c8, rfl, hr8⟩ := own_rd hown8
  have hB8 := hB7.trans (hb8.mono hB7.size)
  rw [hd] at hr8 ⊢
  clear hd hown8
  dsimp only at hr8
  have hr7 := hr7.now hb8
  clear hb8
  go_wp2_with fail
  refine (same_any A7 A8 c7 c8 d1 d1 _ (by omega) hr7 hr8).mono ?_
  rintro e w9 ⟨rfl, hb9⟩
  have hB9 := hB8.trans (hb9.mono hB8.size)
  go_wp2_with fail
  refine (awake_any _).mono ?_
  rintro e w10 ⟨rfl, hb10⟩
  go_wp2
  go_ret
  exact Ret.mk rfl (hB9.trans (hb10.mono hB9.size))
end Go.Proofs.Ytimehkeaeffcaaa

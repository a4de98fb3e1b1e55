/- The law NestAparts: what the tests of two outlines answer; the law's walk. -/
import Derived.Test.YtcbiehnaomcfbaaNW9
import Derived.Test.YtcbiehnaomcfbaaMathNB
namespace Go.Proofs.Ytcbiehnaomcfbaa
open Go.RowKit

theorem apartS_eq (o p : List XY) (g : Int) : apartS validRB apart2B o p g = apartS validB apartB o p g := by
  unfold apartS
  rw [← valid_eq, ← valid_eq]
  cases ho : validB o
  · rfl
  cases hp : validB p
  · rfl
  by_cases hg : g < 0 ∨ 2000 < g
  · simp only [if_pos hg]
  · simp only [if_neg hg]
    rw [apart_eq (wd_valid ho) (wd_valid hp) (sd_valid ho) (sd_valid hp) (by omega) (by omega)]
theorem apartS_comm (o p : List XY) (g : Int) : apartS validB apartB p o g = apartS validB apartB o p g := by
  unfold apartS
  cases ho : validB o
  · cases hp : validB p <;> rfl
  cases hp : validB p
  · rfl
  by_cases hg : g < 0 ∨ 2000 < g
  · simp only [if_pos hg]
  · simp only [if_neg hg]
    rw [apart_comm (wd_valid hp) (wd_valid ho) (sd_valid hp) (sd_valid ho) (by omega) (by omega)]
theorem apartS_ok {o p : List XY} {g : Int} (ho : validB o = true) (hp : validB p = true) (h0 : 0 ≤ g) (h1 : g ≤ 2000) : apartS validB apartB o p g = (apartB o p g, 0) := by
  have hg : ¬ (g < 0 ∨ 2000 < g) := by omega
  simp only [apartS, ho, hp, if_neg hg]
  rfl

theorem turned_apart {o p : List XY} {g : Int} (ho : validB o = true) (hp : validB p = true) (h0 : 0 ≤ g) (h1 : g ≤ 2000) : ∃ a b, turnedS validRB turnL o = (a, 0) ∧ turnedS validRB turnL p = (b, 0) ∧ apartS validB apartB a b g = (apartB o p g, 0) := by
  have t1 := valid_turn ho
  have t2 := valid_turn hp
  have l1 := validB_len' t1
  have l2 := validB_len' t2
  have e1 := canon_rot (l := o.map fTurn) (by omega) (bd_cy' (by omega) (validB_ranged t1))
  have e2 := canon_rot (l := p.map fTurn) (by omega) (bd_cy' (by omega) (validB_ranged t2))
  have k1 := atTo_lt (l := o.map fTurn) (by omega) _ (Nat.le_refl _)
  have k2 := atTo_lt (l := p.map fTurn) (by omega) _ (Nat.le_refl _)
  refine ⟨canonL (o.map fTurn), canonL (p.map fTurn), by rw [← turnedS_eq]; simp [turnedS, ho], by rw [← turnedS_eq]; simp [turnedS, hp], ?_⟩
  rw [apartS_ok (canon_len t1).1 (canon_len t2).1 h0 h1, e1, e2, apart_rot k1 k2 (wd_valid t1) (wd_valid t2) (sd_valid t1) (sd_valid t2) h0 h1, apart_turn ho hp h0 h1]

theorem moved_apart {o p : List XY} {g dx dy : Int} (ho : validB o = true) (hp : validB p = true) (h0 : 0 ≤ g) (h1 : g ≤ 2000) {a b : List XY} (ha : moved2S o dx dy = (a, 0)) (hb : moved2S p dx dy = (b, 0)) : apartS validB apartB a b g = (apartB o p g, 0) := by
  rw [← movedS_eq] at ha hb
  unfold movedS at ha hb
  rw [ho] at ha
  rw [hp] at hb
  simp only [Bool.not_true, Bool.false_eq_true, if_false] at ha hb
  by_cases hoff : offM dx dy
  · rw [if_pos hoff] at ha; cases ha
  · rw [if_neg hoff] at ha hb
    have hd : -10000 ≤ dx ∧ dx ≤ 10000 ∧ -10000 ≤ dy ∧ dy ≤ 10000 := by unfold offM at hoff; omega
    obtain ⟨d1, d2, d3, d4⟩ := hd
    have va : validB (canonL (o.map (fMove dx dy))) = true ∧ canonL (o.map (fMove dx dy)) = a := by
      cases h : validB (canonL (o.map (fMove dx dy)))
      · rw [h] at ha; cases ha
      · rw [h] at ha; exact ⟨rfl, by injection ha⟩
    have vb : validB (canonL (p.map (fMove dx dy))) = true ∧ canonL (p.map (fMove dx dy)) = b := by
      cases h : validB (canonL (p.map (fMove dx dy)))
      · rw [h] at hb; cases hb
      · rw [h] at hb; exact ⟨rfl, by injection hb⟩
    rw [← va.2, ← vb.2, apartS_ok va.1 vb.1 h0 h1]
    have lo := validB_len' ho
    have lp := validB_len' hp
    have co : ∀ j, cy (o.map (fMove dx dy)) j = ⟨(cy o j).X + dx, (cy o j).Y + dy⟩ := fun j => by
      rw [cy_map (by omega)]
      obtain ⟨b1, b2, b3, b4⟩ := bd_cy (l := o) (by omega) (validB_ranged ho) j
      unfold fMove
      rw [w64_id (by omega) (by omega), w64_id (by omega) (by omega)]
    have cp : ∀ j, cy (p.map (fMove dx dy)) j = ⟨(cy p j).X + dx, (cy p j).Y + dy⟩ := fun j => by
      rw [cy_map (by omega)]
      obtain ⟨b1, b2, b3, b4⟩ := bd_cy (l := p) (by omega) (validB_ranged hp) j
      unfold fMove
      rw [w64_id (by omega) (by omega), w64_id (by omega) (by omega)]
    have bo : ∀ j, Bd 15000 (cy (o.map (fMove dx dy)) j) := fun j => by
      rw [co]
      obtain ⟨b1, b2, b3, b4⟩ := bd_cy (l := o) (by omega) (validB_ranged ho) j
      unfold Bd; simp only; omega
    have bp : ∀ j, Bd 15000 (cy (p.map (fMove dx dy)) j) := fun j => by
      rw [cp]
      obtain ⟨b1, b2, b3, b4⟩ := bd_cy (l := p) (by omega) (validB_ranged hp) j
      unfold Bd; simp only; omega
    have wo : Wd (o.map (fMove dx dy)) := ⟨by simp; omega, fun j => (bo j).mono (by omega)⟩
    have wp : Wd (p.map (fMove dx dy)) := ⟨by simp; omega, fun j => (bp j).mono (by omega)⟩
    obtain ⟨s1, s2, e⟩ := move_go (wd_valid ho) (wd_valid hp) (sd_valid ho) (sd_valid hp) wo wp co cp h0 h1
    have e1 := canon_rot wo.1 (fun j => (bo j).mono (by omega))
    have e2 := canon_rot wp.1 (fun j => (bp j).mono (by omega))
    rw [e1, e2, apart_rot (atTo_lt wo.1 _ (Nat.le_refl _)) (atTo_lt wp.1 _ (Nat.le_refl _)) wo wp s1 s2 h0 h1, e]

theorem apartS_says (o p : List XY) (g : Int) : ((apartS validB apartB o p g).2 = 10 ∨ (apartS validB apartB o p g).2 = 2) ∨ (apartS validB apartB o p g = (apartB o p g, 0) ∧ validB o = true ∧ validB p = true ∧ 0 ≤ g ∧ g ≤ 2000) := by
  unfold apartS
  cases ho : validB o
  · left; left; rfl
  cases hp : validB p
  · left; left; rfl
  by_cases hg : g < 0 ∨ 2000 < g
  · left; right; simp [hg]
  · right; simp only [if_neg hg]
    exact ⟨rfl, trivial, trivial, by omega, by omega⟩

set_option maxRecDepth 100000 in
set_option maxHeartbeats 4000000 in
theorem lawAparts_any (A A2 : Option Addr) (c c2 : Nat) (o p : List XY) (gap dx dy : Int) (w : World) (hl : Rd w w.heap.size A o) (hl2 : Rd w w.heap.size A2 p) :
    Calls Try.prog 3 #[.slice A o.length c, .slice A2 p.length c2, .int .i64 gap, .int .i64 dx, .int .i64 dy] w (Ret (.bool true) w) := by
  have HL := Lib.hid hl; clear hl
  have HL2 := Lib.hid hl2; clear hl2
  have hsay := apartS_says o p gap
  have e2 := apartS_eq o p gap
  have e3 := apartS_comm o p gap
  rcases hsay with hz | ⟨hs, ho, hp, h0, h1⟩
  · obtain ⟨⟨x, e⟩, hx⟩ : ∃ r, apartS validB apartB o p gap = r := ⟨_, rfl⟩
    rw [hx] at hz e2 e3
    have hne : ¬ e = 0 := by dsimp only at hz; omega
    have H1 := Lib.hid hx; clear hx
    have H2 := Lib.hid e2; clear e2
    have H3 := Lib.hid e3; clear e3 hz
    go_enter Try.func3, Try.ntmps3
    go_wp2_with fail
    refine (Apart_any gap A A2 c c2 o p _ HL.out HL2.out).mono ?_
    rintro e' w1 ⟨rfl, hb1⟩
    rw [H1.out]
    go_wp2_with fail
    refine (Apart2_any gap A A2 c c2 o p _ (HL.out.now hb1) (HL2.out.now hb1)).mono ?_
    rintro e' w2 ⟨rfl, hb2⟩
    rw [H2.out]
    have hB2 := hb1.trans (hb2.mono hb1.size)
    go_wp2_with fail
    refine (Apart_any gap A2 A c2 c p o _ (HL2.out.now hB2) (HL.out.now hB2)).mono ?_
    rintro e' w3 ⟨rfl, hb3⟩
    rw [H3.out]
    have hB3 := hB2.trans (hb3.mono hB2.size)
    go_wp2_with fail
    refine (nawake_any _).mono ?_
    rintro e' w4 ⟨rfl, hb4⟩
    go_wp2
    go_ret
    exact Ret.mk rfl (hB3.trans (hb4.mono hB3.size))
  · rw [hs] at e2 e3
    obtain ⟨a, b, ta, tb, tt⟩ := turned_apart ho hp h0 h1
    have hmv := fun a b => moved_apart (dx := dx) (dy := dy) (a := a) (b := b) ho hp h0 h1
    obtain ⟨x, hx⟩ : ∃ x, apartB o p gap = x := ⟨_, rfl⟩
    rw [hx] at hs e2 e3 tt hmv
    have H1 := Lib.hid hs; clear hs
    have H2 := Lib.hid e2; clear e2
    have H3 := Lib.hid e3; clear e3
    have H4 := Lib.hid ta; clear ta
    have H5 := Lib.hid tb; clear tb
    have H6 := Lib.hid tt; clear tt
    have HM := Lib.hid hmv; clear hmv hx
    clear ho hp h0 h1
    go_enter Try.func3, Try.ntmps3
    go_wp2_with fail
    refine (Apart_any gap A A2 c c2 o p _ HL.out HL2.out).mono ?_
    rintro e' w1 ⟨rfl, hb1⟩
    rw [H1.out]
    go_wp2_with fail
    refine (Apart2_any gap A A2 c c2 o p _ (HL.out.now hb1) (HL2.out.now hb1)).mono ?_
    rintro e' w2 ⟨rfl, hb2⟩
    rw [H2.out]
    have hB2 := hb1.trans (hb2.mono hb1.size)
    go_wp2_with fail
    refine (Apart_any gap A2 A c2 c p o _ (HL2.out.now hB2) (HL.out.now hB2)).mono ?_
    rintro e' w3 ⟨rfl, hb3⟩
    rw [H3.out]
    have hB3 := hB2.trans (hb3.mono hB2.size)
    clear hb1 hb2 hb3 hB2
    go_wp2_with fail
    refine (Turned2_any A c o _ (HL.out.now hB3)).mono ?_
    rintro e' w4 ⟨v4, rfl, hown4, hb4⟩
    obtain ⟨A4, c4, rfl, hr4⟩ := own_rd hown4
    rw [H4.out] at hr4 ⊢
    dsimp only at hr4 ⊢
    clear hown4
    have HR4 := Lib.hid hr4; clear hr4
    have hB4 := hB3.trans (hb4.mono hB3.size)
    go_wp2_with fail
    refine (Turned2_any A2 c2 p _ (HL2.out.now hB4)).mono ?_
    rintro e' w5 ⟨v5, rfl, hown5, hb5⟩
    obtain ⟨A5, c5, rfl, hr5⟩ := own_rd hown5
    rw [H5.out] at hr5 ⊢
    dsimp only at hr5 ⊢
    clear hown5
    have HR5 := Lib.hid (And.intro hr5 (HR4.out.now hb5)); clear hr5 HR4
    have hB5 := hB4.trans (hb5.mono hB4.size)
    clear hb4 hb5 hB4
    go_wp2_with fail
    refine (Apart_any gap A4 A5 c4 c5 a b _ HR5.out.2 HR5.out.1).mono ?_
    rintro e' w6 ⟨rfl, hb6⟩
    rw [H6.out]
    have hB6 := hB5.trans (hb6.mono hB5.size)
    clear HR5 hb6
    go_wp2_with fail
    refine (Moved2_any dx dy A c o _ (HL.out.now hB6)).mono ?_
    rintro e' w7 ⟨v7, rfl, hown7, hb7⟩
    obtain ⟨A7, c7, rfl, hr7⟩ := own_rd hown7
    clear hown7
    obtain ⟨⟨ma, ea⟩, hma⟩ : ∃ r, moved2S o dx dy = r := ⟨_, rfl⟩
    rw [hma] at hr7 ⊢
    dsimp only at hr7 ⊢
    have HR7 := Lib.hid hr7; clear hr7
    have HMA := Lib.hid hma; clear hma
    have hB7 := hB6.trans (hb7.mono hB6.size)
    go_wp2_with fail
    refine (Moved2_any dx dy A2 c2 p _ (HL2.out.now hB7)).mono ?_
    rintro e' w8 ⟨v8, rfl, hown8, hb8⟩
    obtain ⟨A8, c8, rfl, hr8⟩ := own_rd hown8
    clear hown8
    obtain ⟨⟨mb, eb⟩, hmb⟩ : ∃ r, moved2S p dx dy = r := ⟨_, rfl⟩
    rw [hmb] at hr8 ⊢
    dsimp only at hr8 ⊢
    have HR8 := Lib.hid (And.intro hr8 (HR7.out.now hb8)); clear hr8 HR7
    have HMB := Lib.hid hmb; clear hmb
    have hB8 := hB7.trans (hb8.mono hB7.size)
    clear hb7 hb8 hB7 hB6 hB5 hB3
    by_cases hok : ea = 0 ∧ eb = 0
    · obtain ⟨rfl, rfl⟩ := hok
      have H7 := Lib.hid (HM.out ma mb HMA.out HMB.out)
      go_wp2_with fail
      refine (Apart_any gap A7 A8 c7 c8 ma mb _ HR8.out.2 HR8.out.1).mono ?_
      rintro e' w9 ⟨rfl, hb9⟩
      rw [H7.out]
      have hB9 := hB8.trans (hb9.mono hB8.size)
      go_wp2_with fail
      refine (nawake_any _).mono ?_
      rintro e' w10 ⟨rfl, hb10⟩
      go_wp2
      go_ret
      exact Ret.mk rfl (hB9.trans (hb10.mono hB9.size))
    · by_cases hea : ea = 0
      · have heb : ¬ eb = 0 := fun h => hok ⟨hea, h⟩
        subst hea
        go_wp2_with fail
        refine (nawake_any _).mono ?_
        rintro e' w10 ⟨rfl, hb10⟩
        go_wp2
        go_ret
        exact Ret.mk rfl (hB8.trans (hb10.mono hB8.size))
      · go_wp2_with fail
        refine (nawake_any _).mono ?_
        rintro e' w10 ⟨rfl, hb10⟩
        go_wp2
        go_ret
        exact Ret.mk rfl (hB8.trans (hb10.mono hB8.size))
end Go.Proofs.Ytcbiehnaomcfbaa

/- The law NestFalls: what a fall brings; the walk. -/
import Derived.Test.YtcbiehnaomcfbaaWK
import Derived.Test.YtcbiehnaomcfbaaNW17
namespace Go.Proofs.Ytcbiehnaomcfbaa
open Go.RowKit Go.Shelf

theorem fallN_le (f : Nat → Bool) : ∀ n, fallN f n ≤ n
  | 0 => Nat.le_refl _
  | n + 1 => by
    show (if f n then fallN f n else n + 1) ≤ n + 1
    have := fallN_le f n
    split <;> omega
theorem fallN_true (f : Nat → Bool) : ∀ n, f n = true → f (fallN f n) = true
  | 0, h => h
  | n + 1, h => by
    show f (if f n then fallN f n else n + 1) = true
    cases hn : f n
    · exact h
    · exact fallN_true f n hn
theorem fallN_stop (f : Nat → Bool) : ∀ n, fallN f n = 0 ∨ ∃ m, fallN f n = m + 1 ∧ f m = false
  | 0 => .inl rfl
  | n + 1 => by
    show (if f n then fallN f n else n + 1) = 0 ∨ ∃ m, (if f n then fallN f n else n + 1) = m + 1 ∧ f m = false
    cases hn : f n
    · exact .inr ⟨n, rfl, hn⟩
    · exact fallN_stop f n
theorem drop_says (b : BD) (ps : List PT) (L : List PL) (p : PL) :
    (∃ er, dropS b ps L p = (zeroP, false, er)) ∨
    ∃ (m : Nat) (u : Bool), (m : Int) ≤ p.Y ∧ p.Y ≤ 500 ∧ dropS b ps L p = (atY p (m : Int), true, 0) ∧ freeS b ps L (atY p (m : Int)) = (true, 0) ∧ freeS b ps L (atY p ((m : Int) - 1)) = (u, 0) ∧ (m ≠ 0 → u = false) := by
  unfold dropS freeS
  by_cases hc : (checkS b ps L).2 = 0
  · simp only [if_pos hc]
    cases hy : betw 0 p.Y 500
    · exact .inl ⟨2, rfl⟩
    · rw [if_pos rfl]
      simp only [betw, Bool.and_eq_true, decide_eq_true_eq] at hy
      cases hf : freeB b ps (L.map (lyP ps)) p
      · exact .inl ⟨0, rfl⟩
      · rw [if_pos rfl]
        obtain ⟨Y, hY⟩ : ∃ Y : Nat, p.Y = (Y : Int) := ⟨p.Y.toNat, by omega⟩
        have hYt : p.Y.toNat = Y := by rw [hY]; rfl
        rw [hYt]
        have hp : atY p (Y : Int) = p := by unfold atY; rw [← hY]
        have h1 := fallN_le (fun n => freeB b ps (L.map (lyP ps)) (atY p n)) Y
        have h2 := fallN_true (fun n => freeB b ps (L.map (lyP ps)) (atY p n)) Y (by show freeB _ _ _ (atY p (Y : Int)) = true; rw [hp]; exact hf)
        have h3 := fallN_stop (fun n => freeB b ps (L.map (lyP ps)) (atY p n)) Y
        generalize fallN (fun n => freeB b ps (L.map (lyP ps)) (atY p n)) Y = m at *
        refine .inr ⟨m, _, by omega, by omega, rfl, by rw [h2], rfl, fun h0 => ?_⟩
        rcases h3 with e | ⟨k, e, hk⟩
        · exact absurd e h0
        · subst e
          rw [show ((k + 1 : Nat) : Int) - 1 = (k : Int) by omega]
          exact hk
  · rw [if_neg hc]
    exact .inl ⟨_, rfl⟩

set_option maxRecDepth 100000 in
set_option maxHeartbeats 4000000 in
theorem lawFalls_any (b : BD) (A A2 A3 : Option Addr) (c c2 c3 : Nat) (ps : List PT) (L : List PL) (p : PL) (w : World) (hF : RdR w w.heap.size A b.F) (hp : RdPP w w.heap.size A2 ps) (hl : RdL w w.heap.size A3 L) :
    Calls Try.prog 8 #[deskw b A c A2 ps.length c2 A3 L.length c3, valL p] w (Ret (.bool true) w) := by
  have HF := Lib.hid hF; clear hF
  have HP := Lib.hid hp; clear hp
  have HL := Lib.hid hl; clear hl
  obtain ⟨w0, hw0⟩ : ∃ w0, (w.alloc (.cells #[.int .i64 b.W, .int .i64 b.H, .int .i64 b.G, .slice A b.F.length c, .slice A2 ps.length c2, .slice A3 L.length c3] 39)).alloc (.cells #[.int .i64 p.part, .int .i64 p.X, .int .i64 p.Y, .bool p.t] 48) = w0 := ⟨_, rfl⟩
  have hB0 : Below w.heap.size w w0 := by rw [← hw0]; (repeat (first | exact Below.refl _ _ | assumption | refine Below.alloc ?_ (by first | exact Nat.le_refl _ | exact Below.size (by assumption) | omega | (simp <;> omega)) _ | refine Below.setCell ?_ (by first | exact Nat.le_refl _ | exact Below.size (by assumption) | omega | (simp <;> omega)) _ | refine below_drewN ?_ _ | refine Below.drew ?_))
  have hz0 : w0.heap.size = w.heap.size + 2 := by rw [← hw0]; simp
  have HDK := Lib.hid (show DkAt w0 w.heap.size b A c A2 ps.length c2 A3 L.length c3 by rw [← hw0]; exact (DkAt.new w b A A2 A3 c _ c2 _ c3).below (C := w.heap.size + 1) (by (repeat (first | exact Below.refl _ _ | assumption | refine Below.alloc ?_ (by first | exact Nat.le_refl _ | exact Below.size (by assumption) | omega | (simp <;> omega)) _ | refine Below.setCell ?_ (by first | exact Nat.le_refl _ | exact Below.size (by assumption) | omega | (simp <;> omega)) _ | refine below_drewN ?_ _ | refine Below.drew ?_))) (by omega))
  have HPL := Lib.hid (show PlAt w0 (w.heap.size + 1) p by
    rw [← hw0]
    have := PlAt.new (w.alloc (.cells #[.int .i64 b.W, .int .i64 b.H, .int .i64 b.G, .slice A b.F.length c, .slice A2 ps.length c2, .slice A3 L.length c3] 39)) p
    rwa [World.size_alloc] at this)
  obtain ⟨k0, k1, k2, k3, k4, k5⟩ := HDK.out
  have HSAY := Lib.hid (drop_says b ps L p)
  have heq := run_eqPL p p
  have heq0 := run_eqPL ⟨0, 0, 0, false⟩ ⟨0, 0, 0, false⟩
  have hgd := guardPL
  go_enter Try.func8, Try.ntmps8
  go_wp2_with fail
  clear hw0
  refine (few_any b A A2 A3 c c2 c3 ps L _ (HP.out.now hB0) (HL.out.now hB0)).mono ?_
  rintro e' w1 ⟨rfl, hb1⟩
  have hB1 := hB0.trans (hb1.mono hB0.size)
  have hs1 := hb1.size
  clear k0 k1 k2 k3 k4 k5
  obtain ⟨k0, k1, k2, k3, k4, k5⟩ := HDK.out.below hb1 (by omega)
  have hz1 : w.heap.size < w1.heap.size := by omega
  cases hf : fewB ps L
  · have HFW := Lib.hid hf; clear hf
    go_wp2_with fail
    refine (nawake_any _).mono ?_
    rintro e' w2 ⟨rfl, hb2⟩
    go_wp2
    go_ret
    exact Ret.mk rfl (hB1.trans (hb2.mono hB1.size))
  have HFW := Lib.hid hf; clear hf
  by_cases h10 : 10 < L.length
  · have h10I : 10 < (L.length : Int) := by omega
    go_wp2_with fail
    refine (nawake_any _).mono ?_
    rintro e' w2 ⟨rfl, hb2⟩
    go_wp2
    go_ret
    exact Ret.mk rfl (hB1.trans (hb2.mono hB1.size))
  have h10I : ¬ 10 < (L.length : Int) := by omega
  obtain ⟨q0, q1, q2, q3⟩ := HPL.out.below hb1 (by omega)
  have hy1 : w.heap.size + 1 < w1.heap.size := by omega
  go_wp2_with fail
  refine (Drop_any b A A2 A3 c c2 c3 ps L p _ (HF.out.now hB1) (HP.out.now hB1) (HL.out.now hB1)).mono ?_
  rintro e' w2 ⟨rfl, hb2⟩
  have hB2 := hB1.trans (hb2.mono hB1.size)
  have hb02 := hb1.trans (hb2.mono hb1.size)
  have hs2 := hb02.size
  clear k0 k1 k2 k3 k4 k5 q0 q1 q2 q3
  rcases HSAY.out with ⟨er, hd⟩ | ⟨m, u, hm1, hm2, hd, hf1, hf2, hu⟩
  · rw [hd]
    clear hd
    have hB2' : Below w.heap.size w (w2.alloc (.cells #[.int .i64 0, .int .i64 0, .int .i64 0, .bool false] 48)) := by (repeat (first | exact Below.refl _ _ | assumption | refine Below.alloc ?_ (by first | exact Nat.le_refl _ | exact Below.size (by assumption) | omega | (simp <;> omega)) _ | refine Below.setCell ?_ (by first | exact Nat.le_refl _ | exact Below.size (by assumption) | omega | (simp <;> omega)) _ | refine below_drewN ?_ _ | refine Below.drew ?_))
    unfold zeroP
    by_cases her : er = 0
    · subst her
      go_wp2_with fail
      refine (nawake_any _).mono ?_
      rintro e' w7 ⟨rfl, hb7⟩
      go_wp2
      go_ret
      exact Ret.mk rfl (hB2'.trans (hb7.mono hB2'.size))
    · go_wp2_with fail
      refine (nawake_any _).mono ?_
      rintro e' w7 ⟨rfl, hb7⟩
      go_wp2
      go_ret
      exact Ret.mk rfl (hB2'.trans (hb7.mono hB2'.size))
  · rw [hd]
    clear hd
    have H1 := Lib.hid hf1; clear hf1
    have H2 := Lib.hid hf2; clear hf2
    have HU := Lib.hid hu; clear hu
    obtain ⟨w5, hw5⟩ : ∃ w5, w2.alloc (.cells #[.int .i64 p.part, .int .i64 p.X, .int .i64 (m : Int), .bool p.t] 48) = w5 := ⟨_, rfl⟩
    have hb25 : Below w2.heap.size w2 w5 := by rw [← hw5]; (repeat (first | exact Below.refl _ _ | assumption | refine Below.alloc ?_ (by first | exact Nat.le_refl _ | exact Below.size (by assumption) | omega | (simp <;> omega)) _ | refine Below.setCell ?_ (by first | exact Nat.le_refl _ | exact Below.size (by assumption) | omega | (simp <;> omega)) _ | refine below_drewN ?_ _ | refine Below.drew ?_))
    have hz25 : w5.heap.size = w2.heap.size + 1 := by rw [← hw5]; simp
    have HQ5 := Lib.hid (show Px w5 w2.heap.size (atY p (m : Int)) by rw [← hw5]; exact Px.new w2 (atY p (m : Int)))
    have hB5 := hB2.trans (hb25.mono hB2.size)
    have hb05 := hb02.trans (hb25.mono hb02.size)
    have HW5 := Lib.hid hw5; clear hw5
    unfold atY
    go_upto_region 6 with fail
    rw [HW5.out]
    clear HW5
    obtain ⟨k0, k1, k2, k3, k4, k5⟩ := HDK.out.below hb05 (by omega)
    obtain ⟨r0, r1, r2, r3⟩ := HQ5.out.c
    unfold atY at r0 r1 r2 r3
    dsimp only at r0 r1 r2 r3
    have hz5 : w.heap.size < w5.heap.size := by omega
    have hy5 : w2.heap.size < w5.heap.size := by omega
    go_wp2_with fail
    refine (Free_any b A A2 A3 c c2 c3 ps L (atY p (m : Int)) _ (HF.out.now hB5) (HP.out.now hB5) (HL.out.now hB5)).mono ?_
    rintro e' w6 ⟨rfl, hb6⟩
    rw [H1.out]
    have hB6 := hB5.trans (hb6.mono hB5.size)
    have hb06 := hb05.trans (hb6.mono hb05.size)
    have hs6 := hb6.size
    clear k0 k1 k2 k3 k4 k5 r0 r1 r2 r3
    have HQ6 := Lib.hid (HQ5.out.below hb6 (by omega))
    obtain ⟨q0, q1, q2, q3⟩ := HPL.out.below hb06 (by omega)
    obtain ⟨r0, r1, r2, r3⟩ := HQ6.out.c
    unfold atY at r0 r1 r2 r3
    dsimp only at r0 r1 r2 r3
    have hz6 : w.heap.size + 1 < w6.heap.size := by omega
    have hy6 : w2.heap.size < w6.heap.size := by omega
    have g1 : ¬ p.Y < (m : Int) := by omega
    have g2 : ¬ (m : Int) < 0 := by omega
    obtain ⟨w7, hw7⟩ : ∃ w7, w6.alloc (.cells #[.int .i64 p.part, .int .i64 p.X, .int .i64 ((m : Int) - 1), .bool p.t] 48) = w7 := ⟨_, rfl⟩
    have hb67 : Below w6.heap.size w6 w7 := by rw [← hw7]; (repeat (first | exact Below.refl _ _ | assumption | refine Below.alloc ?_ (by first | exact Nat.le_refl _ | exact Below.size (by assumption) | omega | (simp <;> omega)) _ | refine Below.setCell ?_ (by first | exact Nat.le_refl _ | exact Below.size (by assumption) | omega | (simp <;> omega)) _ | refine below_drewN ?_ _ | refine Below.drew ?_))
    have hz67 : w7.heap.size = w6.heap.size + 1 := by rw [← hw7]; simp
    have HV7 := Lib.hid (show Px w7 w6.heap.size (atY p ((m : Int) - 1)) by rw [← hw7]; exact Px.new w6 (atY p ((m : Int) - 1)))
    have hB7 := hB6.trans (hb67.mono hB6.size)
    have hb07 := hb06.trans (hb67.mono hb06.size)
    have HW7 := Lib.hid hw7; clear hw7
    go_upto_region 11 with fail
    rw [HW7.out]
    clear HW7 q0 q1 q2 q3 r0 r1 r2 r3
    obtain ⟨k0, k1, k2, k3, k4, k5⟩ := HDK.out.below hb07 (by omega)
    obtain ⟨v0, v1, v2, v3⟩ := HV7.out.c
    unfold atY at v0 v1 v2 v3
    dsimp only at v0 v1 v2 v3
    have hz7 : w.heap.size < w7.heap.size := by omega
    have hy7 : w6.heap.size < w7.heap.size := by omega
    go_wp2_with fail
    refine (Free_any b A A2 A3 c c2 c3 ps L (atY p ((m : Int) - 1)) _ (HF.out.now hB7) (HP.out.now hB7) (HL.out.now hB7)).mono ?_
    rintro e' w8 ⟨rfl, hb8⟩
    rw [H2.out]
    have hB8 := hB7.trans (hb8.mono hB7.size)
    have hb08 := hb07.trans (hb8.mono hb07.size)
    have hs8 := hb8.size
    have hb68 := hb67.trans (hb8.mono hb67.size)
    clear k0 k1 k2 k3 k4 k5 v0 v1 v2 v3
    have HQ8 := Lib.hid (HQ6.out.below hb68 (by omega))
    obtain ⟨q0, q1, q2, q3⟩ := HPL.out.below hb08 (by omega)
    obtain ⟨r0, r1, r2, r3⟩ := HQ8.out.c
    obtain ⟨f0, f1, f2, f3⟩ := HQ8.out.f
    obtain ⟨v0, v1, v2, v3⟩ := HV7.out.below hb8 (by omega) |>.c
    unfold atY at r0 r1 r2 r3 v0 v1 v2 v3
    dsimp only at r0 r1 r2 r3 v0 v1 v2 v3
    have hz8 : w.heap.size + 1 < w8.heap.size := by omega
    have hy8 : w2.heap.size < w8.heap.size := by omega
    have hx8 : w6.heap.size < w8.heap.size := by omega
    have hne1 : ¬ w2.heap.size = w.heap.size + 1 := by omega
    have hne2 : ¬ w6.heap.size = w2.heap.size := by omega
    have hBs : Below w.heap.size w (w8.setCell ⟨w2.heap.size, 2, none⟩ (.int .i64 p.Y)) := by (repeat (first | exact Below.refl _ _ | assumption | refine Below.alloc ?_ (by first | exact Nat.le_refl _ | exact Below.size (by assumption) | omega | (simp <;> omega)) _ | refine Below.setCell ?_ (by first | exact Nat.le_refl _ | exact Below.size (by assumption) | omega | (simp <;> omega)) _ | refine below_drewN ?_ _ | refine Below.drew ?_))
    cases m with
    | zero =>
      have v2' : w8.cell? ⟨w6.heap.size, 2, none⟩ = some (.int .i64 (-1)) := v2
      clear v2
      cases u
      all_goals
        go_wp2_with fail
        refine (nawake_any _).mono ?_
        rintro e' w9 ⟨rfl, hb9⟩
        go_wp2
        go_ret
        exact Ret.mk rfl (hBs.trans (hb9.mono hBs.size))
    | succ k =>
      obtain rfl : u = false := HU.out (by omega)
      go_wp2_with fail
      refine (nawake_any _).mono ?_
      rintro e' w9 ⟨rfl, hb9⟩
      go_wp2
      go_ret
      exact Ret.mk rfl (hBs.trans (hb9.mono hBs.size))
end Go.Proofs.Ytcbiehnaomcfbaa

/- In which grooves a lens sits, in the reference: the walk. -/
import Derived.Test.YtimehkeaeffcaaaW2
import Derived.Test.YtimehkeaeffcaaaW6b
import Derived.Test.YtimehkeaeffcaaaMath0
namespace Go.Proofs.Ytimehkeaeffcaaa
open Go.RowKit Go.Shelf

theorem validRB_len {l : List XY} (h : validRB l = true) : 3 ≤ l.length ∧ l.length ≤ 64 := by
  simp only [validRB, Bool.and_eq_true, decide_eq_true_eq] at h; exact ⟨h.1.1.1, h.1.1.2⟩

set_option maxRecDepth 100000 in
set_option maxHeartbeats 1000000 in
theorem seat2_any (A A2 : Option Addr) (c c2 : Nat) (lens groove : List XY) (play : Int) (w : World) (hl : Rd w w.heap.size A lens) (hl2 : Rd w w.heap.size A2 groove) :
    Calls Try.prog 15 #[.slice A lens.length c, .slice A2 groove.length c2, .int .i64 play] w (Ret (.tuple #[.bool (seat2S lens groove play).1, .int .i64 (seat2S lens groove play).2]) w) := by
  have HL := Lib.hid hl; clear hl
  have HL2 := Lib.hid hl2; clear hl2
  cases hv1 : validRB lens
  · have HS : Hid (seat2S lens groove play = (false, 10)) := by simp [Hid, seat2S, hv1]
    have HV1 := Lib.hid hv1; clear hv1
    go_enter Try.func15, Try.ntmps15
    go_wp2_with fail
    refine (validR_any A c lens _ HL.out).mono ?_
    rintro e w1 ⟨rfl, hb1⟩
    rw [HV1.out]
    go_wp2
    go_ret2
    exact Ret.mk (by rw [HS.out]; rfl) hb1
  cases hv2 : validRB groove
  · have HS : Hid (seat2S lens groove play = (false, 10)) := by simp [Hid, seat2S, hv2]
    have HV1 := Lib.hid hv1; clear hv1
    have HV2 := Lib.hid hv2; clear hv2
    go_enter Try.func15, Try.ntmps15
    go_wp2_with fail
    refine (validR_any A c lens _ HL.out).mono ?_
    rintro e w1 ⟨rfl, hb1⟩
    rw [HV1.out]
    go_wp2_with fail
    refine (validR_any A2 c2 groove _ (HL2.out.now hb1)).mono ?_
    rintro e w2 ⟨rfl, hb2⟩
    rw [HV2.out]
    go_wp2
    go_ret2
    exact Ret.mk (by rw [HS.out]; rfl) (hb1.trans (hb2.mono hb1.size))
  have hlen1 := validRB_len hv1
  have hlen2 := validRB_len hv2
  by_cases hp : play < 0 ∨ 1000 < play
  · have HS : Hid (seat2S lens groove play = (false, 2)) := by simp [Hid, seat2S, hv1, hv2, hp]
    have HV1 := Lib.hid hv1; clear hv1
    have HV2 := Lib.hid hv2; clear hv2
    rcases hp with hp | hp
    all_goals
      go_enter Try.func15, Try.ntmps15
      go_wp2_with fail
      refine (validR_any A c lens _ HL.out).mono ?_
      rintro e w1 ⟨rfl, hb1⟩
      rw [HV1.out]
      go_wp2_with fail
      refine (validR_any A2 c2 groove _ (HL2.out.now hb1)).mono ?_
      rintro e w2 ⟨rfl, hb2⟩
      rw [HV2.out]
      go_wp2
      go_ret2
      exact Ret.mk (by rw [HS.out]; rfl) (hb1.trans (hb2.mono hb1.size))
  have HS : Hid (seat2S lens groove play = (within2B lens groove && (List.range groove.length).all (seatAt lens groove play), 0)) := by simp [Hid, seat2S, hv1, hv2, hp]
  have hp0 : 0 ≤ play := by omega
  have hp1 : play ≤ 1000 := by omega
  clear hp
  have HV1 := Lib.hid hv1; clear hv1
  have HV2 := Lib.hid hv2; clear hv2
  have hpb1 : decide (play < 0) = false := decide_eq_false (by omega)
  have hpb2 : decide (1000 < play) = false := decide_eq_false (by omega)
  go_enter Try.func15, Try.ntmps15
  go_wp2_with fail
  refine (validR_any A c lens _ HL.out).mono ?_
  rintro e w1 ⟨rfl, hb1⟩
  rw [HV1.out]
  go_wp2_with fail
  refine (validR_any A2 c2 groove _ (HL2.out.now hb1)).mono ?_
  rintro e w2 ⟨rfl, hb2⟩
  rw [HV2.out]
  have hB2 := hb1.trans (hb2.mono hb1.size)
  clear hb1 hb2
  go_wp2
  go_loopw [8, 11, 12, 13, 30] (fun _ _ _ _ i wr => ∃ k : Nat, k ≤ groove.length ∧ i = .int .i64 k ∧ (∀ i, i < k → seatAt lens groove play i = true) ∧ Below w.heap.size w wr) (fun _ _ _ _ i _ => groove.length - (intOf i).toNat)
  case atStart => exact ⟨0, Nat.zero_le _, rfl, by simp, hB2⟩
  case round =>
    obtain ⟨k, hk, rfl, hno, hB⟩ := hrel
    have HN := Lib.hid hno; clear hno
    by_cases hlt : k < groove.length
    · obtain ⟨q, hq⟩ := getElem?_of_lt hlt
      obtain ⟨b, off, hA, hb, hcx, hcy⟩ := (HL2.out.below hB) k q hq
      subst hA
      have hlt2 : (k + 1) % groove.length < groove.length := Nat.mod_lt _ (by omega)
      obtain ⟨r, hr⟩ := getElem?_of_lt hlt2
      obtain ⟨b1, off1, hA, hb1, hdx, hdy⟩ := (HL2.out.below hB) _ r hr
      obtain ⟨rfl, rfl⟩ : b = b1 ∧ off = off1 := by simpa using hA
      clear hA
      have HQ := Lib.hid (cy_lt hq); clear hq
      have HR := Lib.hid (cy_of hr); clear hr
      have e2 : ((k : Int) + 1).tmod (groove.length : Int) = ((k : Int) + 1) % (groove.length : Int) := tmod_pos (by omega)
      obtain ⟨e4, e5⟩ := emod_bd (x := (k : Int) + 1) (n := groove.length) (by omega)
      have e6 : (((k : Int) + 1) % (groove.length : Int)).toNat = (k + 1) % groove.length := emod_toNat rfl
      have e3 : ¬ groove = [] := ne_nil_of_lt hlt
      have hbw : b < wr.heap.size := by have := hB.size; omega
      have hBw : Below wr.heap.size wr (wr.alloc (.cells #[.int .i64 q.X, .int .i64 q.Y] 37)) := by (repeat (first | exact Below.refl _ _ | assumption | refine Below.alloc ?_ (by first | exact Nat.le_refl _ | exact Below.size (by assumption) | omega | (simp <;> omega)) _ | refine Below.setCell ?_ (by first | exact Nat.le_refl _ | exact Below.size (by assumption) | omega | (simp <;> omega)) _ | refine below_drewN ?_ _ | refine Below.drew ?_))
      have cdx : (wr.alloc (.cells #[.int .i64 q.X, .int .i64 q.Y] 37)).cell? ⟨b, off + (k + 1) % groove.length * 2, none⟩ = some (.int .i64 r.X) := by rw [World.cell?_alloc_lt _ _ _ hbw]; exact hdx
      have cdy : (wr.alloc (.cells #[.int .i64 q.X, .int .i64 q.Y] 37)).cell? ⟨b, off + (k + 1) % groove.length * 2 + 1, none⟩ = some (.int .i64 r.Y) := by rw [World.cell?_alloc_lt _ _ _ hbw]; exact hdy
      go_wp2
      go_quiet (fail)
      obtain ⟨w4, hw4⟩ : ∃ w4 : World, ((wr.alloc (.cells #[.int .i64 q.X, .int .i64 q.Y] 37)).alloc (.cells #[.int .i64 r.X, .int .i64 r.Y] 37)).drewN nq = w4 := ⟨_, rfl⟩
      have hB4 : Below w.heap.size w w4 := hw4 ▸ below_drewN ((hB.alloc hB.size _).alloc (by have := hB.size; simp; omega) _) nq
      rw [hw4]
      clear hw4
      obtain ⟨u, hu⟩ : ∃ u, wrap64 (r.Y - q.Y) = u := ⟨_, rfl⟩
      obtain ⟨v, hv⟩ : ∃ v, wrap64 (q.X - r.X) = v := ⟨_, rfl⟩
      rw [hu, hv]
      have HU := Lib.hid hu; clear hu
      have HV := Lib.hid hv; clear hv
      go_wp2_with fail
      refine (far_any u v _ c2 groove _ (by omega) (by omega) (HL2.out.now hB4)).mono ?_
      rintro e w5 ⟨rfl, hb5⟩
      have hB5 := hB4.trans (hb5.mono hB4.size)
      go_wp2_with fail
      refine (far_any u v A c lens _ (by omega) (by omega) (HL.out.now hB5)).mono ?_
      rintro e w6 ⟨rfl, hb6⟩
      have hB6 := hB5.trans (hb6.mono hB5.size)
      clear hb5 hb6
      obtain ⟨g, hg⟩ : ∃ g, wrap64 (farW u v groove - farW u v lens) = g := ⟨_, rfl⟩
      have HSA : Hid (seatAt lens groove play k = !decide (wrap64 (wrap64 (play * play) * wrap64 (wrap64 (u * u) + wrap64 (v * v))) < wrap64 (g * g))) := by
        unfold seatAt; rw [HQ.out, HR.out, HU.out, HV.out]; dsimp only; rw [hg]; exact rfl
      by_cases hbad : wrap64 (wrap64 (play * play) * wrap64 (wrap64 (u * u) + wrap64 (v * v))) < wrap64 (g * g)
      · have HD := Lib.hid (decide_eq_true hbad)
        go_wp2
        go_ret2
        have hall : (List.range groove.length).all (seatAt lens groove play) = false := all_range_false hlt (by rw [HSA.out, HD.out]; rfl)
        exact Ret.mk (by rw [HS.out, hall, Bool.and_false]; rfl) hB6
      · have HD := Lib.hid (decide_eq_false hbad)
        go_wp2
        go_roundw
        case rel => exact ⟨k + 1, by omega, by go_num, all_range_succ HN.out (by rw [HSA.out, HD.out]; rfl), hB6⟩
        case measure => simp [intOf]; omega
    · obtain rfl : k = groove.length := by omega
      have hall : (List.range groove.length).all (seatAt lens groove play) = true := all_range_true HN.out
      have HALL := Lib.hid hall; clear hall
      go_wp2_with fail
      refine (within2_any A A2 c c2 lens groove _ (by omega) (by omega) (HL.out.now hB) (HL2.out.now hB)).mono ?_
      rintro e w3 ⟨rfl, hb3⟩
      go_wp2
      go_ret2
      exact Ret.mk (by rw [HS.out, HALL.out, Bool.and_true]; rfl) (hB.trans (hb3.mono hB.size))
end Go.Proofs.Ytimehkeaeffcaaa

/- Blocks: Layer: the walk. -/
import Derived.Test.YtbcnkcndhgihaaaDoorSL1
namespace Go.Proofs.YtbcnkcndhgihaaaDoor
open Go.RowKit
set_option linter.unusedSimpArgs false

/-- What Layer returns. -/
def layerB (b : BT) (a n : Int) : List ByteArray × Int := match formS b with
  | .error x => ([], x)
  | .ok s => if 0 ≤ a ∧ a ≤ 2 ∧ 0 ≤ n ∧ n < s.ext.get a then (layerS s a n, 0) else ([], 2)
/-- A list of texts and an error are returned. -/
def RetTE (l : List ByteArray) (er : Int) (w : World) (e : Ending) (w' : World) : Prop := ∃ A c, e = .returned (.tuple #[.slice A l.length c, .int .i64 er]) ∧ RdST w' w'.heap.size A l ∧ l.length ≤ c ∧ Below w.heap.size w w'
theorem retTE_nil {l : List ByteArray} {er : Int} {w w' : World} (hl : l = []) (hb : Below w.heap.size w w') : RetTE l er w (.returned (.tuple #[.slice none 0 0, .int .i64 er])) w' := by
  subst hl
  exact ⟨none, 0, rfl, fun i p hp => by simp at hp, Nat.le_refl _, hb⟩
set_option maxRecDepth 100000 in
set_option maxHeartbeats 4000000 in
theorem Layer_any (b : BT) (a n : Int) (hn : -9223372036854775808 ≤ n ∧ n ≤ 9223372036854775807) (w : World) (hb : OkB w w.heap.size b) : Calls Tryd.prog 22 #[valB b, .int .i64 a, .int .i64 n] w (RetTE (layerB b a n).1 (layerB b a n).2 w) := by
  have HB := Lib.hid hb
  clear hb
  go_enter Tryd.func22, Tryd.ntmps22
  go_wp2_with fail
  refine (form_any b _ (HB.out.now (by (repeat (first | exact Below.refl _ _ | assumption | refine Below.alloc ?_ (by first | exact Nat.le_refl _ | exact Below.size (by assumption) | omega | (simp <;> omega)) _ | refine Below.setCell ?_ (by first | exact Nat.le_refl _ | exact Below.size (by assumption) | omega | (simp <;> omega)) _ | refine below_drewN ?_ _ | refine Below.drew ?_))))).mono ?_
  rintro e w2 ⟨hb2, v, er, rfl, hok, her⟩
  have hB2 : Below w.heap.size w w2 := below_next (by (repeat (first | exact Below.refl _ _ | assumption | refine Below.alloc ?_ (by first | exact Nat.le_refl _ | exact Below.size (by assumption) | omega | (simp <;> omega)) _ | refine Below.setCell ?_ (by first | exact Nat.le_refl _ | exact Below.size (by assumption) | omega | (simp <;> omega)) _ | refine below_drewN ?_ _ | refine Below.drew ?_))) hb2
  clear hb2
  cases hf : formS b with
  | error x =>
    obtain rfl := her x hf
    have hx := form_err hf
    have hne : (er != 0) = true := by simp; omega
    have HS : Hid (layerB b a n = ([], er)) := by show _ = _; unfold layerB; rw [hf]
    clear hok her hf hx
    go_wp2
    go_ret2
    rw [HS.out]
    exact retTE_nil rfl hB2
  | ok s =>
    obtain ⟨rfl, rfl⟩ := hok s hf
    have HOK := Lib.hid (form_ok hf)
    have HS : Hid (layerB b a n = if 0 ≤ a ∧ a ≤ 2 ∧ 0 ≤ n ∧ n < s.ext.get a then (layerS s a n, 0) else ([], 2)) := by show _ = _; unfold layerB; rw [hf]
    clear hok her hf
    by_cases ha : 0 ≤ a ∧ a ≤ 2
    · have hb1 : btw 0 a 2 = true := by unfold btw; simp; exact ha
      have hbd := HOK.out.ext
      obtain ⟨T, hT⟩ : ∃ T, s.ext = T := ⟨_, rfl⟩
      obtain ⟨t1, t2, t3⟩ := T
      have hx := s.me
      rw [hT] at hx hbd HS
      unfold ExtOk at hbd
      dsimp only at hbd
      have i0 := ix0 t1 t2 t3
      have i1 := ix1 t1 t2 t3
      have i2 := ix2 t1 t2 t3
      have ha3 : a = 0 ∨ a = 1 ∨ a = 2 := by omega
      clear ha
      have hw1 : wrap64 (t1 - 1) = t1 - 1 := w64b (by omega) (by omega)
      have hw2 : wrap64 (t2 - 1) = t2 - 1 := w64b (by omega) (by omega)
      have hw3 : wrap64 (t3 - 1) = t3 - 1 := w64b (by omega) (by omega)
      have HT := Lib.hid hT
      clear hT hbd
      rcases ha3 with rfl | rfl | rfl
      · by_cases hnn : 0 ≤ n ∧ n < t1
        · have hb2 : btw 0 n (t1 - 1) = true := by unfold btw; simp; omega
          have HS2 := Lib.hid (HS.out.trans (if_pos ⟨by omega, by omega, hnn.1, hnn.2⟩))
          have HL := Lib.hid (fun w => layer0_any s HOK.out 0 n (Lib.hid rfl) hnn.1 (by rw [HT.out]; exact hnn.2) w)
          clear hnn HS
          go_wp2_with fail
          refine (between_any _ _ _ _).mono ?_
          rintro e w9 ⟨rfl, rfl⟩
          rw [hb1]
          go_wp2_with fail
          refine (ext_ret ⟨t1, t2, t3⟩ _).mono ?_
          rintro e w3 ⟨rfl, hb3⟩
          have hB3 := below_next hB2 hb3
          go_wp2_with fail
          refine (between_any _ _ _ _).mono ?_
          rintro e w9 ⟨rfl, rfl⟩
          rw [hb2]
          go_wp2_with fail
          refine (HL.out _).mono ?_
          rintro e w4 ⟨A, c, rfl, hr, hc, hb4⟩
          have HR := Lib.hid hr
          have HC := Lib.hid hc
          have hB4 := below_next hB3 hb4
          clear hr hc
          go_wp2
          go_ret2
          rw [HS2.out]
          exact ⟨A, c, rfl, HR.out, HC.out, hB4⟩
        · have hb2 : btw 0 n (t1 - 1) = false := by unfold btw; simp; omega
          have HS2 := Lib.hid (HS.out.trans (if_neg (by simp [T3.get]; omega)))
          clear hnn HS
          go_wp2_with fail
          refine (between_any _ _ _ _).mono ?_
          rintro e w9 ⟨rfl, rfl⟩
          rw [hb1]
          go_wp2_with fail
          refine (ext_ret ⟨t1, t2, t3⟩ _).mono ?_
          rintro e w3 ⟨rfl, hb3⟩
          have hB3 := below_next hB2 hb3
          go_wp2_with fail
          refine (between_any _ _ _ _).mono ?_
          rintro e w9 ⟨rfl, rfl⟩
          rw [hb2]
          go_wp2
          go_ret2
          rw [HS2.out]
          exact retTE_nil rfl hB3
      · by_cases hnn : 0 ≤ n ∧ n < t2
        · have hb2 : btw 0 n (t2 - 1) = true := by unfold btw; simp; omega
          have HS2 := Lib.hid (HS.out.trans (if_pos ⟨by omega, by omega, hnn.1, hnn.2⟩))
          have HL := Lib.hid (fun w => layer1_any s HOK.out 1 n (Lib.hid rfl) hnn.1 (by rw [HT.out]; exact hnn.2) w)
          clear hnn HS
          go_wp2_with fail
          refine (between_any _ _ _ _).mono ?_
          rintro e w9 ⟨rfl, rfl⟩
          rw [hb1]
          go_wp2_with fail
          refine (ext_ret ⟨t1, t2, t3⟩ _).mono ?_
          rintro e w3 ⟨rfl, hb3⟩
          have hB3 := below_next hB2 hb3
          go_wp2_with fail
          refine (between_any _ _ _ _).mono ?_
          rintro e w9 ⟨rfl, rfl⟩
          rw [hb2]
          go_wp2_with fail
          refine (HL.out _).mono ?_
          rintro e w4 ⟨A, c, rfl, hr, hc, hb4⟩
          have HR := Lib.hid hr
          have HC := Lib.hid hc
          have hB4 := below_next hB3 hb4
          clear hr hc
          go_wp2
          go_ret2
          rw [HS2.out]
          exact ⟨A, c, rfl, HR.out, HC.out, hB4⟩
        · have hb2 : btw 0 n (t2 - 1) = false := by unfold btw; simp; omega
          have HS2 := Lib.hid (HS.out.trans (if_neg (by simp [T3.get]; omega)))
          clear hnn HS
          go_wp2_with fail
          refine (between_any _ _ _ _).mono ?_
          rintro e w9 ⟨rfl, rfl⟩
          rw [hb1]
          go_wp2_with fail
          refine (ext_ret ⟨t1, t2, t3⟩ _).mono ?_
          rintro e w3 ⟨rfl, hb3⟩
          have hB3 := below_next hB2 hb3
          go_wp2_with fail
          refine (between_any _ _ _ _).mono ?_
          rintro e w9 ⟨rfl, rfl⟩
          rw [hb2]
          go_wp2
          go_ret2
          rw [HS2.out]
          exact retTE_nil rfl hB3
      · by_cases hnn : 0 ≤ n ∧ n < t3
        · have hb2 : btw 0 n (t3 - 1) = true := by unfold btw; simp; omega
          have HS2 := Lib.hid (HS.out.trans (if_pos ⟨by omega, by omega, hnn.1, hnn.2⟩))
          have HL := Lib.hid (fun w => layer2_any s HOK.out 2 n (Lib.hid rfl) hnn.1 (by rw [HT.out]; exact hnn.2) w)
          clear hnn HS
          go_wp2_with fail
          refine (between_any _ _ _ _).mono ?_
          rintro e w9 ⟨rfl, rfl⟩
          rw [hb1]
          go_wp2_with fail
          refine (ext_ret ⟨t1, t2, t3⟩ _).mono ?_
          rintro e w3 ⟨rfl, hb3⟩
          have hB3 := below_next hB2 hb3
          go_wp2_with fail
          refine (between_any _ _ _ _).mono ?_
          rintro e w9 ⟨rfl, rfl⟩
          rw [hb2]
          go_wp2_with fail
          refine (HL.out _).mono ?_
          rintro e w4 ⟨A, c, rfl, hr, hc, hb4⟩
          have HR := Lib.hid hr
          have HC := Lib.hid hc
          have hB4 := below_next hB3 hb4
          clear hr hc
          go_wp2
          go_ret2
          rw [HS2.out]
          exact ⟨A, c, rfl, HR.out, HC.out, hB4⟩
        · have hb2 : btw 0 n (t3 - 1) = false := by unfold btw; simp; omega
          have HS2 := Lib.hid (HS.out.trans (if_neg (by simp [T3.get]; omega)))
          clear hnn HS
          go_wp2_with fail
          refine (between_any _ _ _ _).mono ?_
          rintro e w9 ⟨rfl, rfl⟩
          rw [hb1]
          go_wp2_with fail
          refine (ext_ret ⟨t1, t2, t3⟩ _).mono ?_
          rintro e w3 ⟨rfl, hb3⟩
          have hB3 := below_next hB2 hb3
          go_wp2_with fail
          refine (between_any _ _ _ _).mono ?_
          rintro e w9 ⟨rfl, rfl⟩
          rw [hb2]
          go_wp2
          go_ret2
          rw [HS2.out]
          exact retTE_nil rfl hB3
    · have hb1 : btw 0 a 2 = false := by unfold btw; simp; omega
      have HS2 := Lib.hid (HS.out.trans (if_neg (by omega)))
      clear ha HS
      go_wp2_with (first | (refine (between_any _ _ _ _).mono ?_; rintro e w9 ⟨rfl, hw9⟩; subst hw9; rw [hb1]))
      go_ret2
      rw [HS2.out]
      exact retTE_nil rfl hB2
end Go.Proofs.YtbcnkcndhgihaaaDoor

/- Blocks: the reference's measured, Extent, Check: the walks. -/
import Derived.Test.YtbcnkcndhgihaaaDoorSC6a
import Derived.Test.YtbcnkcndhgihaaaDoorSC6b
import Derived.Test.YtbcnkcndhgihaaaDoorSC6c
import Derived.Test.YtbcnkcndhgihaaaDoorSC6d
namespace Go.Proofs.YtbcnkcndhgihaaaDoor
open Go.RowKit
set_option linter.unusedSimpArgs false

theorem meas_any : ∀ (b : BT) (w : World), wholeS b = true → OkB w w.heap.size b → Calls Tryd.prog 55 #[valB b] w (Ret (.tuple #[val3 (measB b).1, .int .i64 (measB b).2]) w) := by
  refine BT.ind (P := fun b => ∀ (w : World), wholeS b = true → OkB w w.heap.size b → Calls Tryd.prog 55 #[valB b] w (Ret (.tuple #[val3 (measB b).1, .int .i64 (measB b).2]) w)) ?_
  intro b ih w hw hb
  have ih2 : ∀ p ∈ b.ps, ∀ (w : World), OkB w w.heap.size p → Calls Tryd.prog 55 #[valB p] w (Ret (.tuple #[val3 (measB p).1, .int .i64 (measB p).2]) w) := fun p hp w h => ih p hp w ((whole_parts hw).2 p hp) h
  rcases one_facts (whole_parts hw).1 with ⟨o, _⟩ | ⟨_, _, _, ⟨o, _⟩ | ⟨p, _, ⟨o, _⟩ | ⟨o, _⟩ | ⟨o, _⟩ | ⟨o, _⟩⟩⟩
  · exact meas_flat b w (.inl o) hw hb ih2
  · exact meas_stack b w o hw hb ih2
  · exact meas_flat b w (.inr (.inr o)) hw hb ih2
  · exact meas_slice b w o hw hb ih2
  · exact meas_flat b w (.inr (.inl o)) hw hb ih2
  · exact meas_rep b w o hw hb ih2
theorem ext_form {b : BT} {x : T3 × Int} (h : extB b = x) : checkB b = x.2 := by
  unfold extB at h
  unfold checkB
  cases hf : formS b with
  | error e => rw [hf] at h; rw [← h]
  | ok s => rw [hf] at h; rw [← h]
set_option maxRecDepth 100000 in
set_option maxHeartbeats 2000000 in
theorem refExtent_any (b : BT) (w : World) (hb : OkB w w.heap.size b) : Calls Tryd.prog 16 #[valB b] w (Ret (.tuple #[val3 (extB b).1, .int .i64 (extB b).2]) w) := by
  obtain ⟨wa, hwa⟩ : ∃ wa, (w.alloc (.cells #[.int .i64 b.op, .int .i64 b.ax, .int .u8 b.co, .int .i64 b.n0, .int .i64 b.n1, .int .i64 b.n2, .slice b.A b.ps.length b.cp] 25)).alloc (.cells #[.int .i64 0, .int .i64 0, .int .i64 0] 22) = wa := ⟨_, rfl⟩
  have hBa : Below w.heap.size w wa := by rw [← hwa]; (repeat (first | exact Below.refl _ _ | assumption | refine Below.alloc ?_ (by first | exact Nat.le_refl _ | exact Below.size (by assumption) | omega | (simp <;> omega)) _ | refine Below.setCell ?_ (by first | exact Nat.le_refl _ | exact Below.size (by assumption) | omega | (simp <;> omega)) _ | refine below_drewN ?_ _ | refine Below.drew ?_))
  have hza : wa.heap.size = w.heap.size + 2 := by rw [← hwa]; simp
  have HXA : Hid (∀ W, Below wa.heap.size wa W → BxB W w.heap.size b ∧ CX W (w.heap.size + 1) ⟨0, 0, 0⟩) := by
    intro W hW
    have h1 := bx_two b w ⟨0, 0, 0⟩
    have h2 := CX.new (w.alloc (.cells #[.int .i64 b.op, .int .i64 b.ax, .int .u8 b.co, .int .i64 b.n0, .int .i64 b.n1, .int .i64 b.n2, .slice b.A b.ps.length b.cp] 25)) ⟨0, 0, 0⟩
    rw [hwa] at h2
    rw [World.size_alloc] at h2
    dsimp only at h1
    rw [hwa] at h1
    exact ⟨h1.under hW (by omega), h2.below hW (by omega)⟩
  have HL := Lib.hid (fun W (hB : Below w.heap.size w W) => Level_any b W (hb.now hB))
  have HA := Lib.hid (fun W (hB : Below w.heap.size w W) => allFormed_any b W (hb.now hB))
  have HM := Lib.hid (fun W (hB : Below w.heap.size w W) (h : wholeS b = true) => meas_any b W h (hb.now hB))
  have HLE := Lib.hid (level_eq b)
  clear hb
  have HWA := Lib.hid hwa
  clear hwa
  obtain ⟨⟨f0, f1, f2, f3, f4, f5, f6⟩, _⟩ := HXA.out wa (Below.refl _ _)
  obtain ⟨v, hv⟩ : ∃ v, levelS 17 b = v := ⟨_, rfl⟩
  have HLE2 : Hid (decide (16 < v) = deepS 16 b) := by rw [← hv]; exact HLE.out
  rw [hv] at HL
  clear hv HLE
  have hlt0 : w.heap.size + 1 < wa.heap.size := by omega
  by_cases h16 : 16 < v
  · have HS : Hid (extB b = (⟨0, 0, 0⟩, 4)) := by
      show _ = _
      unfold extB formS
      rw [← HLE2.out, decide_eq_true h16]; rfl
    go_enter Tryd.func16, Tryd.ntmps16
    go_wp2_with fail
    rw [HWA.out]
    refine (HL.out _ hBa).mono ?_
    rintro e w2 ⟨rfl, hb2⟩
    obtain ⟨_, hX⟩ := HXA.out w2 hb2
    obtain ⟨x0, x1, x2, x3, x4, x5⟩ := hX.c
    obtain ⟨y0, y1, y2, _⟩ := (hX.put ⟨0, 0, 0⟩).c
    have hB2 := hBa.trans (hb2.mono hBa.size)
    have hs2 := hB2.size
    go_wp2
    refine bodyPost_ret (v := .tuple #[val3 ⟨0, 0, 0⟩, .int .i64 4]) (by simp [results, Tryd.results16, go_sem, y0, y1, y2]) rfl ?_
    exact Ret.mk (by rw [HS.out]) (by (repeat (first | exact Below.refl _ _ | assumption | refine Below.alloc ?_ (by first | exact Nat.le_refl _ | exact Below.size (by assumption) | omega | (simp <;> omega)) _ | refine Below.setCell ?_ (by first | exact Nat.le_refl _ | exact Below.size (by assumption) | omega | (simp <;> omega)) _ | refine below_drewN ?_ _ | refine Below.drew ?_)))
  · have HD : Hid (deepS 16 b = false) := by show _ = _; rw [← HLE2.out]; exact decide_eq_false h16
    cases hw : wholeS b
    · have HS : Hid (extB b = (⟨0, 0, 0⟩, 20)) := by
        show _ = _
        unfold extB formS
        rw [HD.out, hw]; rfl
      rw [hw] at HA
      clear hw
      go_enter Tryd.func16, Tryd.ntmps16
      go_wp2_with fail
      rw [HWA.out]
      refine (HL.out _ hBa).mono ?_
      rintro e w2 ⟨rfl, hb2⟩
      clear f0 f1 f2 f3 f4 f5 f6
      obtain ⟨⟨f0, f1, f2, f3, f4, f5, f6⟩, _⟩ := HXA.out w2 hb2
      have hB2 := hBa.trans (hb2.mono hBa.size)
      go_wp2_with fail
      refine (HA.out _ hB2).mono ?_
      rintro e w3 ⟨rfl, hb3⟩
      have hba3 := hb2.trans (hb3.mono hb2.size)
      obtain ⟨_, hX⟩ := HXA.out w3 hba3
      obtain ⟨x0, x1, x2, x3, x4, x5⟩ := hX.c
      obtain ⟨y0, y1, y2, _⟩ := (hX.put ⟨0, 0, 0⟩).c
      have hB3 := hBa.trans (hba3.mono hBa.size)
      have hs3 := hB3.size
      clear f0 f1 f2 f3 f4 f5 f6
      go_wp2
      refine bodyPost_ret (v := .tuple #[val3 ⟨0, 0, 0⟩, .int .i64 20]) (by simp [results, Tryd.results16, go_sem, y0, y1, y2]) rfl ?_
      exact Ret.mk (by rw [HS.out]) (by (repeat (first | exact Below.refl _ _ | assumption | refine Below.alloc ?_ (by first | exact Nat.le_refl _ | exact Below.size (by assumption) | omega | (simp <;> omega)) _ | refine Below.setCell ?_ (by first | exact Nat.le_refl _ | exact Below.size (by assumption) | omega | (simp <;> omega)) _ | refine below_drewN ?_ _ | refine Below.drew ?_)))
    · have HS : Hid (extB b = measB b) := by
        show _ = _
        unfold extB formS measB
        rw [HD.out, hw]; rfl
      have HM2 := Lib.hid (fun W hB => HM.out W hB hw)
      rw [hw] at HA
      clear hw HM
      obtain ⟨M, hM⟩ : ∃ M, measB b = M := ⟨_, rfl⟩
      rw [hM] at HS HM2
      obtain ⟨T, er⟩ := M
      obtain ⟨t1, t2, t3⟩ := T
      clear hM
      go_enter Tryd.func16, Tryd.ntmps16
      go_wp2_with fail
      rw [HWA.out]
      refine (HL.out _ hBa).mono ?_
      rintro e w2 ⟨rfl, hb2⟩
      clear f0 f1 f2 f3 f4 f5 f6
      obtain ⟨⟨f0, f1, f2, f3, f4, f5, f6⟩, _⟩ := HXA.out w2 hb2
      have hB2 := hBa.trans (hb2.mono hBa.size)
      go_wp2_with fail
      refine (HA.out _ hB2).mono ?_
      rintro e w3 ⟨rfl, hb3⟩
      have hba3 := hb2.trans (hb3.mono hb2.size)
      clear f0 f1 f2 f3 f4 f5 f6
      obtain ⟨⟨f0, f1, f2, f3, f4, f5, f6⟩, _⟩ := HXA.out w3 hba3
      have hB3 := hBa.trans (hba3.mono hBa.size)
      go_wp2_with fail
      refine (HM2.out _ hB3).mono ?_
      rintro e w4 ⟨rfl, hb4⟩
      have hba4 := hba3.trans (hb4.mono hba3.size)
      obtain ⟨_, hX⟩ := HXA.out w4 hba4
      obtain ⟨x0, x1, x2, x3, x4, x5⟩ := hX.c
      obtain ⟨y0, y1, y2, _⟩ := (hX.put ⟨t1, t2, t3⟩).c
      have hB4 := hBa.trans (hba4.mono hBa.size)
      have hs4 := hB4.size
      clear f0 f1 f2 f3 f4 f5 f6
      go_wp2
      refine bodyPost_ret (v := .tuple #[val3 ⟨t1, t2, t3⟩, .int .i64 er]) (by simp [results, Tryd.results16, go_sem, y0, y1, y2]) rfl ?_
      exact Ret.mk (by rw [HS.out]) (by (repeat (first | exact Below.refl _ _ | assumption | refine Below.alloc ?_ (by first | exact Nat.le_refl _ | exact Below.size (by assumption) | omega | (simp <;> omega)) _ | refine Below.setCell ?_ (by first | exact Nat.le_refl _ | exact Below.size (by assumption) | omega | (simp <;> omega)) _ | refine below_drewN ?_ _ | refine Below.drew ?_)))
theorem refCheck_any (b : BT) (w : World) (hb : OkB w w.heap.size b) : Calls Tryd.prog 18 #[valB b] w (Ret (.int .i64 (checkB b)) w) := by
  obtain ⟨M, hM⟩ : ∃ M, extB b = M := ⟨_, rfl⟩
  have HE := Lib.hid (refExtent_any b _ (hb.now (w' := w.alloc (.cells #[.int .i64 b.op, .int .i64 b.ax, .int .u8 b.co, .int .i64 b.n0, .int .i64 b.n1, .int .i64 b.n2, .slice b.A b.ps.length b.cp] 25)) (by (repeat (first | exact Below.refl _ _ | assumption | refine Below.alloc ?_ (by first | exact Nat.le_refl _ | exact Below.size (by assumption) | omega | (simp <;> omega)) _ | refine Below.setCell ?_ (by first | exact Nat.le_refl _ | exact Below.size (by assumption) | omega | (simp <;> omega)) _ | refine below_drewN ?_ _ | refine Below.drew ?_)))))
  have HC := Lib.hid (ext_form hM)
  rw [hM] at HE
  obtain ⟨T, er⟩ := M
  clear hM hb
  go_enter Tryd.func18, Tryd.ntmps18
  go_wp2_with fail
  refine HE.out.mono ?_
  rintro e w2 ⟨rfl, hb2⟩
  have hB2 : Below w.heap.size w w2 := below_next (by (repeat (first | exact Below.refl _ _ | assumption | refine Below.alloc ?_ (by first | exact Nat.le_refl _ | exact Below.size (by assumption) | omega | (simp <;> omega)) _ | refine Below.setCell ?_ (by first | exact Nat.le_refl _ | exact Below.size (by assumption) | omega | (simp <;> omega)) _ | refine below_drewN ?_ _ | refine Below.drew ?_))) hb2
  go_wp2
  go_ret
  exact Ret.mk (by rw [HC.out]; rfl) (by (repeat (first | exact Below.refl _ _ | assumption | refine Below.alloc ?_ (by first | exact Nat.le_refl _ | exact Below.size (by assumption) | omega | (simp <;> omega)) _ | refine Below.setCell ?_ (by first | exact Nat.le_refl _ | exact Below.size (by assumption) | omega | (simp <;> omega)) _ | refine below_drewN ?_ _ | refine Below.drew ?_)))
end Go.Proofs.YtbcnkcndhgihaaaDoor

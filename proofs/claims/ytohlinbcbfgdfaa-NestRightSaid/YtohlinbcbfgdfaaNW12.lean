/- Which boards and parts are valid, in the reference: the walks. -/
import Derived.Test.YtohlinbcbfgdfaaMathND
namespace Go.Proofs.Ytohlinbcbfgdfaa
open Go.RowKit

set_option maxRecDepth 100000 in
set_option maxHeartbeats 2000000 in
theorem validBoard_any (b : BD) (A : Option Addr) (c : Nat) (w : World) (hF : RdR w w.heap.size A b.F) :
    Calls Try.prog 94 #[bdv b A c] w (Ret (.bool (boardB b)) w) := by
  have HE := Lib.hid (board_eq b)
  have HF := Lib.hid hF; clear hF
  obtain ⟨w0, hw0⟩ : ∃ w0, w.alloc (.cells #[.int .i64 b.W, .int .i64 b.H, .int .i64 b.G, .slice A b.F.length c] 24) = w0 := ⟨_, rfl⟩
  have hB0 : Below w.heap.size w w0 := by rw [← hw0]; (repeat (first | exact Below.refl _ _ | assumption | refine Below.alloc ?_ (by first | exact Nat.le_refl _ | exact Below.size (by assumption) | omega | (simp <;> omega)) _ | refine Below.setCell ?_ (by first | exact Nat.le_refl _ | exact Below.size (by assumption) | omega | (simp <;> omega)) _ | refine below_drewN ?_ _ | refine Below.drew ?_))
  have hz0 : w0.heap.size = w.heap.size + 1 := by rw [← hw0]; simp
  have HBD := Lib.hid (show BdAt w0 w.heap.size b A c by rw [← hw0]; exact BdAt.new w b A c)
  obtain ⟨k0, k1, k2, k3⟩ := HBD.out
  go_enter Try.func94, Try.ntmps94
  go_wp2
  all_goals first
    | (go_ret
       have HS : Hid (boardB b = false) := by
         rw [Hid, ← HE.out]; simp only [board2B, betw, Bool.and_eq_false_iff, Bool.not_eq_false', decide_eq_false_iff_not]; omega
       exact Ret.mk (by rw [HS.out]; rfl) hB0)
    | skip
  have g : 1 ≤ b.W ∧ b.W ≤ 60000 ∧ 1 ≤ b.H ∧ b.H ≤ 60000 ∧ 0 ≤ b.G ∧ b.G ≤ 2000 ∧ b.F.length ≤ 10 := by omega
  obtain ⟨g0, g1, g2, g3, g4, g5, g6⟩ := g
  have HS : Hid (boardB b = !b.F.any (rcBad b.W b.H)) := by
    simp only [Hid, boardB, betw, decide_eq_true g0, decide_eq_true g1, decide_eq_true g2, decide_eq_true g3, decide_eq_true g4, decide_eq_true g5, decide_eq_true g6, Bool.and_true, Bool.true_and]
  have HRC := Lib.hid (fun r => rcBad_eq g0 g1 g2 g3 r)
  clear hw0 g4 g5
  go_loopw [4, 42] (fun _ i wr => ∃ k : Nat, k ≤ b.F.length ∧ i = .int .i64 k ∧ (∀ x ∈ b.F.take k, rcBad b.W b.H x = false) ∧ Below w0.heap.size w0 wr) (fun _ i _ => b.F.length - (intOf i).toNat)
  case atStart => exact ⟨0, Nat.zero_le _, rfl, by simp, Below.refl _ _⟩
  case round =>
    obtain ⟨k, hk, rfl, hno, hB⟩ := hrel
    have HN := Lib.hid hno; clear hno
    have hBw := hB0.trans (hB.mono hB0.size)
    by_cases hlt : k < b.F.length
    · obtain ⟨q, hq⟩ := getElem?_of_lt hlt
      obtain ⟨bb, off, hA, hbb, d0, d1, d2, d3⟩ := (HF.out.below hBw) k q hq
      subst hA
      have HQ := Lib.hid hq; clear hq
      have hsB := hB.size
      clear k0 k1 k2 k3
      obtain ⟨k0, k1, k2, k3⟩ := HBD.out.below hB (by omega)
      have hww : w.heap.size < wr.heap.size := by omega
      have hrc := HRC.out q
      unfold rcBad2 at hrc
      have HC := Lib.hid hrc; clear hrc
      have HM : Hid ((q.W < 1 ∨ b.W < q.W ∨ wrap64 (b.W - q.W) = b.W - q.W) ∧ (q.H < 1 ∨ b.H < q.H ∨ wrap64 (b.H - q.H) = b.H - q.H)) := by
        constructor
        · by_cases h : 1 ≤ q.W ∧ q.W ≤ b.W
          · exact .inr (.inr (w64_id (by omega) (by omega)))
          · omega
        · by_cases h : 1 ≤ q.H ∧ q.H ≤ b.H
          · exact .inr (.inr (w64_id (by omega) (by omega)))
          · omega
      go_wp2
      all_goals first
        | (go_ret
           have hbad : rcBad b.W b.H q = true := by have hm := HM.out; rw [← HC.out, decide_eq_true_eq]; omega
           have HAN := Lib.hid (List.any_eq_true.2 ⟨q, List.mem_of_getElem? HQ.out, hbad⟩ : b.F.any (rcBad b.W b.H) = true)
           exact Ret.mk (by rw [HS.out, HAN.out]; rfl) (by (repeat (first | exact Below.refl _ _ | assumption | refine Below.alloc ?_ (by first | exact Nat.le_refl _ | exact Below.size (by assumption) | omega | (simp <;> omega)) _ | refine Below.setCell ?_ (by first | exact Nat.le_refl _ | exact Below.size (by assumption) | omega | (simp <;> omega)) _ | refine below_drewN ?_ _ | refine Below.drew ?_))))
        | skip
      have hok : rcBad b.W b.H q = false := by have hm := HM.out; rw [← HC.out, decide_eq_false_iff_not]; omega
      have HOK := Lib.hid hok; clear hok
      go_roundw
      case rel => exact ⟨k + 1, by omega, by go_num, noG_take_succ HN.out HQ.out HOK.out, by (repeat (first | exact Below.refl _ _ | assumption | refine Below.alloc ?_ (by first | exact Nat.le_refl _ | exact Below.size (by assumption) | omega | (simp <;> omega)) _ | refine Below.setCell ?_ (by first | exact Nat.le_refl _ | exact Below.size (by assumption) | omega | (simp <;> omega)) _ | refine below_drewN ?_ _ | refine Below.drew ?_))⟩
      case measure => simp [intOf]; omega
    · obtain rfl : k = b.F.length := by omega
      have hany : b.F.any (rcBad b.W b.H) = false := by
        rw [List.any_eq_false]
        intro x hx
        rw [HN.out x (by rw [List.take_length]; exact hx)]
        simp
      have HAN := Lib.hid hany; clear hany
      go_wp2
      go_ret
      exact Ret.mk (by rw [HS.out, HAN.out]; rfl) hBw

set_option maxRecDepth 100000 in
set_option maxHeartbeats 1000000 in
theorem validParts_any (A : Option Addr) (c : Nat) (ps : List PT) (w : World) (hm : ps.length ≤ Go.maxLen) (hp : RdPP w w.heap.size A ps) :
    Calls Try.prog 95 #[.slice A ps.length c] w (Ret (.bool (partsB ps)) w) := by
  have HP := Lib.hid hp; clear hp
  have HEQ := Lib.hid (parts_eq ps)
  unfold Go.maxLen at hm
  go_enter Try.func95, Try.ntmps95
  go_wp2
  go_loopw [4, 7] (fun _ i wr => ∃ k : Nat, k ≤ ps.length ∧ i = .int .i64 k ∧ (∀ x ∈ ps.take k, (!validRB x.o) = false) ∧ Below w.heap.size w wr) (fun _ i _ => ps.length - (intOf i).toNat)
  case atStart => exact ⟨0, Nat.zero_le _, rfl, by simp, Below.refl _ _⟩
  case round =>
    obtain ⟨k, hk, rfl, hno, hB⟩ := hrel
    have HN := Lib.hid hno; clear hno
    by_cases hlt : k < ps.length
    · obtain ⟨q, hq⟩ := getElem?_of_lt hlt
      obtain ⟨bb, off, hA, hbb, d0, d1⟩ := (HP.out.flat.below hB) k q hq
      subst hA
      have hmem : q ∈ ps := List.mem_of_getElem? hq
      have HQ := Lib.hid hq; clear hq
      have hsB := hB.size
      have hBa : Below w.heap.size w (wr.alloc (.cells #[.slice q.A q.o.length q.c, .bool q.t] 41)) := by (repeat (first | exact Below.refl _ _ | assumption | refine Below.alloc ?_ (by first | exact Nat.le_refl _ | exact Below.size (by assumption) | omega | (simp <;> omega)) _ | refine Below.setCell ?_ (by first | exact Nat.le_refl _ | exact Below.size (by assumption) | omega | (simp <;> omega)) _ | refine below_drewN ?_ _ | refine Below.drew ?_))
      have HE := Lib.hid (((HP.out.each q hmem).1).now hBa)
      have HBA := Lib.hid hBa; clear hBa
      go_wp2_with fail
      refine (validR_any q.A q.c q.o _ HE.out).mono ?_
      rintro e w2 ⟨rfl, hb2⟩
      have hB2 := HBA.out.trans (hb2.mono HBA.out.size)
      cases hv : validRB q.o
      · have HV := Lib.hid hv; clear hv
        have HS : Hid (partsB ps = false) := by
          rw [Hid, ← HEQ.out]
          have : ps.all (fun p => validRB p.o) = false := List.all_eq_false.2 ⟨q, hmem, by rw [HV.out]; simp⟩
          simp [parts2B, this]
        go_wp2
        go_ret
        exact Ret.mk (by rw [HS.out]; rfl) hB2
      · have HV := Lib.hid hv; clear hv
        go_wp2
        go_roundw
        case rel => exact ⟨k + 1, by omega, by go_num, noG_take_succ (f := fun x : PT => !validRB x.o) HN.out HQ.out (by rw [HV.out]; rfl), hB2⟩
        case measure => simp [intOf]; omega
    · obtain rfl : k = ps.length := by omega
      have hall : ps.all (fun p => validRB p.o) = true := by
        rw [List.all_eq_true]
        intro x hx
        have := HN.out x (by rw [List.take_length]; exact hx)
        simpa using this
      have HS : Hid (partsB ps = decide (ps.length ≤ 60)) := by rw [Hid, ← HEQ.out]; simp [parts2B, hall]
      clear hall
      go_wp2
      go_ret
      exact Ret.mk (by rw [HS.out]; simp; omega) hB

theorem nvalid2_any (b : BD) (A A2 : Option Addr) (c c2 : Nat) (ps : List PT) (w : World) (hm : ps.length ≤ Go.maxLen) (hF : RdR w w.heap.size A b.F) (hp : RdPP w w.heap.size A2 ps) :
    Calls Try.prog 66 #[bdv b A c, .slice A2 ps.length c2] w (Ret (.bool (boardB b && partsB ps)) w) := by
  have HF := Lib.hid hF; clear hF
  have HP := Lib.hid hp; clear hp
  have hB0 : Below w.heap.size w (w.alloc (.cells #[.int .i64 b.W, .int .i64 b.H, .int .i64 b.G, .slice A b.F.length c] 24)) := by (repeat (first | exact Below.refl _ _ | assumption | refine Below.alloc ?_ (by first | exact Nat.le_refl _ | exact Below.size (by assumption) | omega | (simp <;> omega)) _ | refine Below.setCell ?_ (by first | exact Nat.le_refl _ | exact Below.size (by assumption) | omega | (simp <;> omega)) _ | refine below_drewN ?_ _ | refine Below.drew ?_))
  cases hv : boardB b
  · have HV := Lib.hid hv; clear hv
    go_enter Try.func66, Try.ntmps66
    go_wp2_with fail
    refine (validBoard_any b A c _ (HF.out.now hB0)).mono ?_
    rintro e w2 ⟨rfl, hb2⟩
    rw [HV.out]
    go_wp2
    go_ret
    exact Ret.mk rfl (hB0.trans (hb2.mono hB0.size))
  · have HV := Lib.hid hv; clear hv
    go_enter Try.func66, Try.ntmps66
    go_wp2_with fail
    refine (validBoard_any b A c _ (HF.out.now hB0)).mono ?_
    rintro e w2 ⟨rfl, hb2⟩
    rw [HV.out]
    have hB2 := hB0.trans (hb2.mono hB0.size)
    go_wp2_with fail
    refine (validParts_any A2 c2 ps _ hm (HP.out.now hB2)).mono ?_
    rintro e w3 ⟨rfl, hb3⟩
    go_wp2
    go_ret
    exact Ret.mk rfl (hB2.trans (hb3.mono hB2.size))
end Go.Proofs.Ytohlinbcbfgdfaa

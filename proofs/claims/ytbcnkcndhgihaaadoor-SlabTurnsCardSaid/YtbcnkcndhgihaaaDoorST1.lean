/- Blocks: turned and equal of the law: the walks. Printed by genst1.py. -/
import Derived.Test.YtbcnkcndhgihaaaDoorSEB
namespace Go.Proofs.YtbcnkcndhgihaaaDoor
open Go.RowKit
set_option linter.unusedSimpArgs false

theorem okI_wrap {W : World} {I : Nat → Prop} {b : BT} {op ax n0 n1 : Int} {k : Nat} (hb : OkI W I b) (hk : I k) (hc : ∀ j v, b.cl[j]? = some v → W.cell? ⟨k, j, none⟩ = some v)
    (b1 : -9223372036854775808 ≤ op ∧ op ≤ 9223372036854775807) (b2 : -9223372036854775808 ≤ ax ∧ ax ≤ 9223372036854775807) (b4 : -9223372036854775808 ≤ n0 ∧ n0 ≤ 9223372036854775807) (b5 : -9223372036854775808 ≤ n1 ∧ n1 ≤ 9223372036854775807) : OkI W I (opB op ax n0 n1 (some ⟨k, 0, none⟩) 1 [b]) := by
  refine .mk _ ?_ ?_ (Nat.le_refl _) (show 1 ≤ maxLen by unfold maxLen; decide) (fun h => by cases h) b1 b2 (show (0 : Int) ≤ 0 ∧ (0 : Int) ≤ 255 by decide) b4 b5 (show (-9223372036854775808 : Int) ≤ 0 ∧ (0 : Int) ≤ 9223372036854775807 by decide)
  · intro i p hp
    match i, hp with
    | 0, hp =>
      simp [BT.ps] at hp
      subst hp
      exact ⟨k, 0, rfl, hk, fun j v hj => by simpa using hc j v hj⟩
    | i + 1, hp => simp [BT.ps] at hp
  · intro p hp
    simp [BT.ps] at hp
    subst hp
    exact hb
/-- What turned returns. -/
def WrpR (op ax : Int) (n : Nat) (b : BT) (w : World) (e : Ending) (w' : World) : Prop := Below w.heap.size w w' ∧ ∃ b', e = .returned (valB b') ∧ Wrp op ax n b b' ∧ OkB w' w'.heap.size b'
set_option maxRecDepth 100000 in
set_option maxHeartbeats 4000000 in
theorem turned_any (b : BT) (op ax : Int) (n : Nat) (hn : n ≤ 100) (hop : 0 ≤ op ∧ op ≤ 10) (hax : 0 ≤ ax ∧ ax ≤ 2) (w : World) (hb : OkB w w.heap.size b) : Calls Tryd.prog 31 #[valB b, .int .i64 op, .int .i64 ax, .int .i64 n] w (WrpR op ax n b w) := by
  obtain ⟨wa, hwa⟩ : ∃ wa, (w.alloc (.cells #[.int .i64 b.op, .int .i64 b.ax, .int .u8 b.co, .int .i64 b.n0, .int .i64 b.n1, .int .i64 b.n2, .slice b.A b.ps.length b.cp] 25)).alloc (.cells #[.int .i64 0, .int .i64 0, .int .u8 0, .int .i64 0, .int .i64 0, .int .i64 0, .slice none 0 0] 25) = wa := ⟨_, rfl⟩
  have hBa : Below w.heap.size w wa := by rw [← hwa]; (repeat (first | exact Below.refl _ _ | assumption | refine Below.alloc ?_ (by first | exact Nat.le_refl _ | exact Below.size (by assumption) | omega | (simp <;> omega)) _ | refine Below.setCell ?_ (by first | exact Nat.le_refl _ | exact Below.size (by assumption) | omega | (simp <;> omega)) _ | refine below_drewN ?_ _ | refine Below.drew ?_))
  have hza : wa.heap.size = w.heap.size + 2 := by rw [← hwa]; simp
  have hX1 : BX wa w.heap.size b := (BX.new w b).below (B := w.heap.size + 1) (by rw [← hwa]; (repeat (first | exact Below.refl _ _ | assumption | refine Below.alloc ?_ (by first | exact Nat.le_refl _ | exact Below.size (by assumption) | omega | (simp <;> omega)) _ | refine Below.setCell ?_ (by first | exact Nat.le_refl _ | exact Below.size (by assumption) | omega | (simp <;> omega)) _ | refine below_drewN ?_ _ | refine Below.drew ?_))) (by omega)
  have hX2 : BX wa (w.heap.size + 1) zeroB := by
    have h := BX.new (w.alloc (.cells #[.int .i64 b.op, .int .i64 b.ax, .int .u8 b.co, .int .i64 b.n0, .int .i64 b.n1, .int .i64 b.n2, .slice b.A b.ps.length b.cp] 25)) zeroB
    rw [World.size_alloc] at h
    rw [← hwa]
    exact h
  have HO : Hid (OkI wa (fun k => k < wa.heap.size ∧ k ≠ w.heap.size ∧ k ≠ w.heap.size + 1) b) := hb.keep (fun k hk => ⟨by omega, by omega, by omega⟩) fun k off v hk hc => (hBa.cell (p := ⟨k, off, none⟩) hk).trans hc
  have HX1 := Lib.hid hX1; have HX2 := Lib.hid hX2
  clear hb hX1 hX2
  go_enter Tryd.func31, Tryd.ntmps31
  go_wp2
  clear hwa
  go_loopw [9] (fun i wr => ∃ k : Nat, k ≤ n ∧ i = .int .i64 k ∧ (∃ b', Wrp op ax k b b' ∧ BX wr w.heap.size b' ∧ OkI wr (fun j => j < wr.heap.size ∧ j ≠ w.heap.size ∧ j ≠ w.heap.size + 1) b') ∧ BX wr (w.heap.size + 1) zeroB ∧ Below w.heap.size w wr) (fun i _ => n - (intOf i).toNat)
  case atStart => exact ⟨0, Nat.zero_le _, rfl, ⟨b, .zero b, HX1.out, HO.out⟩, HX2.out, hBa⟩
  case round =>
    obtain ⟨k, hk, rfl, ⟨b', hw, hx, ho⟩, hz, hB⟩ := hrel
    have HW := Lib.hid hw; have HX := Lib.hid hx; have HOK := Lib.hid ho; have HZ := Lib.hid hz
    clear hw hx ho hz
    have hsB := hB.size
    have hlx := HX.out.lt
    have hlz := HZ.out.lt
    obtain ⟨f0, f1, f2, f3, f4, f5, f6⟩ := HX.out.c
    by_cases hlt : k < n
    · have hn1 := BX.new wr b'
      have hb1 : Below wr.heap.size wr (wr.alloc (.cells #[.int .i64 b'.op, .int .i64 b'.ax, .int .u8 b'.co, .int .i64 b'.n0, .int .i64 b'.n1, .int .i64 b'.n2, .slice b'.A b'.ps.length b'.cp] 25)) := by (repeat (first | exact Below.refl _ _ | assumption | refine Below.alloc ?_ (by first | exact Nat.le_refl _ | exact Below.size (by assumption) | omega | (simp <;> omega)) _ | refine Below.setCell ?_ (by first | exact Nat.le_refl _ | exact Below.size (by assumption) | omega | (simp <;> omega)) _ | refine below_drewN ?_ _ | refine Below.drew ?_))
      have HX1 : Hid (BX (wr.alloc (.cells #[.int .i64 b'.op, .int .i64 b'.ax, .int .u8 b'.co, .int .i64 b'.n0, .int .i64 b'.n1, .int .i64 b'.n2, .slice b'.A b'.ps.length b'.cp] 25)) w.heap.size b') := HX.out.below hb1 hlx
      have HZ1 : Hid (BX (wr.alloc (.cells #[.int .i64 b'.op, .int .i64 b'.ax, .int .u8 b'.co, .int .i64 b'.n0, .int .i64 b'.n1, .int .i64 b'.n2, .slice b'.A b'.ps.length b'.cp] 25)) (w.heap.size + 1) zeroB) := HZ.out.below hb1 hlz
      have hO1 : OkI (wr.alloc (.cells #[.int .i64 b'.op, .int .i64 b'.ax, .int .u8 b'.co, .int .i64 b'.n0, .int .i64 b'.n1, .int .i64 b'.n2, .slice b'.A b'.ps.length b'.cp] 25)) (fun j => j < (wr.alloc (.cells #[.int .i64 b'.op, .int .i64 b'.ax, .int .u8 b'.co, .int .i64 b'.n0, .int .i64 b'.n1, .int .i64 b'.n2, .slice b'.A b'.ps.length b'.cp] 25)).heap.size ∧ j ≠ w.heap.size ∧ j ≠ w.heap.size + 1) b' := HOK.out.keep (fun j hj => ⟨Nat.lt_of_lt_of_le hj.1 hb1.size, hj.2⟩) fun j off v hj hc => (hb1.cell (p := ⟨j, off, none⟩) hj.1).trans hc
      have hO2 := okI_wrap (op := op) (ax := ax) (n0 := 0) (n1 := 0) (k := wr.heap.size) hO1 ⟨by simp, by omega, by omega⟩ (cl_cells hn1) (by omega) (by omega) (by decide) (by decide)
      have hg := putB_grown (wr.alloc (.cells #[.int .i64 b'.op, .int .i64 b'.ax, .int .u8 b'.co, .int .i64 b'.n0, .int .i64 b'.n1, .int .i64 b'.n2, .slice b'.A b'.ps.length b'.cp] 25)) w.heap.size (opB op ax 0 0 (some ⟨wr.heap.size, 0, none⟩) 1 [b'])
      have hzs : (putB (wr.alloc (.cells #[.int .i64 b'.op, .int .i64 b'.ax, .int .u8 b'.co, .int .i64 b'.n0, .int .i64 b'.n1, .int .i64 b'.n2, .slice b'.A b'.ps.length b'.cp] 25)) w.heap.size (opB op ax 0 0 (some ⟨wr.heap.size, 0, none⟩) 1 [b'])).heap.size = (wr.alloc (.cells #[.int .i64 b'.op, .int .i64 b'.ax, .int .u8 b'.co, .int .i64 b'.n0, .int .i64 b'.n1, .int .i64 b'.n2, .slice b'.A b'.ps.length b'.cp] 25)).heap.size := by unfold putB; simp
      have HFIN : Hid ((∃ c', Wrp op ax (k + 1) b c' ∧ BX (putB (wr.alloc (.cells #[.int .i64 b'.op, .int .i64 b'.ax, .int .u8 b'.co, .int .i64 b'.n0, .int .i64 b'.n1, .int .i64 b'.n2, .slice b'.A b'.ps.length b'.cp] 25)) w.heap.size (opB op ax 0 0 (some ⟨wr.heap.size, 0, none⟩) 1 [b'])) w.heap.size c' ∧ OkI (putB (wr.alloc (.cells #[.int .i64 b'.op, .int .i64 b'.ax, .int .u8 b'.co, .int .i64 b'.n0, .int .i64 b'.n1, .int .i64 b'.n2, .slice b'.A b'.ps.length b'.cp] 25)) w.heap.size (opB op ax 0 0 (some ⟨wr.heap.size, 0, none⟩) 1 [b'])) (fun j => j < (putB (wr.alloc (.cells #[.int .i64 b'.op, .int .i64 b'.ax, .int .u8 b'.co, .int .i64 b'.n0, .int .i64 b'.n1, .int .i64 b'.n2, .slice b'.A b'.ps.length b'.cp] 25)) w.heap.size (opB op ax 0 0 (some ⟨wr.heap.size, 0, none⟩) 1 [b'])).heap.size ∧ j ≠ w.heap.size ∧ j ≠ w.heap.size + 1) c') ∧ BX (putB (wr.alloc (.cells #[.int .i64 b'.op, .int .i64 b'.ax, .int .u8 b'.co, .int .i64 b'.n0, .int .i64 b'.n1, .int .i64 b'.n2, .slice b'.A b'.ps.length b'.cp] 25)) w.heap.size (opB op ax 0 0 (some ⟨wr.heap.size, 0, none⟩) 1 [b'])) (w.heap.size + 1) zeroB ∧ Below w.heap.size w (putB (wr.alloc (.cells #[.int .i64 b'.op, .int .i64 b'.ax, .int .u8 b'.co, .int .i64 b'.n0, .int .i64 b'.n1, .int .i64 b'.n2, .slice b'.A b'.ps.length b'.cp] 25)) w.heap.size (opB op ax 0 0 (some ⟨wr.heap.size, 0, none⟩) 1 [b']))) :=
        ⟨⟨_, .succ _ _ HW.out, BX.put HX1.out _, hO2.keep (fun j hj => by rw [hzs]; exact hj) fun j off v hj hc => hg.cell hc (by intro e; injection e with e; exact hj.2.1 e)⟩, HZ1.out.grown hg (by omega),
          hB.trans ((hb1.mono hsB).trans ⟨hg.os, hg.tape, hg.output, hg.size, fun i hi => hg.block i (Nat.lt_of_lt_of_le hi (Nat.le_trans hsB hb1.size)) (fun e => by injection e with e; omega)⟩)⟩
      clear hn1 hb1 hO1 hO2 hg hzs
      go_wp2_with ((with_reducible refine at_store7 ?_); refine wpList_store7 (opB op ax 0 0 (some ⟨wr.heap.size, 0, none⟩) 1 [b']) _ _ HX1.out rfl rfl rfl rfl ?_)
      generalize hF : putB (wr.alloc (.cells #[.int .i64 b'.op, .int .i64 b'.ax, .int .u8 b'.co, .int .i64 b'.n0, .int .i64 b'.n1, .int .i64 b'.n2, .slice b'.A b'.ps.length b'.cp] 25)) w.heap.size (opB op ax 0 0 (some ⟨wr.heap.size, 0, none⟩) 1 [b']) = wF at *
      clear hF
      go_roundw
      case rel => exact ⟨k + 1, by omega, by go_num, HFIN.out⟩
      case measure => simp [intOf]; omega
    · obtain rfl : k = n := by omega
      go_wp2_with ((with_reducible refine at_store7 ?_); refine wpList_store7 b' _ _ HZ.out rfl rfl rfl rfl ?_)
      obtain ⟨y0, y1, y2, y3, y4, y5, y6⟩ := (BX.put HZ.out b').c
      refine bodyPost_ret (v := valB b') (by simp [results, Tryd.results31, go_sem, y0, y1, y2, y3, y4, y5, y6]) rfl ?_
      have hg := putB_grown wr (w.heap.size + 1) b'
      refine ⟨hB.trans ⟨hg.os, hg.tape, hg.output, hg.size, fun i hi => hg.block i (Nat.lt_of_lt_of_le hi hsB) (fun e => by injection e with e; omega)⟩, b', rfl, HW.out, HOK.out.keep (fun j hj => Nat.lt_of_lt_of_le hj.1 hg.size) fun j off v hj hc => hg.cell hc (by intro e; injection e with e; exact hj.2.2 e)⟩
set_option maxRecDepth 100000 in
set_option maxHeartbeats 4000000 in
theorem equal_any (b c : BT) (w : World) (hb : OkB w w.heap.size b) (hc : OkB w w.heap.size c) : Calls Tryd.prog 33 #[valB b, valB c] w (Ret (.bool (eqlB b c)) w) := by
  obtain ⟨wa, hwa⟩ : ∃ wa, (w.alloc (.cells #[.int .i64 b.op, .int .i64 b.ax, .int .u8 b.co, .int .i64 b.n0, .int .i64 b.n1, .int .i64 b.n2, .slice b.A b.ps.length b.cp] 25)).alloc (.cells #[.int .i64 c.op, .int .i64 c.ax, .int .u8 c.co, .int .i64 c.n0, .int .i64 c.n1, .int .i64 c.n2, .slice c.A c.ps.length c.cp] 25) = wa := ⟨_, rfl⟩
  have hBa : Below w.heap.size w wa := by rw [← hwa]; (repeat (first | exact Below.refl _ _ | assumption | refine Below.alloc ?_ (by first | exact Nat.le_refl _ | exact Below.size (by assumption) | omega | (simp <;> omega)) _ | refine Below.setCell ?_ (by first | exact Nat.le_refl _ | exact Below.size (by assumption) | omega | (simp <;> omega)) _ | refine below_drewN ?_ _ | refine Below.drew ?_))
  have hza : wa.heap.size = w.heap.size + 2 := by rw [← hwa]; simp
  have hp := bx_pair b c w
  rw [hwa] at hp
  have HXA : Hid (∀ W, Below wa.heap.size wa W → BxB W w.heap.size b ∧ BxB W (w.heap.size + 1) c) := fun W h => ⟨(hp.1.below h (by omega)).c, (hp.2.below h (by omega)).c⟩
  have HE := Lib.hid (fun W (hB : Below w.heap.size w W) => Equal_any b c W (hb.now hB) (hc.now hB))
  have HC1 := Lib.hid (fun W (hB : Below w.heap.size w W) => refCheck_any b W (hb.now hB))
  have HC2 := Lib.hid (fun W (hB : Below w.heap.size w W) => refCheck_any c W (hc.now hB))
  have HWA := Lib.hid hwa
  clear hwa hp hb hc
  obtain ⟨⟨f0, f1, f2, f3, f4, f5, f6⟩, g0, g1, g2, g3, g4, g5, g6⟩ := HXA.out wa (Below.refl _ _)
  cases hf : formS b with
  | error er =>
    have hx := form_err hf
    have HS : Hid (eqlB b c = true) := by show _ = _; unfold eqlB; rw [hf]
    have hE : equalB b c = (false, er) := by unfold equalB; rw [hf]
    rw [check_err hf] at HC1
    rw [hE] at HE
    dsimp only at HE
    have hne : (er != 0) = true := by simp; omega
    clear hf hx hE
    go_enter Tryd.func33, Tryd.ntmps33
    go_wp2_with fail
    rw [HWA.out]
    refine (HE.out _ hBa).mono ?_
    rintro e w2 ⟨rfl, hb2⟩
    have hB2 := hBa.trans (hb2.mono hBa.size)
    clear f0 f1 f2 f3 f4 f5 f6 g0 g1 g2 g3 g4 g5 g6
    obtain ⟨⟨f0, f1, f2, f3, f4, f5, f6⟩, g0, g1, g2, g3, g4, g5, g6⟩ := HXA.out w2 hb2
    go_wp2_with fail
    refine (HC1.out _ hB2).mono ?_
    rintro e w3 ⟨rfl, hb3⟩
    have hB3 := hB2.trans (hb3.mono hB2.size)
    clear f0 f1 f2 f3 f4 f5 f6 g0 g1 g2 g3 g4 g5 g6
    go_wp2
    go_ret
    exact Ret.mk (by rw [HS.out]; rfl) hB3
  | ok S =>
    rw [check_ok hf] at HC1
    cases hg : formS c with
    | error er =>
      have hx := form_err hg
      have HS : Hid (eqlB b c = true) := by show _ = _; unfold eqlB; rw [hf, hg]
      have hE : equalB b c = (false, er) := by unfold equalB; rw [hf, hg]
      rw [check_err hg] at HC2
      rw [hE] at HE
      dsimp only at HE
      have hne : (er != 0) = true := by simp; omega
      clear hf hg hx hE
      go_enter Tryd.func33, Tryd.ntmps33
      go_wp2_with fail
      rw [HWA.out]
      refine (HE.out _ hBa).mono ?_
      rintro e w2 ⟨rfl, hb2⟩
      have hB2 := hBa.trans (hb2.mono hBa.size)
      clear f0 f1 f2 f3 f4 f5 f6 g0 g1 g2 g3 g4 g5 g6
      obtain ⟨⟨f0, f1, f2, f3, f4, f5, f6⟩, g0, g1, g2, g3, g4, g5, g6⟩ := HXA.out w2 hb2
      go_wp2_with fail
      refine (HC1.out _ hB2).mono ?_
      rintro e w3 ⟨rfl, hb3⟩
      have hba3 := hb2.trans (hb3.mono hb2.size)
      have hB3 := hB2.trans (hb3.mono hB2.size)
      clear f0 f1 f2 f3 f4 f5 f6 g0 g1 g2 g3 g4 g5 g6
      obtain ⟨⟨f0, f1, f2, f3, f4, f5, f6⟩, g0, g1, g2, g3, g4, g5, g6⟩ := HXA.out w3 hba3
      go_wp2_with fail
      refine (HC2.out _ hB3).mono ?_
      rintro e w4 ⟨rfl, hb4⟩
      have hB4 := hB3.trans (hb4.mono hB3.size)
      clear f0 f1 f2 f3 f4 f5 f6 g0 g1 g2 g3 g4 g5 g6
      go_wp2
      go_ret
      exact Ret.mk (by rw [HS.out]; rfl) hB4
    | ok T =>
      have hS : eqlB b c = sameS S T := by unfold eqlB; rw [hf, hg]
      have hE : equalB b c = (sameS S T, 0) := by unfold equalB; rw [hf, hg]
      rw [check_ok hg] at HC2
      rw [hE] at HE
      dsimp only at HE
      generalize sameS S T = r at *
      have HS := Lib.hid hS
      clear hf hg hE hS
      go_enter Tryd.func33, Tryd.ntmps33
      go_wp2_with fail
      rw [HWA.out]
      refine (HE.out _ hBa).mono ?_
      rintro e w2 ⟨rfl, hb2⟩
      have hB2 := hBa.trans (hb2.mono hBa.size)
      clear f0 f1 f2 f3 f4 f5 f6 g0 g1 g2 g3 g4 g5 g6
      obtain ⟨⟨f0, f1, f2, f3, f4, f5, f6⟩, g0, g1, g2, g3, g4, g5, g6⟩ := HXA.out w2 hb2
      go_wp2_with fail
      refine (HC1.out _ hB2).mono ?_
      rintro e w3 ⟨rfl, hb3⟩
      have hba3 := hb2.trans (hb3.mono hb2.size)
      have hB3 := hB2.trans (hb3.mono hB2.size)
      clear f0 f1 f2 f3 f4 f5 f6 g0 g1 g2 g3 g4 g5 g6
      obtain ⟨⟨f0, f1, f2, f3, f4, f5, f6⟩, g0, g1, g2, g3, g4, g5, g6⟩ := HXA.out w3 hba3
      go_wp2_with fail
      refine (HC2.out _ hB3).mono ?_
      rintro e w4 ⟨rfl, hb4⟩
      have hB4 := hB3.trans (hb4.mono hB3.size)
      clear f0 f1 f2 f3 f4 f5 f6 g0 g1 g2 g3 g4 g5 g6
      cases r <;>
      · go_wp2
        go_ret
        exact Ret.mk (by rw [HS.out]; rfl) hB4
end Go.Proofs.YtbcnkcndhgihaaaDoor

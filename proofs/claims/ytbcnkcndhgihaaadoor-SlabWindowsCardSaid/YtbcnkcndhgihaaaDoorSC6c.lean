/- Blocks: the reference's measured at repeats: the walk. Printed by gensc6.py. -/
import Derived.Test.YtbcnkcndhgihaaaDoorSC6
import Derived.Test.YtbcnkcndhgihaaaDoorRoundX
namespace Go.Proofs.YtbcnkcndhgihaaaDoor
open Go.RowKit
set_option linter.unusedSimpArgs false

set_option maxRecDepth 100000 in
set_option maxHeartbeats 4000000 in
theorem meas_rep (b : BT) (w : World) (hop : b.op = 6) (hw : wholeS b = true) (hb : OkB w w.heap.size b) (ih : ∀ p ∈ b.ps, ∀ (w : World), OkB w w.heap.size p → Calls Tryd.prog 55 #[valB p] w (Ret (.tuple #[val3 (measB p).1, .int .i64 (measB p).2]) w)) : Calls Tryd.prog 55 #[valB b] w (Ret (.tuple #[val3 (measB b).1, .int .i64 (measB b).2]) w) := by
  have HHOP := Lib.hid hop; clear hop
  have IH := Lib.hid ih; clear ih
  have HB := Lib.hid hb; clear hb
  have HW := Lib.hid hw; clear hw
  have hmx : Tryd.prog.follows .mixedOrders = true := by kernel_rfl
  obtain ⟨i0, hj0, hz0, hz1, hz2⟩ := infoS_partsV Tryd.infoSV
  have HJ := Lib.hid hj0; clear hj0
  have hl2 : b.ps.length ≤ 2 := by
    rcases one_facts (whole_parts HW.out).1 with ⟨_, hp, _⟩ | ⟨_, _, _, ⟨_, ⟨p, q, hp⟩, _⟩ | ⟨p, hp, _⟩⟩ <;> rw [hp] <;> simp
  have hlm : b.ps.length ≤ 9223372036854775807 := by omega
  obtain ⟨wa, hwa⟩ : ∃ wa, (w.alloc (.cells #[.int .i64 b.op, .int .i64 b.ax, .int .u8 b.co, .int .i64 b.n0, .int .i64 b.n1, .int .i64 b.n2, .slice b.A b.ps.length b.cp] 25)).alloc (.cells #[.int .i64 0, .int .i64 0, .int .i64 0] 22) = wa := ⟨_, rfl⟩
  have hBa : Below w.heap.size w wa := by rw [← hwa]; (repeat (first | exact Below.refl _ _ | assumption | refine Below.alloc ?_ (by first | exact Nat.le_refl _ | exact Below.size (by assumption) | omega | (simp <;> omega)) _ | refine Below.setCell ?_ (by first | exact Nat.le_refl _ | exact Below.size (by assumption) | omega | (simp <;> omega)) _ | refine below_drewN ?_ _ | refine Below.drew ?_))
  have hza : wa.heap.size = w.heap.size + 2 := by rw [← hwa]; simp
  have HXA : Hid (∀ W, Below wa.heap.size wa W → BxB W w.heap.size b ∧ CX W (w.heap.size + 1) ⟨0, 0, 0⟩) := by
    intro W hW
    have h1 := bx_two b w ⟨0, 0, 0⟩
    have h2 := CX.new (w.alloc (.cells #[.int .i64 b.op, .int .i64 b.ax, .int .u8 b.co, .int .i64 b.n0, .int .i64 b.n1, .int .i64 b.n2, .slice b.A b.ps.length b.cp] 25)) ⟨0, 0, 0⟩
    rw [hwa] at h2
    rw [World.size_alloc] at h2
    dsimp only at h1
    rw [hwa] at h1
    exact ⟨h1.under hW (by omega), h2.below hW (by omega)⟩
  have HWA := Lib.hid hwa
  clear hwa
  go_enter Tryd.func55, Tryd.ntmps55
  go_wp2
  go_loopw [4, 5] (fun m i wr => ∃ (k : Nat) (v : Value) (R : List Sh), v = m ∧ k ≤ b.ps.length ∧ i = .int .i64 k ∧ builtL (b.ps.take k) = .ok R ∧ OwnSV wr (w.heap.size + 2) v (R.map Sh.ext) ∧ Below wa.heap.size wa wr) (fun _ i _ => b.ps.length - (intOf i).toNat)
  case atStart => exact ⟨0, _, [], rfl, Nat.zero_le _, rfl, rfl, World.ownsRow_nil _ _ _ _, by rw [HWA.out]; exact Below.refl _ _⟩
  case round =>
    obtain ⟨k, u, R, rfl, hk, rfl, hR, hown, hB⟩ := hrel
    have HR := Lib.hid hR; clear hR
    have HO := Lib.hid hown; clear hown
    have hBw := hBa.trans (hB.mono hBa.size)
    have hsB := hB.size
    obtain ⟨f0, f1, f2, f3, f4, f5, f6⟩ := (HXA.out wr hB).1
    by_cases hlt : k < b.ps.length
    · obtain ⟨q, hq⟩ := getElem?_of_lt hlt
      have hk1 := HB.out.now hBw
      obtain ⟨bb, off, hA, hbb, c0, c1, c2, c3, c4, c5, c6⟩ := hk1.rd.at hq
      have HM := Lib.hid (List.mem_of_getElem? hq)
      have HK := Lib.hid (hk1.kid HM.out); clear hk1
      have HQ := Lib.hid hq; clear hq
      rw [hA] at f6
      clear hA
      cases hd : builtS q with
      | error x =>
        have hx := built_err q ((whole_parts HW.out).2 q HM.out) x hd
        have HC := Lib.hid (IH.out q HM.out wr HK.out)
        rw [meas_er hd] at HC
        dsimp only at HC
        have HE := Lib.hid (builtL_at_err HQ.out HR.out hd)
        have hne : (x != 0) = true := by simp; omega
        clear hd hx
        go_wp2_with fail
        refine HC.out.mono ?_
        rintro e w2 ⟨rfl, hb2⟩
        have hB2 : Below wa.heap.size wa w2 := hB.trans (hb2.mono hsB)
        have hB3 : Below wa.heap.size wa (w2.alloc (.cells #[.int .i64 0, .int .i64 0, .int .i64 0] 22)) := hB2.alloc hB2.size _
        have hX := (HXA.out _ hB3).2
        obtain ⟨x0, x1, x2, x3, x4, x5⟩ := hX.c
        obtain ⟨y0, y1, y2, _⟩ := (hX.put ⟨0, 0, 0⟩).c
        have hBf := hBa.trans (hB3.mono hBa.size)
        clear c0 c1 c2 c3 c4 c5 c6 f0 f1 f2 f3 f4 f5 f6
        go_wp2
        refine bodyPost_ret (v := .tuple #[val3 ⟨0, 0, 0⟩, .int .i64 x]) (by simp [results, Tryd.results55, go_sem, y0, y1, y2]) rfl ?_
        exact Ret.mk (by rw [meas_er HE.out]) (by (repeat (first | exact Below.refl _ _ | assumption | refine Below.alloc ?_ (by first | exact Nat.le_refl _ | exact Below.size (by assumption) | omega | (simp <;> omega)) _ | refine Below.setCell ?_ (by first | exact Nat.le_refl _ | exact Below.size (by assumption) | omega | (simp <;> omega)) _ | refine below_drewN ?_ _ | refine Below.drew ?_)))
      | ok s =>
        have HC := Lib.hid (IH.out q HM.out wr HK.out)
        rw [meas_ok hd] at HC
        dsimp only at HC
        have HR2 := Lib.hid (builtL_at HQ.out HR.out hd)
        have HLR : Hid (R.length ≤ 1) := by show _ ≤ _; rw [builtL_len _ _ HR.out, List.length_take]; omega
        obtain ⟨t, ht⟩ : ∃ t, s.ext = t := ⟨_, rfl⟩
        rw [ht] at HC
        have HT := Lib.hid ht
        obtain ⟨t1, t2, t3⟩ := t
        clear hd ht
        go_wp2_with fail
        refine HC.out.mono ?_
        rintro e w2 ⟨rfl, hb2⟩
        have hB2 : Below wa.heap.size wa w2 := hB.trans (hb2.mono hsB)
        have hs2 := hB2.size
        have HO2 : Hid (OwnSV w2 (w.heap.size + 2) u (R.map Sh.ext)) := own_belowS HO.out hb2
        clear c0 c1 c2 c3 c4 c5 c6 f0 f1 f2 f3 f4 f5 f6
        obtain ⟨wv, hwv⟩ : ∃ wv, (w2.alloc (.cells #[.int .i64 t1, .int .i64 t2, .int .i64 t3] 22)).alloc (.cells #[.int .i64 t1, .int .i64 t2, .int .i64 t3] 22) = wv := ⟨_, rfl⟩
        have hbv : Below wa.heap.size wa wv := by rw [← hwv]; (repeat (first | exact Below.refl _ _ | assumption | refine Below.alloc ?_ (by first | exact Nat.le_refl _ | exact Below.size (by assumption) | omega | (simp <;> omega)) _ | refine Below.setCell ?_ (by first | exact Nat.le_refl _ | exact Below.size (by assumption) | omega | (simp <;> omega)) _ | refine below_drewN ?_ _ | refine Below.drew ?_))
        have HOV : Hid (OwnSV wv (w.heap.size + 2) u (R.map Sh.ext)) := by rw [← hwv]; exact World.ownsRow.alloc (World.ownsRow.alloc HO2.out _) _
        have hszv : wv.heap.size = w2.heap.size + 2 := by rw [← hwv]; simp
        have HLT := Lib.hid (fun j (hj : u.ownBlock = some j) => (HOV.out.lt j hj).1)
        have HLR2 : Hid ((R.map Sh.ext).length ≤ 1) := by show _ ≤ _; rw [List.length_map]; exact HLR.out
        rw [← hwv] at HOV hbv hszv
        clear hwv
        go_wp2_with (at_builtin; refine wpList_append_own _ rfl _ _ 105 rfl (w.heap.size + 2) 22 i0 (.agg #[.int .i64 0, .int .i64 0, .int .i64 0]) 3 24 Tryd.underlying105 HJ.out hz0 hz1 hz2 rfl (by decide) _ _ _ rfl HOV.out ⟨w2.heap.size + 1, 0, none⟩ 1 1 [.int .i64 t1, .int .i64 t2, .int .i64 t3] rfl rfl (by intro j u hj; match j, hj with | 0, hj => (simp at hj; subst hj; simp [Addr.add]) | 1, hj => (simp at hj; subst hj; simp [Addr.add]) | 2, hj => (simp at hj; subst hj; simp [Addr.add]) | j + 3, hj => simp at hj) (by intro u hu; simp at hu; rcases hu with rfl | rfl | rfl <;> rfl) (by have := HLR2.out; unfold maxLen; omega) (by have := HLR2.out; omega) (by simp; omega) ?_; intro v' w5 hown' hgrow _; have hB5 := below_grown hbv hgrow (fun j hj => by have := HLT.out j hj; omega) (by simp; omega); have own5 := ownSV_snoc (R' := (R ++ [s]).map Sh.ext) (p := (⟨t1, t2, t3⟩ : T3)) hown' (by rw [List.map_append, ← HT.out]; rfl); have HOW5 := Lib.hid own5; clear own5 hown' hgrow)
        go_wp2
        go_roundw
        case rel => exact ⟨k + 1, _, _, rfl, by omega, by go_num, HR2.out, HOW5.out, hB5⟩
        case measure => simp [intOf]; omega
    · obtain rfl : k = b.ps.length := by omega
      have hR := HR.out
      rw [List.take_length] at hR
      have HRL := Lib.hid hR; clear hR HR hlt hk
      have hlen := builtL_len _ _ HRL.out
      have hX := (HXA.out wr hB).2
      have hown := HO.out
      clear HO
      rcases one_facts (whole_parts HW.out).1 with ⟨ho, hp, ha, hc, hn0, hn1, hn2⟩ | ⟨hax, hco, hn2, ⟨ho, ⟨p, q, hp⟩, hn0, hn1⟩ | ⟨p, hp, h⟩⟩
      · have := HHOP.out; exfalso; omega
      · have := HHOP.out; exfalso; omega
      · rw [hp] at hlen
        obtain ⟨s, rfl⟩ : ∃ s, R = [s] := by
          match R, hlen with
          | [s], _ => exact ⟨s, rfl⟩
        have hse := (builtL_good _ _ HRL.out (whole_parts HW.out).2 s (by simp)).ext
        obtain ⟨A8, c8, rfl, hr8, hc8, hb8, hz8⟩ := own_rdSV hown
        obtain ⟨bm, om, rfl, hbm, q0, q1, q2⟩ := hr8 0 s.ext rfl
        simp only [Nat.zero_mul, Nat.add_zero] at q0 q1 q2
        obtain ⟨T, hT⟩ : ∃ T, s.ext = T := ⟨_, rfl⟩
        obtain ⟨t1, t2, t3⟩ := T
        rw [hT] at hse q0 q1 q2
        have HTE := Lib.hid hT
        have HSE := Lib.hid hse
        unfold ExtOk at hse
        dsimp only at hse q0 q1 q2
        have hl0 : w.heap.size + 1 < wr.heap.size := by omega
        have HAXX := Lib.hid hax
        have hb0 : Below wa.heap.size wa (wr.alloc (.cells #[.int .i64 b.n0, .int .i64 b.n1, .int .i64 b.n2] 22)) := hB.alloc hsB _
        obtain ⟨g0, g1, g2, g3, g4, g5, g6⟩ := (HXA.out _ hb0).1
        have HM2 : Hid (∀ W, Below wr.heap.size wr W → W.cell? ⟨bm, om, none⟩ = some (.int .i64 t1) ∧ W.cell? ⟨bm, om + 1, none⟩ = some (.int .i64 t2) ∧ W.cell? ⟨bm, om + 2, none⟩ = some (.int .i64 t3)) := fun W h => ⟨(h.cell hbm).trans q0, (h.cell hbm).trans q1, (h.cell hbm).trans q2⟩
        obtain ⟨j0, j1, j2⟩ := HM2.out (wr.alloc (.cells #[.int .i64 b.n0, .int .i64 b.n1, .int .i64 b.n2] 22)) (by (repeat (first | exact Below.refl _ _ | assumption | refine Below.alloc ?_ (by first | exact Nat.le_refl _ | exact Below.size (by assumption) | omega | (simp <;> omega)) _ | refine Below.setCell ?_ (by first | exact Nat.le_refl _ | exact Below.size (by assumption) | omega | (simp <;> omega)) _ | refine below_drewN ?_ _ | refine Below.drew ?_)))
        have hb1 : Below wa.heap.size wa (wr.alloc (.cells #[.int .i64 t1, .int .i64 t2, .int .i64 t3] 22)) := hB.alloc hsB _
        obtain ⟨h0, h1, h2, h3, h4, h5, h6⟩ := (HXA.out _ hb1).1
        clear hr8 hc8 hb8 hz8 hown hp hlen hT
        simp only [List.map_cons, List.map_nil, List.length_cons, List.length_nil]
        rcases h with ⟨ho, hn0, hn1⟩ | ⟨ho, hn0, hn1⟩ | ⟨ho, hn0, hn1⟩ | ⟨ho, hn0, hn1⟩
        · have := HHOP.out; exfalso; omega
        · have := HHOP.out; exfalso; omega
        · have := HHOP.out; exfalso; omega
        · have HOP := Lib.hid ho
          rcases hax with ha | ha | ha
          · have HAX := Lib.hid ha
            have hm0 : 1 ≤ t1 * b.n0 := by
              have := Int.mul_le_mul (a := 1) (b := 1) (c := t1) (d := b.n0) (by omega) (by omega) (by omega) (by omega)
              omega
            have hm1 : t1 * b.n0 ≤ 200 * 999 := Int.mul_le_mul (by omega) (by omega) (by omega) (by omega)
            have hw : wrap64 (t1 * b.n0) = t1 * b.n0 := w64b (by omega) (by omega)
            have hwi : IntKind.i64.wrap (t1 * b.n0) = t1 * b.n0 := IntWalk.i64_in _ (by omega)
            have HS : Hid (builtS b = if fitsS ⟨t1 * b.n0, t2, t3⟩ = 0 then .ok (.rep ⟨t1 * b.n0, t2, t3⟩ 0 s) else .error (fitsS ⟨t1 * b.n0, t2, t3⟩)) := by
              show _ = _
              rw [builtS_eq, HRL.out]
              show joinS b [s] = _
              simp [joinS, HOP.out, HAX.out, HTE.out, T3.get, T3.set]
            have HMF : Hid (measB b = if fitsS ⟨t1 * b.n0, t2, t3⟩ = 0 then (⟨t1 * b.n0, t2, t3⟩, 0) else (⟨0, 0, 0⟩, fitsS ⟨t1 * b.n0, t2, t3⟩)) := by
              show _ = _
              have hS := HS.out
              by_cases hf : fitsS ⟨t1 * b.n0, t2, t3⟩ = 0
              · rw [if_pos hf] at hS ⊢; rw [meas_ok hS]; rfl
              · rw [if_neg hf] at hS ⊢; rw [meas_er hS]
            have HNB : Hid (1 ≤ (t1 * b.n0) ∧ 1 ≤ t2 ∧ 1 ≤ t3) := ⟨by omega, by omega, by omega⟩
            have hNB := HNB.out
            have e2 : (b.op == 2) = false := by rw [HOP.out]; rfl
            have e3 : (b.op == 3) = false := by rw [HOP.out]; rfl
            have e4 : (b.op == 4) = false := by rw [HOP.out]; rfl
            have e6 : (b.op == 6) = true := by rw [HOP.out]; rfl
            rw [HAX.out] at h1
            have HZ : Hid (∀ W, Below (wr.alloc (.cells #[.int .i64 t1, .int .i64 t2, .int .i64 t3] 22)).heap.size (wr.alloc (.cells #[.int .i64 t1, .int .i64 t2, .int .i64 t3] 22)) W → BxB W w.heap.size b ∧ CX W wr.heap.size ⟨t1, t2, t3⟩ ∧ Below wr.heap.size wr W) := by
              intro W h
              have hB9 : Below wr.heap.size wr W := below_next (by (repeat (first | exact Below.refl _ _ | assumption | refine Below.alloc ?_ (by first | exact Nat.le_refl _ | exact Below.size (by assumption) | omega | (simp <;> omega)) _ | refine Below.setCell ?_ (by first | exact Nat.le_refl _ | exact Below.size (by assumption) | omega | (simp <;> omega)) _ | refine below_drewN ?_ _ | refine Below.drew ?_))) h
              exact ⟨(HXA.out W (hB.trans (hB9.mono hsB))).1, (CX.new wr ⟨t1, t2, t3⟩).below h (by simp), hB9⟩
            clear ho ha
            go_wp2
            clear f0 f1 f2 f3 f4 f5 f6 g0 g1 g2 g3 g4 g5 g6 h0 h1 h2 h3 h4 h5 h6 j0 j1 j2 q0 q1 q2
            refine region_tail 11 (fun W => Below (wr.alloc (.cells #[.int .i64 t1, .int .i64 t2, .int .i64 t3] 22)).heap.size (wr.alloc (.cells #[.int .i64 t1, .int .i64 t2, .int .i64 t3] 22)) W) hmx (by kernel_rfl) (by (repeat (first | exact Below.refl _ _ | assumption | refine Below.alloc ?_ (by first | exact Nat.le_refl _ | exact Below.size (by assumption) | omega | (simp <;> omega)) _ | refine Below.setCell ?_ (by first | exact Nat.le_refl _ | exact Below.size (by assumption) | omega | (simp <;> omega)) _ | refine below_drewN ?_ _ | refine Below.drew ?_))) ?_
            simp only [List.take_succ_cons, List.take_zero, List.drop_succ_cons, List.drop_zero]
            repeat (first | (refine qw_read rfl (fun w' hC => by obtain ⟨⟨f0, f1, f2, f3, f4, f5, f6⟩, hcx, _⟩ := HZ.out w' hC; rw [HAX.out] at f1; obtain ⟨p0, p1, p2, p3, p4, p5⟩ := hcx.c; clear hcx; clear hC; go_simp; rfl) ?_; simp only [Act.put, List.setIfInBounds_toArray, List.set_cons_succ, List.set_cons_zero]) | (refine qw_pass (by first | (simp [Region.wanted, yielded]; done) | (simp [Region.wanted, yielded]; intro h; cases h)) ?_; simp only [Act.put, List.setIfInBounds_toArray, List.set_cons_succ, List.set_cons_zero]))
            refine qw_nil ?_
            intro w9 hb9
            obtain ⟨_, hcx, hB9⟩ := HZ.out w9 hb9
            obtain ⟨p0, p1, p2, p3, p4, p5⟩ := hcx.c
            have C9 := Lib.hid (hcx.set0 (t1 * b.n0))
            have hs9 := hB9.size
            have hBa9 : Below wa.heap.size wa w9 := hB.trans (hB9.mono hsB)
            go_wp2
            clear p0 p1 p2 p3 p4 p5
            go_loopw [10] (fun i wq => ∃ j : Nat, j ≤ 3 ∧ i = .int .i64 j ∧ (1 ≤ j → (t1 * b.n0) ≤ 200) ∧ (2 ≤ j → t2 ≤ 200) ∧ (3 ≤ j → t3 ≤ 200) ∧ CX wq wr.heap.size ⟨t1 * b.n0, t2, t3⟩ ∧ CX wq (w.heap.size + 1) ⟨0, 0, 0⟩ ∧ Below wr.heap.size wr wq) (fun i _ => 3 - (intOf i).toNat)
            case atStart => exact ⟨0, by omega, rfl, by omega, by omega, by omega, C9.out, (HXA.out _ (by (repeat (first | exact Below.refl _ _ | assumption | refine Below.alloc ?_ (by first | exact Nat.le_refl _ | exact Below.size (by assumption) | omega | (simp <;> omega)) _ | refine Below.setCell ?_ (by first | exact Nat.le_refl _ | exact Below.size (by assumption) | omega | (simp <;> omega)) _ | refine below_drewN ?_ _ | refine Below.drew ?_)))).2, by (repeat (first | exact Below.refl _ _ | assumption | refine Below.alloc ?_ (by first | exact Nat.le_refl _ | exact Below.size (by assumption) | omega | (simp <;> omega)) _ | refine Below.setCell ?_ (by first | exact Nat.le_refl _ | exact Below.size (by assumption) | omega | (simp <;> omega)) _ | refine below_drewN ?_ _ | refine Below.drew ?_))⟩
            case round =>
              obtain ⟨j, hj, rfl, k0, k1, k2, hc8, hc2, hBq⟩ := hrel
              have K0 := Lib.hid k0; have K1 := Lib.hid k1; have K2 := Lib.hid k2; have C8 := Lib.hid hc8
              obtain ⟨x0, x1, x2, x3, x4, x5⟩ := hc2.c
              obtain ⟨y0, y1, y2, _⟩ := (hc2.put ⟨0, 0, 0⟩).c
              obtain ⟨v0, v1, v2, _⟩ := (hc2.put ⟨t1 * b.n0, t2, t3⟩).c
              obtain ⟨p0, p1, p2, _⟩ := hc8.c
              have hBf := hBw.trans (hBq.mono hBw.size)
              dsimp only at p0 p1 p2 v0 v1 v2 y0 y1 y2
              clear k0 k1 k2 hc8 hc2
              rcases (show j = 0 ∨ j = 1 ∨ j = 2 ∨ j = 3 by omega) with rfl | rfl | rfl | rfl
              · by_cases hl : 200 < (t1 * b.n0)
                · first
                  | (exfalso; omega)
                  | (have HM2 : Hid (measB b = (⟨0, 0, 0⟩, 4)) := by
                       show _ = _
                       have hf : fitsS ⟨t1 * b.n0, t2, t3⟩ = 4 := by unfold fitsS; rw [if_pos (by dsimp only; omega)]
                       rw [HMF.out, hf]; rfl
                     go_wp2
                     refine bodyPost_ret (v := .tuple #[val3 ⟨0, 0, 0⟩, .int .i64 4]) (by simp [results, Tryd.results55, go_sem, y0, y1, y2]) rfl ?_
                     exact Ret.mk (by rw [HM2.out]) (by (repeat (first | exact Below.refl _ _ | assumption | refine Below.alloc ?_ (by first | exact Nat.le_refl _ | exact Below.size (by assumption) | omega | (simp <;> omega)) _ | refine Below.setCell ?_ (by first | exact Nat.le_refl _ | exact Below.size (by assumption) | omega | (simp <;> omega)) _ | refine below_drewN ?_ _ | refine Below.drew ?_))))
                · go_wp2
                  go_roundw
                  case rel => exact ⟨1, by omega, by go_num, (fun _ => by omega), (fun h => absurd h (by omega)), (fun h => absurd h (by omega)), C8.out, (HXA.out _ (hB.trans (hBq.mono hsB))).2, hBq⟩
                  case measure => simp [intOf]
              · by_cases hl : 200 < t2
                · first
                  | (exfalso; omega)
                  | (have HM2 : Hid (measB b = (⟨0, 0, 0⟩, 4)) := by
                       show _ = _
                       have hf : fitsS ⟨t1 * b.n0, t2, t3⟩ = 4 := by unfold fitsS; rw [if_pos (by dsimp only; omega)]
                       rw [HMF.out, hf]; rfl
                     go_wp2
                     refine bodyPost_ret (v := .tuple #[val3 ⟨0, 0, 0⟩, .int .i64 4]) (by simp [results, Tryd.results55, go_sem, y0, y1, y2]) rfl ?_
                     exact Ret.mk (by rw [HM2.out]) (by (repeat (first | exact Below.refl _ _ | assumption | refine Below.alloc ?_ (by first | exact Nat.le_refl _ | exact Below.size (by assumption) | omega | (simp <;> omega)) _ | refine Below.setCell ?_ (by first | exact Nat.le_refl _ | exact Below.size (by assumption) | omega | (simp <;> omega)) _ | refine below_drewN ?_ _ | refine Below.drew ?_))))
                · go_wp2
                  go_roundw
                  case rel => exact ⟨2, by omega, by go_num, (fun _ => K0.out (by omega)), (fun _ => by omega), (fun h => absurd h (by omega)), C8.out, (HXA.out _ (hB.trans (hBq.mono hsB))).2, hBq⟩
                  case measure => simp [intOf]
              · by_cases hl : 200 < t3
                · first
                  | (exfalso; omega)
                  | (have HM2 : Hid (measB b = (⟨0, 0, 0⟩, 4)) := by
                       show _ = _
                       have hf : fitsS ⟨t1 * b.n0, t2, t3⟩ = 4 := by unfold fitsS; rw [if_pos (by dsimp only; omega)]
                       rw [HMF.out, hf]; rfl
                     go_wp2
                     refine bodyPost_ret (v := .tuple #[val3 ⟨0, 0, 0⟩, .int .i64 4]) (by simp [results, Tryd.results55, go_sem, y0, y1, y2]) rfl ?_
                     exact Ret.mk (by rw [HM2.out]) (by (repeat (first | exact Below.refl _ _ | assumption | refine Below.alloc ?_ (by first | exact Nat.le_refl _ | exact Below.size (by assumption) | omega | (simp <;> omega)) _ | refine Below.setCell ?_ (by first | exact Nat.le_refl _ | exact Below.size (by assumption) | omega | (simp <;> omega)) _ | refine below_drewN ?_ _ | refine Below.drew ?_))))
                · go_wp2
                  go_roundw
                  case rel => exact ⟨3, by omega, by go_num, (fun _ => K0.out (by omega)), (fun _ => K1.out (by omega)), (fun _ => by omega), C8.out, (HXA.out _ (hB.trans (hBq.mono hsB))).2, hBq⟩
                  case measure => simp [intOf]
              · have m0 := K0.out (by omega)
                have m1 := K1.out (by omega)
                have m2 := K2.out (by omega)
                have n1 : 1 ≤ (t1 * b.n0) ∧ 1 ≤ t2 ∧ 1 ≤ t3 := HNB.out
                have h1 : 0 ≤ (t1 * b.n0) * t2 ∧ (t1 * b.n0) * t2 ≤ 200 * 200 := ⟨Int.mul_nonneg (by omega) (by omega), Int.mul_le_mul (by omega) (by omega) (by omega) (by omega)⟩
                have h2 : 0 ≤ (t1 * b.n0) * t2 * t3 ∧ (t1 * b.n0) * t2 * t3 ≤ 200 * 200 * 200 := ⟨Int.mul_nonneg (by omega) (by omega), Int.mul_le_mul (by omega) (by omega) (by omega) (by omega)⟩
                by_cases hl : 8000 < (t1 * b.n0) * t2 * t3
                · first
                  | (exfalso; omega)
                  | (have HM2 : Hid (measB b = (⟨0, 0, 0⟩, 4)) := by
                       show _ = _
                       have hf : fitsS ⟨t1 * b.n0, t2, t3⟩ = 4 := by unfold fitsS; rw [if_neg (by dsimp only; omega), if_pos hl]
                       rw [HMF.out, hf]; rfl
                     go_wp2
                     refine bodyPost_ret (v := .tuple #[val3 ⟨0, 0, 0⟩, .int .i64 4]) (by simp [results, Tryd.results55, go_sem, y0, y1, y2]) rfl ?_
                     exact Ret.mk (by rw [HM2.out]) (by (repeat (first | exact Below.refl _ _ | assumption | refine Below.alloc ?_ (by first | exact Nat.le_refl _ | exact Below.size (by assumption) | omega | (simp <;> omega)) _ | refine Below.setCell ?_ (by first | exact Nat.le_refl _ | exact Below.size (by assumption) | omega | (simp <;> omega)) _ | refine below_drewN ?_ _ | refine Below.drew ?_))))
                · have HM2 : Hid (measB b = (⟨t1 * b.n0, t2, t3⟩, 0)) := by
                    show _ = _
                    have hf : fitsS ⟨t1 * b.n0, t2, t3⟩ = 0 := by unfold fitsS; rw [if_neg (by dsimp only; omega), if_neg hl]
                    rw [HMF.out, if_pos hf]
                  go_wp2
                  refine bodyPost_ret (v := .tuple #[val3 ⟨t1 * b.n0, t2, t3⟩, .int .i64 0]) (by simp [results, Tryd.results55, go_sem, v0, v1, v2]) rfl ?_
                  exact Ret.mk (by rw [HM2.out]) (by (repeat (first | exact Below.refl _ _ | assumption | refine Below.alloc ?_ (by first | exact Nat.le_refl _ | exact Below.size (by assumption) | omega | (simp <;> omega)) _ | refine Below.setCell ?_ (by first | exact Nat.le_refl _ | exact Below.size (by assumption) | omega | (simp <;> omega)) _ | refine below_drewN ?_ _ | refine Below.drew ?_)))
          · have HAX := Lib.hid ha
            have hm0 : 1 ≤ t2 * b.n0 := by
              have := Int.mul_le_mul (a := 1) (b := 1) (c := t2) (d := b.n0) (by omega) (by omega) (by omega) (by omega)
              omega
            have hm1 : t2 * b.n0 ≤ 200 * 999 := Int.mul_le_mul (by omega) (by omega) (by omega) (by omega)
            have hw : wrap64 (t2 * b.n0) = t2 * b.n0 := w64b (by omega) (by omega)
            have hwi : IntKind.i64.wrap (t2 * b.n0) = t2 * b.n0 := IntWalk.i64_in _ (by omega)
            have HS : Hid (builtS b = if fitsS ⟨t1, t2 * b.n0, t3⟩ = 0 then .ok (.rep ⟨t1, t2 * b.n0, t3⟩ 1 s) else .error (fitsS ⟨t1, t2 * b.n0, t3⟩)) := by
              show _ = _
              rw [builtS_eq, HRL.out]
              show joinS b [s] = _
              simp [joinS, HOP.out, HAX.out, HTE.out, T3.get, T3.set]
            have HMF : Hid (measB b = if fitsS ⟨t1, t2 * b.n0, t3⟩ = 0 then (⟨t1, t2 * b.n0, t3⟩, 0) else (⟨0, 0, 0⟩, fitsS ⟨t1, t2 * b.n0, t3⟩)) := by
              show _ = _
              have hS := HS.out
              by_cases hf : fitsS ⟨t1, t2 * b.n0, t3⟩ = 0
              · rw [if_pos hf] at hS ⊢; rw [meas_ok hS]; rfl
              · rw [if_neg hf] at hS ⊢; rw [meas_er hS]
            have HNB : Hid (1 ≤ t1 ∧ 1 ≤ (t2 * b.n0) ∧ 1 ≤ t3) := ⟨by omega, by omega, by omega⟩
            have hNB := HNB.out
            have e2 : (b.op == 2) = false := by rw [HOP.out]; rfl
            have e3 : (b.op == 3) = false := by rw [HOP.out]; rfl
            have e4 : (b.op == 4) = false := by rw [HOP.out]; rfl
            have e6 : (b.op == 6) = true := by rw [HOP.out]; rfl
            rw [HAX.out] at h1
            have HZ : Hid (∀ W, Below (wr.alloc (.cells #[.int .i64 t1, .int .i64 t2, .int .i64 t3] 22)).heap.size (wr.alloc (.cells #[.int .i64 t1, .int .i64 t2, .int .i64 t3] 22)) W → BxB W w.heap.size b ∧ CX W wr.heap.size ⟨t1, t2, t3⟩ ∧ Below wr.heap.size wr W) := by
              intro W h
              have hB9 : Below wr.heap.size wr W := below_next (by (repeat (first | exact Below.refl _ _ | assumption | refine Below.alloc ?_ (by first | exact Nat.le_refl _ | exact Below.size (by assumption) | omega | (simp <;> omega)) _ | refine Below.setCell ?_ (by first | exact Nat.le_refl _ | exact Below.size (by assumption) | omega | (simp <;> omega)) _ | refine below_drewN ?_ _ | refine Below.drew ?_))) h
              exact ⟨(HXA.out W (hB.trans (hB9.mono hsB))).1, (CX.new wr ⟨t1, t2, t3⟩).below h (by simp), hB9⟩
            clear ho ha
            go_wp2
            clear f0 f1 f2 f3 f4 f5 f6 g0 g1 g2 g3 g4 g5 g6 h0 h1 h2 h3 h4 h5 h6 j0 j1 j2 q0 q1 q2
            refine region_tail 11 (fun W => Below (wr.alloc (.cells #[.int .i64 t1, .int .i64 t2, .int .i64 t3] 22)).heap.size (wr.alloc (.cells #[.int .i64 t1, .int .i64 t2, .int .i64 t3] 22)) W) hmx (by kernel_rfl) (by (repeat (first | exact Below.refl _ _ | assumption | refine Below.alloc ?_ (by first | exact Nat.le_refl _ | exact Below.size (by assumption) | omega | (simp <;> omega)) _ | refine Below.setCell ?_ (by first | exact Nat.le_refl _ | exact Below.size (by assumption) | omega | (simp <;> omega)) _ | refine below_drewN ?_ _ | refine Below.drew ?_))) ?_
            simp only [List.take_succ_cons, List.take_zero, List.drop_succ_cons, List.drop_zero]
            repeat (first | (refine qw_read rfl (fun w' hC => by obtain ⟨⟨f0, f1, f2, f3, f4, f5, f6⟩, hcx, _⟩ := HZ.out w' hC; rw [HAX.out] at f1; obtain ⟨p0, p1, p2, p3, p4, p5⟩ := hcx.c; clear hcx; clear hC; go_simp; rfl) ?_; simp only [Act.put, List.setIfInBounds_toArray, List.set_cons_succ, List.set_cons_zero]) | (refine qw_pass (by first | (simp [Region.wanted, yielded]; done) | (simp [Region.wanted, yielded]; intro h; cases h)) ?_; simp only [Act.put, List.setIfInBounds_toArray, List.set_cons_succ, List.set_cons_zero]))
            refine qw_nil ?_
            intro w9 hb9
            obtain ⟨_, hcx, hB9⟩ := HZ.out w9 hb9
            obtain ⟨p0, p1, p2, p3, p4, p5⟩ := hcx.c
            have C9 := Lib.hid (hcx.set1 (t2 * b.n0))
            have hs9 := hB9.size
            have hBa9 : Below wa.heap.size wa w9 := hB.trans (hB9.mono hsB)
            go_wp2
            clear p0 p1 p2 p3 p4 p5
            go_loopw [10] (fun i wq => ∃ j : Nat, j ≤ 3 ∧ i = .int .i64 j ∧ (1 ≤ j → t1 ≤ 200) ∧ (2 ≤ j → (t2 * b.n0) ≤ 200) ∧ (3 ≤ j → t3 ≤ 200) ∧ CX wq wr.heap.size ⟨t1, t2 * b.n0, t3⟩ ∧ CX wq (w.heap.size + 1) ⟨0, 0, 0⟩ ∧ Below wr.heap.size wr wq) (fun i _ => 3 - (intOf i).toNat)
            case atStart => exact ⟨0, by omega, rfl, by omega, by omega, by omega, C9.out, (HXA.out _ (by (repeat (first | exact Below.refl _ _ | assumption | refine Below.alloc ?_ (by first | exact Nat.le_refl _ | exact Below.size (by assumption) | omega | (simp <;> omega)) _ | refine Below.setCell ?_ (by first | exact Nat.le_refl _ | exact Below.size (by assumption) | omega | (simp <;> omega)) _ | refine below_drewN ?_ _ | refine Below.drew ?_)))).2, by (repeat (first | exact Below.refl _ _ | assumption | refine Below.alloc ?_ (by first | exact Nat.le_refl _ | exact Below.size (by assumption) | omega | (simp <;> omega)) _ | refine Below.setCell ?_ (by first | exact Nat.le_refl _ | exact Below.size (by assumption) | omega | (simp <;> omega)) _ | refine below_drewN ?_ _ | refine Below.drew ?_))⟩
            case round =>
              obtain ⟨j, hj, rfl, k0, k1, k2, hc8, hc2, hBq⟩ := hrel
              have K0 := Lib.hid k0; have K1 := Lib.hid k1; have K2 := Lib.hid k2; have C8 := Lib.hid hc8
              obtain ⟨x0, x1, x2, x3, x4, x5⟩ := hc2.c
              obtain ⟨y0, y1, y2, _⟩ := (hc2.put ⟨0, 0, 0⟩).c
              obtain ⟨v0, v1, v2, _⟩ := (hc2.put ⟨t1, t2 * b.n0, t3⟩).c
              obtain ⟨p0, p1, p2, _⟩ := hc8.c
              have hBf := hBw.trans (hBq.mono hBw.size)
              dsimp only at p0 p1 p2 v0 v1 v2 y0 y1 y2
              clear k0 k1 k2 hc8 hc2
              rcases (show j = 0 ∨ j = 1 ∨ j = 2 ∨ j = 3 by omega) with rfl | rfl | rfl | rfl
              · by_cases hl : 200 < t1
                · first
                  | (exfalso; omega)
                  | (have HM2 : Hid (measB b = (⟨0, 0, 0⟩, 4)) := by
                       show _ = _
                       have hf : fitsS ⟨t1, t2 * b.n0, t3⟩ = 4 := by unfold fitsS; rw [if_pos (by dsimp only; omega)]
                       rw [HMF.out, hf]; rfl
                     go_wp2
                     refine bodyPost_ret (v := .tuple #[val3 ⟨0, 0, 0⟩, .int .i64 4]) (by simp [results, Tryd.results55, go_sem, y0, y1, y2]) rfl ?_
                     exact Ret.mk (by rw [HM2.out]) (by (repeat (first | exact Below.refl _ _ | assumption | refine Below.alloc ?_ (by first | exact Nat.le_refl _ | exact Below.size (by assumption) | omega | (simp <;> omega)) _ | refine Below.setCell ?_ (by first | exact Nat.le_refl _ | exact Below.size (by assumption) | omega | (simp <;> omega)) _ | refine below_drewN ?_ _ | refine Below.drew ?_))))
                · go_wp2
                  go_roundw
                  case rel => exact ⟨1, by omega, by go_num, (fun _ => by omega), (fun h => absurd h (by omega)), (fun h => absurd h (by omega)), C8.out, (HXA.out _ (hB.trans (hBq.mono hsB))).2, hBq⟩
                  case measure => simp [intOf]
              · by_cases hl : 200 < (t2 * b.n0)
                · first
                  | (exfalso; omega)
                  | (have HM2 : Hid (measB b = (⟨0, 0, 0⟩, 4)) := by
                       show _ = _
                       have hf : fitsS ⟨t1, t2 * b.n0, t3⟩ = 4 := by unfold fitsS; rw [if_pos (by dsimp only; omega)]
                       rw [HMF.out, hf]; rfl
                     go_wp2
                     refine bodyPost_ret (v := .tuple #[val3 ⟨0, 0, 0⟩, .int .i64 4]) (by simp [results, Tryd.results55, go_sem, y0, y1, y2]) rfl ?_
                     exact Ret.mk (by rw [HM2.out]) (by (repeat (first | exact Below.refl _ _ | assumption | refine Below.alloc ?_ (by first | exact Nat.le_refl _ | exact Below.size (by assumption) | omega | (simp <;> omega)) _ | refine Below.setCell ?_ (by first | exact Nat.le_refl _ | exact Below.size (by assumption) | omega | (simp <;> omega)) _ | refine below_drewN ?_ _ | refine Below.drew ?_))))
                · go_wp2
                  go_roundw
                  case rel => exact ⟨2, by omega, by go_num, (fun _ => K0.out (by omega)), (fun _ => by omega), (fun h => absurd h (by omega)), C8.out, (HXA.out _ (hB.trans (hBq.mono hsB))).2, hBq⟩
                  case measure => simp [intOf]
              · by_cases hl : 200 < t3
                · first
                  | (exfalso; omega)
                  | (have HM2 : Hid (measB b = (⟨0, 0, 0⟩, 4)) := by
                       show _ = _
                       have hf : fitsS ⟨t1, t2 * b.n0, t3⟩ = 4 := by unfold fitsS; rw [if_pos (by dsimp only; omega)]
                       rw [HMF.out, hf]; rfl
                     go_wp2
                     refine bodyPost_ret (v := .tuple #[val3 ⟨0, 0, 0⟩, .int .i64 4]) (by simp [results, Tryd.results55, go_sem, y0, y1, y2]) rfl ?_
                     exact Ret.mk (by rw [HM2.out]) (by (repeat (first | exact Below.refl _ _ | assumption | refine Below.alloc ?_ (by first | exact Nat.le_refl _ | exact Below.size (by assumption) | omega | (simp <;> omega)) _ | refine Below.setCell ?_ (by first | exact Nat.le_refl _ | exact Below.size (by assumption) | omega | (simp <;> omega)) _ | refine below_drewN ?_ _ | refine Below.drew ?_))))
                · go_wp2
                  go_roundw
                  case rel => exact ⟨3, by omega, by go_num, (fun _ => K0.out (by omega)), (fun _ => K1.out (by omega)), (fun _ => by omega), C8.out, (HXA.out _ (hB.trans (hBq.mono hsB))).2, hBq⟩
                  case measure => simp [intOf]
              · have m0 := K0.out (by omega)
                have m1 := K1.out (by omega)
                have m2 := K2.out (by omega)
                have n1 : 1 ≤ t1 ∧ 1 ≤ (t2 * b.n0) ∧ 1 ≤ t3 := HNB.out
                have h1 : 0 ≤ t1 * (t2 * b.n0) ∧ t1 * (t2 * b.n0) ≤ 200 * 200 := ⟨Int.mul_nonneg (by omega) (by omega), Int.mul_le_mul (by omega) (by omega) (by omega) (by omega)⟩
                have h2 : 0 ≤ t1 * (t2 * b.n0) * t3 ∧ t1 * (t2 * b.n0) * t3 ≤ 200 * 200 * 200 := ⟨Int.mul_nonneg (by omega) (by omega), Int.mul_le_mul (by omega) (by omega) (by omega) (by omega)⟩
                by_cases hl : 8000 < t1 * (t2 * b.n0) * t3
                · first
                  | (exfalso; omega)
                  | (have HM2 : Hid (measB b = (⟨0, 0, 0⟩, 4)) := by
                       show _ = _
                       have hf : fitsS ⟨t1, t2 * b.n0, t3⟩ = 4 := by unfold fitsS; rw [if_neg (by dsimp only; omega), if_pos hl]
                       rw [HMF.out, hf]; rfl
                     go_wp2
                     refine bodyPost_ret (v := .tuple #[val3 ⟨0, 0, 0⟩, .int .i64 4]) (by simp [results, Tryd.results55, go_sem, y0, y1, y2]) rfl ?_
                     exact Ret.mk (by rw [HM2.out]) (by (repeat (first | exact Below.refl _ _ | assumption | refine Below.alloc ?_ (by first | exact Nat.le_refl _ | exact Below.size (by assumption) | omega | (simp <;> omega)) _ | refine Below.setCell ?_ (by first | exact Nat.le_refl _ | exact Below.size (by assumption) | omega | (simp <;> omega)) _ | refine below_drewN ?_ _ | refine Below.drew ?_))))
                · have HM2 : Hid (measB b = (⟨t1, t2 * b.n0, t3⟩, 0)) := by
                    show _ = _
                    have hf : fitsS ⟨t1, t2 * b.n0, t3⟩ = 0 := by unfold fitsS; rw [if_neg (by dsimp only; omega), if_neg hl]
                    rw [HMF.out, if_pos hf]
                  go_wp2
                  refine bodyPost_ret (v := .tuple #[val3 ⟨t1, t2 * b.n0, t3⟩, .int .i64 0]) (by simp [results, Tryd.results55, go_sem, v0, v1, v2]) rfl ?_
                  exact Ret.mk (by rw [HM2.out]) (by (repeat (first | exact Below.refl _ _ | assumption | refine Below.alloc ?_ (by first | exact Nat.le_refl _ | exact Below.size (by assumption) | omega | (simp <;> omega)) _ | refine Below.setCell ?_ (by first | exact Nat.le_refl _ | exact Below.size (by assumption) | omega | (simp <;> omega)) _ | refine below_drewN ?_ _ | refine Below.drew ?_)))
          · have HAX := Lib.hid ha
            have hm0 : 1 ≤ t3 * b.n0 := by
              have := Int.mul_le_mul (a := 1) (b := 1) (c := t3) (d := b.n0) (by omega) (by omega) (by omega) (by omega)
              omega
            have hm1 : t3 * b.n0 ≤ 200 * 999 := Int.mul_le_mul (by omega) (by omega) (by omega) (by omega)
            have hw : wrap64 (t3 * b.n0) = t3 * b.n0 := w64b (by omega) (by omega)
            have hwi : IntKind.i64.wrap (t3 * b.n0) = t3 * b.n0 := IntWalk.i64_in _ (by omega)
            have HS : Hid (builtS b = if fitsS ⟨t1, t2, t3 * b.n0⟩ = 0 then .ok (.rep ⟨t1, t2, t3 * b.n0⟩ 2 s) else .error (fitsS ⟨t1, t2, t3 * b.n0⟩)) := by
              show _ = _
              rw [builtS_eq, HRL.out]
              show joinS b [s] = _
              simp [joinS, HOP.out, HAX.out, HTE.out, T3.get, T3.set]
            have HMF : Hid (measB b = if fitsS ⟨t1, t2, t3 * b.n0⟩ = 0 then (⟨t1, t2, t3 * b.n0⟩, 0) else (⟨0, 0, 0⟩, fitsS ⟨t1, t2, t3 * b.n0⟩)) := by
              show _ = _
              have hS := HS.out
              by_cases hf : fitsS ⟨t1, t2, t3 * b.n0⟩ = 0
              · rw [if_pos hf] at hS ⊢; rw [meas_ok hS]; rfl
              · rw [if_neg hf] at hS ⊢; rw [meas_er hS]
            have HNB : Hid (1 ≤ t1 ∧ 1 ≤ t2 ∧ 1 ≤ (t3 * b.n0)) := ⟨by omega, by omega, by omega⟩
            have hNB := HNB.out
            have e2 : (b.op == 2) = false := by rw [HOP.out]; rfl
            have e3 : (b.op == 3) = false := by rw [HOP.out]; rfl
            have e4 : (b.op == 4) = false := by rw [HOP.out]; rfl
            have e6 : (b.op == 6) = true := by rw [HOP.out]; rfl
            rw [HAX.out] at h1
            have HZ : Hid (∀ W, Below (wr.alloc (.cells #[.int .i64 t1, .int .i64 t2, .int .i64 t3] 22)).heap.size (wr.alloc (.cells #[.int .i64 t1, .int .i64 t2, .int .i64 t3] 22)) W → BxB W w.heap.size b ∧ CX W wr.heap.size ⟨t1, t2, t3⟩ ∧ Below wr.heap.size wr W) := by
              intro W h
              have hB9 : Below wr.heap.size wr W := below_next (by (repeat (first | exact Below.refl _ _ | assumption | refine Below.alloc ?_ (by first | exact Nat.le_refl _ | exact Below.size (by assumption) | omega | (simp <;> omega)) _ | refine Below.setCell ?_ (by first | exact Nat.le_refl _ | exact Below.size (by assumption) | omega | (simp <;> omega)) _ | refine below_drewN ?_ _ | refine Below.drew ?_))) h
              exact ⟨(HXA.out W (hB.trans (hB9.mono hsB))).1, (CX.new wr ⟨t1, t2, t3⟩).below h (by simp), hB9⟩
            clear ho ha
            go_wp2
            clear f0 f1 f2 f3 f4 f5 f6 g0 g1 g2 g3 g4 g5 g6 h0 h1 h2 h3 h4 h5 h6 j0 j1 j2 q0 q1 q2
            refine region_tail 11 (fun W => Below (wr.alloc (.cells #[.int .i64 t1, .int .i64 t2, .int .i64 t3] 22)).heap.size (wr.alloc (.cells #[.int .i64 t1, .int .i64 t2, .int .i64 t3] 22)) W) hmx (by kernel_rfl) (by (repeat (first | exact Below.refl _ _ | assumption | refine Below.alloc ?_ (by first | exact Nat.le_refl _ | exact Below.size (by assumption) | omega | (simp <;> omega)) _ | refine Below.setCell ?_ (by first | exact Nat.le_refl _ | exact Below.size (by assumption) | omega | (simp <;> omega)) _ | refine below_drewN ?_ _ | refine Below.drew ?_))) ?_
            simp only [List.take_succ_cons, List.take_zero, List.drop_succ_cons, List.drop_zero]
            repeat (first | (refine qw_read rfl (fun w' hC => by obtain ⟨⟨f0, f1, f2, f3, f4, f5, f6⟩, hcx, _⟩ := HZ.out w' hC; rw [HAX.out] at f1; obtain ⟨p0, p1, p2, p3, p4, p5⟩ := hcx.c; clear hcx; clear hC; go_simp; rfl) ?_; simp only [Act.put, List.setIfInBounds_toArray, List.set_cons_succ, List.set_cons_zero]) | (refine qw_pass (by first | (simp [Region.wanted, yielded]; done) | (simp [Region.wanted, yielded]; intro h; cases h)) ?_; simp only [Act.put, List.setIfInBounds_toArray, List.set_cons_succ, List.set_cons_zero]))
            refine qw_nil ?_
            intro w9 hb9
            obtain ⟨_, hcx, hB9⟩ := HZ.out w9 hb9
            obtain ⟨p0, p1, p2, p3, p4, p5⟩ := hcx.c
            have C9 := Lib.hid (hcx.set2 (t3 * b.n0))
            have hs9 := hB9.size
            have hBa9 : Below wa.heap.size wa w9 := hB.trans (hB9.mono hsB)
            go_wp2
            clear p0 p1 p2 p3 p4 p5
            go_loopw [10] (fun i wq => ∃ j : Nat, j ≤ 3 ∧ i = .int .i64 j ∧ (1 ≤ j → t1 ≤ 200) ∧ (2 ≤ j → t2 ≤ 200) ∧ (3 ≤ j → (t3 * b.n0) ≤ 200) ∧ CX wq wr.heap.size ⟨t1, t2, t3 * b.n0⟩ ∧ CX wq (w.heap.size + 1) ⟨0, 0, 0⟩ ∧ Below wr.heap.size wr wq) (fun i _ => 3 - (intOf i).toNat)
            case atStart => exact ⟨0, by omega, rfl, by omega, by omega, by omega, C9.out, (HXA.out _ (by (repeat (first | exact Below.refl _ _ | assumption | refine Below.alloc ?_ (by first | exact Nat.le_refl _ | exact Below.size (by assumption) | omega | (simp <;> omega)) _ | refine Below.setCell ?_ (by first | exact Nat.le_refl _ | exact Below.size (by assumption) | omega | (simp <;> omega)) _ | refine below_drewN ?_ _ | refine Below.drew ?_)))).2, by (repeat (first | exact Below.refl _ _ | assumption | refine Below.alloc ?_ (by first | exact Nat.le_refl _ | exact Below.size (by assumption) | omega | (simp <;> omega)) _ | refine Below.setCell ?_ (by first | exact Nat.le_refl _ | exact Below.size (by assumption) | omega | (simp <;> omega)) _ | refine below_drewN ?_ _ | refine Below.drew ?_))⟩
            case round =>
              obtain ⟨j, hj, rfl, k0, k1, k2, hc8, hc2, hBq⟩ := hrel
              have K0 := Lib.hid k0; have K1 := Lib.hid k1; have K2 := Lib.hid k2; have C8 := Lib.hid hc8
              obtain ⟨x0, x1, x2, x3, x4, x5⟩ := hc2.c
              obtain ⟨y0, y1, y2, _⟩ := (hc2.put ⟨0, 0, 0⟩).c
              obtain ⟨v0, v1, v2, _⟩ := (hc2.put ⟨t1, t2, t3 * b.n0⟩).c
              obtain ⟨p0, p1, p2, _⟩ := hc8.c
              have hBf := hBw.trans (hBq.mono hBw.size)
              dsimp only at p0 p1 p2 v0 v1 v2 y0 y1 y2
              clear k0 k1 k2 hc8 hc2
              rcases (show j = 0 ∨ j = 1 ∨ j = 2 ∨ j = 3 by omega) with rfl | rfl | rfl | rfl
              · by_cases hl : 200 < t1
                · first
                  | (exfalso; omega)
                  | (have HM2 : Hid (measB b = (⟨0, 0, 0⟩, 4)) := by
                       show _ = _
                       have hf : fitsS ⟨t1, t2, t3 * b.n0⟩ = 4 := by unfold fitsS; rw [if_pos (by dsimp only; omega)]
                       rw [HMF.out, hf]; rfl
                     go_wp2
                     refine bodyPost_ret (v := .tuple #[val3 ⟨0, 0, 0⟩, .int .i64 4]) (by simp [results, Tryd.results55, go_sem, y0, y1, y2]) rfl ?_
                     exact Ret.mk (by rw [HM2.out]) (by (repeat (first | exact Below.refl _ _ | assumption | refine Below.alloc ?_ (by first | exact Nat.le_refl _ | exact Below.size (by assumption) | omega | (simp <;> omega)) _ | refine Below.setCell ?_ (by first | exact Nat.le_refl _ | exact Below.size (by assumption) | omega | (simp <;> omega)) _ | refine below_drewN ?_ _ | refine Below.drew ?_))))
                · go_wp2
                  go_roundw
                  case rel => exact ⟨1, by omega, by go_num, (fun _ => by omega), (fun h => absurd h (by omega)), (fun h => absurd h (by omega)), C8.out, (HXA.out _ (hB.trans (hBq.mono hsB))).2, hBq⟩
                  case measure => simp [intOf]
              · by_cases hl : 200 < t2
                · first
                  | (exfalso; omega)
                  | (have HM2 : Hid (measB b = (⟨0, 0, 0⟩, 4)) := by
                       show _ = _
                       have hf : fitsS ⟨t1, t2, t3 * b.n0⟩ = 4 := by unfold fitsS; rw [if_pos (by dsimp only; omega)]
                       rw [HMF.out, hf]; rfl
                     go_wp2
                     refine bodyPost_ret (v := .tuple #[val3 ⟨0, 0, 0⟩, .int .i64 4]) (by simp [results, Tryd.results55, go_sem, y0, y1, y2]) rfl ?_
                     exact Ret.mk (by rw [HM2.out]) (by (repeat (first | exact Below.refl _ _ | assumption | refine Below.alloc ?_ (by first | exact Nat.le_refl _ | exact Below.size (by assumption) | omega | (simp <;> omega)) _ | refine Below.setCell ?_ (by first | exact Nat.le_refl _ | exact Below.size (by assumption) | omega | (simp <;> omega)) _ | refine below_drewN ?_ _ | refine Below.drew ?_))))
                · go_wp2
                  go_roundw
                  case rel => exact ⟨2, by omega, by go_num, (fun _ => K0.out (by omega)), (fun _ => by omega), (fun h => absurd h (by omega)), C8.out, (HXA.out _ (hB.trans (hBq.mono hsB))).2, hBq⟩
                  case measure => simp [intOf]
              · by_cases hl : 200 < (t3 * b.n0)
                · first
                  | (exfalso; omega)
                  | (have HM2 : Hid (measB b = (⟨0, 0, 0⟩, 4)) := by
                       show _ = _
                       have hf : fitsS ⟨t1, t2, t3 * b.n0⟩ = 4 := by unfold fitsS; rw [if_pos (by dsimp only; omega)]
                       rw [HMF.out, hf]; rfl
                     go_wp2
                     refine bodyPost_ret (v := .tuple #[val3 ⟨0, 0, 0⟩, .int .i64 4]) (by simp [results, Tryd.results55, go_sem, y0, y1, y2]) rfl ?_
                     exact Ret.mk (by rw [HM2.out]) (by (repeat (first | exact Below.refl _ _ | assumption | refine Below.alloc ?_ (by first | exact Nat.le_refl _ | exact Below.size (by assumption) | omega | (simp <;> omega)) _ | refine Below.setCell ?_ (by first | exact Nat.le_refl _ | exact Below.size (by assumption) | omega | (simp <;> omega)) _ | refine below_drewN ?_ _ | refine Below.drew ?_))))
                · go_wp2
                  go_roundw
                  case rel => exact ⟨3, by omega, by go_num, (fun _ => K0.out (by omega)), (fun _ => K1.out (by omega)), (fun _ => by omega), C8.out, (HXA.out _ (hB.trans (hBq.mono hsB))).2, hBq⟩
                  case measure => simp [intOf]
              · have m0 := K0.out (by omega)
                have m1 := K1.out (by omega)
                have m2 := K2.out (by omega)
                have n1 : 1 ≤ t1 ∧ 1 ≤ t2 ∧ 1 ≤ (t3 * b.n0) := HNB.out
                have h1 : 0 ≤ t1 * t2 ∧ t1 * t2 ≤ 200 * 200 := ⟨Int.mul_nonneg (by omega) (by omega), Int.mul_le_mul (by omega) (by omega) (by omega) (by omega)⟩
                have h2 : 0 ≤ t1 * t2 * (t3 * b.n0) ∧ t1 * t2 * (t3 * b.n0) ≤ 200 * 200 * 200 := ⟨Int.mul_nonneg (by omega) (by omega), Int.mul_le_mul (by omega) (by omega) (by omega) (by omega)⟩
                by_cases hl : 8000 < t1 * t2 * (t3 * b.n0)
                · first
                  | (exfalso; omega)
                  | (have HM2 : Hid (measB b = (⟨0, 0, 0⟩, 4)) := by
                       show _ = _
                       have hf : fitsS ⟨t1, t2, t3 * b.n0⟩ = 4 := by unfold fitsS; rw [if_neg (by dsimp only; omega), if_pos hl]
                       rw [HMF.out, hf]; rfl
                     go_wp2
                     refine bodyPost_ret (v := .tuple #[val3 ⟨0, 0, 0⟩, .int .i64 4]) (by simp [results, Tryd.results55, go_sem, y0, y1, y2]) rfl ?_
                     exact Ret.mk (by rw [HM2.out]) (by (repeat (first | exact Below.refl _ _ | assumption | refine Below.alloc ?_ (by first | exact Nat.le_refl _ | exact Below.size (by assumption) | omega | (simp <;> omega)) _ | refine Below.setCell ?_ (by first | exact Nat.le_refl _ | exact Below.size (by assumption) | omega | (simp <;> omega)) _ | refine below_drewN ?_ _ | refine Below.drew ?_))))
                · have HM2 : Hid (measB b = (⟨t1, t2, t3 * b.n0⟩, 0)) := by
                    show _ = _
                    have hf : fitsS ⟨t1, t2, t3 * b.n0⟩ = 0 := by unfold fitsS; rw [if_neg (by dsimp only; omega), if_neg hl]
                    rw [HMF.out, if_pos hf]
                  go_wp2
                  refine bodyPost_ret (v := .tuple #[val3 ⟨t1, t2, t3 * b.n0⟩, .int .i64 0]) (by simp [results, Tryd.results55, go_sem, v0, v1, v2]) rfl ?_
                  exact Ret.mk (by rw [HM2.out]) (by (repeat (first | exact Below.refl _ _ | assumption | refine Below.alloc ?_ (by first | exact Nat.le_refl _ | exact Below.size (by assumption) | omega | (simp <;> omega)) _ | refine Below.setCell ?_ (by first | exact Nat.le_refl _ | exact Below.size (by assumption) | omega | (simp <;> omega)) _ | refine below_drewN ?_ _ | refine Below.drew ?_)))
end Go.Proofs.YtbcnkcndhgihaaaDoor

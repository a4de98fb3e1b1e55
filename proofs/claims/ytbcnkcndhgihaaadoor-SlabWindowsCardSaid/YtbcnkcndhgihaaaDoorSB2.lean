/- Blocks: built at stacks: the walk. Printed by gensb.py. -/
import Derived.Test.YtbcnkcndhgihaaaDoorSB0
namespace Go.Proofs.YtbcnkcndhgihaaaDoor
open Go.RowKit
set_option linter.unusedSimpArgs false


set_option maxRecDepth 100000 in
set_option maxHeartbeats 8000000 in
theorem built_stack0 (b : BT) (w : World) (hb : OkB w w.heap.size b) (hl2 : b.ps.length ≤ 2) (HOP : Hid (b.op = 2)) (HAX : Hid (b.ax = 0)) (HP : Hid (∃ p q, b.ps = [p, q])) (HSO : Hid (∀ s t, builtL b.ps = .ok [s, t] → ExtOk s.ext ∧ ExtOk t.ext))
    (ih : ∀ p ∈ b.ps, ∀ w, OkB w w.heap.size p → Calls Tryd.prog 83 #[valB p] w (BuiltR p w)) (herr : ∀ p ∈ b.ps, ∀ x, builtS p = .error x → x = 4 ∨ x = 21) : Calls Tryd.prog 83 #[valB b] w (BuiltR b w) := by
  have IH := Lib.hid ih; clear ih
  have HER := Lib.hid herr; clear herr
  have HB := Lib.hid hb; clear hb
  have hmx : Tryd.prog.follows .mixedOrders = true := by kernel_rfl
  obtain ⟨i0, hj0, hz0, hz1, hz2⟩ := infoS_partsH Tryd.infoSH
  have HJ := Lib.hid hj0; clear hj0
  obtain ⟨wa, hwa⟩ : ∃ wa, w.alloc (.cells #[.int .i64 b.op, .int .i64 b.ax, .int .u8 b.co, .int .i64 b.n0, .int .i64 b.n1, .int .i64 b.n2, .slice b.A b.ps.length b.cp] 25) = wa := ⟨_, rfl⟩
  have hBa : Below w.heap.size w wa := by rw [← hwa]; (repeat (first | exact Below.refl _ _ | assumption | refine Below.alloc ?_ (by first | exact Nat.le_refl _ | exact Below.size (by assumption) | omega | (simp <;> omega)) _ | refine Below.setCell ?_ (by first | exact Nat.le_refl _ | exact Below.size (by assumption) | omega | (simp <;> omega)) _ | refine below_drewN ?_ _ | refine Below.drew ?_))
  have hza : wa.heap.size = w.heap.size + 1 := by rw [← hwa]; simp
  have hXa := BxB.new w b 25
  rw [hwa] at hXa
  have HC : Hid (∀ w', Below wa.heap.size wa w' → BxB w' w.heap.size b) := fun w' hC => hXa.under hC (by omega)
  clear hXa
  have HL2 := Lib.hid hl2; clear hl2
  have hlm : b.ps.length ≤ 9223372036854775807 := by have := HL2.out; omega
  obtain ⟨f0, f1, f2, f3, f4, f5, f6⟩ := HC.out wa (Below.refl _ _)
  go_enter Tryd.func83, Tryd.ntmps83
  go_wp2
  clear f0 f1 f2 f3 f4 f5 f6
  go_loopw [4, 6, 7, 8, 18] (fun m _ _ _ i wr => ∃ (k : Nat) (v : Value) (R : List Sh), v = m ∧ k ≤ b.ps.length ∧ i = .int .i64 k ∧ builtL (b.ps.take k) = .ok R ∧ OwnSH wr (w.heap.size + 1) v R ∧ Below wa.heap.size wa wr) (fun _ _ _ _ i _ => b.ps.length - (intOf i).toNat)
  case atStart => exact ⟨0, _, [], rfl, Nat.zero_le _, rfl, rfl, World.ownsRow_nil _ _ _ _, Below.refl _ _⟩
  case round =>
    clear hwa
    obtain ⟨k, u, R, rfl, hk, rfl, hR, hown, hB⟩ := hrel
    have HR := Lib.hid hR; clear hR
    have HO := Lib.hid hown; clear hown
    have hBw := hBa.trans (hB.mono hBa.size)
    have hsB := hB.size
    by_cases hlt : k < b.ps.length
    · obtain ⟨q, hq⟩ := getElem?_of_lt hlt
      have hk1 := HB.out.now hBw
      obtain ⟨bb, off, hA, hbb, c0, c1, c2, c3, c4, c5, c6⟩ := hk1.rd.at hq
      have HM := Lib.hid (List.mem_of_getElem? hq)
      have HK := Lib.hid (hk1.kid HM.out); clear hk1
      have HQ := Lib.hid hq; clear hq
      rw [hA]
      go_wp2_with fail
      refine (IH.out q HM.out _ (HK.out.now (by (repeat (first | exact Below.refl _ _ | assumption | refine Below.alloc ?_ (by first | exact Nat.le_refl _ | exact Below.size (by assumption) | omega | (simp <;> omega)) _ | refine Below.setCell ?_ (by first | exact Nat.le_refl _ | exact Below.size (by assumption) | omega | (simp <;> omega)) _ | refine below_drewN ?_ _ | refine Below.drew ?_))))).mono ?_
      rintro e w2 ⟨hb2, v, er, rfl, hok, her⟩
      have hB2 : Below wa.heap.size wa w2 := (hB.alloc hsB _).trans (hb2.mono (by simp; omega))
      have HO2 : Hid (OwnSH w2 (w.heap.size + 1) u R) := own_belowS (World.ownsRow.alloc HO.out _) hb2
      have hs2 := hB2.size
      clear c0 c1 c2 c3 c4 c5 c6 hb2
      cases hd : builtS q with
      | error x =>
        have hx := HER.out q HM.out x hd
        obtain rfl := her x hd
        have HE := Lib.hid (builtL_at_err HQ.out HR.out hd)
        have hne : (er != 0) = true := by simp; omega
        clear hd hok her hx
        go_wp2
        go_ret2
        exact ⟨hBa.trans (hB2.mono hBa.size), _, _, rfl, built_er1 HE.out⟩
      | ok s =>
        obtain ⟨rfl, rfl⟩ := hok s hd
        have hval := s.val_eq
        rw [hval]
        have HR2 := Lib.hid (builtL_at HQ.out HR.out hd)
        have HLR : Hid (R.length ≤ 1) := by show _ ≤ _; have := HL2.out; rw [builtL_len _ _ HR.out, List.length_take]; omega
        clear hd hok her
        go_wp2_with (at_builtin; refine wpList_append_own _ rfl _ _ 115 rfl (w.heap.size + 1) 70 i0 .nilIface 1 16 Tryd.underlying115 HJ.out hz0 hz1 hz2 rfl (by decide) _ _ _ rfl (World.ownsRow.alloc HO2.out _) ⟨w2.heap.size, 0, none⟩ 1 1 [.iface s.ty (.agg s.ag)] rfl rfl (by intro j u hj; match j, hj with | 0, hj => (simp at hj; subst hj; simp [Addr.add]) | j + 1, hj => simp at hj) (by intro u hu; simp at hu; subst hu; rfl) (by have := HLR.out; unfold maxLen; omega) (by have := HLR.out; omega) (by simp; omega) ?_; intro v' w5 hown' hgrow _; have hB5 := below_grown (w1 := w2.alloc (.cells #[.iface s.ty (.agg s.ag)] 70)) (hB2.alloc (by omega) _) hgrow (fun j hj => by have := (HO2.out.lt j hj).1; omega) (by simp; omega); have own5 := ownSH_snoc (p := s) (by rw [s.val_eq]; exact hown') rfl; have HOW5 := Lib.hid own5; clear own5 hown' hgrow)
        clear hval
        go_wp2
        go_roundw
        case rel => exact ⟨k + 1, _, _, rfl, by omega, by go_num, HR2.out, HOW5.out, hB5⟩
        case measure => simp [intOf]; omega
    · obtain rfl : k = b.ps.length := by omega
      have hR := HR.out
      rw [List.take_length] at hR
      have HRL := Lib.hid hR; clear hR HR hlt hk
      have hbx := HC.out wr hB
      obtain ⟨f0, f1, f2, f3, f4, f5, f6⟩ := hbx
      obtain ⟨p, q, hp⟩ := HP.out
      have hlen := builtL_len _ _ HRL.out
      rw [hp] at hlen
      obtain ⟨s, t, rfl⟩ : ∃ s t, R = [s, t] := by
        match R, hlen with
        | [s, t], _ => exact ⟨s, t, rfl⟩
      have HOK := Lib.hid (HSO.out s t HRL.out)
      obtain ⟨A8, c8, rfl, hr8, hc8, hb8, _⟩ := own_rdSH HO.out
      obtain ⟨bm, om, rfl, hbm, cm⟩ := hr8 0 s rfl
      obtain ⟨bm', om', he8, _, cn⟩ := hr8 1 t rfl
      injection he8 with he8
      injection he8 with he8 he9
      subst he8 he9
      rw [s.val_eq, Nat.add_zero] at cm
      rw [t.val_eq] at cn
      have HM2 : Hid (∀ w', Below wr.heap.size wr w' → w'.cell? ⟨bm, om, none⟩ = some (.iface s.ty (.agg s.ag)) ∧ w'.cell? ⟨bm, om + 1, none⟩ = some (.iface t.ty (.agg t.ag))) := fun w' h => ⟨(h.cell hbm).trans cm, (h.cell hbm).trans cn⟩
      clear hr8 hc8 hb8 hp hlen
      obtain ⟨T, hT⟩ : ∃ T, s.ext = T := ⟨_, rfl⟩
      obtain ⟨U, hU⟩ : ∃ U, t.ext = U := ⟨_, rfl⟩
      obtain ⟨t1, t2, t3⟩ := T
      obtain ⟨u1, u2, u3⟩ := U
      have hx := s.me
      have hx2 := t.me
      obtain ⟨hbd, hbd2⟩ := HOK.out
      rw [hT] at hx hbd
      rw [hU] at hx2 hbd2
      unfold ExtOk at hbd hbd2
      dsimp only at hbd hbd2
      have i0 := ix0 t1 t2 t3
      have hw : wrap64 (t1 + u1) = t1 + u1 := w64b (by omega) (by omega)
      have HFT := Lib.hid (fun w => fits_any ⟨t1 + u1, t2, t3⟩ w (by dsimp only; omega) (by dsimp only; omega) (by dsimp only; omega))
      have hS : builtS b = if (⟨t1 + u1, t2, t3⟩ : T3) = ⟨t1 + u1, u2, u3⟩ then (if fitsS ⟨t1 + u1, t2, t3⟩ = 0 then .ok (.stack ⟨t1 + u1, t2, t3⟩ 0 s t) else .error (fitsS ⟨t1 + u1, t2, t3⟩)) else .error 21 := by
        rw [builtS_eq, HRL.out]
        show joinS b [s, t] = _
        unfold joinS
        rw [if_neg (by rw [HOP.out]; decide)]
        simp only [HOP.out, if_true, HAX.out, hT, hU]
        rfl
      have HS := Lib.hid hS; clear hS
      clear hbd hbd2
      rw [HOP.out] at f0
      rw [HAX.out] at f1
      have hone : ([s, t] : List Sh).length = 2 := rfl
      rw [hone]
      go_wp2_with fail
      have HC2 : Hid (∀ w', Below wr.heap.size wr w' → BxB w' w.heap.size b) := fun w' h => HC.out w' (hB.trans (h.mono hB.size))
      clear f0 f1 f2 f3 f4 f5 f6 cm cn
      refine (ext_ret ⟨t1, t2, t3⟩ _).mono ?_
      rintro e w2 ⟨rfl, hb2⟩
      have hs2 := hb2.size
      have hBw2 := hBw.trans (hb2.mono hBw.size)
      obtain ⟨f0, f1, f2, f3, f4, f5, f6⟩ := HC2.out w2 hb2
      obtain ⟨cm, cn⟩ := HM2.out w2 hb2
      rw [HOP.out] at f0
      rw [HAX.out] at f1
      have hl0 : w.heap.size < w2.heap.size := World.block_lt_of_cell? w2 _ f0
      have hlm2 : bm < w2.heap.size := by omega
      go_wp2_with fail
      clear f0 f1 f2 f3 f4 f5 f6 cm cn
      refine (ext_ret ⟨u1, u2, u3⟩ _).mono ?_
      rintro e w3 ⟨rfl, hb3⟩
      have hs3 := hb3.size
      have hb23 : Below w2.heap.size w2 w3 := below_next (by (repeat (first | exact Below.refl _ _ | assumption | refine Below.alloc ?_ (by first | exact Nat.le_refl _ | exact Below.size (by assumption) | omega | (simp <;> omega)) _ | refine Below.setCell ?_ (by first | exact Nat.le_refl _ | exact Below.size (by assumption) | omega | (simp <;> omega)) _ | refine below_drewN ?_ _ | refine Below.drew ?_))) hb3
      have hbr3 := hb2.trans (hb23.mono hs2)
      have hBw3 := hBw.trans (hbr3.mono hBw.size)
      obtain ⟨f0, f1, f2, f3, f4, f5, f6⟩ := HC2.out w3 hbr3
      obtain ⟨cm, cn⟩ := HM2.out w3 hbr3
      rw [HOP.out] at f0
      rw [HAX.out] at f1
      have hCX : CX w3 w2.heap.size ⟨t1, t2, t3⟩ := (CX.new w2 ⟨t1, t2, t3⟩).below hb3 (by simp)
      obtain ⟨x0, x1, x2, x3, x4, x5⟩ := hCX.c
      have hl3 : w2.heap.size < w3.heap.size := World.block_lt_of_cell? w3 _ x0
      go_wp2
      go_region
      by_cases hEq : (⟨t1 + u1, t2, t3⟩ : T3) = ⟨t1 + u1, u2, u3⟩
      · have hne : ∀ w, (binOp .neq 22 (.agg #[.int .i64 (t1 + u1), .int .i64 t2, .int .i64 t3]) (.agg #[.int .i64 (t1 + u1), .int .i64 u2, .int .i64 u3])).run Tryd.prog w = .ok (.bool false) w := by
          intro w
          have := run_ne3 ⟨t1 + u1, t2, t3⟩ ⟨t1 + u1, u2, u3⟩ w
          rwa [decide_eq_true hEq] at this
        have HS2 := Lib.hid (HS.out.trans (if_pos hEq))
        clear hEq HS
        go_wp2
        have HZ0 : Hid (∀ w', Below w2.heap.size w3 w' → Below wr.heap.size wr w') := fun w' h => hbr3.trans (h.mono hs2)
        clear f0 f1 f2 f3 f4 f5 f6 cm cn x0 x1 x2 x3 x4 x5
        obtain ⟨wz, hwz⟩ : ∃ wz, ((w3.setCell ⟨w2.heap.size, 0, none⟩ (.int .i64 (t1 + u1))).alloc (.cells #[.int .i64 (t1 + u1), .int .i64 u2, .int .i64 u3] 22)).drew = wz := ⟨_, rfl⟩
        have hCZ : CX wz w2.heap.size ⟨t1 + u1, t2, t3⟩ := by rw [← hwz]; exact (hCX.set0 (t1 + u1)).below (B := w3.heap.size) (by (repeat (first | exact Below.refl _ _ | assumption | refine Below.alloc ?_ (by first | exact Nat.le_refl _ | exact Below.size (by assumption) | omega | (simp <;> omega)) _ | refine Below.setCell ?_ (by first | exact Nat.le_refl _ | exact Below.size (by assumption) | omega | (simp <;> omega)) _ | refine below_drewN ?_ _ | refine Below.drew ?_))) hl3
        have hBz : Below w2.heap.size w3 wz := by rw [← hwz]; (repeat (first | exact Below.refl _ _ | assumption | refine Below.alloc ?_ (by first | exact Nat.le_refl _ | exact Below.size (by assumption) | omega | (simp <;> omega)) _ | refine Below.setCell ?_ (by first | exact Nat.le_refl _ | exact Below.size (by assumption) | omega | (simp <;> omega)) _ | refine below_drewN ?_ _ | refine Below.drew ?_))
        have hsz : w2.heap.size < wz.heap.size := by have := hBz.size; omega
        have HZ : Hid (∀ w', Below wz.heap.size wz w' → CX w' w2.heap.size ⟨t1 + u1, t2, t3⟩ ∧ Below wr.heap.size wr w') := fun w' h => ⟨hCZ.below h hsz, HZ0.out w' (hBz.trans (h.mono (by omega)))⟩
        rw [hwz]
        clear hwz hCZ hCX
        refine region_qw (fun w' => Below wz.heap.size wz w') hmx (by kernel_rfl) (by (repeat (first | exact Below.refl _ _ | assumption | refine Below.alloc ?_ (by first | exact Nat.le_refl _ | exact Below.size (by assumption) | omega | (simp <;> omega)) _ | refine Below.setCell ?_ (by first | exact Nat.le_refl _ | exact Below.size (by assumption) | omega | (simp <;> omega)) _ | refine below_drewN ?_ _ | refine Below.drew ?_))) ?_
        repeat (first | (refine qw_read rfl (fun w' hC => by obtain ⟨g0, g1⟩ := HZ.out w' hC; obtain ⟨c0, c1, c2, _⟩ := g0.c; obtain ⟨f0, f1, f2, f3, f4, f5, f6⟩ := HC2.out w' g1; obtain ⟨cm, cn⟩ := HM2.out w' g1; clear hC; go_simp; rfl) ?_; simp only [Act.put, List.setIfInBounds_toArray, List.set_cons_succ, List.set_cons_zero]) | (refine qw_pass (by first | (simp [Region.wanted, yielded]; done) | (simp [Region.wanted, yielded]; intro h; cases h)) ?_; simp only [Act.put, List.setIfInBounds_toArray, List.set_cons_succ, List.set_cons_zero]))
        (refine qw_call rfl (fun w' hC => by (go_simp; try rfl)) (fun w' hC => (HFT.out w').mono (fun e w2 hr => ⟨hr.1, hC.trans (hr.2.mono hC.size)⟩)) ?_; simp only [Act.put, List.setIfInBounds_toArray, List.set_cons_succ, List.set_cons_zero])
        repeat (first | (refine qw_read rfl (fun w' hC => by obtain ⟨g0, g1⟩ := HZ.out w' hC; obtain ⟨c0, c1, c2, _⟩ := g0.c; obtain ⟨f0, f1, f2, f3, f4, f5, f6⟩ := HC2.out w' g1; obtain ⟨cm, cn⟩ := HM2.out w' g1; clear hC; go_simp; rfl) ?_; simp only [Act.put, List.setIfInBounds_toArray, List.set_cons_succ, List.set_cons_zero]) | (refine qw_pass (by first | (simp [Region.wanted, yielded]; done) | (simp [Region.wanted, yielded]; intro h; cases h)) ?_; simp only [Act.put, List.setIfInBounds_toArray, List.set_cons_succ, List.set_cons_zero]))
        refine qw_nil ?_
        intro w9 hb9
        have hB9 := hBw.trans ((HZ.out w9 hb9).2.mono hBw.size)
        go_wp2
        go_ret2
        exact ⟨hB9, _, _, rfl, built_fin2 HS2.out (by rw [stack_val]; rfl)⟩
      · have hne : ∀ w, (binOp .neq 22 (.agg #[.int .i64 (t1 + u1), .int .i64 t2, .int .i64 t3]) (.agg #[.int .i64 (t1 + u1), .int .i64 u2, .int .i64 u3])).run Tryd.prog w = .ok (.bool true) w := by
          intro w
          have := run_ne3 ⟨t1 + u1, t2, t3⟩ ⟨t1 + u1, u2, u3⟩ w
          rwa [decide_eq_false hEq] at this
        have HS2 := Lib.hid (HS.out.trans (if_neg hEq))
        clear hEq HS
        go_wp2
        go_ret2
        exact ⟨(by (repeat (first | exact Below.refl _ _ | assumption | refine Below.alloc ?_ (by first | exact Nat.le_refl _ | exact Below.size (by assumption) | omega | (simp <;> omega)) _ | refine Below.setCell ?_ (by first | exact Nat.le_refl _ | exact Below.size (by assumption) | omega | (simp <;> omega)) _ | refine below_drewN ?_ _ | refine Below.drew ?_))), _, _, rfl, built_er1 HS2.out⟩
set_option maxRecDepth 100000 in
set_option maxHeartbeats 8000000 in
theorem built_stack1 (b : BT) (w : World) (hb : OkB w w.heap.size b) (hl2 : b.ps.length ≤ 2) (HOP : Hid (b.op = 2)) (HAX : Hid (b.ax = 1)) (HP : Hid (∃ p q, b.ps = [p, q])) (HSO : Hid (∀ s t, builtL b.ps = .ok [s, t] → ExtOk s.ext ∧ ExtOk t.ext))
    (ih : ∀ p ∈ b.ps, ∀ w, OkB w w.heap.size p → Calls Tryd.prog 83 #[valB p] w (BuiltR p w)) (herr : ∀ p ∈ b.ps, ∀ x, builtS p = .error x → x = 4 ∨ x = 21) : Calls Tryd.prog 83 #[valB b] w (BuiltR b w) := by
  have IH := Lib.hid ih; clear ih
  have HER := Lib.hid herr; clear herr
  have HB := Lib.hid hb; clear hb
  have hmx : Tryd.prog.follows .mixedOrders = true := by kernel_rfl
  obtain ⟨i0, hj0, hz0, hz1, hz2⟩ := infoS_partsH Tryd.infoSH
  have HJ := Lib.hid hj0; clear hj0
  obtain ⟨wa, hwa⟩ : ∃ wa, w.alloc (.cells #[.int .i64 b.op, .int .i64 b.ax, .int .u8 b.co, .int .i64 b.n0, .int .i64 b.n1, .int .i64 b.n2, .slice b.A b.ps.length b.cp] 25) = wa := ⟨_, rfl⟩
  have hBa : Below w.heap.size w wa := by rw [← hwa]; (repeat (first | exact Below.refl _ _ | assumption | refine Below.alloc ?_ (by first | exact Nat.le_refl _ | exact Below.size (by assumption) | omega | (simp <;> omega)) _ | refine Below.setCell ?_ (by first | exact Nat.le_refl _ | exact Below.size (by assumption) | omega | (simp <;> omega)) _ | refine below_drewN ?_ _ | refine Below.drew ?_))
  have hza : wa.heap.size = w.heap.size + 1 := by rw [← hwa]; simp
  have hXa := BxB.new w b 25
  rw [hwa] at hXa
  have HC : Hid (∀ w', Below wa.heap.size wa w' → BxB w' w.heap.size b) := fun w' hC => hXa.under hC (by omega)
  clear hXa
  have HL2 := Lib.hid hl2; clear hl2
  have hlm : b.ps.length ≤ 9223372036854775807 := by have := HL2.out; omega
  obtain ⟨f0, f1, f2, f3, f4, f5, f6⟩ := HC.out wa (Below.refl _ _)
  go_enter Tryd.func83, Tryd.ntmps83
  go_wp2
  clear f0 f1 f2 f3 f4 f5 f6
  go_loopw [4, 6, 7, 8, 18] (fun m _ _ _ i wr => ∃ (k : Nat) (v : Value) (R : List Sh), v = m ∧ k ≤ b.ps.length ∧ i = .int .i64 k ∧ builtL (b.ps.take k) = .ok R ∧ OwnSH wr (w.heap.size + 1) v R ∧ Below wa.heap.size wa wr) (fun _ _ _ _ i _ => b.ps.length - (intOf i).toNat)
  case atStart => exact ⟨0, _, [], rfl, Nat.zero_le _, rfl, rfl, World.ownsRow_nil _ _ _ _, Below.refl _ _⟩
  case round =>
    clear hwa
    obtain ⟨k, u, R, rfl, hk, rfl, hR, hown, hB⟩ := hrel
    have HR := Lib.hid hR; clear hR
    have HO := Lib.hid hown; clear hown
    have hBw := hBa.trans (hB.mono hBa.size)
    have hsB := hB.size
    by_cases hlt : k < b.ps.length
    · obtain ⟨q, hq⟩ := getElem?_of_lt hlt
      have hk1 := HB.out.now hBw
      obtain ⟨bb, off, hA, hbb, c0, c1, c2, c3, c4, c5, c6⟩ := hk1.rd.at hq
      have HM := Lib.hid (List.mem_of_getElem? hq)
      have HK := Lib.hid (hk1.kid HM.out); clear hk1
      have HQ := Lib.hid hq; clear hq
      rw [hA]
      go_wp2_with fail
      refine (IH.out q HM.out _ (HK.out.now (by (repeat (first | exact Below.refl _ _ | assumption | refine Below.alloc ?_ (by first | exact Nat.le_refl _ | exact Below.size (by assumption) | omega | (simp <;> omega)) _ | refine Below.setCell ?_ (by first | exact Nat.le_refl _ | exact Below.size (by assumption) | omega | (simp <;> omega)) _ | refine below_drewN ?_ _ | refine Below.drew ?_))))).mono ?_
      rintro e w2 ⟨hb2, v, er, rfl, hok, her⟩
      have hB2 : Below wa.heap.size wa w2 := (hB.alloc hsB _).trans (hb2.mono (by simp; omega))
      have HO2 : Hid (OwnSH w2 (w.heap.size + 1) u R) := own_belowS (World.ownsRow.alloc HO.out _) hb2
      have hs2 := hB2.size
      clear c0 c1 c2 c3 c4 c5 c6 hb2
      cases hd : builtS q with
      | error x =>
        have hx := HER.out q HM.out x hd
        obtain rfl := her x hd
        have HE := Lib.hid (builtL_at_err HQ.out HR.out hd)
        have hne : (er != 0) = true := by simp; omega
        clear hd hok her hx
        go_wp2
        go_ret2
        exact ⟨hBa.trans (hB2.mono hBa.size), _, _, rfl, built_er1 HE.out⟩
      | ok s =>
        obtain ⟨rfl, rfl⟩ := hok s hd
        have hval := s.val_eq
        rw [hval]
        have HR2 := Lib.hid (builtL_at HQ.out HR.out hd)
        have HLR : Hid (R.length ≤ 1) := by show _ ≤ _; have := HL2.out; rw [builtL_len _ _ HR.out, List.length_take]; omega
        clear hd hok her
        go_wp2_with (at_builtin; refine wpList_append_own _ rfl _ _ 115 rfl (w.heap.size + 1) 70 i0 .nilIface 1 16 Tryd.underlying115 HJ.out hz0 hz1 hz2 rfl (by decide) _ _ _ rfl (World.ownsRow.alloc HO2.out _) ⟨w2.heap.size, 0, none⟩ 1 1 [.iface s.ty (.agg s.ag)] rfl rfl (by intro j u hj; match j, hj with | 0, hj => (simp at hj; subst hj; simp [Addr.add]) | j + 1, hj => simp at hj) (by intro u hu; simp at hu; subst hu; rfl) (by have := HLR.out; unfold maxLen; omega) (by have := HLR.out; omega) (by simp; omega) ?_; intro v' w5 hown' hgrow _; have hB5 := below_grown (w1 := w2.alloc (.cells #[.iface s.ty (.agg s.ag)] 70)) (hB2.alloc (by omega) _) hgrow (fun j hj => by have := (HO2.out.lt j hj).1; omega) (by simp; omega); have own5 := ownSH_snoc (p := s) (by rw [s.val_eq]; exact hown') rfl; have HOW5 := Lib.hid own5; clear own5 hown' hgrow)
        clear hval
        go_wp2
        go_roundw
        case rel => exact ⟨k + 1, _, _, rfl, by omega, by go_num, HR2.out, HOW5.out, hB5⟩
        case measure => simp [intOf]; omega
    · obtain rfl : k = b.ps.length := by omega
      have hR := HR.out
      rw [List.take_length] at hR
      have HRL := Lib.hid hR; clear hR HR hlt hk
      have hbx := HC.out wr hB
      obtain ⟨f0, f1, f2, f3, f4, f5, f6⟩ := hbx
      obtain ⟨p, q, hp⟩ := HP.out
      have hlen := builtL_len _ _ HRL.out
      rw [hp] at hlen
      obtain ⟨s, t, rfl⟩ : ∃ s t, R = [s, t] := by
        match R, hlen with
        | [s, t], _ => exact ⟨s, t, rfl⟩
      have HOK := Lib.hid (HSO.out s t HRL.out)
      obtain ⟨A8, c8, rfl, hr8, hc8, hb8, _⟩ := own_rdSH HO.out
      obtain ⟨bm, om, rfl, hbm, cm⟩ := hr8 0 s rfl
      obtain ⟨bm', om', he8, _, cn⟩ := hr8 1 t rfl
      injection he8 with he8
      injection he8 with he8 he9
      subst he8 he9
      rw [s.val_eq, Nat.add_zero] at cm
      rw [t.val_eq] at cn
      have HM2 : Hid (∀ w', Below wr.heap.size wr w' → w'.cell? ⟨bm, om, none⟩ = some (.iface s.ty (.agg s.ag)) ∧ w'.cell? ⟨bm, om + 1, none⟩ = some (.iface t.ty (.agg t.ag))) := fun w' h => ⟨(h.cell hbm).trans cm, (h.cell hbm).trans cn⟩
      clear hr8 hc8 hb8 hp hlen
      obtain ⟨T, hT⟩ : ∃ T, s.ext = T := ⟨_, rfl⟩
      obtain ⟨U, hU⟩ : ∃ U, t.ext = U := ⟨_, rfl⟩
      obtain ⟨t1, t2, t3⟩ := T
      obtain ⟨u1, u2, u3⟩ := U
      have hx := s.me
      have hx2 := t.me
      obtain ⟨hbd, hbd2⟩ := HOK.out
      rw [hT] at hx hbd
      rw [hU] at hx2 hbd2
      unfold ExtOk at hbd hbd2
      dsimp only at hbd hbd2
      have i0 := ix0 t1 t2 t3
      have hw : wrap64 (t2 + u2) = t2 + u2 := w64b (by omega) (by omega)
      have HFT := Lib.hid (fun w => fits_any ⟨t1, t2 + u2, t3⟩ w (by dsimp only; omega) (by dsimp only; omega) (by dsimp only; omega))
      have hS : builtS b = if (⟨t1, t2 + u2, t3⟩ : T3) = ⟨u1, t2 + u2, u3⟩ then (if fitsS ⟨t1, t2 + u2, t3⟩ = 0 then .ok (.stack ⟨t1, t2 + u2, t3⟩ 1 s t) else .error (fitsS ⟨t1, t2 + u2, t3⟩)) else .error 21 := by
        rw [builtS_eq, HRL.out]
        show joinS b [s, t] = _
        unfold joinS
        rw [if_neg (by rw [HOP.out]; decide)]
        simp only [HOP.out, if_true, HAX.out, hT, hU]
        rfl
      have HS := Lib.hid hS; clear hS
      clear hbd hbd2
      rw [HOP.out] at f0
      rw [HAX.out] at f1
      have hone : ([s, t] : List Sh).length = 2 := rfl
      rw [hone]
      go_wp2_with fail
      have HC2 : Hid (∀ w', Below wr.heap.size wr w' → BxB w' w.heap.size b) := fun w' h => HC.out w' (hB.trans (h.mono hB.size))
      clear f0 f1 f2 f3 f4 f5 f6 cm cn
      refine (ext_ret ⟨t1, t2, t3⟩ _).mono ?_
      rintro e w2 ⟨rfl, hb2⟩
      have hs2 := hb2.size
      have hBw2 := hBw.trans (hb2.mono hBw.size)
      obtain ⟨f0, f1, f2, f3, f4, f5, f6⟩ := HC2.out w2 hb2
      obtain ⟨cm, cn⟩ := HM2.out w2 hb2
      rw [HOP.out] at f0
      rw [HAX.out] at f1
      have hl0 : w.heap.size < w2.heap.size := World.block_lt_of_cell? w2 _ f0
      have hlm2 : bm < w2.heap.size := by omega
      go_wp2_with fail
      clear f0 f1 f2 f3 f4 f5 f6 cm cn
      refine (ext_ret ⟨u1, u2, u3⟩ _).mono ?_
      rintro e w3 ⟨rfl, hb3⟩
      have hs3 := hb3.size
      have hb23 : Below w2.heap.size w2 w3 := below_next (by (repeat (first | exact Below.refl _ _ | assumption | refine Below.alloc ?_ (by first | exact Nat.le_refl _ | exact Below.size (by assumption) | omega | (simp <;> omega)) _ | refine Below.setCell ?_ (by first | exact Nat.le_refl _ | exact Below.size (by assumption) | omega | (simp <;> omega)) _ | refine below_drewN ?_ _ | refine Below.drew ?_))) hb3
      have hbr3 := hb2.trans (hb23.mono hs2)
      have hBw3 := hBw.trans (hbr3.mono hBw.size)
      obtain ⟨f0, f1, f2, f3, f4, f5, f6⟩ := HC2.out w3 hbr3
      obtain ⟨cm, cn⟩ := HM2.out w3 hbr3
      rw [HOP.out] at f0
      rw [HAX.out] at f1
      have hCX : CX w3 w2.heap.size ⟨t1, t2, t3⟩ := (CX.new w2 ⟨t1, t2, t3⟩).below hb3 (by simp)
      obtain ⟨x0, x1, x2, x3, x4, x5⟩ := hCX.c
      have hl3 : w2.heap.size < w3.heap.size := World.block_lt_of_cell? w3 _ x0
      go_wp2
      go_region
      by_cases hEq : (⟨t1, t2 + u2, t3⟩ : T3) = ⟨u1, t2 + u2, u3⟩
      · have hne : ∀ w, (binOp .neq 22 (.agg #[.int .i64 t1, .int .i64 (t2 + u2), .int .i64 t3]) (.agg #[.int .i64 u1, .int .i64 (t2 + u2), .int .i64 u3])).run Tryd.prog w = .ok (.bool false) w := by
          intro w
          have := run_ne3 ⟨t1, t2 + u2, t3⟩ ⟨u1, t2 + u2, u3⟩ w
          rwa [decide_eq_true hEq] at this
        have HS2 := Lib.hid (HS.out.trans (if_pos hEq))
        clear hEq HS
        go_wp2
        have HZ0 : Hid (∀ w', Below w2.heap.size w3 w' → Below wr.heap.size wr w') := fun w' h => hbr3.trans (h.mono hs2)
        clear f0 f1 f2 f3 f4 f5 f6 cm cn x0 x1 x2 x3 x4 x5
        obtain ⟨wz, hwz⟩ : ∃ wz, ((w3.setCell ⟨w2.heap.size, 1, none⟩ (.int .i64 (t2 + u2))).alloc (.cells #[.int .i64 u1, .int .i64 (t2 + u2), .int .i64 u3] 22)).drew = wz := ⟨_, rfl⟩
        have hCZ : CX wz w2.heap.size ⟨t1, t2 + u2, t3⟩ := by rw [← hwz]; exact (hCX.set1 (t2 + u2)).below (B := w3.heap.size) (by (repeat (first | exact Below.refl _ _ | assumption | refine Below.alloc ?_ (by first | exact Nat.le_refl _ | exact Below.size (by assumption) | omega | (simp <;> omega)) _ | refine Below.setCell ?_ (by first | exact Nat.le_refl _ | exact Below.size (by assumption) | omega | (simp <;> omega)) _ | refine below_drewN ?_ _ | refine Below.drew ?_))) hl3
        have hBz : Below w2.heap.size w3 wz := by rw [← hwz]; (repeat (first | exact Below.refl _ _ | assumption | refine Below.alloc ?_ (by first | exact Nat.le_refl _ | exact Below.size (by assumption) | omega | (simp <;> omega)) _ | refine Below.setCell ?_ (by first | exact Nat.le_refl _ | exact Below.size (by assumption) | omega | (simp <;> omega)) _ | refine below_drewN ?_ _ | refine Below.drew ?_))
        have hsz : w2.heap.size < wz.heap.size := by have := hBz.size; omega
        have HZ : Hid (∀ w', Below wz.heap.size wz w' → CX w' w2.heap.size ⟨t1, t2 + u2, t3⟩ ∧ Below wr.heap.size wr w') := fun w' h => ⟨hCZ.below h hsz, HZ0.out w' (hBz.trans (h.mono (by omega)))⟩
        rw [hwz]
        clear hwz hCZ hCX
        refine region_qw (fun w' => Below wz.heap.size wz w') hmx (by kernel_rfl) (by (repeat (first | exact Below.refl _ _ | assumption | refine Below.alloc ?_ (by first | exact Nat.le_refl _ | exact Below.size (by assumption) | omega | (simp <;> omega)) _ | refine Below.setCell ?_ (by first | exact Nat.le_refl _ | exact Below.size (by assumption) | omega | (simp <;> omega)) _ | refine below_drewN ?_ _ | refine Below.drew ?_))) ?_
        repeat (first | (refine qw_read rfl (fun w' hC => by obtain ⟨g0, g1⟩ := HZ.out w' hC; obtain ⟨c0, c1, c2, _⟩ := g0.c; obtain ⟨f0, f1, f2, f3, f4, f5, f6⟩ := HC2.out w' g1; obtain ⟨cm, cn⟩ := HM2.out w' g1; clear hC; go_simp; rfl) ?_; simp only [Act.put, List.setIfInBounds_toArray, List.set_cons_succ, List.set_cons_zero]) | (refine qw_pass (by first | (simp [Region.wanted, yielded]; done) | (simp [Region.wanted, yielded]; intro h; cases h)) ?_; simp only [Act.put, List.setIfInBounds_toArray, List.set_cons_succ, List.set_cons_zero]))
        (refine qw_call rfl (fun w' hC => by (go_simp; try rfl)) (fun w' hC => (HFT.out w').mono (fun e w2 hr => ⟨hr.1, hC.trans (hr.2.mono hC.size)⟩)) ?_; simp only [Act.put, List.setIfInBounds_toArray, List.set_cons_succ, List.set_cons_zero])
        repeat (first | (refine qw_read rfl (fun w' hC => by obtain ⟨g0, g1⟩ := HZ.out w' hC; obtain ⟨c0, c1, c2, _⟩ := g0.c; obtain ⟨f0, f1, f2, f3, f4, f5, f6⟩ := HC2.out w' g1; obtain ⟨cm, cn⟩ := HM2.out w' g1; clear hC; go_simp; rfl) ?_; simp only [Act.put, List.setIfInBounds_toArray, List.set_cons_succ, List.set_cons_zero]) | (refine qw_pass (by first | (simp [Region.wanted, yielded]; done) | (simp [Region.wanted, yielded]; intro h; cases h)) ?_; simp only [Act.put, List.setIfInBounds_toArray, List.set_cons_succ, List.set_cons_zero]))
        refine qw_nil ?_
        intro w9 hb9
        have hB9 := hBw.trans ((HZ.out w9 hb9).2.mono hBw.size)
        go_wp2
        go_ret2
        exact ⟨hB9, _, _, rfl, built_fin2 HS2.out (by rw [stack_val]; rfl)⟩
      · have hne : ∀ w, (binOp .neq 22 (.agg #[.int .i64 t1, .int .i64 (t2 + u2), .int .i64 t3]) (.agg #[.int .i64 u1, .int .i64 (t2 + u2), .int .i64 u3])).run Tryd.prog w = .ok (.bool true) w := by
          intro w
          have := run_ne3 ⟨t1, t2 + u2, t3⟩ ⟨u1, t2 + u2, u3⟩ w
          rwa [decide_eq_false hEq] at this
        have HS2 := Lib.hid (HS.out.trans (if_neg hEq))
        clear hEq HS
        go_wp2
        go_ret2
        exact ⟨(by (repeat (first | exact Below.refl _ _ | assumption | refine Below.alloc ?_ (by first | exact Nat.le_refl _ | exact Below.size (by assumption) | omega | (simp <;> omega)) _ | refine Below.setCell ?_ (by first | exact Nat.le_refl _ | exact Below.size (by assumption) | omega | (simp <;> omega)) _ | refine below_drewN ?_ _ | refine Below.drew ?_))), _, _, rfl, built_er1 HS2.out⟩
set_option maxRecDepth 100000 in
set_option maxHeartbeats 8000000 in
theorem built_stack2 (b : BT) (w : World) (hb : OkB w w.heap.size b) (hl2 : b.ps.length ≤ 2) (HOP : Hid (b.op = 2)) (HAX : Hid (b.ax = 2)) (HP : Hid (∃ p q, b.ps = [p, q])) (HSO : Hid (∀ s t, builtL b.ps = .ok [s, t] → ExtOk s.ext ∧ ExtOk t.ext))
    (ih : ∀ p ∈ b.ps, ∀ w, OkB w w.heap.size p → Calls Tryd.prog 83 #[valB p] w (BuiltR p w)) (herr : ∀ p ∈ b.ps, ∀ x, builtS p = .error x → x = 4 ∨ x = 21) : Calls Tryd.prog 83 #[valB b] w (BuiltR b w) := by
  have IH := Lib.hid ih; clear ih
  have HER := Lib.hid herr; clear herr
  have HB := Lib.hid hb; clear hb
  have hmx : Tryd.prog.follows .mixedOrders = true := by kernel_rfl
  obtain ⟨i0, hj0, hz0, hz1, hz2⟩ := infoS_partsH Tryd.infoSH
  have HJ := Lib.hid hj0; clear hj0
  obtain ⟨wa, hwa⟩ : ∃ wa, w.alloc (.cells #[.int .i64 b.op, .int .i64 b.ax, .int .u8 b.co, .int .i64 b.n0, .int .i64 b.n1, .int .i64 b.n2, .slice b.A b.ps.length b.cp] 25) = wa := ⟨_, rfl⟩
  have hBa : Below w.heap.size w wa := by rw [← hwa]; (repeat (first | exact Below.refl _ _ | assumption | refine Below.alloc ?_ (by first | exact Nat.le_refl _ | exact Below.size (by assumption) | omega | (simp <;> omega)) _ | refine Below.setCell ?_ (by first | exact Nat.le_refl _ | exact Below.size (by assumption) | omega | (simp <;> omega)) _ | refine below_drewN ?_ _ | refine Below.drew ?_))
  have hza : wa.heap.size = w.heap.size + 1 := by rw [← hwa]; simp
  have hXa := BxB.new w b 25
  rw [hwa] at hXa
  have HC : Hid (∀ w', Below wa.heap.size wa w' → BxB w' w.heap.size b) := fun w' hC => hXa.under hC (by omega)
  clear hXa
  have HL2 := Lib.hid hl2; clear hl2
  have hlm : b.ps.length ≤ 9223372036854775807 := by have := HL2.out; omega
  obtain ⟨f0, f1, f2, f3, f4, f5, f6⟩ := HC.out wa (Below.refl _ _)
  go_enter Tryd.func83, Tryd.ntmps83
  go_wp2
  clear f0 f1 f2 f3 f4 f5 f6
  go_loopw [4, 6, 7, 8, 18] (fun m _ _ _ i wr => ∃ (k : Nat) (v : Value) (R : List Sh), v = m ∧ k ≤ b.ps.length ∧ i = .int .i64 k ∧ builtL (b.ps.take k) = .ok R ∧ OwnSH wr (w.heap.size + 1) v R ∧ Below wa.heap.size wa wr) (fun _ _ _ _ i _ => b.ps.length - (intOf i).toNat)
  case atStart => exact ⟨0, _, [], rfl, Nat.zero_le _, rfl, rfl, World.ownsRow_nil _ _ _ _, Below.refl _ _⟩
  case round =>
    clear hwa
    obtain ⟨k, u, R, rfl, hk, rfl, hR, hown, hB⟩ := hrel
    have HR := Lib.hid hR; clear hR
    have HO := Lib.hid hown; clear hown
    have hBw := hBa.trans (hB.mono hBa.size)
    have hsB := hB.size
    by_cases hlt : k < b.ps.length
    · obtain ⟨q, hq⟩ := getElem?_of_lt hlt
      have hk1 := HB.out.now hBw
      obtain ⟨bb, off, hA, hbb, c0, c1, c2, c3, c4, c5, c6⟩ := hk1.rd.at hq
      have HM := Lib.hid (List.mem_of_getElem? hq)
      have HK := Lib.hid (hk1.kid HM.out); clear hk1
      have HQ := Lib.hid hq; clear hq
      rw [hA]
      go_wp2_with fail
      refine (IH.out q HM.out _ (HK.out.now (by (repeat (first | exact Below.refl _ _ | assumption | refine Below.alloc ?_ (by first | exact Nat.le_refl _ | exact Below.size (by assumption) | omega | (simp <;> omega)) _ | refine Below.setCell ?_ (by first | exact Nat.le_refl _ | exact Below.size (by assumption) | omega | (simp <;> omega)) _ | refine below_drewN ?_ _ | refine Below.drew ?_))))).mono ?_
      rintro e w2 ⟨hb2, v, er, rfl, hok, her⟩
      have hB2 : Below wa.heap.size wa w2 := (hB.alloc hsB _).trans (hb2.mono (by simp; omega))
      have HO2 : Hid (OwnSH w2 (w.heap.size + 1) u R) := own_belowS (World.ownsRow.alloc HO.out _) hb2
      have hs2 := hB2.size
      clear c0 c1 c2 c3 c4 c5 c6 hb2
      cases hd : builtS q with
      | error x =>
        have hx := HER.out q HM.out x hd
        obtain rfl := her x hd
        have HE := Lib.hid (builtL_at_err HQ.out HR.out hd)
        have hne : (er != 0) = true := by simp; omega
        clear hd hok her hx
        go_wp2
        go_ret2
        exact ⟨hBa.trans (hB2.mono hBa.size), _, _, rfl, built_er1 HE.out⟩
      | ok s =>
        obtain ⟨rfl, rfl⟩ := hok s hd
        have hval := s.val_eq
        rw [hval]
        have HR2 := Lib.hid (builtL_at HQ.out HR.out hd)
        have HLR : Hid (R.length ≤ 1) := by show _ ≤ _; have := HL2.out; rw [builtL_len _ _ HR.out, List.length_take]; omega
        clear hd hok her
        go_wp2_with (at_builtin; refine wpList_append_own _ rfl _ _ 115 rfl (w.heap.size + 1) 70 i0 .nilIface 1 16 Tryd.underlying115 HJ.out hz0 hz1 hz2 rfl (by decide) _ _ _ rfl (World.ownsRow.alloc HO2.out _) ⟨w2.heap.size, 0, none⟩ 1 1 [.iface s.ty (.agg s.ag)] rfl rfl (by intro j u hj; match j, hj with | 0, hj => (simp at hj; subst hj; simp [Addr.add]) | j + 1, hj => simp at hj) (by intro u hu; simp at hu; subst hu; rfl) (by have := HLR.out; unfold maxLen; omega) (by have := HLR.out; omega) (by simp; omega) ?_; intro v' w5 hown' hgrow _; have hB5 := below_grown (w1 := w2.alloc (.cells #[.iface s.ty (.agg s.ag)] 70)) (hB2.alloc (by omega) _) hgrow (fun j hj => by have := (HO2.out.lt j hj).1; omega) (by simp; omega); have own5 := ownSH_snoc (p := s) (by rw [s.val_eq]; exact hown') rfl; have HOW5 := Lib.hid own5; clear own5 hown' hgrow)
        clear hval
        go_wp2
        go_roundw
        case rel => exact ⟨k + 1, _, _, rfl, by omega, by go_num, HR2.out, HOW5.out, hB5⟩
        case measure => simp [intOf]; omega
    · obtain rfl : k = b.ps.length := by omega
      have hR := HR.out
      rw [List.take_length] at hR
      have HRL := Lib.hid hR; clear hR HR hlt hk
      have hbx := HC.out wr hB
      obtain ⟨f0, f1, f2, f3, f4, f5, f6⟩ := hbx
      obtain ⟨p, q, hp⟩ := HP.out
      have hlen := builtL_len _ _ HRL.out
      rw [hp] at hlen
      obtain ⟨s, t, rfl⟩ : ∃ s t, R = [s, t] := by
        match R, hlen with
        | [s, t], _ => exact ⟨s, t, rfl⟩
      have HOK := Lib.hid (HSO.out s t HRL.out)
      obtain ⟨A8, c8, rfl, hr8, hc8, hb8, _⟩ := own_rdSH HO.out
      obtain ⟨bm, om, rfl, hbm, cm⟩ := hr8 0 s rfl
      obtain ⟨bm', om', he8, _, cn⟩ := hr8 1 t rfl
      injection he8 with he8
      injection he8 with he8 he9
      subst he8 he9
      rw [s.val_eq, Nat.add_zero] at cm
      rw [t.val_eq] at cn
      have HM2 : Hid (∀ w', Below wr.heap.size wr w' → w'.cell? ⟨bm, om, none⟩ = some (.iface s.ty (.agg s.ag)) ∧ w'.cell? ⟨bm, om + 1, none⟩ = some (.iface t.ty (.agg t.ag))) := fun w' h => ⟨(h.cell hbm).trans cm, (h.cell hbm).trans cn⟩
      clear hr8 hc8 hb8 hp hlen
      obtain ⟨T, hT⟩ : ∃ T, s.ext = T := ⟨_, rfl⟩
      obtain ⟨U, hU⟩ : ∃ U, t.ext = U := ⟨_, rfl⟩
      obtain ⟨t1, t2, t3⟩ := T
      obtain ⟨u1, u2, u3⟩ := U
      have hx := s.me
      have hx2 := t.me
      obtain ⟨hbd, hbd2⟩ := HOK.out
      rw [hT] at hx hbd
      rw [hU] at hx2 hbd2
      unfold ExtOk at hbd hbd2
      dsimp only at hbd hbd2
      have i0 := ix0 t1 t2 t3
      have hw : wrap64 (t3 + u3) = t3 + u3 := w64b (by omega) (by omega)
      have HFT := Lib.hid (fun w => fits_any ⟨t1, t2, t3 + u3⟩ w (by dsimp only; omega) (by dsimp only; omega) (by dsimp only; omega))
      have hS : builtS b = if (⟨t1, t2, t3 + u3⟩ : T3) = ⟨u1, u2, t3 + u3⟩ then (if fitsS ⟨t1, t2, t3 + u3⟩ = 0 then .ok (.stack ⟨t1, t2, t3 + u3⟩ 2 s t) else .error (fitsS ⟨t1, t2, t3 + u3⟩)) else .error 21 := by
        rw [builtS_eq, HRL.out]
        show joinS b [s, t] = _
        unfold joinS
        rw [if_neg (by rw [HOP.out]; decide)]
        simp only [HOP.out, if_true, HAX.out, hT, hU]
        rfl
      have HS := Lib.hid hS; clear hS
      clear hbd hbd2
      rw [HOP.out] at f0
      rw [HAX.out] at f1
      have hone : ([s, t] : List Sh).length = 2 := rfl
      rw [hone]
      go_wp2_with fail
      have HC2 : Hid (∀ w', Below wr.heap.size wr w' → BxB w' w.heap.size b) := fun w' h => HC.out w' (hB.trans (h.mono hB.size))
      clear f0 f1 f2 f3 f4 f5 f6 cm cn
      refine (ext_ret ⟨t1, t2, t3⟩ _).mono ?_
      rintro e w2 ⟨rfl, hb2⟩
      have hs2 := hb2.size
      have hBw2 := hBw.trans (hb2.mono hBw.size)
      obtain ⟨f0, f1, f2, f3, f4, f5, f6⟩ := HC2.out w2 hb2
      obtain ⟨cm, cn⟩ := HM2.out w2 hb2
      rw [HOP.out] at f0
      rw [HAX.out] at f1
      have hl0 : w.heap.size < w2.heap.size := World.block_lt_of_cell? w2 _ f0
      have hlm2 : bm < w2.heap.size := by omega
      go_wp2_with fail
      clear f0 f1 f2 f3 f4 f5 f6 cm cn
      refine (ext_ret ⟨u1, u2, u3⟩ _).mono ?_
      rintro e w3 ⟨rfl, hb3⟩
      have hs3 := hb3.size
      have hb23 : Below w2.heap.size w2 w3 := below_next (by (repeat (first | exact Below.refl _ _ | assumption | refine Below.alloc ?_ (by first | exact Nat.le_refl _ | exact Below.size (by assumption) | omega | (simp <;> omega)) _ | refine Below.setCell ?_ (by first | exact Nat.le_refl _ | exact Below.size (by assumption) | omega | (simp <;> omega)) _ | refine below_drewN ?_ _ | refine Below.drew ?_))) hb3
      have hbr3 := hb2.trans (hb23.mono hs2)
      have hBw3 := hBw.trans (hbr3.mono hBw.size)
      obtain ⟨f0, f1, f2, f3, f4, f5, f6⟩ := HC2.out w3 hbr3
      obtain ⟨cm, cn⟩ := HM2.out w3 hbr3
      rw [HOP.out] at f0
      rw [HAX.out] at f1
      have hCX : CX w3 w2.heap.size ⟨t1, t2, t3⟩ := (CX.new w2 ⟨t1, t2, t3⟩).below hb3 (by simp)
      obtain ⟨x0, x1, x2, x3, x4, x5⟩ := hCX.c
      have hl3 : w2.heap.size < w3.heap.size := World.block_lt_of_cell? w3 _ x0
      go_wp2
      go_region
      by_cases hEq : (⟨t1, t2, t3 + u3⟩ : T3) = ⟨u1, u2, t3 + u3⟩
      · have hne : ∀ w, (binOp .neq 22 (.agg #[.int .i64 t1, .int .i64 t2, .int .i64 (t3 + u3)]) (.agg #[.int .i64 u1, .int .i64 u2, .int .i64 (t3 + u3)])).run Tryd.prog w = .ok (.bool false) w := by
          intro w
          have := run_ne3 ⟨t1, t2, t3 + u3⟩ ⟨u1, u2, t3 + u3⟩ w
          rwa [decide_eq_true hEq] at this
        have HS2 := Lib.hid (HS.out.trans (if_pos hEq))
        clear hEq HS
        go_wp2
        have HZ0 : Hid (∀ w', Below w2.heap.size w3 w' → Below wr.heap.size wr w') := fun w' h => hbr3.trans (h.mono hs2)
        clear f0 f1 f2 f3 f4 f5 f6 cm cn x0 x1 x2 x3 x4 x5
        obtain ⟨wz, hwz⟩ : ∃ wz, ((w3.setCell ⟨w2.heap.size, 2, none⟩ (.int .i64 (t3 + u3))).alloc (.cells #[.int .i64 u1, .int .i64 u2, .int .i64 (t3 + u3)] 22)).drew = wz := ⟨_, rfl⟩
        have hCZ : CX wz w2.heap.size ⟨t1, t2, t3 + u3⟩ := by rw [← hwz]; exact (hCX.set2 (t3 + u3)).below (B := w3.heap.size) (by (repeat (first | exact Below.refl _ _ | assumption | refine Below.alloc ?_ (by first | exact Nat.le_refl _ | exact Below.size (by assumption) | omega | (simp <;> omega)) _ | refine Below.setCell ?_ (by first | exact Nat.le_refl _ | exact Below.size (by assumption) | omega | (simp <;> omega)) _ | refine below_drewN ?_ _ | refine Below.drew ?_))) hl3
        have hBz : Below w2.heap.size w3 wz := by rw [← hwz]; (repeat (first | exact Below.refl _ _ | assumption | refine Below.alloc ?_ (by first | exact Nat.le_refl _ | exact Below.size (by assumption) | omega | (simp <;> omega)) _ | refine Below.setCell ?_ (by first | exact Nat.le_refl _ | exact Below.size (by assumption) | omega | (simp <;> omega)) _ | refine below_drewN ?_ _ | refine Below.drew ?_))
        have hsz : w2.heap.size < wz.heap.size := by have := hBz.size; omega
        have HZ : Hid (∀ w', Below wz.heap.size wz w' → CX w' w2.heap.size ⟨t1, t2, t3 + u3⟩ ∧ Below wr.heap.size wr w') := fun w' h => ⟨hCZ.below h hsz, HZ0.out w' (hBz.trans (h.mono (by omega)))⟩
        rw [hwz]
        clear hwz hCZ hCX
        refine region_qw (fun w' => Below wz.heap.size wz w') hmx (by kernel_rfl) (by (repeat (first | exact Below.refl _ _ | assumption | refine Below.alloc ?_ (by first | exact Nat.le_refl _ | exact Below.size (by assumption) | omega | (simp <;> omega)) _ | refine Below.setCell ?_ (by first | exact Nat.le_refl _ | exact Below.size (by assumption) | omega | (simp <;> omega)) _ | refine below_drewN ?_ _ | refine Below.drew ?_))) ?_
        repeat (first | (refine qw_read rfl (fun w' hC => by obtain ⟨g0, g1⟩ := HZ.out w' hC; obtain ⟨c0, c1, c2, _⟩ := g0.c; obtain ⟨f0, f1, f2, f3, f4, f5, f6⟩ := HC2.out w' g1; obtain ⟨cm, cn⟩ := HM2.out w' g1; clear hC; go_simp; rfl) ?_; simp only [Act.put, List.setIfInBounds_toArray, List.set_cons_succ, List.set_cons_zero]) | (refine qw_pass (by first | (simp [Region.wanted, yielded]; done) | (simp [Region.wanted, yielded]; intro h; cases h)) ?_; simp only [Act.put, List.setIfInBounds_toArray, List.set_cons_succ, List.set_cons_zero]))
        (refine qw_call rfl (fun w' hC => by (go_simp; try rfl)) (fun w' hC => (HFT.out w').mono (fun e w2 hr => ⟨hr.1, hC.trans (hr.2.mono hC.size)⟩)) ?_; simp only [Act.put, List.setIfInBounds_toArray, List.set_cons_succ, List.set_cons_zero])
        repeat (first | (refine qw_read rfl (fun w' hC => by obtain ⟨g0, g1⟩ := HZ.out w' hC; obtain ⟨c0, c1, c2, _⟩ := g0.c; obtain ⟨f0, f1, f2, f3, f4, f5, f6⟩ := HC2.out w' g1; obtain ⟨cm, cn⟩ := HM2.out w' g1; clear hC; go_simp; rfl) ?_; simp only [Act.put, List.setIfInBounds_toArray, List.set_cons_succ, List.set_cons_zero]) | (refine qw_pass (by first | (simp [Region.wanted, yielded]; done) | (simp [Region.wanted, yielded]; intro h; cases h)) ?_; simp only [Act.put, List.setIfInBounds_toArray, List.set_cons_succ, List.set_cons_zero]))
        refine qw_nil ?_
        intro w9 hb9
        have hB9 := hBw.trans ((HZ.out w9 hb9).2.mono hBw.size)
        go_wp2
        go_ret2
        exact ⟨hB9, _, _, rfl, built_fin2 HS2.out (by rw [stack_val]; rfl)⟩
      · have hne : ∀ w, (binOp .neq 22 (.agg #[.int .i64 t1, .int .i64 t2, .int .i64 (t3 + u3)]) (.agg #[.int .i64 u1, .int .i64 u2, .int .i64 (t3 + u3)])).run Tryd.prog w = .ok (.bool true) w := by
          intro w
          have := run_ne3 ⟨t1, t2, t3 + u3⟩ ⟨u1, u2, t3 + u3⟩ w
          rwa [decide_eq_false hEq] at this
        have HS2 := Lib.hid (HS.out.trans (if_neg hEq))
        clear hEq HS
        go_wp2
        go_ret2
        exact ⟨(by (repeat (first | exact Below.refl _ _ | assumption | refine Below.alloc ?_ (by first | exact Nat.le_refl _ | exact Below.size (by assumption) | omega | (simp <;> omega)) _ | refine Below.setCell ?_ (by first | exact Nat.le_refl _ | exact Below.size (by assumption) | omega | (simp <;> omega)) _ | refine below_drewN ?_ _ | refine Below.drew ?_))), _, _, rfl, built_er1 HS2.out⟩
end Go.Proofs.YtbcnkcndhgihaaaDoor

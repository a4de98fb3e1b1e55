/- Blocks: built at one colour: the walk. Printed by gensb.py. -/
import Derived.Test.YtbcnkcndhgihaaaDoorSB0
namespace Go.Proofs.YtbcnkcndhgihaaaDoor
open Go.RowKit
set_option linter.unusedSimpArgs false


set_option maxRecDepth 100000 in
set_option maxHeartbeats 8000000 in
theorem built_solid (b : BT) (w : World) (hb : OkB w w.heap.size b) (hl2 : b.ps.length ≤ 2) (HOP : Hid (b.op = 1)) (HN : Hid ((1 ≤ b.n0 ∧ b.n0 ≤ 999) ∧ (1 ≤ b.n1 ∧ b.n1 ≤ 999) ∧ 1 ≤ b.n2 ∧ b.n2 ≤ 999))
    (ih : ∀ p ∈ b.ps, ∀ w, OkB w w.heap.size p → Calls Tryd.prog 83 #[valB p] w (BuiltR p w)) (herr : ∀ p ∈ b.ps, ∀ x, builtS p = .error x → x = 4 ∨ x = 21) : Calls Tryd.prog 83 #[valB b] w (BuiltR b w) := by
  have IH := Lib.hid ih; clear ih
  have HER := Lib.hid herr; clear herr
  have HB := Lib.hid hb; clear hb
  have hmx : Tryd.prog.follows .mixedOrders = true := by kernel_rfl
  obtain ⟨i0, hj0, hz0, hz1, hz2⟩ := infoS_partsH Tryd.infoSH
  have HJ := Lib.hid hj0; clear hj0
  obtain ⟨wa, hwa⟩ : ∃ wa, w.alloc (.cells #[.int .i64 b.op, .int .i64 b.ax, .int .u8 b.co, .int .i64 b.n0, .int .i64 b.n1, .int .i64 b.n2, .slice b.A b.ps.length b.cp] 25) = wa := ⟨_, rfl⟩
  have hBa : Below w.heap.size w wa := by rw [← hwa]; (repeat (first | exact Below.refl _ _ | assumption | refine Below.alloc ?_ (by first | exact Nat.le_refl _ | exact Below.size (by assumption) | omega | (simp <;> omega)) _ | refine Below.setCell ?_ (by first | exact Nat.le_refl _ | exact Below.size (by assumption) | omega | (simp <;> omega)) _ | refine below_drewN ?_ _ | refine Below.drew ?_))
  have hza : wa.heap.size = w.heap.size + 1 := by rw [← hwa]; simp
  have hXa := BxB.new w b 25
  rw [hwa] at hXa
  have HC : Hid (∀ w', Below wa.heap.size wa w' → BxB w' w.heap.size b) := fun w' hC => hXa.under hC (by omega)
  clear hXa
  have HL2 := Lib.hid hl2; clear hl2
  have hlm : b.ps.length ≤ 9223372036854775807 := by have := HL2.out; omega
  obtain ⟨f0, f1, f2, f3, f4, f5, f6⟩ := HC.out wa (Below.refl _ _)
  go_enter Tryd.func83, Tryd.ntmps83
  go_wp2
  clear f0 f1 f2 f3 f4 f5 f6
  go_loopw [4, 6, 7, 8, 18] (fun m _ _ _ i wr => ∃ (k : Nat) (v : Value) (R : List Sh), v = m ∧ k ≤ b.ps.length ∧ i = .int .i64 k ∧ builtL (b.ps.take k) = .ok R ∧ OwnSH wr (w.heap.size + 1) v R ∧ Below wa.heap.size wa wr) (fun _ _ _ _ i _ => b.ps.length - (intOf i).toNat)
  case atStart => exact ⟨0, _, [], rfl, Nat.zero_le _, rfl, rfl, World.ownsRow_nil _ _ _ _, Below.refl _ _⟩
  case round =>
    clear hwa
    obtain ⟨k, u, R, rfl, hk, rfl, hR, hown, hB⟩ := hrel
    have HR := Lib.hid hR; clear hR
    have HO := Lib.hid hown; clear hown
    have hBw := hBa.trans (hB.mono hBa.size)
    have hsB := hB.size
    by_cases hlt : k < b.ps.length
    · obtain ⟨q, hq⟩ := getElem?_of_lt hlt
      have hk1 := HB.out.now hBw
      obtain ⟨bb, off, hA, hbb, c0, c1, c2, c3, c4, c5, c6⟩ := hk1.rd.at hq
      have HM := Lib.hid (List.mem_of_getElem? hq)
      have HK := Lib.hid (hk1.kid HM.out); clear hk1
      have HQ := Lib.hid hq; clear hq
      rw [hA]
      go_wp2_with fail
      refine (IH.out q HM.out _ (HK.out.now (by (repeat (first | exact Below.refl _ _ | assumption | refine Below.alloc ?_ (by first | exact Nat.le_refl _ | exact Below.size (by assumption) | omega | (simp <;> omega)) _ | refine Below.setCell ?_ (by first | exact Nat.le_refl _ | exact Below.size (by assumption) | omega | (simp <;> omega)) _ | refine below_drewN ?_ _ | refine Below.drew ?_))))).mono ?_
      rintro e w2 ⟨hb2, v, er, rfl, hok, her⟩
      have hB2 : Below wa.heap.size wa w2 := (hB.alloc hsB _).trans (hb2.mono (by simp; omega))
      have HO2 : Hid (OwnSH w2 (w.heap.size + 1) u R) := own_belowS (World.ownsRow.alloc HO.out _) hb2
      have hs2 := hB2.size
      clear c0 c1 c2 c3 c4 c5 c6 hb2
      cases hd : builtS q with
      | error x =>
        have hx := HER.out q HM.out x hd
        obtain rfl := her x hd
        have HE := Lib.hid (builtL_at_err HQ.out HR.out hd)
        have hne : (er != 0) = true := by simp; omega
        clear hd hok her hx
        go_wp2
        go_ret2
        exact ⟨hBa.trans (hB2.mono hBa.size), _, _, rfl, built_er1 HE.out⟩
      | ok s =>
        obtain ⟨rfl, rfl⟩ := hok s hd
        have hval := s.val_eq
        rw [hval]
        have HR2 := Lib.hid (builtL_at HQ.out HR.out hd)
        have HLR : Hid (R.length ≤ 1) := by show _ ≤ _; have := HL2.out; rw [builtL_len _ _ HR.out, List.length_take]; omega
        clear hd hok her
        go_wp2_with (at_builtin; refine wpList_append_own _ rfl _ _ 115 rfl (w.heap.size + 1) 70 i0 .nilIface 1 16 Tryd.underlying115 HJ.out hz0 hz1 hz2 rfl (by decide) _ _ _ rfl (World.ownsRow.alloc HO2.out _) ⟨w2.heap.size, 0, none⟩ 1 1 [.iface s.ty (.agg s.ag)] rfl rfl (by intro j u hj; match j, hj with | 0, hj => (simp at hj; subst hj; simp [Addr.add]) | j + 1, hj => simp at hj) (by intro u hu; simp at hu; subst hu; rfl) (by have := HLR.out; unfold maxLen; omega) (by have := HLR.out; omega) (by simp; omega) ?_; intro v' w5 hown' hgrow _; have hB5 := below_grown (w1 := w2.alloc (.cells #[.iface s.ty (.agg s.ag)] 70)) (hB2.alloc (by omega) _) hgrow (fun j hj => by have := (HO2.out.lt j hj).1; omega) (by simp; omega); have own5 := ownSH_snoc (p := s) (by rw [s.val_eq]; exact hown') rfl; have HOW5 := Lib.hid own5; clear own5 hown' hgrow)
        clear hval
        go_wp2
        go_roundw
        case rel => exact ⟨k + 1, _, _, rfl, by omega, by go_num, HR2.out, HOW5.out, hB5⟩
        case measure => simp [intOf]; omega
    · obtain rfl : k = b.ps.length := by omega
      have hR := HR.out
      rw [List.take_length] at hR
      have HRL := Lib.hid hR; clear hR HR hlt hk
      have hbx := HC.out wr hB
      obtain ⟨f0, f1, f2, f3, f4, f5, f6⟩ := hbx

      have hS : builtS b = if fitsS ⟨b.n0, b.n1, b.n2⟩ = 0 then .ok (.solid ⟨b.n0, b.n1, b.n2⟩ b.co) else .error (fitsS ⟨b.n0, b.n1, b.n2⟩) := by
        rw [builtS_eq, HRL.out]
        show joinS b R = _
        unfold joinS
        rw [if_pos HOP.out]
      have HS := Lib.hid hS; clear hS
      rw [HOP.out] at f0
      go_wp2
      have HC2 : Hid (∀ w', Below wr.heap.size wr w' → BxB w' w.heap.size b) := fun w' h => HC.out w' (hB.trans (h.mono hB.size))
      clear f0 f1 f2 f3 f4 f5 f6
      refine region_qw (fun w' => Below wr.heap.size wr w') hmx (by kernel_rfl) (by (repeat (first | exact Below.refl _ _ | assumption | refine Below.alloc ?_ (by first | exact Nat.le_refl _ | exact Below.size (by assumption) | omega | (simp <;> omega)) _ | refine Below.setCell ?_ (by first | exact Nat.le_refl _ | exact Below.size (by assumption) | omega | (simp <;> omega)) _ | refine below_drewN ?_ _ | refine Below.drew ?_))) ?_
      repeat (first | (refine qw_read rfl (fun w' hC => by obtain ⟨f0, f1, f2, f3, f4, f5, f6⟩ := HC2.out w' hC; clear hC; go_simp; rfl) ?_; simp only [Act.put, List.setIfInBounds_toArray, List.set_cons_succ, List.set_cons_zero]) | (refine qw_pass (by first | (simp [Region.wanted, yielded]; done) | (simp [Region.wanted, yielded]; intro h; cases h)) ?_; simp only [Act.put, List.setIfInBounds_toArray, List.set_cons_succ, List.set_cons_zero]))
      (refine qw_call rfl (fun w' hC => by (go_simp; try rfl)) (fun w' hC => (fits_any ⟨b.n0, b.n1, b.n2⟩ w' (by have := HN.out; dsimp only; omega) (by have := HN.out; dsimp only; omega) (by have := HN.out; dsimp only; omega)).mono (fun e w2 hr => ⟨hr.1, hC.trans (hr.2.mono hC.size)⟩)) ?_; simp only [Act.put, List.setIfInBounds_toArray, List.set_cons_succ, List.set_cons_zero])
      repeat (first | (refine qw_read rfl (fun w' hC => by obtain ⟨f0, f1, f2, f3, f4, f5, f6⟩ := HC2.out w' hC; clear hC; go_simp; rfl) ?_; simp only [Act.put, List.setIfInBounds_toArray, List.set_cons_succ, List.set_cons_zero]) | (refine qw_pass (by first | (simp [Region.wanted, yielded]; done) | (simp [Region.wanted, yielded]; intro h; cases h)) ?_; simp only [Act.put, List.setIfInBounds_toArray, List.set_cons_succ, List.set_cons_zero]))
      refine qw_nil ?_
      intro w9 hb9
      go_wp2
      go_ret2
      exact ⟨hBw.trans (hb9.mono hBw.size), _, _, rfl, built_fin HS.out⟩
end Go.Proofs.YtbcnkcndhgihaaaDoor

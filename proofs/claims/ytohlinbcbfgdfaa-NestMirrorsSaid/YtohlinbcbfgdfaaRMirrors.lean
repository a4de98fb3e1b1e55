/- NestMirrors holds for every input: what a layout is in a mirror: right again, with the same waste, and seen in a mirror once more what it was. No condition. -/
import Derived.Test.YtohlinbcbfgdfaaNW17b
import Derived.Test.YtohlinbcbfgdfaaWM
import Derived.Test.YtohlinbcbfgdfaaRows
import Derived.Test.YtohlinbcbfgdfaaOpen5
namespace Go.Proofs.Ytohlinbcbfgdfaa
open Go.RowKit Go.Shelf

theorem run_neRC (p q : RC) (w : World) : (binOp .neq 61 (valR p) (valR q)).run Try.prog w = .ok (.bool (!decide (p = q))) w := by
  have u3 := Try.underlying3
  have a3 := Try.isAgg3
  have z3 := Try.sizeOf3
  have hS : Try.prog.underlying 61 = some (.struct (Try.prog.fieldsOf 61)) := by kernel_rfl
  have hp : Try.prog.stoodInHeld 61 = false := by kernel_rfl
  obtain ⟨p1, p2, p3, p4⟩ := p
  obtain ⟨q1, q2, q3, q4⟩ := q
  rw [run_neq_struct, show (10000 : Nat) = 9999 + 1 from rfl, run_equalIn_agg w 9999 61 _ _ hS hp]
  simp only [Program.fieldsOf, Try.underlying61]
  go_simp
  by_cases h1 : p1 = q1 <;> by_cases h2 : p2 = q2 <;> by_cases h3 : p3 = q3 <;> by_cases h4 : p4 = q4 <;> simp [h1, h2, h3, h4]
theorem guardRC2 : Try.prog.eqGuardType Try.prog.depth 61 = false := by kernel_rfl

set_option maxRecDepth 100000 in
set_option maxHeartbeats 1000000 in
theorem sameBoard_any (b : BD) (A A2 : Option Addr) (c c2 : Nat) (w : World) (hm : b.F.length ≤ 1000000) (hl : RdR w w.heap.size A b.F) (hl2 : RdR w w.heap.size A2 b.F) :
    Calls Try.prog 10 #[bdv b A c, bdv b A2 c2] w (Ret (.bool true) w) := by
  have HL := Lib.hid hl; clear hl
  have HL2 := Lib.hid hl2; clear hl2
  obtain ⟨w0, hw0⟩ : ∃ w0, (w.alloc (.cells #[.int .i64 b.W, .int .i64 b.H, .int .i64 b.G, .slice A b.F.length c] 24)).alloc (.cells #[.int .i64 b.W, .int .i64 b.H, .int .i64 b.G, .slice A2 b.F.length c2] 24) = w0 := ⟨_, rfl⟩
  have hB0 : Below w.heap.size w w0 := by rw [← hw0]; (repeat (first | exact Below.refl _ _ | assumption | refine Below.alloc ?_ (by first | exact Nat.le_refl _ | exact Below.size (by assumption) | omega | (simp <;> omega)) _ | refine Below.setCell ?_ (by first | exact Nat.le_refl _ | exact Below.size (by assumption) | omega | (simp <;> omega)) _ | refine below_drewN ?_ _ | refine Below.drew ?_))
  have hz0 : w0.heap.size = w.heap.size + 2 := by rw [← hw0]; simp
  have HB1 := Lib.hid (show BdAt w0 w.heap.size b A c by rw [← hw0]; exact (BdAt.new w b A c).below (C := w.heap.size + 1) (by (repeat (first | exact Below.refl _ _ | assumption | refine Below.alloc ?_ (by first | exact Nat.le_refl _ | exact Below.size (by assumption) | omega | (simp <;> omega)) _ | refine Below.setCell ?_ (by first | exact Nat.le_refl _ | exact Below.size (by assumption) | omega | (simp <;> omega)) _ | refine below_drewN ?_ _ | refine Below.drew ?_))) (by omega))
  have HB2 := Lib.hid (show BdAt w0 (w.heap.size + 1) b A2 c2 by
    rw [← hw0]
    have := BdAt.new (w.alloc (.cells #[.int .i64 b.W, .int .i64 b.H, .int .i64 b.G, .slice A b.F.length c] 24)) b A2 c2
    rwa [World.size_alloc] at this)
  obtain ⟨k0, k1, k2, k3⟩ := HB1.out
  obtain ⟨j0, j1, j2, j3⟩ := HB2.out
  have hgd := guardRC2
  go_enter Try.func10, Try.ntmps10
  go_wp2
  clear hw0 k0 k1 k2 k3 j0 j1 j2 j3
  go_loopw [5, 37] (fun _ i wr => ∃ k : Nat, k ≤ b.F.length ∧ i = .int .i64 k ∧ Below w0.heap.size w0 wr) (fun _ i _ => b.F.length - (intOf i).toNat)
  case atStart => exact ⟨0, Nat.zero_le _, rfl, Below.refl _ _⟩
  case round =>
    obtain ⟨k, hk, rfl, hB⟩ := hrel
    have hBw := hB0.trans (hB.mono hB0.size)
    have hsB := hB.size
    by_cases hlt : k < b.F.length
    · obtain ⟨r, hr⟩ := getElem?_of_lt hlt
      obtain ⟨b1, off, hA, hb1, d0, d1, d2, d3⟩ := (HL.out.below hBw) k r hr
      obtain ⟨b2, off2, hA2, hb2, r0, r1, r2, r3⟩ := (HL2.out.below hBw) k r hr
      subst hA hA2
      clear hr
      have hner : ∀ w, (binOp .neq 61 (valR r) (valR r)).run Try.prog w = .ok (.bool false) w := fun w => by rw [run_neRC]; simp
      obtain ⟨k0, k1, k2, k3⟩ := HB1.out.below hB (by omega)
      obtain ⟨j0, j1, j2, j3⟩ := HB2.out.below hB (by omega)
      have hz1 : w.heap.size < wr.heap.size := by omega
      have hz2 : w.heap.size + 1 < wr.heap.size := by omega
      clear k0 k1 k2 j0 j1 j2
      go_wp2
      go_quiet (fail)
      go_wp2
      go_roundw
      case rel => exact ⟨k + 1, by omega, by go_num, by (repeat (first | exact Below.refl _ _ | assumption | refine Below.alloc ?_ (by first | exact Nat.le_refl _ | exact Below.size (by assumption) | omega | (simp <;> omega)) _ | refine Below.setCell ?_ (by first | exact Nat.le_refl _ | exact Below.size (by assumption) | omega | (simp <;> omega)) _ | refine below_drewN ?_ _ | refine Below.drew ?_))⟩
      case measure => simp [intOf]; omega
    · obtain rfl : k = b.F.length := by omega
      go_wp2
      go_ret
      exact Ret.mk rfl hBw

theorem key_get {ps qs : List PT} (h : ps.map (fun p => (p.o, p.t)) = qs.map (fun p => (p.o, p.t))) {k : Nat} {p q : PT} (hp : ps[k]? = some p) (hq : qs[k]? = some q) : q.o = p.o ∧ q.t = p.t := by
  have e := congrArg (fun l => l[k]?) h
  simp only [List.getElem?_map, hp, hq, Option.map_some, Option.some.injEq, Prod.mk.injEq] at e
  exact ⟨e.1.symm, e.2.symm⟩

set_option maxRecDepth 100000 in
set_option maxHeartbeats 1000000 in
theorem sameParts_any (A A2 : Option Addr) (c c2 : Nat) (ps qs : List PT) (w : World) (hm : ps.length ≤ 1000000) (ho : ∀ p ∈ ps, p.o.length ≤ 1000000) (hl : RdPP w w.heap.size A ps) (hl2 : RdPP w w.heap.size A2 qs) (hk : ps.map (fun p => (p.o, p.t)) = qs.map (fun p => (p.o, p.t))) :
    Calls Try.prog 11 #[.slice A ps.length c, .slice A2 qs.length c2] w (Ret (.bool true) w) := by
  have HL := Lib.hid hl; clear hl
  have HL2 := Lib.hid hl2; clear hl2
  have hlen : qs.length = ps.length := by have := congrArg List.length hk; simpa using this.symm
  have HK := Lib.hid hk; clear hk
  have hmx : Try.prog.follows .mixedOrders = true := by kernel_rfl
  rw [hlen]
  go_enter Try.func11, Try.ntmps11
  go_wp2
  go_loopw [5, 13] (fun _ i wr => ∃ k : Nat, k ≤ ps.length ∧ i = .int .i64 k ∧ Below w.heap.size w wr) (fun _ i _ => ps.length - (intOf i).toNat)
  case atStart => exact ⟨0, Nat.zero_le _, rfl, Below.refl _ _⟩
  case round =>
    obtain ⟨k, hk, rfl, hB⟩ := hrel
    have hsB := hB.size
    by_cases hlt : k < ps.length
    · obtain ⟨p, hp⟩ := getElem?_of_lt hlt
      obtain ⟨q, hq⟩ := getElem?_of_lt (show k < qs.length by omega)
      obtain ⟨e1, e2⟩ := key_get HK.out hp hq
      obtain ⟨b1, off, hA, hb1, d0, d1⟩ := HL.out.flat.below hB k p hp
      obtain ⟨b2, off2, hA2, hb2, r0, r1⟩ := HL2.out.flat.below hB k q hq
      have HP1 := Lib.hid ((HL.out.now hB).each p (List.mem_of_getElem? hp)).1
      have HP2 := Lib.hid ((HL2.out.now hB).each q (List.mem_of_getElem? hq)).1
      have hpo := ho p (List.mem_of_getElem? hp)
      subst hA hA2
      rw [e1] at r0 HP2
      rw [e2] at r1
      have hbr1 : b1 < wr.heap.size := by omega
      have hbr2 : b2 < wr.heap.size := by omega
      have HX := Lib.hid (And.intro d0 (And.intro d1 (And.intro r0 r1)))
      have HC : Hid (∀ w', Below wr.heap.size wr w' → w'.cell? ⟨b1, off + k * 2, none⟩ = some (.slice p.A p.o.length p.c) ∧ w'.cell? ⟨b1, off + k * 2 + 1, none⟩ = some (.bool p.t) ∧ w'.cell? ⟨b2, off2 + k * 2, none⟩ = some (.slice q.A p.o.length q.c) ∧ w'.cell? ⟨b2, off2 + k * 2 + 1, none⟩ = some (.bool p.t)) := fun w' hC =>
        ⟨(hC.cell (p := ⟨b1, off + k * 2, none⟩) hbr1).trans HX.out.1, (hC.cell (p := ⟨b1, off + k * 2 + 1, none⟩) hbr1).trans HX.out.2.1, (hC.cell (p := ⟨b2, off2 + k * 2, none⟩) hbr2).trans HX.out.2.2.1, (hC.cell (p := ⟨b2, off2 + k * 2 + 1, none⟩) hbr2).trans HX.out.2.2.2⟩
      clear hp hq d0 d1 r0 r1
      go_wp2
      refine region_class (fun w' => Below wr.heap.size wr w') hmx (by kernel_rfl) (by (repeat (first | exact Below.refl _ _ | assumption | refine Below.alloc ?_ (by first | exact Nat.le_refl _ | exact Below.size (by assumption) | omega | (simp <;> omega)) _ | refine Below.setCell ?_ (by first | exact Nat.le_refl _ | exact Below.size (by assumption) | omega | (simp <;> omega)) _ | refine below_drewN ?_ _ | refine Below.drew ?_))) ?_
      repeat (first | (refine quiet_read rfl (fun w' hC => by obtain ⟨f0, f1, f2, f3⟩ := HC.out w' hC; clear hC; go_simp; rfl) ?_; simp only [Act.put, List.setIfInBounds_toArray, List.set_cons_succ, List.set_cons_zero]) | (refine quiet_pass rfl ?_; simp only [Act.put, List.setIfInBounds_toArray, List.set_cons_succ, List.set_cons_zero]))
      (refine quiet_call rfl (fun w' hC => by (go_simp; try rfl)) (fun w' hC => (equal2_any p.A q.A p.c q.c p.o p.o w' hpo (HP1.out.now hC) (HP2.out.now hC)).mono (fun e w2 hr => ⟨hr.1, hC.trans (hr.2.mono hC.size)⟩)) ?_; simp only [Act.put, List.setIfInBounds_toArray, List.set_cons_succ, List.set_cons_zero])
      repeat (first | (refine quiet_read rfl (fun w' hC => by obtain ⟨f0, f1, f2, f3⟩ := HC.out w' hC; clear hC; go_simp; rfl) ?_; simp only [Act.put, List.setIfInBounds_toArray, List.set_cons_succ, List.set_cons_zero]) | (refine quiet_pass rfl ?_; simp only [Act.put, List.setIfInBounds_toArray, List.set_cons_succ, List.set_cons_zero]))
      refine wpQuiet_nil ?_
      intro w9 hb9
      go_wp2
      go_roundw
      case rel => exact ⟨k + 1, by omega, by go_num, hB.trans (hb9.mono hsB)⟩
      case measure => simp [intOf]; omega
    · obtain rfl : k = ps.length := by omega
      go_wp2
      go_ret
      exact Ret.mk rfl hB
end Go.Proofs.Ytohlinbcbfgdfaa

namespace Go.Proofs.Ytohlinbcbfgdfaa
open Go.RowKit Go.Shelf

theorem canonS_val {o : List XY} (hv : validB o = true) : canonS validRB turnL o = (canonL o, 0) := by
  have h0 := validB_len' hv
  have e : canonL o = turnL o := canon_turn (by omega) (bd_cy' (by omega) (validB_ranged hv))
  unfold canonS
  rw [← valid_eq, if_pos hv, e]

set_option maxRecDepth 100000 in
set_option maxHeartbeats 4000000 in
theorem lawMirrors_any (b : BD) (A A2 A3 : Option Addr) (c c2 c3 : Nat) (ps : List PT) (L : List PL) (w : World) (hm : ps.length ≤ Go.maxLen) (hc3 : L.length ≤ c3) (hF : RdR w w.heap.size A b.F) (hp : RdPP w w.heap.size A2 ps) (hl : RdL w w.heap.size A3 L) :
    Calls Try.prog 3 #[deskw b A c A2 ps.length c2 A3 L.length c3] w (Ret (.bool true) w) := by
  have HF := Lib.hid hF; clear hF
  have HP := Lib.hid hp; clear hp
  have HL := Lib.hid hl; clear hl
  have hmx : Try.prog.follows .mixedOrders = true := by kernel_rfl
  obtain ⟨w0, hw0⟩ : ∃ w0, w.alloc (.cells #[.int .i64 b.W, .int .i64 b.H, .int .i64 b.G, .slice A b.F.length c, .slice A2 ps.length c2, .slice A3 L.length c3] 28) = w0 := ⟨_, rfl⟩
  have hB0 : Below w.heap.size w w0 := by rw [← hw0]; (repeat (first | exact Below.refl _ _ | assumption | refine Below.alloc ?_ (by first | exact Nat.le_refl _ | exact Below.size (by assumption) | omega | (simp <;> omega)) _ | refine Below.setCell ?_ (by first | exact Nat.le_refl _ | exact Below.size (by assumption) | omega | (simp <;> omega)) _ | refine below_drewN ?_ _ | refine Below.drew ?_))
  have hz0 : w0.heap.size = w.heap.size + 1 := by rw [← hw0]; simp
  have HDK := Lib.hid (show DkAt w0 w.heap.size b A c A2 ps.length c2 A3 L.length c3 by rw [← hw0]; exact DkAt.new w b A A2 A3 c _ c2 _ c3)
  obtain ⟨k0, k1, k2, k3, k4, k5⟩ := HDK.out
  have hok := fun h => checkS_ok (b := b) (ps := ps) (L := L) h
  -- what both return
  obtain ⟨f, hf⟩ : ∃ f, (checkS b ps L).2 = f := ⟨_, rfl⟩
  have hd : (f = 0 → mirBS b ps L = mirB b) ∧ (f ≠ 0 → mirBS b ps L = zeroB) := by subst hf; exact ⟨fun h => if_pos h, fun h => if_neg h⟩
  have hM : (f = 0 → mirLS b ps L = L.map (mirL b.W)) ∧ (f ≠ 0 → mirLS b ps L = []) := by subst hf; exact ⟨fun h => if_pos h, fun h => if_neg h⟩
  have hK : (f = 0 → mirPS b ps L = ps.map (fun p => (mirO p.o, p.t))) ∧ (f ≠ 0 → mirPS b ps L = []) := by subst hf; exact ⟨fun h => if_pos h, fun h => if_neg h⟩
  obtain ⟨d, hde⟩ : ∃ d, mirBS b ps L = d := ⟨_, rfl⟩
  obtain ⟨M, hMe⟩ : ∃ M, mirLS b ps L = M := ⟨_, rfl⟩
  obtain ⟨K, hKe⟩ : ∃ K, mirPS b ps L = K := ⟨_, rfl⟩
  rw [hf] at hok
  rw [hde] at hd
  rw [hMe] at hM
  rw [hKe] at hK
  have hdl : d.F.length ≤ 10 := by
    by_cases h0 : f = 0
    · rw [hd.1 h0]; have := (boardB_facts (hok h0).hb).2.2.2.2.2.2; simpa [mirB] using this
    · rw [hd.2 h0]; simp [zeroB]
  have hMl : M.length ≤ 200 := by
    by_cases h0 : f = 0
    · rw [hM.1 h0, List.length_map]; exact (hok h0).hl
    · rw [hM.2 h0]; simp
  have hKl : K.length ≤ 60 ∧ ∀ x ∈ K, x.1.length ≤ 64 := by
    by_cases h0 : f = 0
    · rw [hK.1 h0, List.length_map]
      refine ⟨partsB_len (hok h0).hp, fun x hx => ?_⟩
      obtain ⟨p, hp, rfl⟩ := List.mem_map.1 hx
      have := validB_len' (mirO_valid (partsB_each (hok h0).hp hp))
      exact this.2
    · rw [hK.2 h0]; simp
  have HFE := Lib.hid hf; clear hf
  have HOK := Lib.hid hok; clear hok
  have HD := Lib.hid hd; clear hd
  have HM := Lib.hid hM; clear hM
  have HK := Lib.hid hK; clear hK
  have HDE := Lib.hid hde; clear hde
  have HME := Lib.hid hMe; clear hMe
  have HML := Lib.hid hMl
  have HKE := Lib.hid hKe; clear hKe
  have HKL := Lib.hid hKl; clear hKl
  go_enter Try.func3, Try.ntmps3
  go_wp2_with fail
  clear hw0
  refine (few_any b A A2 A3 c c2 c3 ps L _ (HP.out.now hB0) (HL.out.now hB0)).mono ?_
  rintro e' w1 ⟨rfl, hb1⟩
  have hB1 := hB0.trans (hb1.mono hB0.size)
  cases hfw : fewB ps L
  · have HFW := Lib.hid hfw; clear hfw
    go_wp2_with fail
    refine (nawake_any _).mono ?_
    rintro e' w2 ⟨rfl, hb2⟩
    go_wp2
    go_ret
    exact Ret.mk rfl (hB1.trans (hb2.mono hB1.size))
  have HFW := Lib.hid hfw; clear hfw k0 k1 k2 k3 k4 k5
  obtain ⟨k0, k1, k2, k3, k4, k5⟩ := HDK.out.below hb1 (by omega)
  have hz1 : w.heap.size < w1.heap.size := by have := hb1.size; omega
  go_wp2_with fail
  refine (nMirror_any b A A2 A3 c c2 c3 ps L _ (HF.out.now hB1) (HP.out.now hB1) (HL.out.now hB1)).mono ?_
  rintro e' w2 ⟨⟨B1, e1, B2, e2, qs, B3, e3, rfl, hq, hc5, hR, hQ, hS⟩, hb2⟩
  rw [HFE.out]
  rw [HDE.out] at hR ⊢
  rw [HME.out] at hc5 hS ⊢
  rw [HKE.out] at hq
  have hs2 := hb2.size
  have hB2 := hB1.trans (hb2.mono hB1.size)
  have hb02 := hb1.trans (hb2.mono hb1.size)
  obtain ⟨v2, hv2⟩ : ∃ v2, w2.alloc (.cells #[.int .i64 d.W, .int .i64 d.H, .int .i64 d.G, .slice B1 d.F.length e1] 24) = v2 := ⟨_, rfl⟩
  have hbv2 : Below w2.heap.size w2 v2 := by rw [← hv2]; (repeat (first | exact Below.refl _ _ | assumption | refine Below.alloc ?_ (by first | exact Nat.le_refl _ | exact Below.size (by assumption) | omega | (simp <;> omega)) _ | refine Below.setCell ?_ (by first | exact Nat.le_refl _ | exact Below.size (by assumption) | omega | (simp <;> omega)) _ | refine below_drewN ?_ _ | refine Below.drew ?_))
  have hsv2 : v2.heap.size = w2.heap.size + 1 := by rw [← hv2]; simp
  have HD2 := Lib.hid (show BdAt v2 w2.heap.size d B1 e1 by rw [← hv2]; exact BdAt.new w2 d B1 e1)
  have HR2 := Lib.hid (And.intro (hR.now hbv2) (And.intro (hQ.now hbv2) (hS.now hbv2)))
  have HQ := Lib.hid hq; clear hq hR hQ hS
  have hBv2 := hB2.trans (hbv2.mono hB2.size)
  have hb0v2 := hb02.trans (hbv2.mono hb02.size)
  have HV2 := Lib.hid hv2; clear hv2
  go_upto_region 4 with fail
  rw [HV2.out]
  clear HV2 k0 k1 k2 k3 k4 k5
  obtain ⟨k0, k1, k2, k3, k4, k5⟩ := HDK.out.below hb0v2 (by omega)
  have hzv2 : w.heap.size < v2.heap.size := by omega
  go_wp2_with fail
  refine (nMirror2_any b A A2 A3 c c2 c3 ps L _ hm hc3 (HF.out.now hBv2) (HP.out.now hBv2) (HL.out.now hBv2)).mono ?_
  rintro e' w3 ⟨⟨C1, f1, C2, f2, qs2, C3, f3, rfl, hq, _, hR, hQ, hS⟩, hb3⟩
  rw [HFE.out]
  rw [HDE.out] at hR ⊢
  rw [HME.out] at hS ⊢
  rw [HKE.out] at hq
  have hs3 := hb3.size
  have hB3 := hBv2.trans (hb3.mono hBv2.size)
  have hb03 := hb0v2.trans (hb3.mono hb0v2.size)
  obtain ⟨v3, hv3⟩ : ∃ v3, w3.alloc (.cells #[.int .i64 d.W, .int .i64 d.H, .int .i64 d.G, .slice C1 d.F.length f1] 24) = v3 := ⟨_, rfl⟩
  have hbv3 : Below w3.heap.size w3 v3 := by rw [← hv3]; (repeat (first | exact Below.refl _ _ | assumption | refine Below.alloc ?_ (by first | exact Nat.le_refl _ | exact Below.size (by assumption) | omega | (simp <;> omega)) _ | refine Below.setCell ?_ (by first | exact Nat.le_refl _ | exact Below.size (by assumption) | omega | (simp <;> omega)) _ | refine below_drewN ?_ _ | refine Below.drew ?_))
  have hsv3 : v3.heap.size = w3.heap.size + 1 := by rw [← hv3]; simp
  have HD3 := Lib.hid (show BdAt v3 w3.heap.size d C1 f1 by rw [← hv3]; exact BdAt.new w3 d C1 f1)
  have HR3 := Lib.hid (And.intro (hR.now hbv3) (And.intro (hQ.now hbv3) (hS.now hbv3)))
  have HQ3 := Lib.hid hq; clear hq hR hQ hS
  have hBv3 := hB3.trans (hbv3.mono hB3.size)
  have hb0v3 := hb03.trans (hbv3.mono hb03.size)
  have hb23 : Below v2.heap.size v2 v3 := hb3.trans (hbv3.mono hb3.size)
  have HV3 := Lib.hid hv3; clear hv3
  go_upto_region 5 with fail
  rw [HV3.out]
  clear HV3 k0 k1 k2 k3 k4 k5
  have HD23 := Lib.hid (HD2.out.below hb23 (by omega))
  have HR23 := Lib.hid (And.intro (HR2.out.1.now hb23) (And.intro (HR2.out.2.1.now hb23) (HR2.out.2.2.now hb23))); clear HR2
  obtain ⟨a0, a1, a2, a3⟩ := HD23.out
  obtain ⟨j0, j1, j2, j3⟩ := HD3.out
  have hz2v3 : w2.heap.size < v3.heap.size := by omega
  have hz3v3 : w3.heap.size < v3.heap.size := by omega
  have hqql : qs.map (fun p => (p.o, p.t)) = qs2.map (fun p => (p.o, p.t)) := HQ.out.trans HQ3.out.symm
  have HQSL := Lib.hid (show qs.length ≤ 60 by have h1 : qs.length = K.length := by rw [← HQ.out]; simp
                                               rw [h1]; exact HKL.out.1)
  have hqo : ∀ p ∈ qs, p.o.length ≤ 1000000 := fun p hp => by
    have := HKL.out.2 (p.o, p.t) (by rw [← HQ.out]; exact List.mem_map.2 ⟨p, hp, rfl⟩)
    dsimp only at this; omega
  have HQQ := Lib.hid hqql; clear hqql
  have hqq2 : qs2.length = qs.length := by have := congrArg List.length HQQ.out; simpa using this.symm
  have HQQ2 := Lib.hid hqq2; clear hqq2
  go_wp2_with fail
  refine (sameBoard_any d B1 C1 e1 f1 _ (by omega) HR23.out.1 HR3.out.1).mono ?_
  rintro e' w4 ⟨rfl, hb4⟩
  have hb04 := hb0v3.trans (hb4.mono hb0v3.size)
  have hB4 := hBv3.trans (hb4.mono hBv3.size)
  clear a0 a1 a2 a3 j0 j1 j2 j3
  go_wp2_with fail
  refine (sameParts_any B2 C2 e2 f2 qs qs2 _ (by have := HQSL.out; omega) hqo (HR23.out.2.1.now hb4) (HR3.out.2.1.now hb4) HQQ.out).mono ?_
  rintro e' w5 ⟨rfl, hb5⟩
  have hb05 := hb04.trans (hb5.mono hb04.size)
  have hB5 := hB4.trans (hb5.mono hB4.size)
  have hb35 := hb4.trans (hb5.mono hb4.size)
  go_wp2_with fail
  refine (samePlaces_any B3 C3 e3 f3 M M _ (by omega) (HR23.out.2.2.now hb35) (HR3.out.2.2.now hb35)).mono ?_
  rintro e' w6 ⟨rfl, hb6⟩
  rw [show decide (M = M) = true by simp]
  have hb36 := hb35.trans (hb6.mono hb35.size)
  have hb06 := hb05.trans (hb6.mono hb05.size)
  have hB6 := hB5.trans (hb6.mono hB5.size)
  have hs6 := hb06.size
  have HB := Lib.hid (And.intro (HR23.out.1.now hb36) (And.intro (HR23.out.2.1.now hb36) (HR23.out.2.2.now hb36)))
  have HDW := Lib.hid (HD23.out.below hb36 hz2v3)
  have hz2w6 : w2.heap.size < w6.heap.size := by have := hb36.size; omega
  have hzw6 : w.heap.size < w6.heap.size := by omega
  clear HR3 HR23 HD23 HD3 HD2 hb23 hb3 hb4 hb5 hb6 hbv2 hbv3 hb02 hb0v2 hb03 hb0v3 hb04 hb05 hb2 hB2 hBv2 hB3 hBv3 hB4 hB5 hsv2 hsv3 hs2 hs3 hz1 hzv2 hz2v3 hz3v3 hb1 hB1
  by_cases hf0 : f = 0
  case neg =>
    have HF0 := Lib.hid hf0
    have hf0b : (f == (0 : Int)) = false := by simpa using hf0
    go_wp2_with fail
    refine (nawake_any _).mono ?_
    rintro e' w7 ⟨rfl, hb7⟩
    go_wp2
    go_ret
    exact Ret.mk rfl (hB6.trans (hb7.mono hB6.size))
  subst hf0
  have hdm := HD.out.1 rfl
  have hMm := HM.out.1 rfl
  have hKm := HK.out.1 rfl
  have hcf : (checkS b ps L).2 = 0 := HFE.out
  have hkey : qs.map (fun p => (p.o, p.t)) = ps.map (fun p => (mirO p.o, p.t)) := by rw [HQ.out, hKm]
  have hbk := mir_back hkey hcf
  have hwa := mir_waste (mirPs_of hkey) hcf
  have hcd := mir_right (mirPs_of hkey) hcf
  have hok := HOK.out rfl
  rw [← hdm, ← hMm] at hbk hwa hcd
  have hwz : (wasteS b ps L).2 = 0 := by unfold wasteS; rw [if_pos hcf]
  have hpv := fun p hp => partsB_each hok.hp (p := p) hp
  have hpl := partsB_len hok.hp
  have hll := hok.hl
  have hfl := (boardB_facts hok.hb).2.2.2.2.2.2
  have hMl2 := HML.out
  obtain ⟨⟨z, g⟩, hZ⟩ : ∃ r, wasteS b ps L = r := ⟨_, rfl⟩
  rw [hZ] at hwz hwa
  dsimp only at hwz
  subst hwz
  have HBK := Lib.hid hbk; clear hbk
  have HWA := Lib.hid hwa; clear hwa
  have HCD := Lib.hid hcd; clear hcd
  have HZ := Lib.hid hZ; clear hZ
  have HPV := Lib.hid hpv; clear hpv
  clear hdm hMm hKm hcf hkey hok hMl2
  obtain ⟨a0, a1, a2, a3⟩ := HDW.out
  go_wp2_with fail
  refine (Waste_any d B1 B2 B3 e1 e2 e3 qs M _ HB.out.1 HB.out.2.1 HB.out.2.2).mono ?_
  rintro e' w7 ⟨rfl, hb7⟩
  rw [HWA.out]
  have hb07 := hb06.trans (hb7.mono hb06.size)
  have hB7 := hB6.trans (hb7.mono hB6.size)
  have hzw7 : w.heap.size < w7.heap.size := by have := hb07.size; omega
  have hz2w7 : w2.heap.size < w7.heap.size := by have := hb7.size; omega
  clear a0 a1 a2 a3
  obtain ⟨k0, k1, k2, k3, k4, k5⟩ := HDK.out.below hb07 (by omega)
  go_wp2_with fail
  refine (Waste_any b A A2 A3 c c2 c3 ps L _ (HF.out.now hB7) (HP.out.now hB7) (HL.out.now hB7)).mono ?_
  rintro e' w8 ⟨rfl, hb8⟩
  rw [HZ.out]
  have hb08 := hb07.trans (hb8.mono hb07.size)
  have hB8 := hB7.trans (hb8.mono hB7.size)
  have hb68 := hb7.trans (hb8.mono hb7.size)
  have hzw8 : w.heap.size < w8.heap.size := by have := hb08.size; omega
  have hz2w8 : w2.heap.size < w8.heap.size := by have := hb8.size; omega
  clear k0 k1 k2 k3 k4 k5
  obtain ⟨a0, a1, a2, a3⟩ := HDW.out.below hb68 hz2w6
  go_wp2_with fail
  refine (nMirror_any d B1 B2 B3 e1 e2 e3 qs M _ (HB.out.1.now hb68) (HB.out.2.1.now hb68) (HB.out.2.2.now hb68)).mono ?_
  rintro e' w9 ⟨⟨C1, g1, C2, g2, qs3, C3, g3, rfl, hq, _, hR, hQ, hS⟩, hb9⟩
  rw [HBK.out.1] at hR ⊢
  rw [HBK.out.2.1] at hS ⊢
  rw [HBK.out.2.2] at hq
  rw [HCD.out]
  have hs9 := hb9.size
  have hB9 := hB8.trans (hb9.mono hB8.size)
  have hb09 := hb08.trans (hb9.mono hb08.size)
  obtain ⟨v9, hv9⟩ : ∃ v9, w9.alloc (.cells #[.int .i64 b.W, .int .i64 b.H, .int .i64 b.G, .slice C1 b.F.length g1] 24) = v9 := ⟨_, rfl⟩
  have hbv9 : Below w9.heap.size w9 v9 := by rw [← hv9]; (repeat (first | exact Below.refl _ _ | assumption | refine Below.alloc ?_ (by first | exact Nat.le_refl _ | exact Below.size (by assumption) | omega | (simp <;> omega)) _ | refine Below.setCell ?_ (by first | exact Nat.le_refl _ | exact Below.size (by assumption) | omega | (simp <;> omega)) _ | refine below_drewN ?_ _ | refine Below.drew ?_))
  have hsv9 : v9.heap.size = w9.heap.size + 1 := by rw [← hv9]; simp
  have HD9 := Lib.hid (show BdAt v9 w9.heap.size b C1 g1 by rw [← hv9]; exact BdAt.new w9 b C1 g1)
  have HR9 := Lib.hid (And.intro (hR.now hbv9) (And.intro (hQ.now hbv9) (hS.now hbv9)))
  have HQ9 := Lib.hid hq; clear hq hR hQ hS
  have hBv9 := hB9.trans (hbv9.mono hB9.size)
  have hb0v9 := hb09.trans (hbv9.mono hb09.size)
  have HV9 := Lib.hid hv9; clear hv9 a0 a1 a2 a3
  have HQL := Lib.hid (show qs3.length = ps.length by have := congrArg List.length HQ9.out; simpa using this)
  go_upto_region 14 with fail
  rw [HV9.out]
  clear HV9
  have hzv9 : w.heap.size < v9.heap.size := by omega
  have hz9v9 : w9.heap.size < v9.heap.size := by omega
  obtain ⟨k0, k1, k2, k3, k4, k5⟩ := HDK.out.below hb0v9 (by omega)
  obtain ⟨j0, j1, j2, j3⟩ := HD9.out
  go_wp2_with fail
  refine (sameBoard_any b C1 A g1 c _ (by omega) HR9.out.1 (HF.out.now hBv9)).mono ?_
  rintro e' x1 ⟨rfl, hx1⟩
  have hb0x1 := hb0v9.trans (hx1.mono hb0v9.size)
  have hBx1 := hBv9.trans (hx1.mono hBv9.size)
  have hzx1 : w.heap.size < x1.heap.size := by have := hb0x1.size; omega
  clear k0 k1 k2 k3 k4 k5 j0 j1 j2 j3
  obtain ⟨k0, k1, k2, k3, k4, k5⟩ := HDK.out.below hb0x1 (by omega)
  go_wp2_with fail
  refine (samePlaces_any C3 A3 g3 c3 L L _ (by omega) (HR9.out.2.2.now hx1) (HL.out.now hBx1)).mono ?_
  rintro e' x2 ⟨rfl, hx2⟩
  rw [show decide (L = L) = true by simp]
  have hb0x2 := hb0x1.trans (hx2.mono hb0x1.size)
  have hBx2 := hBx1.trans (hx2.mono hBx1.size)
  have hxx2 := hx1.trans (hx2.mono hx1.size)
  have hzx2 : w.heap.size < x2.heap.size := by have := hb0x2.size; omega
  have hpx := (HR9.out.2.1.now hxx2)
  have HPX := Lib.hid hpx; clear hpx
  clear k0 k1 k2 k3 k4 k5
  obtain ⟨k0, k1, k2, k3, k4, k5⟩ := HDK.out.below hb0x2 (by omega)
  rw [HQL.out]
  go_wp2
  clear k0 k1 k2 k3 k4 k5
  go_loopw [18, 19, 20, 21, 138] (fun _ _ _ _ i wr => ∃ k : Nat, k ≤ ps.length ∧ i = .int .i64 k ∧ Below x2.heap.size x2 wr) (fun _ _ _ _ i _ => ps.length - (intOf i).toNat)
  case atStart => exact ⟨0, Nat.zero_le _, rfl, Below.refl _ _⟩
  case round =>
    obtain ⟨k, hk, rfl, hB⟩ := hrel
    have hsB := hB.size
    by_cases hlt : k < ps.length
    · obtain ⟨p, hp⟩ := getElem?_of_lt hlt
      obtain ⟨q, hq⟩ := getElem?_of_lt (show k < qs3.length by rw [HQL.out]; exact hlt)
      have hqk : q.o = canonL p.o ∧ q.t = p.t := by
        have e := congrArg (fun l => l[k]?) HQ9.out
        simp only [List.getElem?_map, hp, hq, Option.map_some, Option.some.injEq, Prod.mk.injEq] at e
        exact e
      have hpm := HPV.out p (List.mem_of_getElem? hp)
      have hcl := (canon_len hpm).2
      have hpo := validB_len' hpm
      have hBr := hBx2.trans (hB.mono hBx2.size)
      obtain ⟨b1, off, hA, hb1, d0, d1⟩ := (HP.out.now hBr).flat k p hp
      obtain ⟨b2, off2, hA2, hb2, r0, r1⟩ := (HPX.out.now hB).flat k q hq
      have HP1 := Lib.hid ((HP.out.now hBr).each p (List.mem_of_getElem? hp)).1
      have HP2 := Lib.hid ((HPX.out.now hB).each q (List.mem_of_getElem? hq)).1
      have hcv := canonS_val hpm
      subst hA hA2
      rw [hqk.1] at r0 HP2
      rw [hqk.2] at r1
      have HCV := Lib.hid hcv; clear hcv
      have HCL := Lib.hid hcl; clear hcl
      clear hqk hpm hp hq
      obtain ⟨wz, hwz⟩ : ∃ wz, wr.alloc (.cells #[.slice p.A p.o.length p.c, .bool p.t] 41) = wz := ⟨_, rfl⟩
      have hbz : Below wr.heap.size wr wz := by rw [← hwz]; (repeat (first | exact Below.refl _ _ | assumption | refine Below.alloc ?_ (by first | exact Nat.le_refl _ | exact Below.size (by assumption) | omega | (simp <;> omega)) _ | refine Below.setCell ?_ (by first | exact Nat.le_refl _ | exact Below.size (by assumption) | omega | (simp <;> omega)) _ | refine below_drewN ?_ _ | refine Below.drew ?_))
      have hsz : wz.heap.size = wr.heap.size + 1 := by rw [← hwz]; simp
      have HQZ := Lib.hid (show Qx wz wr.heap.size (.slice p.A p.o.length p.c) p.t by rw [← hwz]; exact Qx.new wr _ _)
      have HW := Lib.hid hwz; clear hwz
      have HR := Lib.hid (And.intro r0 r1); clear r0 r1
      go_upto_region 19 with fail
      rw [HW.out]
      clear HW d0 d1
      obtain ⟨c0, c1, _, _⟩ := HQZ.out.c
      have hz1 : wr.heap.size < wz.heap.size := by omega
      have hBz := hBr.trans (hbz.mono hBr.size)
      go_wp2_with fail
      refine (Canonical2_any p.A p.c p.o _ (HP1.out.now hbz)).mono ?_
      rintro e' y1 ⟨v1, rfl, hown1, hy1⟩
      obtain ⟨A8, d8, rfl, hr8⟩ := own_rd hown1
      rw [HCV.out] at hr8 ⊢
      dsimp only at hr8 ⊢
      have HR8 := Lib.hid hr8; clear hr8 hown1
      have hby1 := hbz.trans (hy1.mono hbz.size)
      have hz3 : wr.heap.size < y1.heap.size := by have := hy1.size; omega
      have hb2y : b2 < y1.heap.size := by omega
      clear c0 c1
      have HQY := Lib.hid (HQZ.out.below hy1 hz1)
      have HC : Hid (∀ w', Below y1.heap.size y1 w' → w'.cell? ⟨b2, off2 + k * 2, none⟩ = some (.slice q.A (canonL p.o).length q.c) ∧ w'.cell? ⟨b2, off2 + k * 2 + 1, none⟩ = some (.bool p.t) ∧ w'.cell? ⟨wr.heap.size, 1, none⟩ = some (.bool p.t)) := fun w' hC =>
        ⟨(hC.cell (p := ⟨b2, off2 + k * 2, none⟩) hb2y).trans ((hby1.cell (p := ⟨b2, off2 + k * 2, none⟩) hb2).trans HR.out.1), (hC.cell (p := ⟨b2, off2 + k * 2 + 1, none⟩) hb2y).trans ((hby1.cell (p := ⟨b2, off2 + k * 2 + 1, none⟩) hb2).trans HR.out.2), (hC.cell (p := ⟨wr.heap.size, 1, none⟩) hz3).trans HQY.out.c.2.1⟩
      have hlt3 : k < qs3.length := by rw [HQL.out]; exact hlt
      go_wp2
      refine region_class (fun w' => Below y1.heap.size y1 w') hmx (by kernel_rfl) (by (repeat (first | exact Below.refl _ _ | assumption | refine Below.alloc ?_ (by first | exact Nat.le_refl _ | exact Below.size (by assumption) | omega | (simp <;> omega)) _ | refine Below.setCell ?_ (by first | exact Nat.le_refl _ | exact Below.size (by assumption) | omega | (simp <;> omega)) _ | refine below_drewN ?_ _ | refine Below.drew ?_))) ?_
      repeat (first | (refine quiet_read rfl (fun w' hC => by obtain ⟨f0, f1, f2⟩ := HC.out w' hC; clear hC; go_simp; rfl) ?_; simp only [Act.put, List.setIfInBounds_toArray, List.set_cons_succ, List.set_cons_zero]) | (refine quiet_pass rfl ?_; simp only [Act.put, List.setIfInBounds_toArray, List.set_cons_succ, List.set_cons_zero]))
      (refine quiet_call rfl (fun w' hC => by (go_simp; try rfl)) (fun w' hC => (equal2_any q.A A8 q.c d8 (canonL p.o) (canonL p.o) w' (by rw [HCL.out]; omega) ((HP2.out.now hby1).now hC) (HR8.out.now hC)).mono (fun e w2 hr => ⟨hr.1, hC.trans (hr.2.mono hC.size)⟩)) ?_; simp only [Act.put, List.setIfInBounds_toArray, List.set_cons_succ, List.set_cons_zero])
      repeat (first | (refine quiet_read rfl (fun w' hC => by obtain ⟨f0, f1, f2⟩ := HC.out w' hC; clear hC; go_simp; rfl) ?_; simp only [Act.put, List.setIfInBounds_toArray, List.set_cons_succ, List.set_cons_zero]) | (refine quiet_pass rfl ?_; simp only [Act.put, List.setIfInBounds_toArray, List.set_cons_succ, List.set_cons_zero]))
      refine wpQuiet_nil ?_
      intro y9 hy9
      go_wp2
      go_roundw
      case rel => exact ⟨k + 1, by omega, by go_num, hB.trans ((hby1.trans (hy9.mono hby1.size)).mono hsB)⟩
      case measure => simp [intOf]; omega
    · obtain rfl : k = ps.length := by omega
      go_wp2_with fail
      refine (nawake_any _).mono ?_
      rintro e' x3 ⟨rfl, hx3⟩
      go_wp2
      go_ret
      exact Ret.mk rfl (hBx2.trans (((hB.trans (hx3.mono hB.size))).mono hBx2.size))
end Go.Proofs.Ytohlinbcbfgdfaa

namespace Go.Proofs.Ytohlinbcbfgdfaa
open Go.ChangeShapes Go.WideShapes Go.ChangeAt Go.RowKit Go.Deep

set_option maxHeartbeats 800000 in
set_option maxRecDepth 100000 in
theorem nestMirrors_lifted (os : Os) (started : os.Started) (H : Type) (enc : TypeId × Value → H) :
    ReturnsInHanded {} Try.checked os 3 .any (Rows.nestMirrorsSpec.pre6 enc Try.prog Try.f3 Rows.nestMirrorsRow.domain false) (Rows.nestMirrorsSpec.post enc Try.prog Try.f3 false true false false) := by
  refine returnsInHanded_of_change (C := Try.checked) Try.own started (by kernel_rfl) Try.func3
    (ChangeSpec.witness6 (enc := enc) (C := Try.checked) false ⟨#[], #[.agg #[.int .i64 0, .int .i64 0, .int .i64 0, .slice none 0 0, .slice none 0 0, .slice none 0 0]], []⟩ 8 (by kernel_rfl) (by kernel_rfl) (by kernel_rfl) (by kernel_rfl)) ?_
  intro W base args ds gs before hval0 hW _ _
  have hval : ∀ (j : Nat) t v, Try.f3.params[j]? = some t → args[j]? = some v → Value.okWide Try.prog W .any base t v := hval0
  have hW' := hW
  obtain ⟨p, q, hA0, hV, rfl, _, _⟩ := hW
  have hA : DataW.TrodAll enc Try.prog W 0 (fun _ => true) true Try.f3.params.toList args.toList ds p := hA0
  rw [Try.params3] at hA hval
  obtain ⟨v0, d0, rfl, rfl, h0⟩ := trodAll_one hA
  obtain ⟨rfl, rfl⟩ := trodVars_none hV
  have hlt : ∀ y ∈ p, y.block < W.heap.size := fun y hy => by simpa using hW'.lt y (by simpa using hy)
  have k0 : ∀ W' : World, Below W.heap.size W W' → DataW.Trod enc Try.prog W' 0 (fun b => decide (b < W.heap.size)) true 28 v0 d0 p :=
    fun W' hn => Below.trod Try.laidOut (by kernel_rfl) (of_decide_eq_true (by kernel_rfl)) h0 hn (fun y hy => hlt y (by simp [hy]))
  obtain ⟨b0, Ad0, cd0, Ap0, ps0, cp0, Al0, L0, cl0, rfl, hd0⟩ := open_desk (hval 0 28 v0 rfl rfl) h0
  clear hA0 hval0
  refine (lawMirrors_any b0 Ad0 Ap0 Al0 cd0 cp0 cl0 ps0 L0 _ hd0.hP hd0.cL hd0.rF hd0.rP hd0.rL).mono fun e W' ⟨he, hn⟩ => ?_
  subst he
  exact ⟨_, rfl, _, _, _, [], _, [], hW', trodAll_mk1 (shut_bool Try.underlying4 true), trodAll_mk1 (k0 _ hn), rfl, hn.frame _, fun h => by cases h⟩

theorem nestMirrors_holds : Rows.NestMirrorsSaid :=
  OpenClaim.holds_of_wide 3 Try.f3 rfl rfl rfl rfl rfl rfl rfl ⟨rfl, rfl, rfl, rfl, rfl⟩ rfl rfl rfl rfl rfl (by kernel_rfl) Try.func3 (by kernel_rfl)
    (of_decide_eq_true (by kernel_rfl)) (by unfold Func.isWrapper; rw [if_neg (of_decide_eq_false (by kernel_rfl))]; exact ⟨rfl, rfl⟩)
    (fun os started H enc _ => nestMirrors_lifted os started H enc)
end Go.Proofs.Ytohlinbcbfgdfaa

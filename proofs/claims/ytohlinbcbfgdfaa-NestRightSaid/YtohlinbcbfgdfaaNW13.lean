/- Where a part lies; whether it is clear of faults: the walks, in the reference. -/
import Derived.Test.YtohlinbcbfgdfaaMathND
namespace Go.Proofs.Ytohlinbcbfgdfaa
open Go.RowKit

theorem turnL_len (l : List XY) : (turnL l).length = l.length := by unfold turnL; simp

set_option maxRecDepth 100000 in
set_option maxHeartbeats 4000000 in
theorem lying2_any (A : Option Addr) (c : Nat) (ps : List PT) (k : Nat) (x y : Int) (t : Bool) (pt : PT) (w : World) (hk : ps[k]? = some pt) (hv : validB pt.o = true) (hp : RdPP w w.heap.size A ps) :
    Calls Try.prog 98 #[.slice A ps.length c, .agg #[.int .i64 (k : Int), .int .i64 x, .int .i64 y, .bool t]] w (RetO (lyL pt.o x y t) w) := by
  have HP := Lib.hid hp; clear hp
  have hkl : k < ps.length := (List.getElem?_eq_some_iff.1 hk).1
  have hmem : pt ∈ ps := List.mem_of_getElem? hk
  have hlen := validB_len' hv
  have hcs : canonS validRB turnL pt.o = (turnL pt.o, 0) := by simp [canonS, ← valid_eq, hv]
  have e1 : canonL pt.o = turnL pt.o := by
    obtain ⟨k, _, _, _, e⟩ := canon_facts (l := pt.o) (by omega) (bd_cy' (by omega) (validB_ranged hv))
    exact e
  have hv1 : validRB (turnL pt.o) = true := by rw [← valid_eq, ← e1]; exact (canon_len hv).1
  have hts : turnedS validRB turnL (turnL pt.o) = (turnL ((turnL pt.o).map fTurn), 0) := by simp [turnedS, hv1]
  have hfin := lyL_two hv x y t
  obtain ⟨b, off, hA, hb, hc0, hc1⟩ := HP.out.flat k pt hk
  subst hA
  clear hk e1 hv1
  have HCS := Lib.hid hcs; clear hcs
  have HTS := Lib.hid hts; clear hts
  have HFI := Lib.hid hfin; clear hfin
  obtain ⟨w0, hw0⟩ : ∃ w0, w.alloc (.cells #[.int .i64 (k : Int), .int .i64 x, .int .i64 y, .bool t] 52) = w0 := ⟨_, rfl⟩
  have hP0 : PlAt w0 w.heap.size ⟨k, x, y, t⟩ := by rw [← hw0]; exact PlAt.new w ⟨k, x, y, t⟩
  have hB0 : Below w.heap.size w w0 := by rw [← hw0]; (repeat (first | exact Below.refl _ _ | assumption | refine Below.alloc ?_ (by first | exact Nat.le_refl _ | exact Below.size (by assumption) | omega | (simp <;> omega)) _ | refine Below.setCell ?_ (by first | exact Nat.le_refl _ | exact Below.size (by assumption) | omega | (simp <;> omega)) _ | refine below_drewN ?_ _ | refine Below.drew ?_))
  have hz00 : w0.heap.size = w.heap.size + 1 := by rw [← hw0]; simp
  have hx0 := (hB0.cell (p := ⟨b, off + k * 2, none⟩) hb).trans hc0
  have hx1 := (hB0.cell (p := ⟨b, off + k * 2 + 1, none⟩) hb).trans hc1
  have HP0 := Lib.hid hP0; clear hP0
  have hbw0 : b < w0.heap.size := by omega
  have HPR := Lib.hid (HP.out.each pt hmem)
  clear hc0 hc1 hmem hv
  have HL1 : Hid ((turnL pt.o).length ≤ 64 ∧ (turnL ((turnL pt.o).map fTurn)).length ≤ 64) := ⟨by rw [turnL_len]; omega, by rw [turnL_len, List.length_map, turnL_len]; omega⟩
  obtain ⟨c0, c1, c2, c3⟩ := HP0.out
  have hkI : (k : Int) < (ps.length : Int) := by omega
  go_enter Try.func98, Try.ntmps98
  cases t
  · go_wp2_with fail
    clear hw0
    refine (Canonical2_any pt.A pt.c pt.o _ (HPR.out.1.now hB0)).mono ?_
    rintro e w2 ⟨v2, rfl, hown2, hb2⟩
    rw [HCS.out] at hown2 ⊢
    dsimp only at hown2
    obtain ⟨A5, c5, rfl, hr5⟩ := own_rd hown2
    clear hown2 c0 c1 c2 c3 hx0 hx1
    have HR5 := Lib.hid hr5; clear hr5
    obtain ⟨c0, c1, c2, c3⟩ := HP0.out.below hb2 (by omega)
    have hw2 : w.heap.size < w2.heap.size := by have := hb2.size; omega
    go_wp2_with fail
    refine (Shifted_any x y A5 c5 (turnL pt.o) _ (Nat.le_trans HL1.out.1 (by omega)) HR5.out).mono ?_
    rintro e w3 ⟨v3, rfl, hown3, hb3⟩
    have hfin := HFI.out
    rw [if_neg (by simp)] at hfin
    rw [hfin] at hown3
    go_wp2
    go_ret
    exact ⟨_, rfl, own_base hown3 (by omega), hB0.trans ((hb2.trans (hb3.mono hb2.size)).mono hB0.size)⟩
  · go_wp2_with fail
    clear hw0
    refine (Canonical2_any pt.A pt.c pt.o _ (HPR.out.1.now hB0)).mono ?_
    rintro e w2 ⟨v2, rfl, hown2, hb2⟩
    rw [HCS.out] at hown2 ⊢
    dsimp only at hown2
    obtain ⟨A5, c5, rfl, hr5⟩ := own_rd hown2
    clear hown2 c0 c1 c2 c3 hx0 hx1
    have HR5 := Lib.hid hr5; clear hr5
    obtain ⟨c0, c1, c2, c3⟩ := HP0.out.below hb2 (by omega)
    have hw2 : w.heap.size < w2.heap.size := by have := hb2.size; omega
    go_wp2_with fail
    refine (Turned2_any A5 c5 (turnL pt.o) _ HR5.out).mono ?_
    rintro e w4 ⟨v4, rfl, hown4, hb4⟩
    rw [HTS.out] at hown4 ⊢
    dsimp only at hown4
    obtain ⟨A6, c6, rfl, hr6⟩ := own_rd hown4
    clear hown4 c0 c1 c2 c3
    have HR6 := Lib.hid hr6; clear hr6
    have hb24 := hb2.trans (hb4.mono hb2.size)
    obtain ⟨c0, c1, c2, c3⟩ := HP0.out.below hb24 (by omega)
    have hw4 : w.heap.size < w4.heap.size := by have := hb24.size; omega
    go_wp2_with fail
    refine (Shifted_any x y A6 c6 (turnL ((turnL pt.o).map fTurn)) _ (Nat.le_trans HL1.out.2 (by omega)) HR6.out).mono ?_
    rintro e w3 ⟨v3, rfl, hown3, hb3⟩
    have hfin := HFI.out
    rw [if_pos trivial] at hfin
    rw [hfin] at hown3
    go_wp2
    go_ret
    exact ⟨_, rfl, own_base hown3 (by omega), hB0.trans ((hb24.trans (hb3.mono hb24.size)).mono hB0.size)⟩

theorem rd_four (w : World) (a b c d : XY) : Rd (w.alloc (.cells #[.int .i64 a.X, .int .i64 a.Y, .int .i64 b.X, .int .i64 b.Y, .int .i64 c.X, .int .i64 c.Y, .int .i64 d.X, .int .i64 d.Y] 55)) (w.heap.size + 1) (some ⟨w.heap.size, 0, none⟩) [a, b, c, d] := by
  obtain ⟨A, c', e, hr⟩ := own_rd (own_four w a b c d)
  have e2 : (⟨w.heap.size, 0, none⟩ : Addr) = A.getD ⟨0, 0, none⟩ ∧ A ≠ none := by
    cases A with
    | none => simp at e
    | some a => simp at e; exact ⟨e.1, by simp⟩
  cases A with
  | none => exact absurd rfl e2.2
  | some a =>
    obtain rfl : (⟨w.heap.size, 0, none⟩ : Addr) = a := e2.1
    rw [World.size_alloc] at hr
    exact hr

set_option maxRecDepth 100000 in
set_option maxHeartbeats 2000000 in
theorem clear_any (b : BD) (A A2 : Option Addr) (c c2 : Nat) (o : List XY) (w : World) (h0 : 0 < o.length) (hm : o.length ≤ 1000000) (hFm : b.F.length ≤ 1000000) (hap : ∀ r ∈ b.F, apart2B o (rcL r) 0 = apartB o (rcL r) 0) (hF : RdR w w.heap.size A b.F) (hl : Rd w w.heap.size A2 o) :
    Calls Try.prog 99 #[bdv b A c, .slice A2 o.length c2] w (Ret (.bool (!faultyB b.F o)) w) := by
  have HF := Lib.hid hF; clear hF
  have HL := Lib.hid hl; clear hl
  have HAP := Lib.hid hap; clear hap
  obtain ⟨w0, hw0⟩ : ∃ w0, w.alloc (.cells #[.int .i64 b.W, .int .i64 b.H, .int .i64 b.G, .slice A b.F.length c] 24) = w0 := ⟨_, rfl⟩
  have hB0 : Below w.heap.size w w0 := by rw [← hw0]; (repeat (first | exact Below.refl _ _ | assumption | refine Below.alloc ?_ (by first | exact Nat.le_refl _ | exact Below.size (by assumption) | omega | (simp <;> omega)) _ | refine Below.setCell ?_ (by first | exact Nat.le_refl _ | exact Below.size (by assumption) | omega | (simp <;> omega)) _ | refine below_drewN ?_ _ | refine Below.drew ?_))
  have hz0 : w0.heap.size = w.heap.size + 1 := by rw [← hw0]; simp
  have HBD := Lib.hid (show BdAt w0 w.heap.size b A c by rw [← hw0]; exact BdAt.new w b A c)
  obtain ⟨k0, k1, k2, k3⟩ := HBD.out
  go_enter Try.func99, Try.ntmps99
  go_wp2
  clear hw0 k0 k1 k2 k3
  go_loopw [6, 7, 11] (fun _ _ i wr => ∃ k : Nat, k ≤ b.F.length ∧ i = .int .i64 k ∧ (∀ x ∈ b.F.take k, (!apartB o (rcL x) 0) = false) ∧ Below w0.heap.size w0 wr) (fun _ _ i _ => b.F.length - (intOf i).toNat)
  case atStart => exact ⟨0, Nat.zero_le _, rfl, by simp, Below.refl _ _⟩
  case round =>
    obtain ⟨k, hk, rfl, hno, hB⟩ := hrel
    have HN := Lib.hid hno; clear hno
    have hBw := hB0.trans (hB.mono hB0.size)
    by_cases hlt : k < b.F.length
    · obtain ⟨q, hq⟩ := getElem?_of_lt hlt
      obtain ⟨bb, off, hA, hbb, d0, d1, d2, d3⟩ := (HF.out.below hBw) k q hq
      subst hA
      have hmem : q ∈ b.F := List.mem_of_getElem? hq
      have HQ := Lib.hid hq; clear hq
      have hsB := hB.size
      have hbw : bb < wr.heap.size := by have := hBw.size; omega
      have hr4 := rd_four (wr.alloc (.cells #[.int .i64 q.X, .int .i64 q.Y, .int .i64 q.W, .int .i64 q.H] 61)) ⟨q.X, q.Y⟩ ⟨wrap64 (q.X + q.W), q.Y⟩ ⟨wrap64 (q.X + q.W), wrap64 (q.Y + q.H)⟩ ⟨q.X, wrap64 (q.Y + q.H)⟩
      rw [World.size_alloc] at hr4
      have hBb : Below w0.heap.size w0 ((wr.alloc (.cells #[.int .i64 q.X, .int .i64 q.Y, .int .i64 q.W, .int .i64 q.H] 61)).alloc (.cells #[.int .i64 q.X, .int .i64 q.Y, .int .i64 (wrap64 (q.X + q.W)), .int .i64 q.Y, .int .i64 (wrap64 (q.X + q.W)), .int .i64 (wrap64 (q.Y + q.H)), .int .i64 q.X, .int .i64 (wrap64 (q.Y + q.H))] 55)) := by (repeat (first | exact Below.refl _ _ | assumption | refine Below.alloc ?_ (by first | exact Nat.le_refl _ | exact Below.size (by assumption) | omega | (simp <;> omega)) _ | refine Below.setCell ?_ (by first | exact Nat.le_refl _ | exact Below.size (by assumption) | omega | (simp <;> omega)) _ | refine below_drewN ?_ _ | refine Below.drew ?_))
      have HR4 := Lib.hid hr4; clear hr4
      have HBB := Lib.hid hBb; clear hBb
      go_wp2_with fail
      refine (apart2_any 0 A2 (some ⟨wr.heap.size + 1, 0, none⟩) c2 4 o (rcL q) _ h0 (by simp [rcL]) hm (by simp [rcL]) (HL.out.now (hB0.trans (HBB.out.mono hB0.size))) (HR4.out.more (by simp))).mono ?_
      rintro e w5 ⟨rfl, hb5⟩
      rw [HAP.out q hmem]
      have hB5 := HBB.out.trans (hb5.mono HBB.out.size)
      cases hv : apartB o (rcL q) 0
      · have HS : Hid (faultyB b.F o = true) := List.any_eq_true.2 ⟨q, hmem, by rw [hv]; rfl⟩
        have HV := Lib.hid hv; clear hv
        go_wp2
        go_ret
        exact Ret.mk (by rw [HS.out]; rfl) (hB0.trans (hB5.mono hB0.size))
      · have HV := Lib.hid hv; clear hv
        go_wp2
        go_roundw
        case rel => exact ⟨k + 1, by omega, by go_num, noG_take_succ (f := fun x : RC => !apartB o (rcL x) 0) HN.out HQ.out (by rw [HV.out]; rfl), hB5⟩
        case measure => simp [intOf]; omega
    · obtain rfl : k = b.F.length := by omega
      have HS : Hid (faultyB b.F o = false) := by
        unfold Hid faultyB
        rw [List.any_eq_false]
        intro x hx
        have := HN.out x (by rw [List.take_length]; exact hx)
        rw [this]; simp
      go_wp2
      go_ret
      exact Ret.mk (by rw [HS.out]; rfl) hBw
end Go.Proofs.Ytohlinbcbfgdfaa

/- The sanity check of the laws of layouts: two squares in a row. The sanity tests of the laws of layouts: few, equal layouts; the law NestRows. -/
import Derived.Test.YtohlinbcbfgdfaaNW8
import Derived.Test.YtohlinbcbfgdfaaNW16
namespace Go.Proofs.Ytohlinbcbfgdfaa
open Go.RowKit

/-- '==' at two places. -/
theorem run_eqPL (p q : PL) (w : World) : (binOp .eql 52 (valL p) (valL q)).run Try.prog w = .ok (.bool (decide (p = q))) w := by
  have u3 := Try.underlying3
  have a3 := Try.isAgg3
  have z3 := Try.sizeOf3
  have u4 := Try.underlying4
  have a4 := Try.isAgg4
  have z4 := Try.sizeOf4
  have hS : Try.prog.underlying 52 = some (.struct (Try.prog.fieldsOf 52)) := by kernel_rfl
  have hp : Try.prog.stoodInHeld 52 = false := by kernel_rfl
  obtain ⟨p1, p2, p3, p4⟩ := p
  obtain ⟨q1, q2, q3, q4⟩ := q
  rw [run_eql_struct, show (10000 : Nat) = 9999 + 1 from rfl, run_equalIn_agg w 9999 52 _ _ hS hp]
  simp only [Program.fieldsOf, Try.underlying52]
  go_simp
  by_cases h1 : p1 = q1 <;> by_cases h2 : p2 = q2 <;> by_cases h3 : p3 = q3 <;> by_cases h4 : p4 = q4 <;> simp [h1, h2, h3, h4]
theorem guardPL : Try.prog.eqGuardType Try.prog.depth 52 = false := by kernel_rfl

def sq40 : List XY := [⟨-20, -20⟩, ⟨20, -20⟩, ⟨20, 20⟩, ⟨-20, 20⟩]
def bd100 : BD := ⟨100, 60, 10, []⟩
theorem sq_valid : validB sq40 = true := by decide +kernel
theorem sq_base (A : Option Addr) (c : Nat) (t : Bool) : base0 ⟨A, c, sq40, t⟩ = sq40 := by
  show lyL sq40 0 0 false = sq40
  decide +kernel
theorem sq_rows (A : Option Addr) (c : Nat) (t : Bool) : rowsOf bd100 ⟨A, c, sq40, t⟩ 0 (nearW 1 0 sq40) (farW 1 0 sq40) (nearW 0 1 sq40) (farW 0 1 sq40) = ([⟨0, 20, 20, false⟩, ⟨0, 70, 20, false⟩], 0) := by
  have e1 : nearW 1 0 sq40 = -20 := by decide +kernel
  have e2 : farW 1 0 sq40 = 20 := by decide +kernel
  have e3 : nearW 0 1 sq40 = -20 := by decide +kernel
  have e4 : farW 0 1 sq40 = 20 := by decide +kernel
  rw [e1, e2, e3, e4]
  have n1 : boxN bd100.W (20 - -20) bd100.G = 2 := by decide +kernel
  have n2 : boxN bd100.H (20 - -20) bd100.G = 1 := by decide +kernel
  unfold rowsOf
  simp only [n1, n2]
  rw [if_neg (by omega)]
  simp [rowL, List.range_succ, stand, bd100]
  rfl

theorem rd_sq (w : World) : Rd (w.alloc (.cells #[.int .i64 (-20), .int .i64 (-20), .int .i64 20, .int .i64 (-20), .int .i64 20, .int .i64 20, .int .i64 (-20), .int .i64 20] 55)) (w.heap.size + 1) (some ⟨w.heap.size, 0, none⟩) sq40 := by
  intro i p hp
  match i, hp with
  | 0, hp => obtain rfl : ⟨-20, -20⟩ = p := by simpa [sq40] using hp
             exact ⟨_, _, rfl, by omega, by simp, by simp⟩
  | 1, hp => obtain rfl : ⟨20, -20⟩ = p := by simpa [sq40] using hp
             exact ⟨_, _, rfl, by omega, by simp, by simp⟩
  | 2, hp => obtain rfl : ⟨20, 20⟩ = p := by simpa [sq40] using hp
             exact ⟨_, _, rfl, by omega, by simp, by simp⟩
  | 3, hp => obtain rfl : ⟨-20, 20⟩ = p := by simpa [sq40] using hp
             exact ⟨_, _, rfl, by omega, by simp, by simp⟩
  | i + 4, hp => simp [sq40] at hp

set_option maxRecDepth 100000 in
set_option maxHeartbeats 1000000 in
theorem nawake_any (w : World) : Calls Try.prog 7 #[] w (Ret (.bool true) w) := by
  obtain ⟨wa, hwa⟩ : ∃ wa, w.alloc (.cells #[.int .i64 (-20), .int .i64 (-20), .int .i64 20, .int .i64 (-20), .int .i64 20, .int .i64 20, .int .i64 (-20), .int .i64 20] 55) = wa := ⟨_, rfl⟩
  have hra : Rd wa (w.heap.size + 1) (some ⟨w.heap.size, 0, none⟩) sq40 := by rw [← hwa]; exact rd_sq w
  have hBa : Below w.heap.size w wa := by rw [← hwa]; (repeat (first | exact Below.refl _ _ | assumption | refine Below.alloc ?_ (by first | exact Nat.le_refl _ | exact Below.size (by assumption) | omega | (simp <;> omega)) _ | refine Below.setCell ?_ (by first | exact Nat.le_refl _ | exact Below.size (by assumption) | omega | (simp <;> omega)) _ | refine below_drewN ?_ _ | refine Below.drew ?_))
  have hza : wa.heap.size = w.heap.size + 1 := by rw [← hwa]; simp
  obtain ⟨wb, hwb⟩ : ∃ wb, wa.alloc (.cells #[.slice (some ⟨w.heap.size, 0, none⟩) 4 4, .bool false] 41) = wb := ⟨_, rfl⟩
  have hBb : Below wa.heap.size wa wb := by rw [← hwb]; (repeat (first | exact Below.refl _ _ | assumption | refine Below.alloc ?_ (by first | exact Nat.le_refl _ | exact Below.size (by assumption) | omega | (simp <;> omega)) _ | refine Below.setCell ?_ (by first | exact Nat.le_refl _ | exact Below.size (by assumption) | omega | (simp <;> omega)) _ | refine below_drewN ?_ _ | refine Below.drew ?_))
  have hzb : wb.heap.size = w.heap.size + 2 := by rw [← hwb]; simp; omega
  have hRP : RdPP wb wb.heap.size (some ⟨w.heap.size + 1, 0, none⟩) [⟨some ⟨w.heap.size, 0, none⟩, 4, sq40, false⟩] := by
    refine ⟨fun i p hp => ?_, fun p hp => ?_⟩
    · match i, hp with
      | 0, hp =>
        obtain rfl : _ = p := by simpa using hp
        refine ⟨_, _, rfl, by omega, ?_, ?_⟩
        · rw [← hwb, ← hza]; simp; rfl
        · rw [← hwb, ← hza]; simp
      | i + 1, hp => simp at hp
    · obtain rfl : p = _ := by simpa using hp
      exact ⟨(hra.below (hBb.mono (by omega))).more (by omega), by simp [sq40]⟩
  have hrows := sq_rows (some ⟨w.heap.size, 0, none⟩) 4 false
  have hbase := sq_base (some ⟨w.heap.size, 0, none⟩) 4 false
  have hc := Rows_yes bd100 none (some ⟨w.heap.size + 1, 0, none⟩) 0 1 [⟨some ⟨w.heap.size, 0, none⟩, 4, sq40, false⟩] 0 ⟨some ⟨w.heap.size, 0, none⟩, 4, sq40, false⟩ wb (fun i p hp => by simp [bd100] at hp) hRP (by decide +kernel) (by simp [partsB, sq_valid]) rfl sq_valid
  rw [hbase, hrows] at hc
  have HC := Lib.hid hc; clear hc hrows hbase hRP hra
  have heq := run_eqPL ⟨0, 70, 20, false⟩ ⟨0, 70, 20, false⟩
  have hgd := guardPL
  have hBw := hBa.trans (hBb.mono hBa.size)
  go_enter Try.func7, Try.ntmps7
  go_wp2_with fail
  clear hwa hwb
  refine HC.out.mono ?_
  rintro e w1 ⟨v1, rfl, hown1, hb1⟩
  obtain ⟨A1, c1, rfl, hr1⟩ := own_rdP hown1
  obtain ⟨b1, off1, hA1, hbb, c0, c1', c2, c3⟩ := hr1 1 ⟨0, 70, 20, false⟩ rfl
  subst hA1
  clear hown1 hr1
  go_wp2
  go_ret
  exact Ret.mk rfl (hBw.trans (hb1.mono hBw.size))
end Go.Proofs.Ytohlinbcbfgdfaa

namespace Go.Proofs.Ytohlinbcbfgdfaa
open Go.RowKit Go.Shelf

/-- A board with parts and a layout, in a block of its own. -/
structure DkAt (w : World) (B : Nat) (b : BD) (A : Option Addr) (c : Nat) (A2 : Option Addr) (n2 c2 : Nat) (A3 : Option Addr) (n3 c3 : Nat) : Prop where
  d0 : w.cell? ⟨B, 0, none⟩ = some (.int .i64 b.W)
  d1 : w.cell? ⟨B, 1, none⟩ = some (.int .i64 b.H)
  d2 : w.cell? ⟨B, 2, none⟩ = some (.int .i64 b.G)
  d3 : w.cell? ⟨B, 3, none⟩ = some (.slice A b.F.length c)
  d4 : w.cell? ⟨B, 4, none⟩ = some (.slice A2 n2 c2)
  d5 : w.cell? ⟨B, 5, none⟩ = some (.slice A3 n3 c3)
section
variable {w w' : World} {B C : Nat} {b : BD} {A A2 A3 : Option Addr} {c n2 c2 n3 c3 : Nat}
theorem DkAt.below (h : DkAt w B b A c A2 n2 c2 A3 n3 c3) (hb : Below C w w') (hB : B < C) : DkAt w' B b A c A2 n2 c2 A3 n3 c3 :=
  ⟨(hb.cell (p := ⟨B, 0, none⟩) hB).trans h.d0, (hb.cell (p := ⟨B, 1, none⟩) hB).trans h.d1, (hb.cell (p := ⟨B, 2, none⟩) hB).trans h.d2, (hb.cell (p := ⟨B, 3, none⟩) hB).trans h.d3, (hb.cell (p := ⟨B, 4, none⟩) hB).trans h.d4, (hb.cell (p := ⟨B, 5, none⟩) hB).trans h.d5⟩
theorem DkAt.new (w : World) (b : BD) (A A2 A3 : Option Addr) (c n2 c2 n3 c3 : Nat) : DkAt (w.alloc (.cells #[.int .i64 b.W, .int .i64 b.H, .int .i64 b.G, .slice A b.F.length c, .slice A2 n2 c2, .slice A3 n3 c3] 28)) w.heap.size b A c A2 n2 c2 A3 n3 c3 := ⟨by simp, by simp, by simp, by simp, by simp, by simp⟩
end
abbrev deskw (b : BD) (A : Option Addr) (c : Nat) (A2 : Option Addr) (n2 c2 : Nat) (A3 : Option Addr) (n3 c3 : Nat) : Value := .agg #[.int .i64 b.W, .int .i64 b.H, .int .i64 b.G, .slice A b.F.length c, .slice A2 n2 c2, .slice A3 n3 c3]

def fewN (ps : List PT) (L : List PL) (k : Nat) : Int := (L.take k).foldl (fun n p => if 0 ≤ p.part ∧ p.part < (ps.length : Int) then wrap64 (n + (((ps[p.part.toNat]?).map (fun q => q.o.length)).getD 0 : Nat)) else n) 0
theorem fewN_succ {ps : List PT} {L : List PL} {k : Nat} {p : PL} (h : L[k]? = some p) : fewN ps L (k + 1) = if 0 ≤ p.part ∧ p.part < (ps.length : Int) then wrap64 (fewN ps L k + (((ps[p.part.toNat]?).map (fun q => q.o.length)).getD 0 : Nat)) else fewN ps L k := by
  unfold fewN; rw [take_succ_of h, List.foldl_append]; rfl
def fewB (ps : List PT) (L : List PL) : Bool := if 20 < ps.length ∨ 24 < L.length then decide (200 < L.length) else decide (fewN ps L L.length ≤ 600)

set_option maxRecDepth 100000 in
set_option maxHeartbeats 1000000 in
theorem few_any (b : BD) (A A2 A3 : Option Addr) (c c2 c3 : Nat) (ps : List PT) (L : List PL) (w : World) (hp : RdPP w w.heap.size A2 ps) (hl : RdL w w.heap.size A3 L) :
    Calls Try.prog 6 #[deskw b A c A2 ps.length c2 A3 L.length c3] w (Ret (.bool (fewB ps L)) w) := by
  have HP := Lib.hid hp; clear hp
  have HL := Lib.hid hl; clear hl
  obtain ⟨w0, hw0⟩ : ∃ w0, w.alloc (.cells #[.int .i64 b.W, .int .i64 b.H, .int .i64 b.G, .slice A b.F.length c, .slice A2 ps.length c2, .slice A3 L.length c3] 28) = w0 := ⟨_, rfl⟩
  have hB0 : Below w.heap.size w w0 := by rw [← hw0]; (repeat (first | exact Below.refl _ _ | assumption | refine Below.alloc ?_ (by first | exact Nat.le_refl _ | exact Below.size (by assumption) | omega | (simp <;> omega)) _ | refine Below.setCell ?_ (by first | exact Nat.le_refl _ | exact Below.size (by assumption) | omega | (simp <;> omega)) _ | refine below_drewN ?_ _ | refine Below.drew ?_))
  have hz0 : w0.heap.size = w.heap.size + 1 := by rw [← hw0]; simp
  have HDK := Lib.hid (show DkAt w0 w.heap.size b A c A2 ps.length c2 A3 L.length c3 by rw [← hw0]; exact DkAt.new w b A A2 A3 c _ c2 _ c3)
  obtain ⟨k0, k1, k2, k3, k4, k5⟩ := HDK.out
  by_cases hbig : 20 < ps.length ∨ 24 < L.length
  · have HS : Hid (fewB ps L = decide (200 < L.length)) := by unfold Hid fewB; rw [if_pos hbig]
    have hcond : (decide (20 < (ps.length : Int)) || decide (24 < (L.length : Int))) = true := by simp; omega
    clear hbig
    go_enter Try.func6, Try.ntmps6
    go_wp2
    all_goals first
      | (go_ret
         exact Ret.mk (by rw [HS.out]; first | rfl | (simp; omega)) hB0)
      | (exfalso; simp at hcond; omega)
  · have HS : Hid (fewB ps L = decide (fewN ps L L.length ≤ 600)) := by unfold Hid fewB; rw [if_neg hbig]
    have g1 : ps.length ≤ 20 := by omega
    have g2 : L.length ≤ 24 := by omega
    have hcond : (decide (20 < (ps.length : Int)) || decide (24 < (L.length : Int))) = false := by simp; omega
    clear hbig
    go_enter Try.func6, Try.ntmps6
    go_wp2
    clear hw0 hcond
    go_loopw [3, 5, 23] (fun n _ i wr => ∃ k : Nat, k ≤ L.length ∧ i = .int .i64 k ∧ n = .int .i64 (fewN ps L k) ∧ Below w0.heap.size w0 wr) (fun _ _ i _ => L.length - (intOf i).toNat)
    case atStart => exact ⟨0, Nat.zero_le _, rfl, rfl, Below.refl _ _⟩
    case round =>
      obtain ⟨k, hk, rfl, rfl, hB⟩ := hrel
      have hBw := hB0.trans (hB.mono hB0.size)
      have hsB := hB.size
      clear k0 k1 k2 k3 k4 k5
      by_cases hlt : k < L.length
      · obtain ⟨q, hq⟩ := getElem?_of_lt hlt
        obtain ⟨bb, off, hA, hbb, d0, d1, d2, d3⟩ := (HL.out.below hBw) k q hq
        subst hA
        have hsu := fewN_succ (ps := ps) hq
        clear hq
        obtain ⟨k0, k1, k2, k3, k4, k5⟩ := HDK.out.below hB (by omega)
        have hww : w.heap.size < wr.heap.size := by omega
        obtain ⟨n, hn⟩ : ∃ n, fewN ps L k = n := ⟨_, rfl⟩
        rw [hn] at hsu ⊢
        clear hn
        by_cases hin : 0 ≤ q.part ∧ q.part < (ps.length : Int)
        · rw [if_pos hin] at hsu
          obtain ⟨h0, h1⟩ := hin
          obtain ⟨m, hm⟩ : ∃ m : Nat, q.part = (m : Int) := ⟨q.part.toNat, by omega⟩
          obtain ⟨pt, hpt⟩ := getElem?_of_lt (show m < ps.length by omega)
          obtain ⟨b5, off5, hA5, hb5, p0, p1⟩ := (HP.out.flat.below hBw) m pt hpt
          subst hA5
          have e : ((ps[q.part.toNat]?).map (fun q => q.o.length)).getD 0 = pt.o.length := by rw [hm, show (m : Int).toNat = m from rfl, hpt]; rfl
          rw [e] at hsu
          rw [hm] at d0 h0 h1
          have hbw5 : b5 < wr.heap.size := by have := hBw.size; omega
          have HSU := Lib.hid hsu; clear hsu e hpt hm
          go_wp2
          go_roundw
          case rel => exact ⟨k + 1, by omega, by go_num, by rw [HSU.out], by (repeat (first | exact Below.refl _ _ | assumption | refine Below.alloc ?_ (by first | exact Nat.le_refl _ | exact Below.size (by assumption) | omega | (simp <;> omega)) _ | refine Below.setCell ?_ (by first | exact Nat.le_refl _ | exact Below.size (by assumption) | omega | (simp <;> omega)) _ | refine below_drewN ?_ _ | refine Below.drew ?_))⟩
          case measure => simp [intOf]; omega
        · rw [if_neg hin] at hsu
          have HSU := Lib.hid hsu; clear hsu
          have HIN := Lib.hid hin; clear hin
          go_wp2
          all_goals first
            | (exfalso; have := HIN.out; omega)
            | (go_roundw
               case rel => exact ⟨k + 1, by omega, by go_num, by rw [HSU.out], by (repeat (first | exact Below.refl _ _ | assumption | refine Below.alloc ?_ (by first | exact Nat.le_refl _ | exact Below.size (by assumption) | omega | (simp <;> omega)) _ | refine Below.setCell ?_ (by first | exact Nat.le_refl _ | exact Below.size (by assumption) | omega | (simp <;> omega)) _ | refine below_drewN ?_ _ | refine Below.drew ?_))⟩
               case measure => simp [intOf]; omega)
      · obtain rfl : k = L.length := by omega
        go_wp2
        go_ret
        exact Ret.mk (by rw [HS.out]; rfl) hBw

theorem run_nePL (p q : PL) (w : World) : (binOp .neq 52 (valL p) (valL q)).run Try.prog w = .ok (.bool (!decide (p = q))) w := by
  have u3 := Try.underlying3
  have a3 := Try.isAgg3
  have z3 := Try.sizeOf3
  have u4 := Try.underlying4
  have a4 := Try.isAgg4
  have z4 := Try.sizeOf4
  have hS : Try.prog.underlying 52 = some (.struct (Try.prog.fieldsOf 52)) := by kernel_rfl
  have hp : Try.prog.stoodInHeld 52 = false := by kernel_rfl
  obtain ⟨p1, p2, p3, p4⟩ := p
  obtain ⟨q1, q2, q3, q4⟩ := q
  rw [run_neq_struct, show (10000 : Nat) = 9999 + 1 from rfl, run_equalIn_agg w 9999 52 _ _ hS hp]
  simp only [Program.fieldsOf, Try.underlying52]
  go_simp
  by_cases h1 : p1 = q1 <;> by_cases h2 : p2 = q2 <;> by_cases h3 : p3 = q3 <;> by_cases h4 : p4 = q4 <;> simp [h1, h2, h3, h4]
theorem eq_of_takesG {α : Type} {l m : List α} (hlen : l.length = m.length) (h : ∀ i, i < l.length → l[i]? = m[i]?) : l = m := by
  apply List.ext_getElem? 
  intro i
  by_cases hi : i < l.length
  · exact h i hi
  · rw [List.getElem?_eq_none (by omega), List.getElem?_eq_none (by omega)]

set_option maxRecDepth 100000 in
set_option maxHeartbeats 1000000 in
theorem samePlaces_any (A A2 : Option Addr) (c c2 : Nat) (l l2 : List PL) (w : World) (hm : l.length ≤ 1000000) (hl : RdL w w.heap.size A l) (hl2 : RdL w w.heap.size A2 l2) :
    Calls Try.prog 12 #[.slice A l.length c, .slice A2 l2.length c2] w (Ret (.bool (decide (l = l2))) w) := by
  have HL := Lib.hid hl; clear hl
  have HL2 := Lib.hid hl2; clear hl2
  by_cases hlen : l.length = l2.length
  case neg =>
    have hne : ¬ l = l2 := fun e => hlen (by rw [e])
    have hbn : (((l.length : Nat) : Int) != ((l2.length : Nat) : Int)) = true := by rw [bne_iff_ne]; omega
    have hlen' : ¬ l.length = l2.length := hlen
    clear hlen
    go_enter Try.func12, Try.ntmps12
    go_wp2
    go_ret
    exact Ret.mk (by simp [hne]) (by (repeat (first | exact Below.refl _ _ | assumption | refine Below.alloc ?_ (by first | exact Nat.le_refl _ | exact Below.size (by assumption) | omega | (simp <;> omega)) _ | refine Below.setCell ?_ (by first | exact Nat.le_refl _ | exact Below.size (by assumption) | omega | (simp <;> omega)) _ | refine below_drewN ?_ _ | refine Below.drew ?_)))
  case pos =>
    have HE := Lib.hid hlen; clear hlen
    have hbn : (((l.length : Nat) : Int) != ((l2.length : Nat) : Int)) = false := by rw [bne_eq_false_iff_eq, HE.out]
    have hne := run_nePL
    have hgd := guardPL
    go_enter Try.func12, Try.ntmps12
    go_wp2
    go_loopw [5, 13] (fun _ i wr => ∃ k : Nat, k ≤ l.length ∧ i = .int .i64 k ∧ (∀ i, i < k → l[i]? = l2[i]?) ∧ Below w.heap.size w wr) (fun _ i _ => l.length - (intOf i).toNat)
    case atStart => exact ⟨0, Nat.zero_le _, rfl, by simp, Below.refl _ _⟩
    case round =>
      obtain ⟨k, hk, rfl, hno, hB⟩ := hrel
      have HN := Lib.hid hno; clear hno
      by_cases hlt : k < l.length
      · have hlt2 : k < l2.length := by have := HE.out; omega
        obtain ⟨q, hq⟩ := getElem?_of_lt hlt
        obtain ⟨b, off, hA, hb, d0, d1, d2, d3⟩ := (HL.out.below hB) k q hq
        subst hA
        obtain ⟨r, hr⟩ := getElem?_of_lt hlt2
        obtain ⟨b1, off1, hA, hb1, r0, r1, r2, r3⟩ := (HL2.out.below hB) k r hr
        subst hA
        have HQ := Lib.hid hq; clear hq
        have HR := Lib.hid hr; clear hr
        go_wp2
        go_quiet (fail)
        cases hqr : decide (q = r)
        · have hqr' : ¬ q = r := of_decide_eq_false hqr
          go_wp2
          go_ret
          have hne2 : ¬ l = l2 := by rintro e; have h1 := HQ.out; rw [e, HR.out] at h1; exact hqr' (Option.some.inj h1).symm
          exact Ret.mk (by simp [hne2]) (by (repeat (first | exact Below.refl _ _ | assumption | refine Below.alloc ?_ (by first | exact Nat.le_refl _ | exact Below.size (by assumption) | omega | (simp <;> omega)) _ | refine Below.setCell ?_ (by first | exact Nat.le_refl _ | exact Below.size (by assumption) | omega | (simp <;> omega)) _ | refine below_drewN ?_ _ | refine Below.drew ?_)))
        · have hqr' : q = r := of_decide_eq_true hqr
          have HE2 := Lib.hid hqr'; clear hqr'
          go_wp2
          go_roundw
          case rel =>
            refine ⟨k + 1, by omega, by go_num, ?_, by (repeat (first | exact Below.refl _ _ | assumption | refine Below.alloc ?_ (by first | exact Nat.le_refl _ | exact Below.size (by assumption) | omega | (simp <;> omega)) _ | refine Below.setCell ?_ (by first | exact Nat.le_refl _ | exact Below.size (by assumption) | omega | (simp <;> omega)) _ | refine below_drewN ?_ _ | refine Below.drew ?_))⟩
            intro i hi
            rcases Nat.lt_succ_iff_lt_or_eq.1 hi with h1 | h1
            · exact HN.out i h1
            · rw [h1, HQ.out, HR.out, HE2.out]
          case measure => simp [intOf]; omega
      · go_wp2
        go_ret
        have he2 : l = l2 := eq_of_takesG HE.out (fun i hi => HN.out i (by omega))
        exact Ret.mk (by simp [he2]) (by (repeat (first | exact Below.refl _ _ | assumption | refine Below.alloc ?_ (by first | exact Nat.le_refl _ | exact Below.size (by assumption) | omega | (simp <;> omega)) _ | refine Below.setCell ?_ (by first | exact Nat.le_refl _ | exact Below.size (by assumption) | omega | (simp <;> omega)) _ | refine below_drewN ?_ _ | refine Below.drew ?_)))

theorem rowsS_len (b : BD) (ps : List PT) (part : Int) : (rowsS b ps part).1.length ≤ 200 := by
  cases hok : okPart b ps part
  · rw [rowsS_no hok]; simp
  · obtain ⟨k, pt, rfl, hk, h1, h2, h3⟩ := okPart_get hok
    rw [rowsS_yes hk h1 h2]
    unfold rowsOf
    dsimp only
    split
    · simp
    · show ((rowL _ _ _ _ _).take 200).length ≤ 200
      rw [List.length_take]; omega

end Go.Proofs.Ytohlinbcbfgdfaa

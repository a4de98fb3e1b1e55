/- The sanity tests of the laws of layouts: few, equal layouts; the law NestRows. -/
import Derived.Test.YtcbiehnaomcfbaaNW16
import Derived.Test.YtcbiehnaomcfbaaNW9
namespace Go.Proofs.Ytcbiehnaomcfbaa
open Go.RowKit Go.Shelf

/-- A board with parts and a layout, in a block of its own. -/
structure DkAt (w : World) (B : Nat) (b : BD) (A : Option Addr) (c : Nat) (A2 : Option Addr) (n2 c2 : Nat) (A3 : Option Addr) (n3 c3 : Nat) : Prop where
  d0 : w.cell? ⟨B, 0, none⟩ = some (.int .i64 b.W)
  d1 : w.cell? ⟨B, 1, none⟩ = some (.int .i64 b.H)
  d2 : w.cell? ⟨B, 2, none⟩ = some (.int .i64 b.G)
  d3 : w.cell? ⟨B, 3, none⟩ = some (.slice A b.F.length c)
  d4 : w.cell? ⟨B, 4, none⟩ = some (.slice A2 n2 c2)
  d5 : w.cell? ⟨B, 5, none⟩ = some (.slice A3 n3 c3)
section
variable {w w' : World} {B C : Nat} {b : BD} {A A2 A3 : Option Addr} {c n2 c2 n3 c3 : Nat}
theorem DkAt.below (h : DkAt w B b A c A2 n2 c2 A3 n3 c3) (hb : Below C w w') (hB : B < C) : DkAt w' B b A c A2 n2 c2 A3 n3 c3 :=
  ⟨(hb.cell (p := ⟨B, 0, none⟩) hB).trans h.d0, (hb.cell (p := ⟨B, 1, none⟩) hB).trans h.d1, (hb.cell (p := ⟨B, 2, none⟩) hB).trans h.d2, (hb.cell (p := ⟨B, 3, none⟩) hB).trans h.d3, (hb.cell (p := ⟨B, 4, none⟩) hB).trans h.d4, (hb.cell (p := ⟨B, 5, none⟩) hB).trans h.d5⟩
theorem DkAt.new (w : World) (b : BD) (A A2 A3 : Option Addr) (c n2 c2 n3 c3 : Nat) : DkAt (w.alloc (.cells #[.int .i64 b.W, .int .i64 b.H, .int .i64 b.G, .slice A b.F.length c, .slice A2 n2 c2, .slice A3 n3 c3] 39)) w.heap.size b A c A2 n2 c2 A3 n3 c3 := ⟨by simp, by simp, by simp, by simp, by simp, by simp⟩
end
abbrev deskw (b : BD) (A : Option Addr) (c : Nat) (A2 : Option Addr) (n2 c2 : Nat) (A3 : Option Addr) (n3 c3 : Nat) : Value := .agg #[.int .i64 b.W, .int .i64 b.H, .int .i64 b.G, .slice A b.F.length c, .slice A2 n2 c2, .slice A3 n3 c3]

def fewN (ps : List PT) (L : List PL) (k : Nat) : Int := (L.take k).foldl (fun n p => if 0 ≤ p.part ∧ p.part < (ps.length : Int) then wrap64 (n + (((ps[p.part.toNat]?).map (fun q => q.o.length)).getD 0 : Nat)) else n) 0
theorem fewN_succ {ps : List PT} {L : List PL} {k : Nat} {p : PL} (h : L[k]? = some p) : fewN ps L (k + 1) = if 0 ≤ p.part ∧ p.part < (ps.length : Int) then wrap64 (fewN ps L k + (((ps[p.part.toNat]?).map (fun q => q.o.length)).getD 0 : Nat)) else fewN ps L k := by
  unfold fewN; rw [take_succ_of h, List.foldl_append]; rfl
def fewB (ps : List PT) (L : List PL) : Bool := if 20 < ps.length ∨ 24 < L.length then decide (200 < L.length) else decide (fewN ps L L.length ≤ 600)

set_option maxRecDepth 100000 in
set_option maxHeartbeats 1000000 in
theorem few_any (b : BD) (A A2 A3 : Option Addr) (c c2 c3 : Nat) (ps : List PT) (L : List PL) (w : World) (hp : RdPP w w.heap.size A2 ps) (hl : RdL w w.heap.size A3 L) :
    Calls Try.prog 19 #[deskw b A c A2 ps.length c2 A3 L.length c3] w (Ret (.bool (fewB ps L)) w) := by
  have HP := Lib.hid hp; clear hp
  have HL := Lib.hid hl; clear hl
  obtain ⟨w0, hw0⟩ : ∃ w0, w.alloc (.cells #[.int .i64 b.W, .int .i64 b.H, .int .i64 b.G, .slice A b.F.length c, .slice A2 ps.length c2, .slice A3 L.length c3] 39) = w0 := ⟨_, rfl⟩
  have hB0 : Below w.heap.size w w0 := by rw [← hw0]; (repeat (first | exact Below.refl _ _ | assumption | refine Below.alloc ?_ (by first | exact Nat.le_refl _ | exact Below.size (by assumption) | omega | (simp <;> omega)) _ | refine Below.setCell ?_ (by first | exact Nat.le_refl _ | exact Below.size (by assumption) | omega | (simp <;> omega)) _ | refine below_drewN ?_ _ | refine Below.drew ?_))
  have hz0 : w0.heap.size = w.heap.size + 1 := by rw [← hw0]; simp
  have HDK := Lib.hid (show DkAt w0 w.heap.size b A c A2 ps.length c2 A3 L.length c3 by rw [← hw0]; exact DkAt.new w b A A2 A3 c _ c2 _ c3)
  obtain ⟨k0, k1, k2, k3, k4, k5⟩ := HDK.out
  by_cases hbig : 20 < ps.length ∨ 24 < L.length
  · have HS : Hid (fewB ps L = decide (200 < L.length)) := by unfold Hid fewB; rw [if_pos hbig]
    have hcond : (decide (20 < (ps.length : Int)) || decide (24 < (L.length : Int))) = true := by simp; omega
    clear hbig
    go_enter Try.func19, Try.ntmps19
    go_wp2
    all_goals first
      | (go_ret
         exact Ret.mk (by rw [HS.out]; first | rfl | (simp; omega)) hB0)
      | (exfalso; simp at hcond; omega)
  · have HS : Hid (fewB ps L = decide (fewN ps L L.length ≤ 600)) := by unfold Hid fewB; rw [if_neg hbig]
    have g1 : ps.length ≤ 20 := by omega
    have g2 : L.length ≤ 24 := by omega
    have hcond : (decide (20 < (ps.length : Int)) || decide (24 < (L.length : Int))) = false := by simp; omega
    clear hbig
    go_enter Try.func19, Try.ntmps19
    go_wp2
    clear hw0 hcond
    go_loopw [3, 5, 23] (fun n _ i wr => ∃ k : Nat, k ≤ L.length ∧ i = .int .i64 k ∧ n = .int .i64 (fewN ps L k) ∧ Below w0.heap.size w0 wr) (fun _ _ i _ => L.length - (intOf i).toNat)
    case atStart => exact ⟨0, Nat.zero_le _, rfl, rfl, Below.refl _ _⟩
    case round =>
      obtain ⟨k, hk, rfl, rfl, hB⟩ := hrel
      have hBw := hB0.trans (hB.mono hB0.size)
      have hsB := hB.size
      clear k0 k1 k2 k3 k4 k5
      by_cases hlt : k < L.length
      · obtain ⟨q, hq⟩ := getElem?_of_lt hlt
        obtain ⟨bb, off, hA, hbb, d0, d1, d2, d3⟩ := (HL.out.below hBw) k q hq
        subst hA
        have hsu := fewN_succ (ps := ps) hq
        clear hq
        obtain ⟨k0, k1, k2, k3, k4, k5⟩ := HDK.out.below hB (by omega)
        have hww : w.heap.size < wr.heap.size := by omega
        obtain ⟨n, hn⟩ : ∃ n, fewN ps L k = n := ⟨_, rfl⟩
        rw [hn] at hsu ⊢
        clear hn
        by_cases hin : 0 ≤ q.part ∧ q.part < (ps.length : Int)
        · rw [if_pos hin] at hsu
          obtain ⟨h0, h1⟩ := hin
          obtain ⟨m, hm⟩ : ∃ m : Nat, q.part = (m : Int) := ⟨q.part.toNat, by omega⟩
          obtain ⟨pt, hpt⟩ := getElem?_of_lt (show m < ps.length by omega)
          obtain ⟨b5, off5, hA5, hb5, p0, p1⟩ := (HP.out.flat.below hBw) m pt hpt
          subst hA5
          have e : ((ps[q.part.toNat]?).map (fun q => q.o.length)).getD 0 = pt.o.length := by rw [hm, show (m : Int).toNat = m from rfl, hpt]; rfl
          rw [e] at hsu
          rw [hm] at d0 h0 h1
          have hbw5 : b5 < wr.heap.size := by have := hBw.size; omega
          have HSU := Lib.hid hsu; clear hsu e hpt hm
          go_wp2
          go_roundw
          case rel => exact ⟨k + 1, by omega, by go_num, by rw [HSU.out], by (repeat (first | exact Below.refl _ _ | assumption | refine Below.alloc ?_ (by first | exact Nat.le_refl _ | exact Below.size (by assumption) | omega | (simp <;> omega)) _ | refine Below.setCell ?_ (by first | exact Nat.le_refl _ | exact Below.size (by assumption) | omega | (simp <;> omega)) _ | refine below_drewN ?_ _ | refine Below.drew ?_))⟩
          case measure => simp [intOf]; omega
        · rw [if_neg hin] at hsu
          have HSU := Lib.hid hsu; clear hsu
          have HIN := Lib.hid hin; clear hin
          go_wp2
          all_goals first
            | (exfalso; have := HIN.out; omega)
            | (go_roundw
               case rel => exact ⟨k + 1, by omega, by go_num, by rw [HSU.out], by (repeat (first | exact Below.refl _ _ | assumption | refine Below.alloc ?_ (by first | exact Nat.le_refl _ | exact Below.size (by assumption) | omega | (simp <;> omega)) _ | refine Below.setCell ?_ (by first | exact Nat.le_refl _ | exact Below.size (by assumption) | omega | (simp <;> omega)) _ | refine below_drewN ?_ _ | refine Below.drew ?_))⟩
               case measure => simp [intOf]; omega)
      · obtain rfl : k = L.length := by omega
        go_wp2
        go_ret
        exact Ret.mk (by rw [HS.out]; rfl) hBw

theorem run_nePL (p q : PL) (w : World) : (binOp .neq 48 (valL p) (valL q)).run Try.prog w = .ok (.bool (!decide (p = q))) w := by
  have u3 := Try.underlying3
  have a3 := Try.isAgg3
  have z3 := Try.sizeOf3
  have u4 := Try.underlying4
  have a4 := Try.isAgg4
  have z4 := Try.sizeOf4
  have hS : Try.prog.underlying 48 = some (.struct (Try.prog.fieldsOf 48)) := by kernel_rfl
  have hp : Try.prog.stoodInHeld 48 = false := by kernel_rfl
  obtain ⟨p1, p2, p3, p4⟩ := p
  obtain ⟨q1, q2, q3, q4⟩ := q
  rw [run_neq_struct, show (10000 : Nat) = 9999 + 1 from rfl, run_equalIn_agg w 9999 48 _ _ hS hp]
  simp only [Program.fieldsOf, Try.underlying48]
  go_simp
  by_cases h1 : p1 = q1 <;> by_cases h2 : p2 = q2 <;> by_cases h3 : p3 = q3 <;> by_cases h4 : p4 = q4 <;> simp [h1, h2, h3, h4]
theorem eq_of_takesG {α : Type} {l m : List α} (hlen : l.length = m.length) (h : ∀ i, i < l.length → l[i]? = m[i]?) : l = m := by
  apply List.ext_getElem? 
  intro i
  by_cases hi : i < l.length
  · exact h i hi
  · rw [List.getElem?_eq_none (by omega), List.getElem?_eq_none (by omega)]

set_option maxRecDepth 100000 in
set_option maxHeartbeats 1000000 in
theorem samePlaces_any (A A2 : Option Addr) (c c2 : Nat) (l l2 : List PL) (w : World) (hm : l.length ≤ 1000000) (hl : RdL w w.heap.size A l) (hl2 : RdL w w.heap.size A2 l2) :
    Calls Try.prog 22 #[.slice A l.length c, .slice A2 l2.length c2] w (Ret (.bool (decide (l = l2))) w) := by
  have HL := Lib.hid hl; clear hl
  have HL2 := Lib.hid hl2; clear hl2
  by_cases hlen : l.length = l2.length
  case neg =>
    have hne : ¬ l = l2 := fun e => hlen (by rw [e])
    have hbn : (((l.length : Nat) : Int) != ((l2.length : Nat) : Int)) = true := by rw [bne_iff_ne]; omega
    have hlen' : ¬ l.length = l2.length := hlen
    clear hlen
    go_enter Try.func22, Try.ntmps22
    go_wp2
    go_ret
    exact Ret.mk (by simp [hne]) (by (repeat (first | exact Below.refl _ _ | assumption | refine Below.alloc ?_ (by first | exact Nat.le_refl _ | exact Below.size (by assumption) | omega | (simp <;> omega)) _ | refine Below.setCell ?_ (by first | exact Nat.le_refl _ | exact Below.size (by assumption) | omega | (simp <;> omega)) _ | refine below_drewN ?_ _ | refine Below.drew ?_)))
  case pos =>
    have HE := Lib.hid hlen; clear hlen
    have hbn : (((l.length : Nat) : Int) != ((l2.length : Nat) : Int)) = false := by rw [bne_eq_false_iff_eq, HE.out]
    have hne := run_nePL
    have hgd := guardPL
    go_enter Try.func22, Try.ntmps22
    go_wp2
    go_loopw [5, 13] (fun _ i wr => ∃ k : Nat, k ≤ l.length ∧ i = .int .i64 k ∧ (∀ i, i < k → l[i]? = l2[i]?) ∧ Below w.heap.size w wr) (fun _ i _ => l.length - (intOf i).toNat)
    case atStart => exact ⟨0, Nat.zero_le _, rfl, by simp, Below.refl _ _⟩
    case round =>
      obtain ⟨k, hk, rfl, hno, hB⟩ := hrel
      have HN := Lib.hid hno; clear hno
      by_cases hlt : k < l.length
      · have hlt2 : k < l2.length := by have := HE.out; omega
        obtain ⟨q, hq⟩ := getElem?_of_lt hlt
        obtain ⟨b, off, hA, hb, d0, d1, d2, d3⟩ := (HL.out.below hB) k q hq
        subst hA
        obtain ⟨r, hr⟩ := getElem?_of_lt hlt2
        obtain ⟨b1, off1, hA, hb1, r0, r1, r2, r3⟩ := (HL2.out.below hB) k r hr
        subst hA
        have HQ := Lib.hid hq; clear hq
        have HR := Lib.hid hr; clear hr
        go_wp2
        go_quiet (fail)
        cases hqr : decide (q = r)
        · have hqr' : ¬ q = r := of_decide_eq_false hqr
          go_wp2
          go_ret
          have hne2 : ¬ l = l2 := by rintro e; have h1 := HQ.out; rw [e, HR.out] at h1; exact hqr' (Option.some.inj h1).symm
          exact Ret.mk (by simp [hne2]) (by (repeat (first | exact Below.refl _ _ | assumption | refine Below.alloc ?_ (by first | exact Nat.le_refl _ | exact Below.size (by assumption) | omega | (simp <;> omega)) _ | refine Below.setCell ?_ (by first | exact Nat.le_refl _ | exact Below.size (by assumption) | omega | (simp <;> omega)) _ | refine below_drewN ?_ _ | refine Below.drew ?_)))
        · have hqr' : q = r := of_decide_eq_true hqr
          have HE2 := Lib.hid hqr'; clear hqr'
          go_wp2
          go_roundw
          case rel =>
            refine ⟨k + 1, by omega, by go_num, ?_, by (repeat (first | exact Below.refl _ _ | assumption | refine Below.alloc ?_ (by first | exact Nat.le_refl _ | exact Below.size (by assumption) | omega | (simp <;> omega)) _ | refine Below.setCell ?_ (by first | exact Nat.le_refl _ | exact Below.size (by assumption) | omega | (simp <;> omega)) _ | refine below_drewN ?_ _ | refine Below.drew ?_))⟩
            intro i hi
            rcases Nat.lt_succ_iff_lt_or_eq.1 hi with h1 | h1
            · exact HN.out i h1
            · rw [h1, HQ.out, HR.out, HE2.out]
          case measure => simp [intOf]; omega
      · go_wp2
        go_ret
        have he2 : l = l2 := eq_of_takesG HE.out (fun i hi => HN.out i (by omega))
        exact Ret.mk (by simp [he2]) (by (repeat (first | exact Below.refl _ _ | assumption | refine Below.alloc ?_ (by first | exact Nat.le_refl _ | exact Below.size (by assumption) | omega | (simp <;> omega)) _ | refine Below.setCell ?_ (by first | exact Nat.le_refl _ | exact Below.size (by assumption) | omega | (simp <;> omega)) _ | refine below_drewN ?_ _ | refine Below.drew ?_)))

theorem rowsS_len (b : BD) (ps : List PT) (part : Int) : (rowsS b ps part).1.length ≤ 200 := by
  cases hok : okPart b ps part
  · rw [rowsS_no hok]; simp
  · obtain ⟨k, pt, rfl, hk, h1, h2, h3⟩ := okPart_get hok
    rw [rowsS_yes hk h1 h2]
    unfold rowsOf
    dsimp only
    split
    · simp
    · show ((rowL _ _ _ _ _).take 200).length ≤ 200
      rw [List.length_take]; omega

set_option maxRecDepth 100000 in
set_option maxHeartbeats 2000000 in
theorem lawRows_any (b : BD) (A A2 A3 : Option Addr) (c c2 c3 : Nat) (ps : List PT) (L : List PL) (part : Int) (w : World) (hm : ps.length ≤ Go.maxLen) (hF : RdR w w.heap.size A b.F) (hp : RdPP w w.heap.size A2 ps) (hl : RdL w w.heap.size A3 L) :
    Calls Try.prog 5 #[deskw b A c A2 ps.length c2 A3 L.length c3, .int .i64 part] w (Ret (.bool true) w) := by
  have HF := Lib.hid hF; clear hF
  have HP := Lib.hid hp; clear hp
  have HL := Lib.hid hl; clear hl
  obtain ⟨w0, hw0⟩ : ∃ w0, w.alloc (.cells #[.int .i64 b.W, .int .i64 b.H, .int .i64 b.G, .slice A b.F.length c, .slice A2 ps.length c2, .slice A3 L.length c3] 39) = w0 := ⟨_, rfl⟩
  have hB0 : Below w.heap.size w w0 := by rw [← hw0]; (repeat (first | exact Below.refl _ _ | assumption | refine Below.alloc ?_ (by first | exact Nat.le_refl _ | exact Below.size (by assumption) | omega | (simp <;> omega)) _ | refine Below.setCell ?_ (by first | exact Nat.le_refl _ | exact Below.size (by assumption) | omega | (simp <;> omega)) _ | refine below_drewN ?_ _ | refine Below.drew ?_))
  have hz0 : w0.heap.size = w.heap.size + 1 := by rw [← hw0]; simp
  have HDK := Lib.hid (show DkAt w0 w.heap.size b A c A2 ps.length c2 A3 L.length c3 by rw [← hw0]; exact DkAt.new w b A A2 A3 c _ c2 _ c3)
  obtain ⟨k0, k1, k2, k3, k4, k5⟩ := HDK.out
  have hmx : Try.prog.follows .mixedOrders = true := by kernel_rfl
  have hlen := rowsS_len b ps part
  obtain ⟨⟨R, e⟩, hR⟩ : ∃ r, rowsS b ps part = r := ⟨_, rfl⟩
  rw [hR] at hlen
  have HR := Lib.hid hR; clear hR
  obtain ⟨⟨n, f⟩, hN⟩ : ∃ r, boundS b ps part = r := ⟨_, rfl⟩
  have HN := Lib.hid hN; clear hN
  go_enter Try.func5, Try.ntmps5
  go_wp2_with fail
  clear hw0
  refine (few_any b A A2 A3 c c2 c3 ps L _ (HP.out.now hB0) (HL.out.now hB0)).mono ?_
  rintro e' w1 ⟨rfl, hb1⟩
  have hB1 := hB0.trans (hb1.mono hB0.size)
  cases hf : fewB ps L
  · have HFW := Lib.hid hf; clear hf
    go_wp2_with fail
    refine (nawake_any _).mono ?_
    rintro e' w2 ⟨rfl, hb2⟩
    go_wp2
    go_ret
    exact Ret.mk rfl (hB1.trans (hb2.mono hB1.size))
  · have HFW := Lib.hid hf; clear hf k0 k1 k2 k3 k4 k5
    obtain ⟨k0, k1, k2, k3, k4, k5⟩ := HDK.out.below hb1 (by omega)
    have hz1 : w.heap.size < w1.heap.size := by have := hb1.size; omega
    go_wp2_with fail
    refine (Rows_any b A A2 c c2 ps part _ (HF.out.now hB1) (HP.out.now hB1)).mono ?_
    rintro e' w2 ⟨v2, rfl, hown2, hb2⟩
    obtain ⟨Ar, cr, rfl, hr2⟩ := own_rdP hown2
    rw [HR.out] at hr2 ⊢
    dsimp only at hr2 ⊢
    have HR2 := Lib.hid hr2; clear hr2 hown2
    have hb02 := hb1.trans (hb2.mono hb1.size)
    have hB2 := hB1.trans (hb2.mono hB1.size)
    clear k0 k1 k2 k3 k4 k5
    obtain ⟨k0, k1, k2, k3, k4, k5⟩ := HDK.out.below hb02 (by omega)
    have hz2 : w.heap.size < w2.heap.size := by have := hb02.size; omega
    go_wp2_with fail
    refine (Rows2_any b A A2 c c2 ps part _ hm (HF.out.now hB2) (HP.out.now hB2)).mono ?_
    rintro e' w3 ⟨v3, rfl, hown3, hb3⟩
    obtain ⟨Aq, cq, rfl, hr3⟩ := own_rdP hown3
    rw [HR.out] at hr3 ⊢
    dsimp only at hr3 ⊢
    have HR3 := Lib.hid hr3; clear hr3 hown3
    have hb03 := hb02.trans (hb3.mono hb02.size)
    have hB3 := hB2.trans (hb3.mono hB2.size)
    have HR23 := Lib.hid (HR2.out.now hb3); clear HR2
    clear k0 k1 k2 k3 k4 k5
    go_wp2_with fail
    refine (samePlaces_any Ar Aq cr cq R R _ (by omega) HR23.out HR3.out).mono ?_
    rintro e' w4 ⟨rfl, hb4⟩
    have hb04 := hb03.trans (hb4.mono hb03.size)
    have hB4 := hB3.trans (hb4.mono hB3.size)
    obtain ⟨k0, k1, k2, k3, k4, k5⟩ := HDK.out.below hb04 (by omega)
    have hz4 : w.heap.size < w4.heap.size := by have := hb04.size; omega
    rw [show decide (R = R) = true by simp]
    go_wp2_with fail
    refine (Bound_any b A A2 c c2 ps part _ (HF.out.now hB4) (HP.out.now hB4)).mono ?_
    rintro e' w5 ⟨rfl, hb5⟩
    rw [HN.out]
    have hb05 := hb04.trans (hb5.mono hb04.size)
    have hB5 := hB4.trans (hb5.mono hB4.size)
    clear k0 k1 k2 k3 k4 k5
    obtain ⟨k0, k1, k2, k3, k4, k5⟩ := HDK.out.below hb05 (by omega)
    have hz5 : w.heap.size < w5.heap.size := by have := hb05.size; omega
    go_wp2_with fail
    refine (Bound2_any b A A2 c c2 ps part _ hm (HF.out.now hB5) (HP.out.now hB5)).mono ?_
    rintro e' w6 ⟨rfl, hb6⟩
    rw [HN.out]
    have hB6 := hB5.trans (hb6.mono hB5.size)
    go_wp2_with fail
    refine (nawake_any _).mono ?_
    rintro e' w7 ⟨rfl, hb7⟩
    go_wp2
    go_ret
    exact Ret.mk rfl (hB6.trans (hb7.mono hB6.size))
end Go.Proofs.Ytcbiehnaomcfbaa

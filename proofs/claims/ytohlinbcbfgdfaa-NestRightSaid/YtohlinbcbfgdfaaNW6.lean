/- Where a part lies; faults: the walks, in the program. -/
import Derived.Test.YtohlinbcbfgdfaaNW5
import Derived.Test.YtohlinbcbfgdfaaWE
import Derived.Test.YtohlinbcbfgdfaaMathQ
import Derived.StillTailTactics
import Derived.Deep.RegionLaw
namespace Go.Proofs.Ytohlinbcbfgdfaa
open Go.RowKit Go.Shelf

/-- A place in a block of its own. -/
structure PlAt (w : World) (B : Nat) (p : PL) : Prop where
  c0 : w.cell? ⟨B, 0, none⟩ = some (.int .i64 p.part)
  c1 : w.cell? ⟨B, 1, none⟩ = some (.int .i64 p.X)
  c2 : w.cell? ⟨B, 2, none⟩ = some (.int .i64 p.Y)
  c3 : w.cell? ⟨B, 3, none⟩ = some (.bool p.t)
theorem PlAt.below {w w' : World} {B C : Nat} {p : PL} (h : PlAt w B p) (hb : Below C w w') (hB : B < C) : PlAt w' B p :=
  ⟨(hb.cell (p := ⟨B, 0, none⟩) hB).trans h.c0, (hb.cell (p := ⟨B, 1, none⟩) hB).trans h.c1, (hb.cell (p := ⟨B, 2, none⟩) hB).trans h.c2, (hb.cell (p := ⟨B, 3, none⟩) hB).trans h.c3⟩
theorem PlAt.new (w : World) (p : PL) : PlAt (w.alloc (.cells #[.int .i64 p.part, .int .i64 p.X, .int .i64 p.Y, .bool p.t] 52)) w.heap.size p := ⟨by simp, by simp, by simp, by simp⟩

/-- The corners that are moved. -/
def lyB (o : List XY) (t : Bool) : List XY := if t then canonL ((canonL o).map fTurn) else canonL o
theorem lyL_eq (o : List XY) (x y : Int) (t : Bool) : lyL o x y t = (lyB o t).map (fMove x y) := rfl
theorem canon_len {o : List XY} (h : validB o = true) : validB (canonL o) = true ∧ (canonL o).length = o.length := by
  have hl := validB_len' h
  have h0 : 0 < o.length := by omega
  have e := canon_rot h0 (bd_cy' h0 (validB_ranged h))
  rw [e]
  exact ⟨valid_rot (atTo_lt h0 _ (Nat.le_refl _)) h, rotL_length _ _⟩
theorem lyB_valid {o : List XY} (h : validB o = true) (t : Bool) : validB (lyB o t) = true ∧ (lyB o t).length = o.length := by
  obtain ⟨h1, h2⟩ := canon_len h
  cases t
  · exact ⟨h1, h2⟩
  · have h3 := valid_turn h1
    obtain ⟨h4, h5⟩ := canon_len h3
    exact ⟨h4, by show (canonL ((canonL o).map fTurn)).length = _; rw [h5, List.length_map, h2]⟩

set_option maxRecDepth 100000 in
set_option maxHeartbeats 4000000 in
theorem lying_any (A : Option Addr) (c : Nat) (ps : List PT) (k : Nat) (x y : Int) (t : Bool) (pt : PT) (w : World) (hk : ps[k]? = some pt) (hv : validB pt.o = true) (hp : RdPP w w.heap.size A ps) :
    Calls Try.prog 62 #[.slice A ps.length c, .agg #[.int .i64 (k : Int), .int .i64 x, .int .i64 y, .bool t]] w (RetO (lyL pt.o x y t) w) := by
  have HP := Lib.hid hp; clear hp
  have hkl : k < ps.length := (List.getElem?_eq_some_iff.1 hk).1
  have hmem : pt ∈ ps := List.mem_of_getElem? hk
  have hlen := validB_len' hv
  obtain ⟨hv1, hlc⟩ := canon_len hv
  have hlb := lyB_valid hv t
  have hcs : canonS validB canonL pt.o = (canonL pt.o, 0) := by simp [canonS, hv]
  have hts : turnedS validB canonL (canonL pt.o) = (canonL ((canonL pt.o).map fTurn), 0) := by simp [turnedS, hv1]
  obtain ⟨b, off, hA, hb, hc0, hc1⟩ := HP.out.flat k pt hk
  subst hA
  clear hk
  have HCS := Lib.hid hcs; clear hcs
  have HTS := Lib.hid hts; clear hts
  have hlyl := lyL_eq pt.o x y t
  have HLY := Lib.hid hlyl; clear hlyl
  obtain ⟨L, hL⟩ : ∃ L, lyB pt.o t = L := ⟨_, rfl⟩
  have hLt : t = true → canonL ((canonL pt.o).map fTurn) = L := fun h => by rw [← hL, h]; rfl
  have hLf : t = false → canonL pt.o = L := fun h => by rw [← hL, h]; rfl
  rw [hL] at hlb
  have hlen5 : L.length ≤ 64 ∧ 3 ≤ L.length := by omega
  have HLE := Lib.hid hL; clear hL hlb hlc
  obtain ⟨i0, hi, hz0, hz1, hz2⟩ := info_parts Try.infoXY
  have HJ := Lib.hid hi; clear hi
  obtain ⟨w0, hw0⟩ : ∃ w0, w.alloc (.cells #[.int .i64 (k : Int), .int .i64 x, .int .i64 y, .bool t] 52) = w0 := ⟨_, rfl⟩
  have hP0 : PlAt w0 w.heap.size ⟨k, x, y, t⟩ := by rw [← hw0]; exact PlAt.new w ⟨k, x, y, t⟩
  have hB0 : Below w.heap.size w w0 := by rw [← hw0]; (repeat (first | exact Below.refl _ _ | assumption | refine Below.alloc ?_ (by first | exact Nat.le_refl _ | exact Below.size (by assumption) | omega | (simp <;> omega)) _ | refine Below.setCell ?_ (by first | exact Nat.le_refl _ | exact Below.size (by assumption) | omega | (simp <;> omega)) _ | refine below_drewN ?_ _ | refine Below.drew ?_))
  have hz00 : w0.heap.size = w.heap.size + 1 := by rw [← hw0]; simp
  have hx0 := (hB0.cell (p := ⟨b, off + k * 2, none⟩) hb).trans hc0
  have hx1 := (hB0.cell (p := ⟨b, off + k * 2 + 1, none⟩) hb).trans hc1
  have HP0 := Lib.hid hP0; clear hP0
  have hbw0 : b < w0.heap.size := by omega
  have HPR := Lib.hid (HP.out.each pt hmem)
  clear hc0 hc1 hmem hv hv1
  obtain ⟨c0, c1, c2, c3⟩ := HP0.out
  have hkI : (k : Int) < (ps.length : Int) := by omega
  go_enter Try.func62, Try.ntmps62
  cases t
  · go_wp2_with fail
    clear hw0
    refine (Canonical_any pt.A pt.c pt.o _ HPR.out.2 (HPR.out.1.now hB0)).mono ?_
    rintro e w2 ⟨v2, rfl, hown2, hb2⟩
    rw [HCS.out] at hown2 ⊢
    dsimp only at hown2
    obtain ⟨A5, c5, rfl, hr5⟩ := own_rd hown2
    rw [hLf trivial] at hr5 ⊢
    clear hown2
    have HR5 := Lib.hid hr5; clear hr5
    obtain ⟨w5, rfl⟩ : ∃ w5, w5 = w2 := ⟨_, rfl⟩
    have hB5 : Below w0.heap.size w0 w5 := hb2
    obtain ⟨k0, k1, k2, k3⟩ := (HP0.out.below hb2 (by omega))
    have hw2 : w.heap.size < w5.heap.size := by have := hb2.size; omega
    have HP5 := Lib.hid (HP0.out.below hB5 (by omega))
    have hs5 := hB5.size
    clear hb2
    go_wp2_with (at_make; refine wpList_make_own _ rfl _ _ 39 rfl w5.heap.size 55 i0 (.agg #[.int .i64 0, .int .i64 0]) 2 Try.underlying39 HJ.out hz0 hz1 _ _ _ L.length rfl rfl rfl (by rw [hz2]; omega) (by unfold maxLen; omega) (Nat.le_refl _) ?_; intro w6 hown6 hgrow6)
    have hB6 : Below w5.heap.size w5 w6 := below_grown (Below.refl _ _) hgrow6 (fun k h => by cases h) (Nat.le_refl _)
    have HO6 := Lib.hid hown6; clear hown6 hgrow6
    have hs6 := hB6.size
    go_wp2
    go_loopw [7, 9, 32] (fun v _ i wr => ∃ n : Nat, n ≤ L.length ∧ i = .int .i64 n ∧ OwnL wr w5.heap.size v ((L.take n).map (fMove x y)) ∧ Below w5.heap.size w5 wr) (fun _ _ i _ => L.length - (intOf i).toNat)
    case atStart => exact ⟨0, Nat.zero_le _, rfl, HO6.out, hB6⟩
    case round =>
      obtain ⟨n, hn, rfl, hown, hB⟩ := hrel
      have HO := Lib.hid hown; clear hown
      have hsB := hB.size
      by_cases hlt : n < L.length
      · obtain ⟨r, hr⟩ := getElem?_of_lt hlt
        obtain ⟨b5, off5, hA5, hb5, hcx, hcy⟩ := (HR5.out.below hB) n r hr
        subst hA5
        have HQ := Lib.hid (take_map_succ (fMove x y) hr); clear hr
        obtain ⟨p0, p1, p2, p3⟩ := (HP5.out.below hB (by omega))
        have hwr : w.heap.size < wr.heap.size := by omega
        have hlen : ((L.take n).map (fMove x y)).length = n := by simp; omega
        go_wp2_with (at_builtin; refine wpList_append_own _ rfl _ _ 39 rfl w5.heap.size 55 i0 (.agg #[.int .i64 0, .int .i64 0]) 2 16 Try.underlying39 HJ.out hz0 hz1 hz2 rfl (by decide) _ _ _ rfl ((HO.out.alloc _).alloc _) ⟨wr.heap.size + 1, 0, none⟩ 1 1 [.int .i64 (wrap64 (r.X + x)), .int .i64 (wrap64 (r.Y + y))] rfl rfl (by intro j u hj; match j, hj with | 0, hj => (simp at hj; subst hj; simp [Addr.add]) | 1, hj => (simp at hj; subst hj; simp [Addr.add]) | j + 2, hj => simp at hj) (by intro u hu; simp at hu; rcases hu with rfl | rfl <;> rfl) (by rw [hlen]; unfold maxLen; omega) (by rw [hlen]; omega) (by simp; omega) ?_; intro v' w3 hown' hgrow _)
        go_wp2
        go_roundw
        case rel =>
          refine ⟨n + 1, by omega, by go_num, ?_, below_grown (w1 := (wr.alloc (.cells #[.int .i64 r.X, .int .i64 r.Y] 55)).alloc (.cells #[.int .i64 (wrap64 (r.X + x)), .int .i64 (wrap64 (r.Y + y))] 55)) (by (repeat (first | exact Below.refl _ _ | assumption | refine Below.alloc ?_ (by first | exact Nat.le_refl _ | exact Below.size (by assumption) | omega | (simp <;> omega)) _ | refine Below.setCell ?_ (by first | exact Nat.le_refl _ | exact Below.size (by assumption) | omega | (simp <;> omega)) _ | refine below_drewN ?_ _ | refine Below.drew ?_))) hgrow (fun j hj => (HO.out.lt j hj).1) (by simp; omega)⟩
          rw [HQ.out]
          have e := hown'
          unfold OwnL
          rw [flat_append]
          simpa [flat_cons, flat_nil, fMove] using e
        case measure => simp [intOf]; omega
      · obtain rfl : n = L.length := by omega
        have hown := HO.out
        rw [List.take_length] at hown
        go_wp2
        go_ret
        refine ⟨_, rfl, ?_, hB0.trans ((hB5.trans (hB.mono hs5)).mono hB0.size)⟩
        rw [HLY.out, HLE.out]
        exact own_base hown (by have := hB0.size; omega)
  · go_wp2_with fail
    clear hw0
    refine (Canonical_any pt.A pt.c pt.o _ HPR.out.2 (HPR.out.1.now hB0)).mono ?_
    rintro e w2 ⟨v2, rfl, hown2, hb2⟩
    rw [HCS.out] at hown2 ⊢
    dsimp only at hown2
    have HO5a := Lib.hid hown2
    obtain ⟨A2, c2, rfl, hr2⟩ := own_rd hown2
    clear hown2
    have HR2 := Lib.hid hr2; clear hr2
    obtain ⟨k0, k1, k2, k3⟩ := (HP0.out.below hb2 (by omega))
    have hw2 : w.heap.size < w2.heap.size := by have := hb2.size; omega
    go_wp2_with fail
    refine (Turned_any A2 c2 (canonL pt.o) _ HR2.out).mono ?_
    rintro e w5 ⟨v5, rfl, hown5, hb5⟩
    obtain ⟨A5, c5, rfl, hr5⟩ := own_rd hown5
    rw [HTS.out] at hr5 ⊢
    dsimp only at hr5 ⊢
    rw [hLt trivial] at hr5 ⊢
    clear hown5
    have HR5 := Lib.hid hr5; clear hr5
    have hB5 : Below w0.heap.size w0 w5 := hb2.trans (hb5.mono hb2.size)
    clear k0 k1 k2 k3
    have HP5 := Lib.hid (HP0.out.below hB5 (by omega))
    have hs5 := hB5.size
    clear hb2
    go_wp2_with (at_make; refine wpList_make_own _ rfl _ _ 39 rfl w5.heap.size 55 i0 (.agg #[.int .i64 0, .int .i64 0]) 2 Try.underlying39 HJ.out hz0 hz1 _ _ _ L.length rfl rfl rfl (by rw [hz2]; omega) (by unfold maxLen; omega) (Nat.le_refl _) ?_; intro w6 hown6 hgrow6)
    have hB6 : Below w5.heap.size w5 w6 := below_grown (Below.refl _ _) hgrow6 (fun k h => by cases h) (Nat.le_refl _)
    have HO6 := Lib.hid hown6; clear hown6 hgrow6
    have hs6 := hB6.size
    go_wp2
    go_loopw [7, 9, 32] (fun v _ i wr => ∃ n : Nat, n ≤ L.length ∧ i = .int .i64 n ∧ OwnL wr w5.heap.size v ((L.take n).map (fMove x y)) ∧ Below w5.heap.size w5 wr) (fun _ _ i _ => L.length - (intOf i).toNat)
    case atStart => exact ⟨0, Nat.zero_le _, rfl, HO6.out, hB6⟩
    case round =>
      obtain ⟨n, hn, rfl, hown, hB⟩ := hrel
      have HO := Lib.hid hown; clear hown
      have hsB := hB.size
      by_cases hlt : n < L.length
      · obtain ⟨r, hr⟩ := getElem?_of_lt hlt
        obtain ⟨b5, off5, hA5, hb5, hcx, hcy⟩ := (HR5.out.below hB) n r hr
        subst hA5
        have HQ := Lib.hid (take_map_succ (fMove x y) hr); clear hr
        obtain ⟨p0, p1, p2, p3⟩ := (HP5.out.below hB (by omega))
        have hwr : w.heap.size < wr.heap.size := by omega
        have hlen : ((L.take n).map (fMove x y)).length = n := by simp; omega
        go_wp2_with (at_builtin; refine wpList_append_own _ rfl _ _ 39 rfl w5.heap.size 55 i0 (.agg #[.int .i64 0, .int .i64 0]) 2 16 Try.underlying39 HJ.out hz0 hz1 hz2 rfl (by decide) _ _ _ rfl ((HO.out.alloc _).alloc _) ⟨wr.heap.size + 1, 0, none⟩ 1 1 [.int .i64 (wrap64 (r.X + x)), .int .i64 (wrap64 (r.Y + y))] rfl rfl (by intro j u hj; match j, hj with | 0, hj => (simp at hj; subst hj; simp [Addr.add]) | 1, hj => (simp at hj; subst hj; simp [Addr.add]) | j + 2, hj => simp at hj) (by intro u hu; simp at hu; rcases hu with rfl | rfl <;> rfl) (by rw [hlen]; unfold maxLen; omega) (by rw [hlen]; omega) (by simp; omega) ?_; intro v' w3 hown' hgrow _)
        go_wp2
        go_roundw
        case rel =>
          refine ⟨n + 1, by omega, by go_num, ?_, below_grown (w1 := (wr.alloc (.cells #[.int .i64 r.X, .int .i64 r.Y] 55)).alloc (.cells #[.int .i64 (wrap64 (r.X + x)), .int .i64 (wrap64 (r.Y + y))] 55)) (by (repeat (first | exact Below.refl _ _ | assumption | refine Below.alloc ?_ (by first | exact Nat.le_refl _ | exact Below.size (by assumption) | omega | (simp <;> omega)) _ | refine Below.setCell ?_ (by first | exact Nat.le_refl _ | exact Below.size (by assumption) | omega | (simp <;> omega)) _ | refine below_drewN ?_ _ | refine Below.drew ?_))) hgrow (fun j hj => (HO.out.lt j hj).1) (by simp; omega)⟩
          rw [HQ.out]
          have e := hown'
          unfold OwnL
          rw [flat_append]
          simpa [flat_cons, flat_nil, fMove] using e
        case measure => simp [intOf]; omega
      · obtain rfl : n = L.length := by omega
        have hown := HO.out
        rw [List.take_length] at hown
        go_wp2
        go_ret
        refine ⟨_, rfl, ?_, hB0.trans ((hB5.trans (hB.mono hs5)).mono hB0.size)⟩
        rw [HLY.out, HLE.out]
        exact own_base hown (by have := hB0.size; omega)

theorem own_four (w : World) (a b c d : XY) : OwnL (w.alloc (.cells #[.int .i64 a.X, .int .i64 a.Y, .int .i64 b.X, .int .i64 b.Y, .int .i64 c.X, .int .i64 c.Y, .int .i64 d.X, .int .i64 d.Y] 55)) w.heap.size (.slice (some ⟨w.heap.size, 0, none⟩) 4 4) [a, b, c, d] :=
  ⟨by simp [flat], .inr ⟨w.heap.size, 4, #[.int .i64 a.X, .int .i64 a.Y, .int .i64 b.X, .int .i64 b.Y, .int .i64 c.X, .int .i64 c.Y, .int .i64 d.X, .int .i64 d.Y], rfl, Nat.le_refl _, heap_alloc_new w _, Nat.le_refl _, by unfold maxLen; omega, rfl, rfl⟩⟩

set_option maxRecDepth 100000 in
set_option maxHeartbeats 1000000 in
theorem corners_any (r : RC) (w : World) : Calls Try.prog 77 #[valR r] w (RetO (rcL r) w) := by
  have hO := own_four (w.alloc (.cells #[.int .i64 r.X, .int .i64 r.Y, .int .i64 r.W, .int .i64 r.H] 61)) ⟨r.X, r.Y⟩ ⟨wrap64 (r.X + r.W), r.Y⟩ ⟨wrap64 (r.X + r.W), wrap64 (r.Y + r.H)⟩ ⟨r.X, wrap64 (r.Y + r.H)⟩
  rw [World.size_alloc] at hO
  have HO := Lib.hid hO; clear hO
  go_enter Try.func77, Try.ntmps77
  go_wp2
  go_ret
  exact ⟨_, rfl, own_base HO.out (by omega), by (repeat (first | exact Below.refl _ _ | assumption | refine Below.alloc ?_ (by first | exact Nat.le_refl _ | exact Below.size (by assumption) | omega | (simp <;> omega)) _ | refine Below.setCell ?_ (by first | exact Nat.le_refl _ | exact Below.size (by assumption) | omega | (simp <;> omega)) _ | refine below_drewN ?_ _ | refine Below.drew ?_))⟩

set_option maxRecDepth 100000 in
set_option maxHeartbeats 1000000 in
/-- faulty's closure: it captures the box of the corners. -/
theorem faulty1_any (A : Option Addr) (c : Nat) (o : List XY) (Bo : Nat) (r : RC) (w : World) (h0 : 0 < o.length) (hm : o.length ≤ 1000000) (hB : w.cell? ⟨Bo, 0, none⟩ = some (.slice A o.length c)) (hBz : Bo < w.heap.size) (hl : Rd w w.heap.size A o) :
    Calls Try.prog 76 #[valR r, .pointer (some ⟨Bo, 0, none⟩)] w (Ret (.bool (!apartB o (rcL r) 0)) w) := by
  have HL := Lib.hid hl; clear hl
  have hmx : Try.prog.follows .mixedOrders = true := by kernel_rfl
  obtain ⟨w0, hw0⟩ : ∃ w0, w.alloc (.cells #[.int .i64 r.X, .int .i64 r.Y, .int .i64 r.W, .int .i64 r.H] 61) = w0 := ⟨_, rfl⟩
  have hB0 : Below w.heap.size w w0 := by rw [← hw0]; (repeat (first | exact Below.refl _ _ | assumption | refine Below.alloc ?_ (by first | exact Nat.le_refl _ | exact Below.size (by assumption) | omega | (simp <;> omega)) _ | refine Below.setCell ?_ (by first | exact Nat.le_refl _ | exact Below.size (by assumption) | omega | (simp <;> omega)) _ | refine below_drewN ?_ _ | refine Below.drew ?_))
  have k0 := (hB0.cell (p := ⟨Bo, 0, none⟩) hBz).trans hB
  have c0 : w0.cell? ⟨w.heap.size, 0, none⟩ = some (.int .i64 r.X) := by rw [← hw0]; simp
  have c1 : w0.cell? ⟨w.heap.size, 1, none⟩ = some (.int .i64 r.Y) := by rw [← hw0]; simp
  have c2 : w0.cell? ⟨w.heap.size, 2, none⟩ = some (.int .i64 r.W) := by rw [← hw0]; simp
  have c3 : w0.cell? ⟨w.heap.size, 3, none⟩ = some (.int .i64 r.H) := by rw [← hw0]; simp
  clear hB
  go_enter Try.func76, Try.ntmps76
  go_wp2
  clear hw0
  have hBo : Bo < w0.heap.size := by have := hB0.size; omega
  go_region_law (first | (go_simp; go_at_call 77; refine (corners_any r _).mono ?_; rintro e w1 ⟨v1, rfl, hown1, hb1⟩; have hb1' : Below w0.heap.size w0 w1 := below_of_drew hb1; have hB1 := hB0.trans (hb1'.mono hB0.size); have k1 := (hb1'.cell (p := ⟨Bo, 0, none⟩) hBo).trans k0; obtain ⟨A1, c1', rfl, hr1⟩ := own_rd hown1; have HR1 := Lib.hid hr1; clear hr1 hown1 hb1) | (go_simp; go_at_call 44; refine (apart_any 0 A A1 c c1' o (rcL r) _ h0 (by simp [rcL]) hm (by simp [rcL]) (HL.out.now hB1) HR1.out).mono ?_; rintro e w2 ⟨rfl, hb2⟩))
  all_goals
    go_wp2
    go_ret
    exact Ret.mk rfl (hB1.trans (hb2.mono hB1.size))

set_option maxRecDepth 100000 in
set_option maxHeartbeats 1000000 in
theorem faulty_any (b : BD) (A A2 : Option Addr) (c c2 : Nat) (o : List XY) (w : World) (h0 : 0 < o.length) (hm : o.length ≤ 1000000) (hFm : b.F.length ≤ 1000000) (hF : RdR w w.heap.size A b.F) (hl : Rd w w.heap.size A2 o) :
    Calls Try.prog 41 #[bdv b A c, .slice A2 o.length c2] w (Ret (.bool (faultyB b.F o)) w) := by
  have HF := Lib.hid hF; clear hF
  have HL := Lib.hid hl; clear hl
  obtain ⟨w0, hw0⟩ : ∃ w0, (w.alloc (.cells #[.int .i64 b.W, .int .i64 b.H, .int .i64 b.G, .slice A b.F.length c] 24)).alloc (.cells #[.slice A2 o.length c2] 39) = w0 := ⟨_, rfl⟩
  have hB0 : Below w.heap.size w w0 := by rw [← hw0]; (repeat (first | exact Below.refl _ _ | assumption | refine Below.alloc ?_ (by first | exact Nat.le_refl _ | exact Below.size (by assumption) | omega | (simp <;> omega)) _ | refine Below.setCell ?_ (by first | exact Nat.le_refl _ | exact Below.size (by assumption) | omega | (simp <;> omega)) _ | refine below_drewN ?_ _ | refine Below.drew ?_))
  have hz0 : w0.heap.size = w.heap.size + 2 := by rw [← hw0]; simp
  have hc0 : w0.cell? ⟨w.heap.size + 1, 0, none⟩ = some (.slice A2 o.length c2) := by
    rw [← hw0]
    have : (w.alloc (.cells #[.int .i64 b.W, .int .i64 b.H, .int .i64 b.G, .slice A b.F.length c] 24)).heap.size = w.heap.size + 1 := by simp
    rw [← this]; simp
  have hd0 : w0.cell? ⟨w.heap.size, 3, none⟩ = some (.slice A b.F.length c) := by
    rw [← hw0, World.cell?_alloc_lt _ _ _ (by simp)]; simp
  have htl : TellsR 76 #[.pointer (some ⟨w.heap.size + 1, 0, none⟩)] (fun r => !apartB o (rcL r) 0) b.F w0 :=
    ⟨enters_of Try.func76 (by kernel_rfl) rfl, fun W p _ hW => faulty1_any A2 c2 o (w.heap.size + 1) p W h0 hm ((hW.cell (p := ⟨w.heap.size + 1, 0, none⟩) (by show w.heap.size + 1 < _; omega)).trans hc0) (by have := hW.size; omega) (HL.out.now (hB0.trans (hW.mono hB0.size)))⟩
  have HCF := Lib.hid (containsFuncR_any 76 #[.pointer (some ⟨w.heap.size + 1, 0, none⟩)] (fun r => !apartB o (rcL r) 0) A c b.F _ htl hFm (HF.out.now hB0))
  clear htl hc0
  go_enter Try.func41, Try.ntmps41
  go_wp2_with fail
  refine HCF.out.mono ?_
  rintro e w3 ⟨rfl, hb3⟩
  go_wp2
  go_ret
  exact Ret.mk rfl (hB0.trans (hb3.mono hB0.size))
end Go.Proofs.Ytohlinbcbfgdfaa

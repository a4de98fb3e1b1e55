/- apart, in the reference: the walk; Apart of both. -/
import Derived.Test.YtohlinbcbfgdfaaNW4
import Derived.LoopN
namespace Go.Proofs.Ytohlinbcbfgdfaa
open Go.RowKit

theorem enough_any (d g n : Int) (w : World) : Calls Try.prog 133 #[.int .i64 d, .int .i64 g, .int .i64 n] w (RetS (.bool (enoughB d g n)) w) := by
  by_cases h : d < 0 ∨ g = 0 ∨ 1000000000 < d
  · have HS : Hid (enoughB d g n = decide (0 ≤ d)) := by unfold Hid enoughB; rw [if_pos h]
    rcases Int.lt_or_le d 0 with h1 | h1
    · clear h
      go_enter Try.func133, Try.ntmps133
      go_wp2
      go_ret
      exact ⟨by rw [HS.out]; rfl, rfl⟩
    · by_cases h2 : g = 0
      · clear h
        subst h2
        go_enter Try.func133, Try.ntmps133
        go_wp2
        go_ret
        exact ⟨by rw [HS.out, decide_eq_true h1]; rfl, rfl⟩
      · have h3 : 1000000000 < d := by omega
        clear h
        go_enter Try.func133, Try.ntmps133
        go_wp2
        go_ret
        exact ⟨by rw [HS.out, decide_eq_true h1]; rfl, rfl⟩
  · have HS : Hid (enoughB d g n = decide (wrap64 (wrap64 (g * g) * n) ≤ wrap64 (d * d))) := by unfold Hid enoughB; rw [if_neg h]
    have h1 : 0 ≤ d := by omega
    have h2 : ¬ g = 0 := by omega
    have h3 : d ≤ 1000000000 := by omega
    clear h
    have hcond : (decide (d < 0) || g == 0 || decide (1000000000 < d)) = false := by simp; omega
    go_enter Try.func133, Try.ntmps133
    go_wp2
    go_ret
    exact ⟨by rw [HS.out]; rfl, rfl⟩

theorem ahead_any (gap u v : Int) (A A2 : Option Addr) (c c2 : Nat) (o p : List XY) (w : World) (h0 : 0 < o.length) (h02 : 0 < p.length) (hm : o.length ≤ 1000000) (hm2 : p.length ≤ 1000000) (hl : Rd w w.heap.size A o) (hl2 : Rd w w.heap.size A2 p) :
    Calls Try.prog 131 #[.slice A o.length c, .slice A2 p.length c2, .int .i64 gap, .int .i64 u, .int .i64 v] w (Ret (.bool (aheadB o p gap u v)) w) := by
  have HL := Lib.hid hl; clear hl
  have HL2 := Lib.hid hl2; clear hl2
  have hf1 : ∀ W, Rd W W.heap.size A o → Calls Try.prog 134 #[.slice A o.length c, .int .i64 (wrap64 (-u)), .int .i64 (wrap64 (-v))] W (Ret (.int .i64 (farW (wrap64 (-u)) (wrap64 (-v)) o)) W) := fun W h => far_any _ _ A c o W h0 hm h
  have hf2 : ∀ W, Rd W W.heap.size A2 p → Calls Try.prog 134 #[.slice A2 p.length c2, .int .i64 u, .int .i64 v] W (Ret (.int .i64 (farW u v p)) W) := fun W h => far_any _ _ A2 c2 p W h02 hm2 h
  have hs : aheadB o p gap u v = enoughB (wrap64 (wrap64 (-(farW (wrap64 (-u)) (wrap64 (-v)) o)) - farW u v p)) gap (wrap64 (wrap64 (u * u) + wrap64 (v * v))) := rfl
  generalize farW (wrap64 (-u)) (wrap64 (-v)) o = fo at *
  generalize farW u v p = fp at *
  have HS := Lib.hid hs; clear hs
  have H1 := Lib.hid hf1; clear hf1
  have H2 := Lib.hid hf2; clear hf2
  go_enter Try.func131, Try.ntmps131
  go_wp2_with fail
  refine (H1.out _ HL.out).mono ?_
  rintro e w1 ⟨rfl, hb1⟩
  go_wp2_with fail
  refine (H2.out _ (HL2.out.now hb1)).mono ?_
  rintro e w2 ⟨rfl, hb2⟩
  go_wp2_with fail
  refine (enough_any _ _ _ _).mono ?_
  rintro e w3 ⟨rfl, rfl⟩
  go_wp2
  go_ret
  exact Ret.mk (by rw [HS.out]; rfl) (hb1.trans (hb2.mono hb1.size))

theorem beside_any (gap u v : Int) (A A2 : Option Addr) (c c2 : Nat) (o p : List XY) (w : World) (h0 : 0 < o.length) (h02 : 0 < p.length) (hm : o.length ≤ 1000000) (hm2 : p.length ≤ 1000000) (hl : Rd w w.heap.size A o) (hl2 : Rd w w.heap.size A2 p) :
    Calls Try.prog 123 #[.slice A o.length c, .slice A2 p.length c2, .int .i64 gap, .int .i64 u, .int .i64 v] w (Ret (.bool (besideB o p gap u v)) w) := by
  have HL := Lib.hid hl; clear hl
  have HL2 := Lib.hid hl2; clear hl2
  cases h : aheadB o p gap u v
  · have HH := Lib.hid h; clear h
    have HS : Hid (besideB o p gap u v = aheadB p o gap u v) := by unfold Hid besideB; rw [HH.out]; rfl
    go_enter Try.func123, Try.ntmps123
    go_wp2_with fail
    refine (ahead_any gap u v A A2 c c2 o p _ h0 h02 hm hm2 HL.out HL2.out).mono ?_
    rintro e w1 ⟨rfl, hb1⟩
    rw [HH.out]
    go_wp2_with fail
    refine (ahead_any gap u v A2 A c2 c p o _ h02 h0 hm2 hm (HL2.out.now hb1) (HL.out.now hb1)).mono ?_
    rintro e w2 ⟨rfl, hb2⟩
    go_wp2
    go_ret
    exact Ret.mk (by rw [HS.out]; rfl) (hb1.trans (hb2.mono hb1.size))
  · have HH := Lib.hid h; clear h
    have HS : Hid (besideB o p gap u v = true) := by unfold Hid besideB; rw [HH.out]; rfl
    go_enter Try.func123, Try.ntmps123
    go_wp2_with fail
    refine (ahead_any gap u v A A2 c c2 o p _ h0 h02 hm hm2 HL.out HL2.out).mono ?_
    rintro e w1 ⟨rfl, hb1⟩
    rw [HH.out]
    go_wp2
    go_ret
    exact Ret.mk (by rw [HS.out]; rfl) hb1

theorem any_in {n k : Nat} {f : Nat → Bool} (hk : k < n) (hx : f k = true) : (List.range n).any f = true := List.any_eq_true.2 ⟨k, List.mem_range.2 hk, hx⟩

set_option maxRecDepth 100000 in
set_option maxHeartbeats 4000000 in
theorem apart2_rest (gap : Int) (A A2 : Option Addr) (c c2 : Nat) (o p : List XY) (w : World) (h0 : 0 < o.length) (h02 : 0 < p.length) (hm : o.length ≤ 1000000) (hm2 : p.length ≤ 1000000) (hl : Rd w w.heap.size A o) (hl2 : Rd w w.heap.size A2 p)
    (hs1 : besideB o p gap 1 0 = false) (hs : besideB o p gap 0 1 = false) :
    Calls Try.prog 100 #[.slice A o.length c, .slice A2 p.length c2, .int .i64 gap] w (Ret (.bool (apart2B o p gap)) w) := by
  have HL := Lib.hid hl; clear hl
  have HL2 := Lib.hid hl2; clear hl2
  have hap : apart2B o p gap = ((List.range o.length).any (fun i => besideB o p gap (dU o i) (dV o i)) || (List.range p.length).any (fun i => besideB o p gap (dU p i) (dV p i))) := by
    unfold apart2B; rw [hs1, hs]; rfl
  have HAP := Lib.hid hap; clear hap
  have HS1 := Lib.hid hs1; clear hs1
  have HS := Lib.hid hs; clear hs
  go_enter Try.func100, Try.ntmps100
  go_wp2_with fail
  refine (beside_any gap 1 0 A A2 c c2 o p _ h0 h02 hm hm2 HL.out HL2.out).mono ?_
  rintro e w1 ⟨rfl, hb1⟩
  rw [HS1.out]
  go_wp2_with fail
  refine (beside_any gap 0 1 A A2 c c2 o p _ h0 h02 hm hm2 (HL.out.now hb1) (HL2.out.now hb1)).mono ?_
  rintro e w2 ⟨rfl, hb2⟩
  rw [HS.out]
  have hB2 := hb1.trans (hb2.mono hb1.size)
  go_wp2
  obtain ⟨w3, hw3⟩ : ∃ w3, w2.alloc (.cells #[.slice A o.length c, .slice A2 p.length c2] 39) = w3 := ⟨_, rfl⟩
  have hB3 : Below w.heap.size w w3 := by rw [← hw3]; have := hB2.size; (repeat (first | exact Below.refl _ _ | assumption | refine Below.alloc ?_ (by first | exact Nat.le_refl _ | exact Below.size (by assumption) | omega | (simp <;> omega)) _ | refine Below.setCell ?_ (by first | exact Nat.le_refl _ | exact Below.size (by assumption) | omega | (simp <;> omega)) _ | refine below_drewN ?_ _ | refine Below.drew ?_))
  have hL0 : w3.cell? ⟨w2.heap.size, 0, none⟩ = some (.slice A o.length c) := by rw [← hw3]; simp
  have hL1 : w3.cell? ⟨w2.heap.size, 1, none⟩ = some (.slice A2 p.length c2) := by rw [← hw3]; simp
  have hz3 : w3.heap.size = w2.heap.size + 1 := by rw [← hw3]; simp
  rw [hw3]
  clear hw3
  refine wp_loop_rounds 3 ?_
  rw [rounds_succ]
  go_wp2
  go_loopw [9, 10, 11, 32] (fun _ _ _ i wr => ∃ k : Nat, k ≤ o.length ∧ i = .int .i64 k ∧ (∀ x ∈ List.range k, besideB o p gap (dU o x) (dV o x) = false) ∧ Below w3.heap.size w3 wr) (fun _ _ _ i _ => o.length - (intOf i).toNat)
  case atStart => exact ⟨0, Nat.zero_le _, rfl, by simp, Below.refl _ _⟩
  case round =>
    obtain ⟨k, hk, rfl, hno, hBk⟩ := hrel
    have HN := Lib.hid hno; clear hno
    have hBw := hB3.trans (hBk.mono hB3.size)
    have hsz := hBk.size
    by_cases hlt : k < o.length
    · obtain ⟨q, hq⟩ := getElem?_of_lt hlt
      obtain ⟨b, off, hA, hb, hcx, hcy⟩ := (HL.out.below hBw) k q hq
      subst hA
      have hlt2 : (k + 1) % o.length < o.length := Nat.mod_lt _ (by omega)
      obtain ⟨r, hr⟩ := getElem?_of_lt hlt2
      obtain ⟨b1, off1, hA, hb1, hdx, hdy⟩ := (HL.out.below hBw) _ r hr
      obtain ⟨rfl, rfl⟩ : b = b1 ∧ off = off1 := by simpa using hA
      clear hA
      have eU : dU o k = wrap64 (r.Y - q.Y) := by unfold dU; rw [cy_lt hq, cy_of hr]
      have eV : dV o k = wrap64 (q.X - r.X) := by unfold dV; rw [cy_lt hq, cy_of hr]
      clear hq hr
      have HU := Lib.hid eU; clear eU
      have HV := Lib.hid eV; clear eV
      have e1 : IntKind.i64.wrap ((k : Int) + 1) = (k : Int) + 1 := IntWalk.i64_in _ (by omega)
      have e2 : ((k : Int) + 1).tmod (o.length : Int) = ((k : Int) + 1) % (o.length : Int) := tmod_pos (by omega)
      obtain ⟨e4, e5⟩ := emod_bd (x := (k : Int) + 1) (n := o.length) (by omega)
      have e6 : (((k : Int) + 1) % (o.length : Int)).toNat = (k + 1) % o.length := emod_toNat rfl
      have e3 : ¬ o = [] := ne_nil_of_lt hlt
      have hbw : b < wr.heap.size := by have := hBw.size; omega
      have hBz : Below w.heap.size w ((wr.alloc (.cells #[.int .i64 q.X, .int .i64 q.Y] 55)).alloc (.cells #[.int .i64 r.X, .int .i64 r.Y] 55)) := by have := hBw.size; (repeat (first | exact Below.refl _ _ | assumption | refine Below.alloc ?_ (by first | exact Nat.le_refl _ | exact Below.size (by assumption) | omega | (simp <;> omega)) _ | refine Below.setCell ?_ (by first | exact Nat.le_refl _ | exact Below.size (by assumption) | omega | (simp <;> omega)) _ | refine below_drewN ?_ _ | refine Below.drew ?_))
      have hBz' : Below w3.heap.size w3 ((wr.alloc (.cells #[.int .i64 q.X, .int .i64 q.Y] 55)).alloc (.cells #[.int .i64 r.X, .int .i64 r.Y] 55)) := by (repeat (first | exact Below.refl _ _ | assumption | refine Below.alloc ?_ (by first | exact Nat.le_refl _ | exact Below.size (by assumption) | omega | (simp <;> omega)) _ | refine Below.setCell ?_ (by first | exact Nat.le_refl _ | exact Below.size (by assumption) | omega | (simp <;> omega)) _ | refine below_drewN ?_ _ | refine Below.drew ?_))
      have HBZ := Lib.hid (And.intro hBz hBz'); clear hBz hBz'
      go_wp2_with fail
      refine (beside_any gap (wrap64 (r.Y - q.Y)) (wrap64 (q.X - r.X)) (some ⟨b, off, none⟩) A2 c c2 o p _ h0 h02 hm hm2 (HL.out.now HBZ.out.1) (HL2.out.now HBZ.out.1)).mono ?_
      rintro e w5 ⟨rfl, hb5⟩
      rw [← HU.out, ← HV.out]
      have hB5 := HBZ.out.2.trans (hb5.mono HBZ.out.2.size)
      cases hs : besideB o p gap (dU o k) (dV o k)
      · have HSK := Lib.hid hs; clear hs
        go_wp2
        go_roundw
        case rel =>
          refine ⟨k + 1, by omega, by go_num, fun x hx => ?_, hB5⟩
          rw [List.range_succ] at hx
          rcases List.mem_append.1 hx with h | h
          · exact HN.out x h
          · simp at h; subst h; exact HSK.out
        case measure => simp [intOf]; omega
      · have HSK := Lib.hid hs; clear hs
        go_wp2
        go_ret
        refine Ret.mk ?_ (hB3.trans (hB5.mono hB3.size))
        rw [HAP.out, any_in hlt HSK.out]
        rfl
    · obtain rfl : k = o.length := by omega
      have hn1 := any_none HN.out
      have HN1 := Lib.hid hn1; clear hn1 HN
      obtain ⟨wx, rfl⟩ : ∃ wx : World, wx = wr := ⟨_, rfl⟩
      have hBx := hBw
      have hxL : wx.cell? ⟨w2.heap.size, 1, none⟩ = some (.slice A2 p.length c2) := (hBk.cell (p := ⟨w2.heap.size, 1, none⟩) (by show w2.heap.size < _; omega)).trans hL1
      have hxz : w2.heap.size < wx.heap.size := by omega
      clear hBk hBw hsz hL0 hL1
      go_wp2
      rw [rounds_succ]
      go_wp2
      go_loopw [9, 10, 11, 32] (fun _ _ _ i wr => ∃ k : Nat, k ≤ p.length ∧ i = .int .i64 k ∧ (∀ x ∈ List.range k, besideB o p gap (dU p x) (dV p x) = false) ∧ Below wx.heap.size wx wr) (fun _ _ _ i _ => p.length - (intOf i).toNat)
      case atStart => exact ⟨0, Nat.zero_le _, rfl, by simp, Below.refl _ _⟩
      case round =>
        obtain ⟨k, hk, rfl, hno, hBk⟩ := hrel
        have HN := Lib.hid hno; clear hno
        have hBw := hBx.trans (hBk.mono hBx.size)
        have hsz := hBk.size
        by_cases hlt : k < p.length
        · obtain ⟨q, hq⟩ := getElem?_of_lt hlt
          obtain ⟨b, off, hA, hb, hcx, hcy⟩ := (HL2.out.below hBw) k q hq
          subst hA
          have hlt2 : (k + 1) % p.length < p.length := Nat.mod_lt _ (by omega)
          obtain ⟨r, hr⟩ := getElem?_of_lt hlt2
          obtain ⟨b1, off1, hA, hb1, hdx, hdy⟩ := (HL2.out.below hBw) _ r hr
          obtain ⟨rfl, rfl⟩ : b = b1 ∧ off = off1 := by simpa using hA
          clear hA
          have eU : dU p k = wrap64 (r.Y - q.Y) := by unfold dU; rw [cy_lt hq, cy_of hr]
          have eV : dV p k = wrap64 (q.X - r.X) := by unfold dV; rw [cy_lt hq, cy_of hr]
          clear hq hr
          have HU := Lib.hid eU; clear eU
          have HV := Lib.hid eV; clear eV
          have e1 : IntKind.i64.wrap ((k : Int) + 1) = (k : Int) + 1 := IntWalk.i64_in _ (by omega)
          have e2 : ((k : Int) + 1).tmod (p.length : Int) = ((k : Int) + 1) % (p.length : Int) := tmod_pos (by omega)
          obtain ⟨e4, e5⟩ := emod_bd (x := (k : Int) + 1) (n := p.length) (by omega)
          have e6 : (((k : Int) + 1) % (p.length : Int)).toNat = (k + 1) % p.length := emod_toNat rfl
          have e3 : ¬ p = [] := ne_nil_of_lt hlt
          have hbw : b < wr.heap.size := by have := hBw.size; omega
          have hBz : Below w.heap.size w ((wr.alloc (.cells #[.int .i64 q.X, .int .i64 q.Y] 55)).alloc (.cells #[.int .i64 r.X, .int .i64 r.Y] 55)) := by have := hBw.size; (repeat (first | exact Below.refl _ _ | assumption | refine Below.alloc ?_ (by first | exact Nat.le_refl _ | exact Below.size (by assumption) | omega | (simp <;> omega)) _ | refine Below.setCell ?_ (by first | exact Nat.le_refl _ | exact Below.size (by assumption) | omega | (simp <;> omega)) _ | refine below_drewN ?_ _ | refine Below.drew ?_))
          have hBz' : Below wx.heap.size wx ((wr.alloc (.cells #[.int .i64 q.X, .int .i64 q.Y] 55)).alloc (.cells #[.int .i64 r.X, .int .i64 r.Y] 55)) := by (repeat (first | exact Below.refl _ _ | assumption | refine Below.alloc ?_ (by first | exact Nat.le_refl _ | exact Below.size (by assumption) | omega | (simp <;> omega)) _ | refine Below.setCell ?_ (by first | exact Nat.le_refl _ | exact Below.size (by assumption) | omega | (simp <;> omega)) _ | refine below_drewN ?_ _ | refine Below.drew ?_))
          have HBZ := Lib.hid (And.intro hBz hBz'); clear hBz hBz'
          go_wp2_with fail
          refine (beside_any gap (wrap64 (r.Y - q.Y)) (wrap64 (q.X - r.X)) A (some ⟨b, off, none⟩) c c2 o p _ h0 h02 hm hm2 (HL.out.now HBZ.out.1) (HL2.out.now HBZ.out.1)).mono ?_
          rintro e w5 ⟨rfl, hb5⟩
          rw [← HU.out, ← HV.out]
          have hB5 := HBZ.out.2.trans (hb5.mono HBZ.out.2.size)
          cases hs : besideB o p gap (dU p k) (dV p k)
          · have HSK := Lib.hid hs; clear hs
            go_wp2
            go_roundw
            case rel =>
              refine ⟨k + 1, by omega, by go_num, fun x hx => ?_, hB5⟩
              rw [List.range_succ] at hx
              rcases List.mem_append.1 hx with h | h
              · exact HN.out x h
              · simp at h; subst h; exact HSK.out
            case measure => simp [intOf]; omega
          · have HSK := Lib.hid hs; clear hs
            go_wp2
            go_ret
            refine Ret.mk ?_ (hBx.trans (hB5.mono hBx.size))
            rw [HAP.out, any_in hlt HSK.out, Bool.or_true]
            rfl
        · obtain rfl : k = p.length := by omega
          have hn2 := any_none HN.out
          have HN2 := Lib.hid hn2; clear hn2 HN
          go_wp2
          rw [rounds_succ]
          go_wp2
          go_ret
          exact Ret.mk (by rw [HAP.out, HN1.out, HN2.out]; rfl) hBw


theorem apart2_any (gap : Int) (A A2 : Option Addr) (c c2 : Nat) (o p : List XY) (w : World) (h0 : 0 < o.length) (h02 : 0 < p.length) (hm : o.length ≤ 1000000) (hm2 : p.length ≤ 1000000) (hl : Rd w w.heap.size A o) (hl2 : Rd w w.heap.size A2 p) :
    Calls Try.prog 100 #[.slice A o.length c, .slice A2 p.length c2, .int .i64 gap] w (Ret (.bool (apart2B o p gap)) w) := by
  cases h1 : besideB o p gap 1 0
  · cases h2 : besideB o p gap 0 1
    · exact apart2_rest gap A A2 c c2 o p w h0 h02 hm hm2 hl hl2 h1 h2
    · have e : apart2B o p gap = true := by unfold apart2B; rw [h1, h2]; rfl
      have HL := Lib.hid hl; clear hl
      have HL2 := Lib.hid hl2; clear hl2
      have H1 := Lib.hid h1; clear h1
      have H2 := Lib.hid h2; clear h2
      have HE := Lib.hid e; clear e
      go_enter Try.func100, Try.ntmps100
      go_wp2_with fail
      refine (beside_any gap 1 0 A A2 c c2 o p _ h0 h02 hm hm2 HL.out HL2.out).mono ?_
      rintro e w1 ⟨rfl, hb1⟩
      rw [H1.out]
      go_wp2_with fail
      refine (beside_any gap 0 1 A A2 c c2 o p _ h0 h02 hm hm2 (HL.out.now hb1) (HL2.out.now hb1)).mono ?_
      rintro e w2 ⟨rfl, hb2⟩
      rw [H2.out]
      go_wp2
      go_ret
      exact Ret.mk (by rw [HE.out]; rfl) (hb1.trans (hb2.mono hb1.size))
  · have e : apart2B o p gap = true := by unfold apart2B; rw [h1]; rfl
    have HL := Lib.hid hl; clear hl
    have HL2 := Lib.hid hl2; clear hl2
    have H1 := Lib.hid h1; clear h1
    have HE := Lib.hid e; clear e
    go_enter Try.func100, Try.ntmps100
    go_wp2_with fail
    refine (beside_any gap 1 0 A A2 c c2 o p _ h0 h02 hm hm2 HL.out HL2.out).mono ?_
    rintro e w1 ⟨rfl, hb1⟩
    rw [H1.out]
    go_wp2
    go_ret
    exact Ret.mk (by rw [HE.out]; rfl) hb1

end Go.Proofs.Ytohlinbcbfgdfaa

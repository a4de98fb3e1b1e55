/- The reference's Wrap: the walk around places. -/
import Derived.Test.YtcbphodkaiknmaaMathS6
import Derived.Test.YtcbphodkaiknmaaWC
import Derived.Test.YtcbphodkaiknmaaWD
import Derived.Test.YtcbphodkaiknmaaWB
import Derived.BigRegion
import Derived.Deep.DeepCutAuto
namespace Go.Proofs.Ytcbphodkaiknmaa
open Go.RowKit

def lenV : Value → Nat
  | .slice _ n _ => n
  | _ => 0
theorem own_len {w : World} {B : Nat} {v : Value} {l : List XY} (h : OwnL w B v l) : lenV v = l.length := by
  obtain ⟨A, c, rfl, _⟩ := own_rd h
  rfl
theorem own_one (w : World) (p : XY) : OwnL (w.alloc (.cells #[.int .i64 p.X, .int .i64 p.Y] 29)) w.heap.size (.slice (some ⟨w.heap.size, 0, none⟩) 1 1) [p] :=
  ⟨by simp [flat], .inr ⟨w.heap.size, 1, #[.int .i64 p.X, .int .i64 p.Y], rfl, Nat.le_refl _, heap_alloc_new w _, Nat.le_refl _, by unfold maxLen; omega, rfl, rfl⟩⟩
/-- A corner in a block of the call's own that may be written. -/
def Bx (w : World) (B : Nat) (p : XY) : Prop := w.heap[B]? = some (.cells #[.int .i64 p.X, .int .i64 p.Y] 29 (0, 0))
theorem Bx.x {w : World} {B : Nat} {p : XY} (h : Bx w B p) : w.cell? ⟨B, 0, none⟩ = some (.int .i64 p.X) := by unfold Bx at h; simp [World.cell?, h]
theorem Bx.y {w : World} {B : Nat} {p : XY} (h : Bx w B p) : w.cell? ⟨B, 1, none⟩ = some (.int .i64 p.Y) := by unfold Bx at h; simp [World.cell?, h]
theorem Bx.fx {w : World} {B : Nat} {p : XY} (h : Bx w B p) (o : Nat) : w.frozen? ⟨B, o, none⟩ = false := by unfold Bx at h; simp [World.frozen?, h]
theorem Bx.all {w : World} {B : Nat} {p : XY} (h : Bx w B p) : w.cell? ⟨B, 0, none⟩ = some (.int .i64 p.X) ∧ w.cell? ⟨B, 1, none⟩ = some (.int .i64 p.Y) ∧ w.frozen? ⟨B, 0, none⟩ = false ∧ w.frozen? ⟨B, 1, none⟩ = false := ⟨h.x, h.y, h.fx 0, h.fx 1⟩
theorem Bx.below {w w' : World} {B C : Nat} {p : XY} (h : Bx w B p) (hb : Below C w w') (hB : B < C) : Bx w' B p := (hb.block B hB).trans h
theorem Bx.new (w : World) (p : XY) : Bx (w.alloc (.cells #[.int .i64 p.X, .int .i64 p.Y] 29)) w.heap.size p := heap_alloc_new w _
theorem Bx.grown {w w' : World} {B : Nat} {p : XY} {row : Option Nat} (h : Bx w B p) (hg : w.grownBy w' row) (hB : B < w.heap.size) (hr : some B ≠ row) : Bx w' B p := (hg.block B hB hr).trans h
theorem Bx.put {w : World} {B : Nat} {p : XY} (h : Bx w B p) (q : XY) : Bx ((w.setCell ⟨B, 0, none⟩ (.int .i64 q.X)).setCell ⟨B, 1, none⟩ (.int .i64 q.Y)) B q := by
  unfold Bx at h ⊢
  simp [World.setCell, Array.getElem?_modify, h]
theorem put_other {w : World} {B k : Nat} {x y : Value} (hk : k ≠ B) : ((w.setCell ⟨B, 0, none⟩ x).setCell ⟨B, 1, none⟩ y).heap[k]? = w.heap[k]? := by
  simp [World.setCell, Array.getElem?_modify, Ne.symm hk]
theorem own_other {w w' : World} {B : Nat} {v : Value} {l : List XY} (h : OwnL w B v l) (hk : ∀ k, v.ownBlock = some k → w'.heap[k]? = w.heap[k]?) : OwnL w' B v l := by
  refine ⟨h.1, ?_⟩
  rcases h.2 with hn | ⟨g, cap, cur, rfl, hg, hgg, rest⟩
  · exact .inl hn
  · exact .inr ⟨g, cap, cur, rfl, hg, by rw [hk g rfl]; exact hgg, rest⟩
theorem own_notBx {w : World} {B k : Nat} {v : Value} {l : List XY} {p : XY} (h : OwnL w B v l) (hl : 2 ≤ l.length) (hk : v.ownBlock = some k) (hx : Bx w k p) : False := by
  rcases h.2 with ⟨_, hn⟩ | ⟨g, cap, cur, rfl, hg, hgg, h1, _, h3, _⟩
  · omega
  · simp [Value.ownBlock] at hk
    subst hk
    unfold Bx at hx
    rw [hx] at hgg
    injection hgg with e
    injection e with e
    rw [← e] at h3
    simp at h3
    omega
theorem take_hd {P : List XY} (h : 0 < P.length) : P.take 1 = [hd P] := by
  cases P with
  | nil => simp at h
  | cons a P => rfl

set_option maxRecDepth 100000 in
set_option maxHeartbeats 4000000 in
theorem Wrap_any (A : Option Addr) (c : Nat) (l P : List XY) (w : World) (hP : Wraps l P) (h0 : 0 < l.length) (hm : l.length ≤ 1000000) (hPm : P.length ≤ 1000000) (hl : Rd w w.heap.size A l) :
    Calls Try.prog 20 #[.slice A l.length c] w (RetO P w) := by
  have HL := Lib.hid hl; clear hl
  have heq := run_eqXY
  have hgd := guardXY
  obtain ⟨i0, hi, hz0, hz1, hz2⟩ := info_parts Try.infoXY
  have HJ := Lib.hid hi; clear hi
  have hne : ¬ l = [] := ne_nil_of_lt h0
  have htl : (turnL l).length = l.length := by simp [turnL]
  have hfirst := hP.first
  obtain ⟨f, hf⟩ : ∃ f, hd P = f := ⟨_, rfl⟩
  have hPp := hP.pos
  have HP := Lib.hid hP; clear hP
  have ht0 : (turnL l)[0]? = some f := by
    obtain ⟨q, hq⟩ := getElem?_of_lt (show 0 < (turnL l).length by omega)
    rw [hq, ← hf, hfirst, hd_of hq]
  clear hfirst
  have HF := Lib.hid hf; clear hf
  have HT := Lib.hid ht0; clear ht0
  go_enter Try.func20, Try.ntmps20
  go_wp2_with fail
  refine (Turn_any A c l _ h0 hm HL.out).mono ?_
  rintro e w1 ⟨v1, rfl, hown1, hb1⟩
  obtain ⟨A1, c1, rfl, hr1⟩ := own_rd hown1
  obtain ⟨b1, off1, hA, hbb1, hcx, hcy⟩ := hr1 0 f HT.out
  subst hA
  rw [htl]
  clear hown1 hr1
  simp only [Nat.zero_mul, Nat.add_zero] at hcx hcy
  go_wp2
  obtain ⟨wS, hwS⟩ : ∃ wS, w1.alloc (.cells #[.int .i64 f.X, .int .i64 f.Y] 29) = wS := ⟨_, rfl⟩
  have hBS : Below w.heap.size w wS := by rw [← hwS]; have := hb1.size; (repeat (first | exact Below.refl _ _ | assumption | refine Below.alloc ?_ (by first | exact Nat.le_refl _ | exact Below.size (by assumption) | omega | (simp <;> omega)) _ | refine Below.setCell ?_ (by first | exact Nat.le_refl _ | exact Below.size (by assumption) | omega | (simp <;> omega)) _ | refine below_drewN ?_ _ | refine Below.drew ?_))
  have hFS : Pt wS w1.heap.size f := by rw [← hwS]; exact ⟨by simp, by simp⟩
  have hzS : wS.heap.size = w1.heap.size + 1 := by rw [← hwS]; simp
  rw [hwS]
  clear hwS
  have hown0 : OwnL (wS.alloc (.cells #[.int .i64 f.X, .int .i64 f.Y] 29)) wS.heap.size (.slice (some ⟨wS.heap.size, 0, none⟩) 1 1) (P.take 1) := by rw [take_hd hPp, HF.out]; exact own_one wS f
  go_loopw [4, 5, 6, 8, 9, 23] (fun v4 v5 _ _ _ _ wr => ∃ (m : Nat) (p : XY) (Ab : Nat), P[m]? = some p ∧ v5 = .pointer (some ⟨Ab, 0, none⟩) ∧ OwnL wr wS.heap.size v4 (P.take (m + 1)) ∧ Bx wr Ab p ∧ Ab < wr.heap.size ∧ wS.heap.size ≤ Ab ∧ (∀ k, v4.ownBlock = some k → k < Ab) ∧ Below wS.heap.size wS wr) (fun v4 _ _ _ _ _ _ => P.length - lenV v4)
  case atStart =>
    have hsz1 : (wS.alloc (.cells #[.int .i64 f.X, .int .i64 f.Y] 29)).heap.size = w1.heap.size + 1 + 1 := by simp; omega
    have hown1 := hown0.alloc (.cells #[.int .i64 f.X, .int .i64 f.Y] 29)
    have hpt : Bx ((wS.alloc (.cells #[.int .i64 f.X, .int .i64 f.Y] 29)).alloc (.cells #[.int .i64 f.X, .int .i64 f.Y] 29)) (w1.heap.size + 1 + 1) f := by rw [← hsz1]; exact Bx.new _ f
    rw [hzS] at hown1
    refine ⟨0, f, w1.heap.size + 1 + 1, ?_, rfl, by rw [hzS]; exact hown1, hpt, by simp; omega, by omega, by intro k hk; simp [Value.ownBlock] at hk; omega, by (repeat (first | exact Below.refl _ _ | assumption | refine Below.alloc ?_ (by first | exact Nat.le_refl _ | exact Below.size (by assumption) | omega | (simp <;> omega)) _ | refine Below.setCell ?_ (by first | exact Nat.le_refl _ | exact Below.size (by assumption) | omega | (simp <;> omega)) _ | refine below_drewN ?_ _ | refine Below.drew ?_))⟩
    have := HF.out
    obtain ⟨q, hq⟩ := getElem?_of_lt hPp
    rw [hd_of hq] at this
    rw [hq, this]
  case round =>
    obtain ⟨m, p, Ab, hm', rfl, hown, hat, hAb, hAS, hob, hB⟩ := hrel
    have hHO := Lib.hid hown; clear hown
    obtain ⟨wo, rfl⟩ : ∃ wo : World, wo = wr := ⟨_, rfl⟩
    have hAT := Lib.hid hat; clear hat
    obtain ⟨hax, hay, _, _⟩ := hAT.out.all
    have hBo := hBS.trans (hB.mono hBS.size)
    have hFo : Pt wo w1.heap.size f := hFS.below hB (by omega)
    have hsBo := hB.size
    have hpb : ∀ k, stepTo l p k = stepTo l p k := fun _ => rfl
    clear hpb
    obtain ⟨wn, hwn⟩ : ∃ wn, wo.alloc (.cells #[.int .i64 p.X, .int .i64 p.Y] 29) = wn := ⟨_, rfl⟩
    have hBn : Below wo.heap.size wo wn := by rw [← hwn]; (repeat (first | exact Below.refl _ _ | assumption | refine Below.alloc ?_ (by first | exact Nat.le_refl _ | exact Below.size (by assumption) | omega | (simp <;> omega)) _ | refine Below.setCell ?_ (by first | exact Nat.le_refl _ | exact Below.size (by assumption) | omega | (simp <;> omega)) _ | refine below_drewN ?_ _ | refine Below.drew ?_))
    have hNn : Bx wn wo.heap.size p := by rw [← hwn]; exact Bx.new wo p
    have hzn : wn.heap.size = wo.heap.size + 1 := by rw [← hwn]; simp
    go_wp2
    clear hwn
    go_loopw [8, 9, 23] (fun _ _ i ww => ∃ k : Nat, k ≤ l.length ∧ i = .int .i64 k ∧ Bx ww wo.heap.size (stepTo l p k) ∧ wo.heap.size < ww.heap.size ∧ Below wo.heap.size wo ww) (fun _ _ i _ => l.length - (intOf i).toNat)
    case atStart => exact ⟨0, Nat.zero_le _, rfl, hNn, by omega, hBn⟩
    case round =>
      obtain ⟨k, hk, rfl, hN, hNl, hBw⟩ := hrel
      obtain ⟨ww, rfl⟩ : ∃ ww : World, ww = wr := ⟨_, rfl⟩
      have hBww := hBo.trans (hBw.mono hBo.size)
      have hAW := Lib.hid (hAT.out.below hBw hAb)
      obtain ⟨hax, hay, hafx, hafy⟩ := hAW.out.all
      by_cases hlt : k < l.length
      · obtain ⟨q, hq⟩ := getElem?_of_lt hlt
        obtain ⟨b, off, hA, hb, hcx, hcy⟩ := (HL.out.below hBww) k q hq
        subst hA
        have hst := stepTo_succ (A := p) hq
        obtain ⟨x, hx⟩ : ∃ x, stepTo l p k = x := ⟨_, rfl⟩
        rw [hx] at hst hN
        have hNx := hN.x
        have hNy := hN.y
        unfold stepF at hst
        have HST := Lib.hid hst; clear hst hq hx
        have hsw := hBw.size
        have hbw : b < ww.heap.size := by have := hBww.size; omega
        have hAbw : Ab < ww.heap.size := by omega
        cases hqp : decide (q = p)
        · have hqp' : ¬ q = p := of_decide_eq_false hqp
          have HST2 := HST.out
          rw [if_neg hqp'] at HST2
          have HST3 := Lib.hid HST2; clear HST2 HST hqp'
          go_wp2_with fail
          refine (cross2_any p x q _).mono ?_
          rintro e w2 ⟨rfl, hb2⟩
          have hNb := Lib.hid ((hN.below (C := ww.heap.size) (w' := ww.alloc (.cells #[.int .i64 q.X, .int .i64 q.Y] 29)) (by (repeat (first | exact Below.refl _ _ | assumption | refine Below.alloc ?_ (by first | exact Nat.le_refl _ | exact Below.size (by assumption) | omega | (simp <;> omega)) _ | refine Below.setCell ?_ (by first | exact Nat.le_refl _ | exact Below.size (by assumption) | omega | (simp <;> omega)) _ | refine below_drewN ?_ _ | refine Below.drew ?_))) hNl).below hb2 (by simp; omega))
          obtain ⟨hNx2, hNy2, hNf2, hNg2⟩ := hNb.out.all
          obtain ⟨hax2, hay2, _, _⟩ := ((hAW.out.below (C := ww.heap.size) (w' := ww.alloc (.cells #[.int .i64 q.X, .int .i64 q.Y] 29)) (by (repeat (first | exact Below.refl _ _ | assumption | refine Below.alloc ?_ (by first | exact Nat.le_refl _ | exact Below.size (by assumption) | omega | (simp <;> omega)) _ | refine Below.setCell ?_ (by first | exact Nat.le_refl _ | exact Below.size (by assumption) | omega | (simp <;> omega)) _ | refine below_drewN ?_ _ | refine Below.drew ?_))) hAbw).below hb2 (by simp; omega)).all
          obtain ⟨hqx2, hqy2⟩ := (show Pt (ww.alloc (.cells #[.int .i64 q.X, .int .i64 q.Y] 29)) ww.heap.size q from ⟨by simp, by simp⟩).below hb2 (by simp)
          have hs2 : ww.heap.size < w2.heap.size := by have := hb2.size; simp at this; omega
          have hN2 : wo.heap.size < w2.heap.size := by omega
          have hA2 : Ab < w2.heap.size := by omega
          have hB2 : Below wo.heap.size wo w2 := (hBw.alloc hsw (.cells #[.int .i64 q.X, .int .i64 q.Y] 29)).trans (hb2.mono (by simp; omega))
          have hH2 := Lib.hid hB2; clear hB2 hb2
          obtain ⟨cc, hcc⟩ : ∃ cc, cross2W p x q = cc := ⟨_, rfl⟩
          have hst3 := HST3.out
          rw [hcc] at hst3 ⊢
          clear hcc HST3
          cases hxp : decide (x = p)
          · have hxp' : ¬ x = p := of_decide_eq_false hxp
            by_cases hneg : cc < 0
            · rw [if_pos (.inr (.inl hneg))] at hst3
              have HST3 := Lib.hid hst3; clear hst3
              go_wp2
              go_roundw
              case rel => exact ⟨k + 1, by omega, by go_num, by rw [HST3.out]; exact hNb.out.put q, by simp; omega, by have := hH2.out; (repeat (first | exact Below.refl _ _ | assumption | refine Below.alloc ?_ (by first | exact Nat.le_refl _ | exact Below.size (by assumption) | omega | (simp <;> omega)) _ | refine Below.setCell ?_ (by first | exact Nat.le_refl _ | exact Below.size (by assumption) | omega | (simp <;> omega)) _ | refine below_drewN ?_ _ | refine Below.drew ?_))⟩
              case measure => simp [intOf]; omega
            · by_cases hz : cc = 0
              · subst hz
                have hf2 := farther_any p q x w2
                cases hfa : fartherB p q x
                · rw [if_neg (by simp [hxp', hfa])] at hst3
                  have HST3 := Lib.hid hst3; clear hst3
                  have HFA := Lib.hid hfa; clear hfa
                  go_wp2_with fail
                  refine hf2.mono ?_
                  rintro e w3 ⟨rfl, hb3⟩
                  have hN3 := hNb.out.below hb3 hN2
                  have hB3 := hH2.out.trans (hb3.mono (by omega))
                  have hs3 := hb3.size
                  rw [HFA.out]
                  go_wp2
                  go_roundw
                  case rel => exact ⟨k + 1, by omega, by go_num, by rw [HST3.out]; exact hN3, by omega, hB3⟩
                  case measure => simp [intOf]; omega
                · rw [if_pos (.inr (.inr ⟨rfl, hfa⟩))] at hst3
                  have HST3 := Lib.hid hst3; clear hst3
                  have HFA := Lib.hid hfa; clear hfa
                  go_wp2_with fail
                  refine hf2.mono ?_
                  rintro e w3 ⟨rfl, hb3⟩
                  have hN3 := Lib.hid (hNb.out.below hb3 hN2)
                  obtain ⟨hNx3, hNy3, hNf3, hNg3⟩ := hN3.out.all
                  obtain ⟨hqx3, hqy3⟩ := (show Pt w2 ww.heap.size q from ⟨hqx2, hqy2⟩).below hb3 hs2
                  have hB3 := hH2.out.trans (hb3.mono (by omega))
                  have hs3 := hb3.size
                  have hl3 : wo.heap.size < w3.heap.size := by omega
                  have hq3 : ww.heap.size < w3.heap.size := by omega
                  rw [HFA.out]
                  clear hNx2 hNy2 hNf2 hNg2 hqx2 hqy2 hax2 hay2 hb3
                  go_wp2
                  go_roundw
                  case rel => exact ⟨k + 1, by omega, by go_num, by rw [HST3.out]; exact hN3.out.put q, by simp; omega, by (repeat (first | exact Below.refl _ _ | assumption | refine Below.alloc ?_ (by first | exact Nat.le_refl _ | exact Below.size (by assumption) | omega | (simp <;> omega)) _ | refine Below.setCell ?_ (by first | exact Nat.le_refl _ | exact Below.size (by assumption) | omega | (simp <;> omega)) _ | refine below_drewN ?_ _ | refine Below.drew ?_))⟩
                  case measure => simp [intOf]; omega
              · have hz1 : ¬ (x = p ∨ cc < 0 ∨ (cc = 0 ∧ fartherB p q x = true)) := by rintro (h | h | ⟨h, _⟩) <;> first | exact hxp' h | omega
                rw [if_neg hz1] at hst3
                have HST3 := Lib.hid hst3; clear hst3 hz1
                go_wp2
                go_roundw
                case rel => exact ⟨k + 1, by omega, by go_num, by rw [HST3.out]; exact hNb.out, hN2, hH2.out⟩
                case measure => simp [intOf]; omega
          · have hxp' : x = p := of_decide_eq_true hxp
            rw [if_pos (.inl hxp')] at hst3
            have HST3 := Lib.hid hst3; clear hst3 hxp'
            go_wp2
            go_roundw
            case rel => exact ⟨k + 1, by omega, by go_num, by rw [HST3.out]; exact hNb.out.put q, by simp; omega, by have := hH2.out; (repeat (first | exact Below.refl _ _ | assumption | refine Below.alloc ?_ (by first | exact Nat.le_refl _ | exact Below.size (by assumption) | omega | (simp <;> omega)) _ | refine Below.setCell ?_ (by first | exact Nat.le_refl _ | exact Below.size (by assumption) | omega | (simp <;> omega)) _ | refine below_drewN ?_ _ | refine Below.drew ?_))⟩
            case measure => simp [intOf]; omega
        · have hqp' : q = p := of_decide_eq_true hqp
          have HST2 := HST.out
          rw [if_pos hqp'] at HST2
          have HST3 := Lib.hid HST2; clear HST2 HST hqp'
          go_wp2
          go_roundw
          case rel => exact ⟨k + 1, by omega, by go_num, by rw [HST3.out]; exact hN.below (C := ww.heap.size) (by (repeat (first | exact Below.refl _ _ | assumption | refine Below.alloc ?_ (by first | exact Nat.le_refl _ | exact Below.size (by assumption) | omega | (simp <;> omega)) _ | refine Below.setCell ?_ (by first | exact Nat.le_refl _ | exact Below.size (by assumption) | omega | (simp <;> omega)) _ | refine below_drewN ?_ _ | refine Below.drew ?_))) hNl, by simp; omega, by (repeat (first | exact Below.refl _ _ | assumption | refine Below.alloc ?_ (by first | exact Nat.le_refl _ | exact Below.size (by assumption) | omega | (simp <;> omega)) _ | refine Below.setCell ?_ (by first | exact Nat.le_refl _ | exact Below.size (by assumption) | omega | (simp <;> omega)) _ | refine below_drewN ?_ _ | refine Below.drew ?_))⟩
          case measure => simp [intOf]; omega
      · obtain rfl : k = l.length := by omega
        have hHO2 := Lib.hid (own_below hHO.out hBw)
        have hsw := hBw.size
        obtain ⟨hfx, hfy⟩ := hFo.below hBw (by omega)
        have hFw : w1.heap.size < ww.heap.size := by omega
        have hAbw : Ab < ww.heap.size := by omega
        have hBS2 := Lib.hid (hB.trans (hBw.mono hsBo))
        have hobk := hob
        clear hFo hBn hNn hzn
        rcases Nat.lt_or_ge (m + 1) P.length with hmp | hmp
        · -- one more corner
          obtain ⟨q, hq⟩ := getElem?_of_lt hmp
          obtain ⟨e1, e2, e3⟩ := HP.out.next m p q hm' hq
          rw [e1] at hN
          rw [HF.out] at e2
          have d1 : decide (q = f) = false := by simp [e2]
          have d2 : decide (q = p) = false := by simp [e3]
          have htk := take_succ_of hq
          have HTK := Lib.hid htk; clear htk e1
          have HNB := Lib.hid hN
          obtain ⟨hNx, hNy, _, _⟩ := hN.all
          have HQ := Lib.hid hq; clear hq
          have hlen : (P.take (m + 1)).length = m + 1 := by simp; omega
          have hNA := Lib.hid ((HNB.out).below (C := ww.heap.size) (w' := ww.alloc (.cells #[.int .i64 q.X, .int .i64 q.Y] 29)) (by (repeat (first | exact Below.refl _ _ | assumption | refine Below.alloc ?_ (by first | exact Nat.le_refl _ | exact Below.size (by assumption) | omega | (simp <;> omega)) _ | refine Below.setCell ?_ (by first | exact Nat.le_refl _ | exact Below.size (by assumption) | omega | (simp <;> omega)) _ | refine below_drewN ?_ _ | refine Below.drew ?_))) hNl)
          have hAA := Lib.hid ((hAW.out).below (C := ww.heap.size) (w' := ww.alloc (.cells #[.int .i64 q.X, .int .i64 q.Y] 29)) (by (repeat (first | exact Below.refl _ _ | assumption | refine Below.alloc ?_ (by first | exact Nat.le_refl _ | exact Below.size (by assumption) | omega | (simp <;> omega)) _ | refine Below.setCell ?_ (by first | exact Nat.le_refl _ | exact Below.size (by assumption) | omega | (simp <;> omega)) _ | refine below_drewN ?_ _ | refine Below.drew ?_))) hAbw)
          have hnN : some wo.heap.size ≠ u4.ownBlock := fun e => by have := hob _ e.symm; omega
          have hnA : some Ab ≠ u4.ownBlock := fun e => by have := hob _ e.symm; omega
          go_wp2_with (at_builtin; refine wpList_append_own _ rfl _ _ 22 rfl wS.heap.size 29 i0 (.agg #[.int .i64 0, .int .i64 0]) 2 16 Try.underlying22 HJ.out hz0 hz1 hz2 rfl (by decide) _ _ _ rfl (hHO2.out.alloc _) ⟨ww.heap.size, 0, none⟩ 1 1 [.int .i64 q.X, .int .i64 q.Y] rfl rfl (by intro j u hj; match j, hj with | 0, hj => (simp at hj; subst hj; simp [Addr.add]) | 1, hj => (simp at hj; subst hj; simp [Addr.add]) | j + 2, hj => simp at hj) (by intro u hu; simp at hu; rcases hu with rfl | rfl <;> rfl) (by rw [hlen]; unfold maxLen; omega) (by rw [hlen]; omega) (by simp; omega) ?_; intro v' w5 hown' hgrow _; have hN5 := hNA.out.grown hgrow (by simp; omega) hnN; have hA5 := hAA.out.grown hgrow (by simp; omega) hnA; have hs5 := hgrow.size; obtain ⟨hNx5, hNy5, _, _⟩ := hN5.all; obtain ⟨hAx5, hAy5, hAf5, hAg5⟩ := hA5.all; have hl5 : wo.heap.size < w5.heap.size := (by simp at hs5; omega); have hl6 : Ab < w5.heap.size := (by omega))
          have own5 : OwnL w5 wS.heap.size v' (P.take (m + 1 + 1)) := by
            rw [HTK.out]
            have e := hown'
            unfold OwnL
            rw [flat_append]
            simpa [flat_cons, flat_nil] using e
          have hl2 : (P.take (m + 1 + 1)).length = m + 2 := by simp; omega
          have own6 : OwnL ((w5.setCell ⟨Ab, 0, none⟩ (.int .i64 q.X)).setCell ⟨Ab, 1, none⟩ (.int .i64 q.Y)) wS.heap.size v' (P.take (m + 1 + 1)) := own_other own5 fun k hk => put_other (fun e => by
            subst e
            exact own_notBx own5 (by omega) hk hA5)
          have hB5 : Below wS.heap.size wS w5 := below_grown (w1 := ww.alloc (.cells #[.int .i64 q.X, .int .i64 q.Y] 29)) (hBS2.out.alloc (by omega) _) hgrow (fun j hj => (hHO2.out.lt j hj).1) (by simp; omega)
          have hnb : Bx (((w5.setCell ⟨Ab, 0, none⟩ (.int .i64 q.X)).setCell ⟨Ab, 1, none⟩ (.int .i64 q.Y)).alloc (.cells #[.int .i64 q.X, .int .i64 q.Y] 29)) w5.heap.size q := by
            have := Bx.new ((w5.setCell ⟨Ab, 0, none⟩ (.int .i64 q.X)).setCell ⟨Ab, 1, none⟩ (.int .i64 q.Y)) q
            simpa using this
          have hlv := own_len own5
          have hlu := own_len hHO2.out
          have hsS := hB5.size
          go_roundw
          case rel => exact ⟨m + 1, q, w5.heap.size, HQ.out, rfl, own6.alloc _, hnb, by simp, hsS, fun k hk => (own5.lt k hk).2, by (repeat (first | exact Below.refl _ _ | assumption | refine Below.alloc ?_ (by first | exact Nat.le_refl _ | exact Below.size (by assumption) | omega | (simp <;> omega)) _ | refine Below.setCell ?_ (by first | exact Nat.le_refl _ | exact Below.size (by assumption) | omega | (simp <;> omega)) _ | refine below_drewN ?_ _ | refine Below.drew ?_))⟩
          case measure => rw [hlv, hlu, hl2, hlen]; omega
        · have hlast : P[P.length - 1]? = some p := by
            have : P.length - 1 = m := by have := (List.getElem?_eq_some_iff.1 hm').1; omega
            rw [this]; exact hm'
          have hll := HP.out.last p hlast
          have htk : P.take (m + 1) = P := List.take_of_length_le (by omega)
          have HTK := Lib.hid htk; clear htk
          obtain ⟨x, hx⟩ : ∃ x, stepTo l p l.length = x := ⟨_, rfl⟩
          rw [hx] at hN hll
          rw [HF.out] at hll
          obtain ⟨hNx, hNy, _, _⟩ := hN.all
          cases hd1 : decide (x = f)
          · have d2 : decide (x = p) = true := by have := of_decide_eq_false hd1; simp; exact hll.resolve_left this
            go_wp2
            go_ret
            refine ⟨_, rfl, ?_, hBww⟩
            have := hHO2.out
            rw [HTK.out] at this
            exact own_base this hBS.size
          · go_wp2
            go_ret
            refine ⟨_, rfl, ?_, hBww⟩
            have := hHO2.out
            rw [HTK.out] at this
            exact own_base this hBS.size
end Go.Proofs.Ytcbphodkaiknmaa

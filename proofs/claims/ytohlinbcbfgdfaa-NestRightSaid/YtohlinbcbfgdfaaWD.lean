/- mapped, without turning round, in the program: the walk. The functions that mapped takes: the walks. Turned, Centred, Moved, in the program: the walks. Shifted, Centred, Turned, Moved, in the reference: the walks. Twice the area, in the reference: the walk. -/
import Derived.Test.YtohlinbcbfgdfaaWC
import Derived.Test.YtohlinbcbfgdfaaWA
import Derived.Test.YtohlinbcbfgdfaaW24
import Derived.StillTailTactics
import Derived.Test.YtohlinbcbfgdfaaRound
import Derived.Test.YtohlinbcbfgdfaaWB
import Derived.Test.YtohlinbcbfgdfaaWF
namespace Go.Proofs.Ytohlinbcbfgdfaa
open Go.RowKit

theorem own_rdc {w : World} {B : Nat} {v : Value} {l : List XY} (h : OwnL w B v l) : ∃ A c, v = .slice A l.length c ∧ Rd w w.heap.size A l ∧ l.length ≤ c := by
  obtain ⟨A, c, rfl, hr⟩ := own_rd h
  refine ⟨A, c, rfl, hr, ?_⟩
  rcases h.2 with ⟨hv, hn⟩ | ⟨g, cap, cur, hv, _, _, h1, _⟩
  · omega
  · simp at hv; omega

theorem own_below {w w' : World} {B : Nat} {v : Value} {l : List XY} (h : OwnL w B v l) (hb : Below w.heap.size w w') : OwnL w' B v l :=
  h.kept (row := none) ⟨hb.os, hb.tape, hb.output, hb.size, fun j hj _ => hb.block j hj⟩ (by cases v.ownBlock <;> simp)

/-- A function value that answers f and leaves all that lay in w. -/
def Maps (g : Nat) (cb : Array Value) (f : XY → XY) (w : World) : Prop :=
  (∀ args W, (callFunc g args).run Try.prog W = .ok (.enter g args) W) ∧ ∀ (W : World) (p : XY), Below w.heap.size w W → Calls Try.prog g (#[xyv p] ++ cb) W (Ret (xyv (f p)) W)

theorem take_map_succ {l : List XY} {k : Nat} {q : XY} (f : XY → XY) (h : l[k]? = some q) : (l.take (k + 1)).map f = (l.take k).map f ++ [f q] := by rw [take_succ_of h, List.map_append]; rfl

set_option maxRecDepth 100000 in
set_option maxHeartbeats 1000000 in
theorem mapped_any (g : Nat) (cb : Array Value) (f : XY → XY) (A : Option Addr) (c : Nat) (l : List XY) (w : World) (hf : Maps g cb f w) (h0 : 0 < l.length) (hm : l.length ≤ 1000000) (hl : Rd w w.heap.size A l) (hb : ∀ j, Bd 100000 (cy (l.map f) j)) :
    Calls Try.prog 64 #[.slice A l.length c, .func (.func g) #[] cb, .bool false] w (RetO (canonL (l.map f)) w) := by
  have eg := hf.1
  have HF := Lib.hid hf.2; clear hf
  have HL := Lib.hid hl; clear hl
  obtain ⟨k0, hk0, hi0, hc0, _⟩ := canon_facts (l := l.map f) (by simpa using h0) hb
  have HI0 := Lib.hid hi0; clear hi0
  have HC0 := Lib.hid hc0; clear hc0
  obtain ⟨i0, hi, hz0, hz1, hz2⟩ := info_parts Try.infoXY
  have HJ := Lib.hid hi; clear hi
  have HE := Lib.hid eg; clear eg
  go_enter Try.func64, Try.ntmps64
  go_wp2_with (at_make; refine wpList_make_own _ rfl _ _ 39 rfl w.heap.size 55 i0 (.agg #[.int .i64 0, .int .i64 0]) 2 Try.underlying39 HJ.out hz0 hz1 _ _ _ l.length rfl rfl rfl (by rw [hz2]; omega) (by unfold maxLen; omega) (Nat.le_refl _) ?_; intro w1 hown1 hgrow1)
  have hB1 : Below w.heap.size w w1 := below_grown (Below.refl _ w) hgrow1 (fun k h => by cases h) (Nat.le_refl _)
  have HO1 := Lib.hid hown1; clear hown1 hgrow1
  go_wp2
  go_loopw [7, 9, 15] (fun v _ i wr => ∃ k : Nat, k ≤ l.length ∧ i = .int .i64 k ∧ OwnL wr w.heap.size v ((l.take k).map f) ∧ Below w.heap.size w wr) (fun _ _ i _ => l.length - (intOf i).toNat)
  case atStart => exact ⟨0, Nat.zero_le _, rfl, HO1.out, hB1⟩
  case round =>
    obtain ⟨k, hk, rfl, hown, hB⟩ := hrel
    have HO := Lib.hid hown; clear hown
    by_cases hlt : k < l.length
    · obtain ⟨q, hq⟩ := getElem?_of_lt hlt
      obtain ⟨b, off, hA, hb, hcx, hcy⟩ := (HL.out.below hB) k q hq
      subst hA
      have HQ := Lib.hid (take_map_succ f hq); clear hq
      have hsB := hB.size
      have eg := HE.out
      have hlen : ((l.take k).map f).length = k := by simp; omega
      go_wp2_with fail
      refine (HF.out (wr.alloc (.cells #[.int .i64 q.X, .int .i64 q.Y] 55)) q (by (repeat (first | exact Below.refl _ _ | assumption | refine Below.alloc ?_ (by first | exact Nat.le_refl _ | exact Below.size (by assumption) | omega | (simp <;> omega)) _ | refine Below.setCell ?_ (by first | exact Nat.le_refl _ | exact Below.size (by assumption) | omega | (simp <;> omega)) _ | refine below_drewN ?_ _ | refine Below.drew ?_)))).mono ?_
      rintro e w2 ⟨rfl, hb2⟩
      have hB2 : Below w.heap.size w w2 := Below.trans (b := wr.alloc (.cells #[.int .i64 q.X, .int .i64 q.Y] 55)) (by (repeat (first | exact Below.refl _ _ | assumption | refine Below.alloc ?_ (by first | exact Nat.le_refl _ | exact Below.size (by assumption) | omega | (simp <;> omega)) _ | refine Below.setCell ?_ (by first | exact Nat.le_refl _ | exact Below.size (by assumption) | omega | (simp <;> omega)) _ | refine below_drewN ?_ _ | refine Below.drew ?_))) (hb2.mono (by simp; omega))
      have hO2 := own_below (HO.out.alloc (.cells #[.int .i64 q.X, .int .i64 q.Y] 55)) hb2
      have HO2 := Lib.hid hO2; clear hO2
      have hs2 := hB2.size
      obtain ⟨r, hr⟩ : ∃ r, f q = r := ⟨_, rfl⟩
      have hq2 := HQ.out
      rw [hr] at hq2 ⊢
      have HQ2 := Lib.hid hq2; clear hq2 hr
      clear hb2 hcx hcy hb
      go_wp2_with (at_builtin; refine wpList_append_own _ rfl _ _ 39 rfl w.heap.size 55 i0 (.agg #[.int .i64 0, .int .i64 0]) 2 16 Try.underlying39 HJ.out hz0 hz1 hz2 rfl (by decide) _ _ _ rfl (HO2.out.alloc _) ⟨w2.heap.size, 0, none⟩ 1 1 [.int .i64 r.X, .int .i64 r.Y] rfl rfl (by intro j u hj; match j, hj with | 0, hj => (simp at hj; subst hj; simp [Addr.add]) | 1, hj => (simp at hj; subst hj; simp [Addr.add]) | j + 2, hj => simp at hj) (by intro u hu; simp at hu; rcases hu with rfl | rfl <;> rfl) (by rw [hlen]; unfold maxLen; omega) (by rw [hlen]; omega) (by simp; omega) ?_; intro v' w3 hown' hgrow _)
      go_wp2
      go_roundw
      case rel =>
        refine ⟨k + 1, by omega, by go_num, ?_, below_grown (w1 := w2.alloc (.cells #[.int .i64 r.X, .int .i64 r.Y] 55)) (by (repeat (first | exact Below.refl _ _ | assumption | refine Below.alloc ?_ (by first | exact Nat.le_refl _ | exact Below.size (by assumption) | omega | (simp <;> omega)) _ | refine Below.setCell ?_ (by first | exact Nat.le_refl _ | exact Below.size (by assumption) | omega | (simp <;> omega)) _ | refine below_drewN ?_ _ | refine Below.drew ?_))) hgrow (fun j hj => (HO2.out.lt j hj).1) (by simp; omega)⟩
        rw [HQ2.out]
        have e := hown'
        unfold OwnL
        rw [flat_append]
        simpa [flat_cons, flat_nil] using e
      case measure => simp [intOf]; omega
    · obtain rfl : k = l.length := by omega
      have hown := HO.out
      rw [List.take_length] at hown
      obtain ⟨A2, c2, rfl, hr2, hc2⟩ := own_rdc hown
      have hcall := canonical_any A2 c2 (l.map f) wr (by simpa using h0) (by simpa using hm) hc2 hr2 k0 hk0 HI0.out HC0.out
      rw [List.length_map] at hcall
      have HCL := Lib.hid hcall; clear hcall hr2 hown
      go_wp2_with fail
      refine HCL.out.mono ?_
      rintro e w3 ⟨v3, rfl, hown3, hb3⟩
      go_wp2
      go_ret
      exact ⟨v3, rfl, own_base hown3 hB.size, hB.trans (hb3.mono hB.size)⟩
end Go.Proofs.Ytohlinbcbfgdfaa

namespace Go.Proofs.Ytohlinbcbfgdfaa
open Go.RowKit

theorem turned1_any (p : XY) (w : World) : Calls Try.prog 118 #[xyv p] w (Ret (xyv ⟨wrap64 (-p.X), wrap64 (-p.Y)⟩) w) := by
  go_enter Try.func118, Try.ntmps118
  go_wp2
  refine bodyPost_ret (v := xyv ⟨wrap64 (-p.X), wrap64 (-p.Y)⟩) (by simp [results, Try.results118, go_sem]) rfl ⟨rfl, by (repeat (first | exact Below.refl _ _ | assumption | refine Below.alloc ?_ (by first | exact Nat.le_refl _ | exact Below.size (by assumption) | omega | (simp <;> omega)) _ | refine Below.setCell ?_ (by first | exact Nat.le_refl _ | exact Below.size (by assumption) | omega | (simp <;> omega)) _ | refine below_drewN ?_ _ | refine Below.drew ?_))⟩
theorem mirror1_any (p : XY) (w : World) : Calls Try.prog 65 #[xyv p] w (Ret (xyv ⟨wrap64 (-p.X), p.Y⟩) w) := by
  go_enter Try.func65, Try.ntmps65
  go_wp2
  refine bodyPost_ret (v := xyv ⟨wrap64 (-p.X), p.Y⟩) (by simp [results, Try.results65, go_sem]) rfl ⟨rfl, by (repeat (first | exact Below.refl _ _ | assumption | refine Below.alloc ?_ (by first | exact Nat.le_refl _ | exact Below.size (by assumption) | omega | (simp <;> omega)) _ | refine Below.setCell ?_ (by first | exact Nat.le_refl _ | exact Below.size (by assumption) | omega | (simp <;> omega)) _ | refine below_drewN ?_ _ | refine Below.drew ?_))⟩
end Go.Proofs.Ytohlinbcbfgdfaa

namespace Go.Proofs.Ytohlinbcbfgdfaa
open Go.RowKit

def fTurn (p : XY) : XY := ⟨wrap64 (-p.X), wrap64 (-p.Y)⟩
def fMir (p : XY) : XY := ⟨wrap64 (-p.X), p.Y⟩
def fMove (dx dy : Int) (p : XY) : XY := ⟨wrap64 (p.X + dx), wrap64 (p.Y + dy)⟩
def fCen (dx dy : Int) (p : XY) : XY := ⟨wrap64 (p.X - dx / 2), wrap64 (p.Y - dy / 2)⟩

theorem cy_map {l : List XY} (h0 : 0 < l.length) (f : XY → XY) (j : Nat) : cy (l.map f) j = f (cy l j) := by
  have hj := Nat.mod_lt j h0
  unfold cy
  rw [List.length_map, List.getElem?_map, List.getElem?_eq_getElem hj]
  rfl
theorem map_bd {l : List XY} (h0 : 0 < l.length) (hr : l.all rangedB = true) {f : XY → XY} (hf : ∀ p, Bd 5000 p → Bd 100000 (f p)) (j : Nat) : Bd 100000 (cy (l.map f) j) := by
  rw [cy_map h0]; exact hf _ (bd_cy h0 hr j)
theorem fTurn_bd {p : XY} (h : Bd 5000 p) : Bd 100000 (fTurn p) := by
  obtain ⟨a1, a2, a3, a4⟩ := h
  unfold fTurn
  rw [w64_id (by omega) (by omega), w64_id (by omega) (by omega)]
  exact ⟨by simp only; omega, by simp only; omega, by simp only; omega, by simp only; omega⟩
theorem fMir_bd {p : XY} (h : Bd 5000 p) : Bd 100000 (fMir p) := by
  obtain ⟨a1, a2, a3, a4⟩ := h
  unfold fMir
  rw [w64_id (by omega) (by omega)]
  exact ⟨by simp only; omega, by simp only; omega, by simp only; omega, by simp only; omega⟩
theorem fMove_bd {dx dy : Int} (h1 : -10000 ≤ dx) (h2 : dx ≤ 10000) (h3 : -10000 ≤ dy) (h4 : dy ≤ 10000) {p : XY} (h : Bd 5000 p) : Bd 100000 (fMove dx dy p) := by
  obtain ⟨a1, a2, a3, a4⟩ := h
  unfold fMove
  rw [w64_id (by omega) (by omega), w64_id (by omega) (by omega)]
  exact ⟨by simp only; omega, by simp only; omega, by simp only; omega, by simp only; omega⟩
theorem fCen_bd {dx dy : Int} (h1 : -20000 ≤ dx) (h2 : dx ≤ 20000) (h3 : -20000 ≤ dy) (h4 : dy ≤ 20000) {p : XY} (h : Bd 5000 p) : Bd 100000 (fCen dx dy p) := by
  obtain ⟨a1, a2, a3, a4⟩ := h
  unfold fCen
  rw [w64_id (by omega) (by omega), w64_id (by omega) (by omega)]
  exact ⟨by simp only; omega, by simp only; omega, by simp only; omega, by simp only; omega⟩

def turnedS (va : List XY → Bool) (can : List XY → List XY) (l : List XY) : List XY × Int := if va l then (can (l.map fTurn), 0) else ([], 10)
def cdx (l : List XY) : Int := wrap64 (farW 1 0 l - farW (-1) 0 l)
def cdy (l : List XY) : Int := wrap64 (farW 0 1 l - farW 0 (-1) l)
def centredS (l : List XY) : List XY × Int := if validB l then (canonL (l.map (fCen (cdx l) (cdy l))), 0) else ([], 10)
def offM (dx dy : Int) : Prop := dx < -10000 ∨ 10000 < dx ∨ dy < -10000 ∨ 10000 < dy
instance (dx dy : Int) : Decidable (offM dx dy) := by unfold offM; exact inferInstance
def movedS (l : List XY) (dx dy : Int) : List XY × Int :=
  if !validB l then ([], 10) else if offM dx dy then ([], 2) else if !validB (canonL (l.map (fMove dx dy))) then ([], 2) else (canonL (l.map (fMove dx dy)), 0)

set_option maxRecDepth 100000 in
set_option maxHeartbeats 400000 in
theorem Turned_any (A : Option Addr) (c : Nat) (l : List XY) (w : World) (hl : Rd w w.heap.size A l) :
    Calls Try.prog 93 #[.slice A l.length c] w (RetO2 (turnedS validB canonL l).1 (turnedS validB canonL l).2 w) := by
  have HL := Lib.hid hl; clear hl
  cases hv : validB l
  · have HS : Hid (turnedS validB canonL l = ([], 10)) := by simp [Hid, turnedS, hv]
    have HV := Lib.hid hv; clear hv
    go_enter Try.func93, Try.ntmps93
    go_wp2_with fail
    refine (valid_any A c l _ HL.out).mono ?_
    rintro e w1 ⟨rfl, hb1⟩
    rw [HV.out]
    go_wp2
    go_ret2
    rw [HS.out]
    exact ⟨_, rfl, World.ownsRow_nil _ _ _ _, hb1⟩
  · have HS : Hid (turnedS validB canonL l = (canonL (l.map fTurn), 0)) := by simp [Hid, turnedS, hv]
    have hlen := validB_len' hv
    have hbd := Lib.hid (map_bd (l := l) (by omega) (validB_ranged hv) (f := fTurn) (fun p => fTurn_bd))
    have HV := Lib.hid hv; clear hv
    go_enter Try.func93, Try.ntmps93
    go_wp2_with fail
    refine (valid_any A c l _ HL.out).mono ?_
    rintro e w1 ⟨rfl, hb1⟩
    rw [HV.out]
    go_wp2_with fail
    have hT : Maps 118 #[] fTurn w1 := ⟨enters_of Try.func118 (by kernel_rfl) rfl, fun W p _ => turned1_any p W⟩
    refine (mapped_any 118 #[] fTurn A c l _ hT (by omega) (by omega) (HL.out.now hb1) hbd.out).mono ?_
    rintro e w2 ⟨v, rfl, hown, hb2⟩
    go_wp2
    go_ret2
    rw [HS.out]
    exact ⟨v, rfl, own_base hown hb1.size, hb1.trans (hb2.mono hb1.size)⟩

theorem far_bd {l : List XY} (h0 : 0 < l.length) (hr : l.all rangedB = true) (u v : Int) (hu1 : -1 ≤ u) (hu2 : u ≤ 1) (hv1 : -1 ≤ v) (hv2 : v ≤ 1) : -10000 ≤ farW u v l ∧ farW u v l ≤ 10000 := by
  have hd1 : ∀ q, Bd 5000 q → -10000 ≤ dotW u v q ∧ dotW u v q ≤ 10000 := fun q hq => by
    obtain ⟨a1, a2, a3, a4⟩ := hq
    obtain ⟨m1, m2⟩ := mul_bd (a := u) (b := q.X) (A := 1) (B := 5000) (by omega) (by omega) (by omega) (by omega)
    obtain ⟨n1, n2⟩ := mul_bd (a := v) (b := q.Y) (A := 1) (B := 5000) (by omega) (by omega) (by omega) (by omega)
    unfold dotW
    rw [w64_id (show _ ≤ u * q.X by omega) (by omega), w64_id (show _ ≤ v * q.Y by omega) (by omega), w64_id (by omega) (by omega)]
    omega
  have hh : Bd 5000 (hd l) := by
    obtain ⟨p, hp⟩ := getElem?_of_lt h0
    rw [hd_of hp]
    exact bd_of_ranged (List.all_eq_true.1 hr p (List.mem_of_getElem? hp))
  have : ∀ k, k ≤ l.length → -10000 ≤ farTo u v l k ∧ farTo u v l k ≤ 10000 := by
    intro k
    induction k with
    | zero => intro _; unfold farTo; simp only [List.take_zero, List.foldl_nil]; exact hd1 _ hh
    | succ k ih =>
      intro hk
      obtain ⟨q, hq⟩ := getElem?_of_lt (show k < l.length by omega)
      have i1 := ih (by omega)
      have i2 := hd1 q (bd_of_ranged (List.all_eq_true.1 hr q (List.mem_of_getElem? hq)))
      rw [farTo_succ hq]
      split <;> omega
  exact this _ (Nat.le_refl _)

end Go.Proofs.Ytohlinbcbfgdfaa

namespace Go.Proofs.Ytohlinbcbfgdfaa
open Go.RowKit

def fShift (dx dy : Int) (p : XY) : XY := ⟨wrap64 (p.X + dx), wrap64 (p.Y + dy)⟩

set_option maxRecDepth 100000 in
set_option maxHeartbeats 1000000 in
theorem Shifted_any (dx dy : Int) (A : Option Addr) (c : Nat) (l : List XY) (w : World) (hm : l.length ≤ 1000000) (hl : Rd w w.heap.size A l) :
    Calls Try.prog 122 #[.slice A l.length c, .int .i64 dx, .int .i64 dy] w (RetO (l.map (fShift dx dy)) w) := by
  have HL := Lib.hid hl; clear hl
  obtain ⟨i0, hi, hz0, hz1, hz2⟩ := info_parts Try.infoXY
  have HJ := Lib.hid hi; clear hi
  go_enter Try.func122, Try.ntmps122
  go_wp2
  go_loopw [7, 9, 12] (fun v _ i wr => ∃ k : Nat, k ≤ l.length ∧ i = .int .i64 k ∧ OwnL wr w.heap.size v ((l.take k).map (fShift dx dy)) ∧ Below w.heap.size w wr) (fun _ _ i _ => l.length - (intOf i).toNat)
  case atStart => exact ⟨0, Nat.zero_le _, rfl, World.ownsRow_nil _ _ _ _, by (repeat (first | exact Below.refl _ _ | assumption | refine Below.alloc ?_ (by first | exact Nat.le_refl _ | exact Below.size (by assumption) | omega | (simp <;> omega)) _ | refine Below.setCell ?_ (by first | exact Nat.le_refl _ | exact Below.size (by assumption) | omega | (simp <;> omega)) _ | refine below_drewN ?_ _ | refine Below.drew ?_))⟩
  case round =>
    obtain ⟨k, hk, rfl, hown, hB⟩ := hrel
    have HO := Lib.hid hown; clear hown
    by_cases hlt : k < l.length
    · obtain ⟨q, hq⟩ := getElem?_of_lt hlt
      obtain ⟨b, off, hA, hb, hcx, hcy⟩ := (HL.out.below hB) k q hq
      subst hA
      have HQ := Lib.hid (take_map_succ (fShift dx dy) hq); clear hq
      have hsB := hB.size
      have hlen : ((l.take k).map (fShift dx dy)).length = k := by simp; omega
      have hO2 := HO.out.alloc (.cells #[.int .i64 q.X, .int .i64 q.Y] 55)
      have HO2 := Lib.hid hO2; clear hO2
      go_wp2_with (at_builtin; refine wpList_append_own _ rfl _ _ 39 rfl w.heap.size 55 i0 (.agg #[.int .i64 0, .int .i64 0]) 2 16 Try.underlying39 HJ.out hz0 hz1 hz2 rfl (by decide) _ _ _ rfl (HO2.out.alloc _) ⟨wr.heap.size + 1, 0, none⟩ 1 1 [.int .i64 (wrap64 (q.X + dx)), .int .i64 (wrap64 (q.Y + dy))] rfl rfl (by intro j u hj; match j, hj with | 0, hj => (simp at hj; subst hj; simp [Addr.add]) | 1, hj => (simp at hj; subst hj; simp [Addr.add]) | j + 2, hj => simp at hj) (by intro u hu; simp at hu; rcases hu with rfl | rfl <;> rfl) (by rw [hlen]; unfold maxLen; omega) (by rw [hlen]; omega) (by simp; omega) ?_; intro v' w3 hown' hgrow _)
      go_wp2
      go_roundw
      case rel =>
        refine ⟨k + 1, by omega, by go_num, ?_, below_grown (w1 := (wr.alloc (.cells #[.int .i64 q.X, .int .i64 q.Y] 55)).alloc (.cells #[.int .i64 (wrap64 (q.X + dx)), .int .i64 (wrap64 (q.Y + dy))] 55)) (by (repeat (first | exact Below.refl _ _ | assumption | refine Below.alloc ?_ (by first | exact Nat.le_refl _ | exact Below.size (by assumption) | omega | (simp <;> omega)) _ | refine Below.setCell ?_ (by first | exact Nat.le_refl _ | exact Below.size (by assumption) | omega | (simp <;> omega)) _ | refine below_drewN ?_ _ | refine Below.drew ?_))) hgrow (fun j hj => (HO2.out.lt j hj).1) (by simp; omega)⟩
        rw [HQ.out]
        have e := hown'
        unfold OwnL
        rw [flat_append]
        simpa [flat_cons, flat_nil, fShift] using e
      case measure => simp [intOf]; omega
    · obtain rfl : k = l.length := by omega
      have hown := HO.out
      rw [List.take_length] at hown
      go_wp2
      go_ret
      exact ⟨_, rfl, hown, hB⟩

/-- Centred of the reference: moved by half the sum of the ends. -/
def hx2 (l : List XY) : Int := wrap64 (-(wrap64 ((lowTo l l.length).X + (highTo l l.length).X) / 2))
def hy2 (l : List XY) : Int := wrap64 (-(wrap64 ((lowTo l l.length).Y + (highTo l l.length).Y) / 2))
def centred2S (l : List XY) : List XY × Int := if validRB l then (turnL (l.map (fShift (hx2 l) (hy2 l))), 0) else ([], 10)

end Go.Proofs.Ytohlinbcbfgdfaa

namespace Go.Proofs.Ytohlinbcbfgdfaa
open Go.RowKit

/-- The fan from the first corner. -/
def fanTo (l : List XY) (k : Nat) : Int := (List.range k).foldl (fun n i => wrap64 (n + cross2W (cy l 0) (cy l (i + 1)) (cy l (i + 2)))) 0
theorem fanTo_succ (l : List XY) (k : Nat) : fanTo l (k + 1) = wrap64 (fanTo l k + cross2W (cy l 0) (cy l (k + 1)) (cy l (k + 2))) := by
  unfold fanTo; rw [List.range_succ, List.foldl_append]; rfl
def twiceW (l : List XY) : Int := fanTo l (l.length - 2)

def area22S (l : List XY) : Int × Int := if validRB l then (twiceW l, 0) else (0, 10)

end Go.Proofs.Ytohlinbcbfgdfaa

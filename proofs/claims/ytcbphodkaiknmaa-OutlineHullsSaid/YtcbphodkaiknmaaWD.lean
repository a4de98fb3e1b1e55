/- mapped, without turning round, in the program: the walk. The functions that mapped takes: the walks. Turned, Centred, Moved, in the program: the walks. Shifted, Centred, Turned, Moved, in the reference: the walks. Twice the area, in the reference: the walk. -/
import Derived.Test.YtcbphodkaiknmaaWC
import Derived.Test.YtcbphodkaiknmaaWA
import Derived.Test.YtcbphodkaiknmaaW24
import Derived.StillTailTactics
import Derived.Test.YtcbphodkaiknmaaRound
import Derived.Test.YtcbphodkaiknmaaWB
import Derived.Test.YtcbphodkaiknmaaWF
namespace Go.Proofs.Ytcbphodkaiknmaa
open Go.RowKit

theorem own_rdc {w : World} {B : Nat} {v : Value} {l : List XY} (h : OwnL w B v l) : ∃ A c, v = .slice A l.length c ∧ Rd w w.heap.size A l ∧ l.length ≤ c := by
  obtain ⟨A, c, rfl, hr⟩ := own_rd h
  refine ⟨A, c, rfl, hr, ?_⟩
  rcases h.2 with ⟨hv, hn⟩ | ⟨g, cap, cur, hv, _, _, h1, _⟩
  · omega
  · simp at hv; omega

theorem own_below {w w' : World} {B : Nat} {v : Value} {l : List XY} (h : OwnL w B v l) (hb : Below w.heap.size w w') : OwnL w' B v l :=
  h.kept (row := none) ⟨hb.os, hb.tape, hb.output, hb.size, fun j hj _ => hb.block j hj⟩ (by cases v.ownBlock <;> simp)

/-- A function value that answers f and leaves all that lay in w. -/
def Maps (g : Nat) (cb : Array Value) (f : XY → XY) (w : World) : Prop :=
  (∀ args W, (callFunc g args).run Try.prog W = .ok (.enter g args) W) ∧ ∀ (W : World) (p : XY), Below w.heap.size w W → Calls Try.prog g (#[xyv p] ++ cb) W (Ret (xyv (f p)) W)

theorem take_map_succ {l : List XY} {k : Nat} {q : XY} (f : XY → XY) (h : l[k]? = some q) : (l.take (k + 1)).map f = (l.take k).map f ++ [f q] := by rw [take_succ_of h, List.map_append]; rfl

end Go.Proofs.Ytcbphodkaiknmaa

namespace Go.Proofs.Ytcbphodkaiknmaa
open Go.RowKit

end Go.Proofs.Ytcbphodkaiknmaa

namespace Go.Proofs.Ytcbphodkaiknmaa
open Go.RowKit

def fTurn (p : XY) : XY := ⟨wrap64 (-p.X), wrap64 (-p.Y)⟩
def fMir (p : XY) : XY := ⟨wrap64 (-p.X), p.Y⟩
def fMove (dx dy : Int) (p : XY) : XY := ⟨wrap64 (p.X + dx), wrap64 (p.Y + dy)⟩
def fCen (dx dy : Int) (p : XY) : XY := ⟨wrap64 (p.X - dx / 2), wrap64 (p.Y - dy / 2)⟩

theorem cy_map {l : List XY} (h0 : 0 < l.length) (f : XY → XY) (j : Nat) : cy (l.map f) j = f (cy l j) := by
  have hj := Nat.mod_lt j h0
  unfold cy
  rw [List.length_map, List.getElem?_map, List.getElem?_eq_getElem hj]
  rfl
theorem map_bd {l : List XY} (h0 : 0 < l.length) (hr : l.all rangedB = true) {f : XY → XY} (hf : ∀ p, Bd 5000 p → Bd 100000 (f p)) (j : Nat) : Bd 100000 (cy (l.map f) j) := by
  rw [cy_map h0]; exact hf _ (bd_cy h0 hr j)
theorem fTurn_bd {p : XY} (h : Bd 5000 p) : Bd 100000 (fTurn p) := by
  obtain ⟨a1, a2, a3, a4⟩ := h
  unfold fTurn
  rw [w64_id (by omega) (by omega), w64_id (by omega) (by omega)]
  exact ⟨by simp only; omega, by simp only; omega, by simp only; omega, by simp only; omega⟩
theorem fMir_bd {p : XY} (h : Bd 5000 p) : Bd 100000 (fMir p) := by
  obtain ⟨a1, a2, a3, a4⟩ := h
  unfold fMir
  rw [w64_id (by omega) (by omega)]
  exact ⟨by simp only; omega, by simp only; omega, by simp only; omega, by simp only; omega⟩
theorem fMove_bd {dx dy : Int} (h1 : -10000 ≤ dx) (h2 : dx ≤ 10000) (h3 : -10000 ≤ dy) (h4 : dy ≤ 10000) {p : XY} (h : Bd 5000 p) : Bd 100000 (fMove dx dy p) := by
  obtain ⟨a1, a2, a3, a4⟩ := h
  unfold fMove
  rw [w64_id (by omega) (by omega), w64_id (by omega) (by omega)]
  exact ⟨by simp only; omega, by simp only; omega, by simp only; omega, by simp only; omega⟩
theorem fCen_bd {dx dy : Int} (h1 : -20000 ≤ dx) (h2 : dx ≤ 20000) (h3 : -20000 ≤ dy) (h4 : dy ≤ 20000) {p : XY} (h : Bd 5000 p) : Bd 100000 (fCen dx dy p) := by
  obtain ⟨a1, a2, a3, a4⟩ := h
  unfold fCen
  rw [w64_id (by omega) (by omega), w64_id (by omega) (by omega)]
  exact ⟨by simp only; omega, by simp only; omega, by simp only; omega, by simp only; omega⟩

def turnedS (va : List XY → Bool) (can : List XY → List XY) (l : List XY) : List XY × Int := if va l then (can (l.map fTurn), 0) else ([], 10)
def cdx (l : List XY) : Int := wrap64 (farW 1 0 l - farW (-1) 0 l)
def cdy (l : List XY) : Int := wrap64 (farW 0 1 l - farW 0 (-1) l)
def centredS (l : List XY) : List XY × Int := if validB l then (canonL (l.map (fCen (cdx l) (cdy l))), 0) else ([], 10)
def offM (dx dy : Int) : Prop := dx < -10000 ∨ 10000 < dx ∨ dy < -10000 ∨ 10000 < dy
instance (dx dy : Int) : Decidable (offM dx dy) := by unfold offM; exact inferInstance
def movedS (l : List XY) (dx dy : Int) : List XY × Int :=
  if !validB l then ([], 10) else if offM dx dy then ([], 2) else if !validB (canonL (l.map (fMove dx dy))) then ([], 2) else (canonL (l.map (fMove dx dy)), 0)

theorem far_bd {l : List XY} (h0 : 0 < l.length) (hr : l.all rangedB = true) (u v : Int) (hu1 : -1 ≤ u) (hu2 : u ≤ 1) (hv1 : -1 ≤ v) (hv2 : v ≤ 1) : -10000 ≤ farW u v l ∧ farW u v l ≤ 10000 := by
  have hd1 : ∀ q, Bd 5000 q → -10000 ≤ dotW u v q ∧ dotW u v q ≤ 10000 := fun q hq => by
    obtain ⟨a1, a2, a3, a4⟩ := hq
    obtain ⟨m1, m2⟩ := mul_bd (a := u) (b := q.X) (A := 1) (B := 5000) (by omega) (by omega) (by omega) (by omega)
    obtain ⟨n1, n2⟩ := mul_bd (a := v) (b := q.Y) (A := 1) (B := 5000) (by omega) (by omega) (by omega) (by omega)
    unfold dotW
    rw [w64_id (show _ ≤ u * q.X by omega) (by omega), w64_id (show _ ≤ v * q.Y by omega) (by omega), w64_id (by omega) (by omega)]
    omega
  have hh : Bd 5000 (hd l) := by
    obtain ⟨p, hp⟩ := getElem?_of_lt h0
    rw [hd_of hp]
    exact bd_of_ranged (List.all_eq_true.1 hr p (List.mem_of_getElem? hp))
  have : ∀ k, k ≤ l.length → -10000 ≤ farTo u v l k ∧ farTo u v l k ≤ 10000 := by
    intro k
    induction k with
    | zero => intro _; unfold farTo; simp only [List.take_zero, List.foldl_nil]; exact hd1 _ hh
    | succ k ih =>
      intro hk
      obtain ⟨q, hq⟩ := getElem?_of_lt (show k < l.length by omega)
      have i1 := ih (by omega)
      have i2 := hd1 q (bd_of_ranged (List.all_eq_true.1 hr q (List.mem_of_getElem? hq)))
      rw [farTo_succ hq]
      split <;> omega
  exact this _ (Nat.le_refl _)

end Go.Proofs.Ytcbphodkaiknmaa

namespace Go.Proofs.Ytcbphodkaiknmaa
open Go.RowKit

def fShift (dx dy : Int) (p : XY) : XY := ⟨wrap64 (p.X + dx), wrap64 (p.Y + dy)⟩

/-- Centred of the reference: moved by half the sum of the ends. -/
def hx2 (l : List XY) : Int := wrap64 (-(wrap64 ((lowTo l l.length).X + (highTo l l.length).X) / 2))
def hy2 (l : List XY) : Int := wrap64 (-(wrap64 ((lowTo l l.length).Y + (highTo l l.length).Y) / 2))
def centred2S (l : List XY) : List XY × Int := if validRB l then (turnL (l.map (fShift (hx2 l) (hy2 l))), 0) else ([], 10)

end Go.Proofs.Ytcbphodkaiknmaa

namespace Go.Proofs.Ytcbphodkaiknmaa
open Go.RowKit

/-- The fan from the first corner. -/
def fanTo (l : List XY) (k : Nat) : Int := (List.range k).foldl (fun n i => wrap64 (n + cross2W (cy l 0) (cy l (i + 1)) (cy l (i + 2)))) 0
theorem fanTo_succ (l : List XY) (k : Nat) : fanTo l (k + 1) = wrap64 (fanTo l k + cross2W (cy l 0) (cy l (k + 1)) (cy l (k + 2))) := by
  unfold fanTo; rw [List.range_succ, List.foldl_append]; rfl
def twiceW (l : List XY) : Int := fanTo l (l.length - 2)

def area22S (l : List XY) : Int × Int := if validRB l then (twiceW l, 0) else (0, 10)

end Go.Proofs.Ytcbphodkaiknmaa

/- The ends of a list and its box, the diameter and the blank, in the reference: the walks. -/
import Derived.Test.YtohlinbcbfgdfaaW23
import Derived.Test.YtohlinbcbfgdfaaW15
import Derived.BigRegion
import Derived.Deep.DeepCutAuto
namespace Go.Proofs.Ytohlinbcbfgdfaa
open Go.RowKit Go.Shelf

/-- The least and the greatest coordinates. -/
def lowTo (l : List XY) (k : Nat) : XY := (l.take k).foldl (fun e q => ⟨if q.X < e.X then q.X else e.X, if q.Y < e.Y then q.Y else e.Y⟩) (hd l)
def highTo (l : List XY) (k : Nat) : XY := (l.take k).foldl (fun e q => ⟨if e.X < q.X then q.X else e.X, if e.Y < q.Y then q.Y else e.Y⟩) (hd l)
theorem lowTo_succ {l : List XY} {k : Nat} {q : XY} (h : l[k]? = some q) : lowTo l (k + 1) = ⟨if q.X < (lowTo l k).X then q.X else (lowTo l k).X, if q.Y < (lowTo l k).Y then q.Y else (lowTo l k).Y⟩ := by
  unfold lowTo; rw [take_succ_of h, List.foldl_append]; rfl
theorem highTo_succ {l : List XY} {k : Nat} {q : XY} (h : l[k]? = some q) : highTo l (k + 1) = ⟨if (highTo l k).X < q.X then q.X else (highTo l k).X, if (highTo l k).Y < q.Y then q.Y else (highTo l k).Y⟩ := by
  unfold highTo; rw [take_succ_of h, List.foldl_append]; rfl

/-- A corner in a block of its own that may be stored to. -/
structure Cr (W : World) (B : Nat) (p : XY) : Prop where
  x : W.cell? ⟨B, 0, none⟩ = some (.int .i64 p.X)
  y : W.cell? ⟨B, 1, none⟩ = some (.int .i64 p.Y)
  f : W.frozen? ⟨B, 0, none⟩ = false
  g : W.frozen? ⟨B, 1, none⟩ = false

set_option maxRecDepth 100000 in
set_option maxHeartbeats 1000000 in
theorem Ends_any (A : Option Addr) (c : Nat) (l : List XY) (w : World) (h0 : 0 < l.length) (hm : l.length ≤ 1000000) (hl : Rd w w.heap.size A l) :
    Calls Try.prog 120 #[.slice A l.length c] w (Ret (.tuple #[xyv (lowTo l l.length), xyv (highTo l l.length)]) w) := by
  obtain ⟨p, hp⟩ := getElem?_of_lt h0
  obtain ⟨b, off, hA, hb, hx, hy⟩ := hl 0 p hp
  subst hA
  simp only [Nat.zero_mul, Nat.add_zero] at hx hy
  have hp0 := hd_of hp
  have HP := Lib.hid hp0; clear hp0 hp
  have HL := Lib.hid hl; clear hl
  have hmx : Try.prog.follows .mixedOrders = true := by kernel_rfl
  have hx' : ((w.alloc (.cells #[.int .i64 0, .int .i64 0] 55)).alloc (.cells #[.int .i64 0, .int .i64 0] 55)).cell? ⟨b, off, none⟩ = some (.int .i64 p.X) := by
    rw [World.cell?_alloc_lt _ _ _ (by simp; omega), World.cell?_alloc_lt _ _ _ hb]; exact hx
  have hy' : ((w.alloc (.cells #[.int .i64 0, .int .i64 0] 55)).alloc (.cells #[.int .i64 0, .int .i64 0] 55)).cell? ⟨b, off + 1, none⟩ = some (.int .i64 p.Y) := by
    rw [World.cell?_alloc_lt _ _ _ (by simp; omega), World.cell?_alloc_lt _ _ _ hb]; exact hy
  go_enter Try.func120, Try.ntmps120
  go_wp2
  go_region
  go_wp2
  go_loopw [5, 14] (fun _ i wr => ∃ k : Nat, k ≤ l.length ∧ i = .int .i64 k ∧ Below w.heap.size w wr ∧ w.heap.size + 1 < wr.heap.size ∧ Cr wr w.heap.size (lowTo l k) ∧ Cr wr (w.heap.size + 1) (highTo l k)) (fun _ i _ => l.length - (intOf i).toNat)
  case atStart =>
    have e1 : lowTo l 0 = p := HP.out
    have e2 : highTo l 0 = p := HP.out
    exact ⟨0, by omega, rfl, by (repeat (first | exact Below.refl _ _ | assumption | refine Below.alloc ?_ (by first | exact Nat.le_refl _ | exact Below.size (by assumption) | omega | (simp <;> omega)) _ | refine Below.setCell ?_ (by first | exact Nat.le_refl _ | exact Below.size (by assumption) | omega | (simp <;> omega)) _ | refine below_drewN ?_ _ | refine Below.drew ?_)), by simp, by rw [e1]; exact ⟨by simp, by simp, by simp, by simp⟩, by rw [e2]; exact ⟨by simp, by simp, by simp, by simp⟩⟩
  case round =>
    obtain ⟨k, hk, rfl, hB, hsz, ⟨lx, ly, lf, lg⟩, ⟨hx1, hy1, hf1, hg1⟩⟩ := hrel
    by_cases hlt : k < l.length
    · obtain ⟨q, hq⟩ := getElem?_of_lt hlt
      obtain ⟨b1, off1, hA, hb1, hcx, hcy⟩ := (HL.out.below hB) k q hq
      obtain ⟨rfl, rfl⟩ : b = b1 ∧ off = off1 := by simpa using hA
      clear hA
      have HQ := Lib.hid (lowTo_succ hq)
      have HR := Lib.hid (highTo_succ hq); clear hq
      have hbW : b < wr.heap.size := by have := hB.size; omega
      have hwW : w.heap.size < wr.heap.size := by omega
      have hsB := hB.size
      go_wp2
      go_roundw
      case rel =>
        refine ⟨k + 1, by omega, by go_num, by (repeat (first | exact Below.refl _ _ | assumption | refine Below.alloc ?_ (by first | exact Nat.le_refl _ | exact Below.size (by assumption) | omega | (simp <;> omega)) _ | refine Below.setCell ?_ (by first | exact Nat.le_refl _ | exact Below.size (by assumption) | omega | (simp <;> omega)) _ | refine below_drewN ?_ _ | refine Below.drew ?_)), by simp; omega, ?_, ?_⟩
        · rw [HQ.out]
          refine ⟨?_, ?_, ?_, ?_⟩
          all_goals (first | (go_simp; done) | simp [*])
        · rw [HR.out]
          refine ⟨?_, ?_, ?_, ?_⟩
          all_goals (first | (go_simp; done) | simp [*])
      case measure => simp [intOf]; omega
    · obtain rfl : k = l.length := by omega
      go_wp2
      go_region
      go_wp2
      refine bodyPost_ret (v := .tuple #[xyv (lowTo l l.length), xyv (highTo l l.length)]) (by simp [results, Try.results120, go_sem, *]) rfl ⟨rfl, by (repeat (first | exact Below.refl _ _ | assumption | refine Below.alloc ?_ (by first | exact Nat.le_refl _ | exact Below.size (by assumption) | omega | (simp <;> omega)) _ | refine Below.setCell ?_ (by first | exact Nat.le_refl _ | exact Below.size (by assumption) | omega | (simp <;> omega)) _ | refine below_drewN ?_ _ | refine Below.drew ?_))⟩

def box2S (l : List XY) : Int × Int × Int := if validRB l then (wrap64 ((highTo l l.length).X - (lowTo l l.length).X), wrap64 ((highTo l l.length).Y - (lowTo l l.length).Y), 0) else (0, 0, 10)

/-- The greatest of the roots, rounded up. -/
def dia2To (l : List XY) (k : Nat) : Int := (l.take k).foldl (fun m q => if m < ((iceil (fourW q).toNat : Nat) : Int) then ((iceil (fourW q).toNat : Nat) : Int) else m) 0
theorem dia2To_succ {l : List XY} {k : Nat} {q : XY} (h : l[k]? = some q) : dia2To l (k + 1) = if dia2To l k < ((iceil (fourW q).toNat : Nat) : Int) then ((iceil (fourW q).toNat : Nat) : Int) else dia2To l k := by
  unfold dia2To; rw [take_succ_of h, List.foldl_append]; rfl
def diameter2S (l : List XY) : Int × Int := if validRB l then (dia2To l l.length, 0) else (0, 10)

end Go.Proofs.Ytohlinbcbfgdfaa

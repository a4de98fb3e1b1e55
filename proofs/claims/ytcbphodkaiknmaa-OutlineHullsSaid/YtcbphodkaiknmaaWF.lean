/- In which grooves a lens sits, in the program: the walk. Seat, whole, in the program: the walk. In which grooves a lens sits, in the reference: the walk. -/
import Derived.Test.YtcbphodkaiknmaaWA
import Derived.Test.YtcbphodkaiknmaaWB
import Derived.Test.YtcbphodkaiknmaaWG
import Derived.Test.YtcbphodkaiknmaaRound
import Derived.Test.YtcbphodkaiknmaaMathA
namespace Go.Proofs.Ytcbphodkaiknmaa
open Go.RowKit Go.Shelf
attribute [local go_sem] Oper.semAt_some

def seatP (lens groove : List XY) (play : Int) (x : XY × XY) : Bool :=
  !decide (wrap64 (wrap64 (play * play) * wrap64 (wrap64 (wrap64 (x.2.Y - x.1.Y) * wrap64 (x.2.Y - x.1.Y)) + wrap64 (wrap64 (x.1.X - x.2.X) * wrap64 (x.1.X - x.2.X)))) <
    wrap64 (wrap64 (farW (wrap64 (x.2.Y - x.1.Y)) (wrap64 (x.1.X - x.2.X)) groove - farW (wrap64 (x.2.Y - x.1.Y)) (wrap64 (x.1.X - x.2.X)) lens) * wrap64 (farW (wrap64 (x.2.Y - x.1.Y)) (wrap64 (x.1.X - x.2.X)) groove - farW (wrap64 (x.2.Y - x.1.Y)) (wrap64 (x.1.X - x.2.X)) lens)))

/-- The five boxes of Seat. -/
structure SB (W : World) (s : Nat) (A A2 : Option Addr) (n c n2 c2 : Nat) (play : Int) : Prop where
  b0 : Boxed W s 22 (.slice A n c)
  b1 : Boxed W (s + 1) 22 (.slice A2 n2 c2)
  b2 : Boxed W (s + 1 + 1) 3 (.int .i64 play)
  b3 : Boxed W (s + 1 + 1 + 1) 4 (.bool false)
  b4 : Boxed W (s + 1 + 1 + 1 + 1) 23 (.int .i64 0)
theorem SB.lt {W : World} {s : Nat} {A A2 : Option Addr} {n c n2 c2 : Nat} {play : Int} (h : SB W s A A2 n c n2 c2 play) : s + 1 + 1 + 1 + 1 < W.heap.size := h.b4.lt
theorem SB.below {W W' : World} {s C : Nat} {A A2 : Option Addr} {n c n2 c2 : Nat} {play : Int} (h : SB W s A A2 n c n2 c2 play) (hb : Below C W W') (hC : s + 1 + 1 + 1 + 1 < C) : SB W' s A A2 n c n2 c2 play :=
  ⟨boxed_below h.b0 hb (by omega), boxed_below h.b1 hb (by omega), boxed_below h.b2 hb (by omega), boxed_below h.b3 hb (by omega), boxed_below h.b4 hb hC⟩
theorem SB.kept {W W' : World} {s : Nat} {A A2 : Option Addr} {n c n2 c2 : Nat} {play : Int} {row : Option Nat} (h : SB W s A A2 n c n2 c2 play) (hg : W.grownBy W' row) (hr : ∀ r, row = some r → ∃ o : Obj, W.heap[r]? = some o ∧ o.isCells = false) : SB W' s A A2 n c n2 c2 play :=
  ⟨boxed_own _ _ (fun (_ : Unit) => _) () W W' row h.b0 hg hr, boxed_own _ _ (fun (_ : Unit) => _) () W W' row h.b1 hg hr, boxed_own _ _ (fun (_ : Unit) => _) () W W' row h.b2 hg hr, boxed_own _ _ (fun (_ : Unit) => _) () W W' row h.b3 hg hr, boxed_own _ _ (fun (_ : Unit) => _) () W W' row h.b4 hg hr⟩
theorem SB.alloc {W : World} {s : Nat} {A A2 : Option Addr} {n c n2 c2 : Nat} {play : Int} (h : SB W s A A2 n c n2 c2 play) (o : Obj) : SB (W.alloc o) s A A2 n c n2 c2 play :=
  ⟨h.b0.alloc o, h.b1.alloc o, h.b2.alloc o, h.b3.alloc o, h.b4.alloc o⟩
theorem SB.put {W : World} {s : Nat} {A A2 : Option Addr} {n c n2 c2 : Nat} {play : Int} (h : SB W s A A2 n c n2 c2 play) : SB ((W.setCell ⟨s + 1 + 1 + 1, 0, none⟩ (.bool false)).setCell ⟨s + 1 + 1 + 1 + 1, 0, none⟩ (.int .i64 0)) s A A2 n c n2 c2 play :=
  ⟨(h.b0.other (by omega) _).other (by omega) _, (h.b1.other (by omega) _).other (by omega) _, (h.b2.other (by omega) _).other (by omega) _, (h.b3.set _).other (by omega) _, (h.b4.other (by omega) _).set _⟩
theorem SB.new (w : World) (A A2 : Option Addr) (n c n2 c2 : Nat) (play : Int) : SB (((((w.alloc (.cells #[.slice A n c] 22)).alloc (.cells #[.slice A2 n2 c2] 22)).alloc (.cells #[.int .i64 play] 3)).alloc (.cells #[.bool false] 4)).alloc (.cells #[.int .i64 0] 23)) w.heap.size A A2 n c n2 c2 play := by
  refine ⟨((((Boxed.new _ _ _).alloc _).alloc _).alloc _).alloc _, ?_, ?_, ?_, ?_⟩
  · have h := ((((Boxed.new (w.alloc (.cells #[.slice A n c] 22)) 22 (.slice A2 n2 c2)).alloc (.cells #[.int .i64 play] 3)).alloc (.cells #[.bool false] 4)).alloc (.cells #[.int .i64 0] 23))
    simpa only [World.size_alloc] using h
  · have h := (((Boxed.new ((w.alloc (.cells #[.slice A n c] 22)).alloc (.cells #[.slice A2 n2 c2] 22)) 3 (.int .i64 play)).alloc (.cells #[.bool false] 4)).alloc (.cells #[.int .i64 0] 23))
    simpa only [World.size_alloc] using h
  · have h := ((Boxed.new (((w.alloc (.cells #[.slice A n c] 22)).alloc (.cells #[.slice A2 n2 c2] 22)).alloc (.cells #[.int .i64 play] 3)) 4 (.bool false)).alloc (.cells #[.int .i64 0] 23))
    simpa only [World.size_alloc] using h
  · have h := (Boxed.new ((((w.alloc (.cells #[.slice A n c] 22)).alloc (.cells #[.slice A2 n2 c2] 22)).alloc (.cells #[.int .i64 play] 3)).alloc (.cells #[.bool false] 4)) 23 (.int .i64 0))
    simpa only [World.size_alloc] using h

end Go.Proofs.Ytcbphodkaiknmaa

namespace Go.Proofs.Ytcbphodkaiknmaa
open Go.RowKit Go.Shelf

theorem validB_len {l : List XY} (h : validB l = true) : 3 ≤ l.length ∧ l.length ≤ 64 := by
  simp only [validB, Bool.and_eq_true, decide_eq_true_eq] at h; exact ⟨h.1.1.1.1, h.1.1.1.2⟩

end Go.Proofs.Ytcbphodkaiknmaa

namespace Go.Proofs.Ytcbphodkaiknmaa
open Go.RowKit Go.Shelf

theorem validRB_len {l : List XY} (h : validRB l = true) : 3 ≤ l.length ∧ l.length ≤ 64 := by
  simp only [validRB, Bool.and_eq_true, decide_eq_true_eq] at h; exact ⟨h.1.1.1, h.1.1.2⟩

end Go.Proofs.Ytcbphodkaiknmaa

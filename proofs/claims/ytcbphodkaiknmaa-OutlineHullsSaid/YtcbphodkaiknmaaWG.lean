/- Loops over the sides: holds, area2: the walks. Loops over the sides: area2: the walk. within, in the program, and its closure: the walks. -/
import Derived.Test.YtcbphodkaiknmaaW9
import Derived.Test.YtcbphodkaiknmaaWA
namespace Go.Proofs.Ytcbphodkaiknmaa
open Go.RowKit Go.Shelf
attribute [local go_sem] Oper.semAt_some

theorem Pt.kept {W W' : World} {B : Nat} {p : XY} {row : Option Nat} (h : Pt W B p) (hg : W.grownBy W' row) (hr : ∀ r, row = some r → ∃ o : Obj, W.heap[r]? = some o ∧ o.isCells = false) : Pt W' B p :=
  ⟨cell_kept h.1 hg hr, cell_kept h.2 hg hr⟩
theorem Pt.alloc {W : World} {B : Nat} {p : XY} (h : Pt W B p) (hB : B < W.heap.size) (o : Obj) : Pt (W.alloc o) B p :=
  ⟨by rw [World.cell?_alloc_lt _ _ _ hB]; exact h.1, by rw [World.cell?_alloc_lt _ _ _ hB]; exact h.2⟩
theorem Pt.new (W : World) (p : XY) (t : TypeId) : Pt (W.alloc (.cells #[.int .i64 p.X, .int .i64 p.Y] t)) W.heap.size p := ⟨by simp, by simp⟩

theorem boxed_below {W W' : World} {B C : Nat} {t : TypeId} {v : Value} (h : Boxed W B t v) (hb : Below C W W') (hB : B < C) : Boxed W' B t v := (hb.block B hB).trans h
theorem keepsFrom_below {W W' : World} (B : Nat) (hb : Below W.heap.size W W') : KeepsFrom B W W' :=
  ⟨hb.size, fun k _ _ hk _ => (hb.block k (Array.getElem?_eq_some_iff.1 hk).1).trans hk⟩

theorem insideB_all {l : List XY} {p : XY} (h : ∀ x ∈ sidesTo l l.length, (!decide (crossW x.1 x.2 p < 0)) = true) : insideB l p = true := by
  unfold insideB
  rw [List.all_eq_true]
  intro i hi
  exact h (cy l i, cy l (i + 1)) (List.mem_map.2 ⟨i, hi, rfl⟩)
theorem insideB_not {l : List XY} {p : XY} {k : Nat} (hk : k < l.length) (h : (!decide (crossW (cy l k) (cy l (k + 1)) p < 0)) = false) : insideB l p = false :=
  all_range_false hk h

set_option maxRecDepth 100000 in
set_option maxHeartbeats 2000000 in
theorem holds_any (A : Option Addr) (c : Nat) (l : List XY) (p : XY) (w : World) (hm : l.length ≤ 1000000) (hl : Rd w w.heap.size A l) :
    Calls Try.prog 25 #[.slice A l.length c, xyv p] w (Ret (.bool (insideB l p)) w) := by
  refine (callsIn_wide (n := 5)).1 ?_
  have h1 : 1 ≤ 5 := by omega
  refine callsIn_of_wp_marks Try.func25 rfl trivial ?_ rfl
  simp only [Try.ntmps25, List.size_toArray, List.length_cons, List.length_nil, Nat.reduceAdd, Nat.reduceSub, Array.replicate_succ, Array.replicate_zero, List.push_toArray, List.append_toArray, List.nil_append, List.cons_append]
  have HL := Lib.hid hl; clear hl
  gi_wp2_with (refine ⟨trivial, ?_⟩; gi_at_call 39; refine (callsIn_wide.2 (sides_any _ _ _ _)).mono ?_; rintro e w' ⟨rfl, rfl⟩)
  have pP := ((Pt.new w p 29).alloc (by simp) (.cells #[.bool false] 4)).alloc (by simp; omega) (.cells #[.slice A l.length c] 22)
  have bR := (Boxed.new (w.alloc (.cells #[.int .i64 p.X, .int .i64 p.Y] 29)) 4 (.bool false)).alloc (.cells #[.slice A l.length c] 22)
  have bS := Boxed.new ((w.alloc (.cells #[.int .i64 p.X, .int .i64 p.Y] 29)).alloc (.cells #[.bool false] 4)) 22 (.slice A l.length c)
  simp only [World.size_alloc] at bR bS
  have hB0 : Below w.heap.size w (((w.alloc (.cells #[.int .i64 p.X, .int .i64 p.Y] 29)).alloc (.cells #[.bool false] 4)).alloc (.cells #[.slice A l.length c] 22)) := by (repeat (first | exact Below.refl _ _ | assumption | refine Below.alloc ?_ (by first | exact Nat.le_refl _ | exact Below.size (by assumption) | omega | (simp <;> omega)) _ | refine Below.setCell ?_ (by first | exact Nat.le_refl _ | exact Below.size (by assumption) | omega | (simp <;> omega)) _ | refine below_drewN ?_ _ | refine Below.drew ?_))
  have hsz : (((w.alloc (.cells #[.int .i64 p.X, .int .i64 p.Y] 29)).alloc (.cells #[.bool false] 4)).alloc (.cells #[.slice A l.length c] 22)).heap.size = w.heap.size + 3 := by simp
  obtain ⟨W0, hW0⟩ : ∃ W0, ((w.alloc (.cells #[.int .i64 p.X, .int .i64 p.Y] 29)).alloc (.cells #[.bool false] 4)).alloc (.cells #[.slice A l.length c] 22) = W0 := ⟨_, rfl⟩
  rw [hW0] at pP bR bS hB0 hsz ⊢
  clear hW0
  refine wpIn_rangeFunc_ownH (F := Fence.wide) rfl h1 (gf := 52) (lb := #[.pointer (some ⟨w.heap.size + 1 + 1, 0, none⟩)]) rfl trivial (enters_of Try.func52 (by kernel_rfl) rfl)
    (sides_stops (5 - 1) (by omega) (w.heap.size + 1 + 1) w.heap.size A c l hm W0 (by omega) (by omega) bS.cell (HL.out.below hB0)) KpS.trans (KpS.book (by omega) (by omega)) (Below.refl _ _) (fun _ => rfl)
    (fun pre W => (∀ x ∈ pre, (!decide (crossW x.1 x.2 p < 0)) = true) ∧ ((Boxed W (w.heap.size + 1) 4 (.bool false) ∧ Pt W w.heap.size p) ∧ Boxed W (w.heap.size + 1 + 1) 22 (.slice A l.length c)) ∧ Below w.heap.size w W)
    (fun cc pre W => (cc = .ret ∧ ∃ pre0 x, pre = pre0 ++ [x] ∧ (!decide (crossW x.1 x.2 p < 0)) = false) ∧ Boxed W (w.heap.size + 1) 4 (.bool false) ∧ Below w.heap.size w W)
    (OwnFrom.and (ownFrom_pure _ _) (OwnFrom.and (OwnFrom.and (OwnFrom.and (Own.from (boxed_own _ _ _) _) (Own.from (fun _ _ _ _ hs hg hr => hs.kept hg hr) _)) (Own.from (boxed_own _ _ _) _)) (ownFrom_below (Nat.le_refl _) (by omega))))
    (fun cc => OwnFrom.and (ownFrom_pure _ _) (OwnFrom.and (Own.from (boxed_own _ _ _) _) (ownFrom_below (Nat.le_refl _) (by omega))))
    ⟨by simp, ⟨⟨bR, pP⟩, bS⟩, hB0⟩
    (fun x a' W => ∃ Ba Bb, Pt W Ba x.1 ∧ Pt W Bb x.2 ∧ a' = { tmps := #[.slice A l.length c, xyv p, undef, .pointer (some ⟨w.heap.size, 0, none⟩), .pointer (some ⟨w.heap.size + 1, 0, none⟩), .pointer (some ⟨Ba, 0, none⟩), .pointer (some ⟨Bb, 0, none⟩), .slice A l.length c, .func (.func 52) #[] #[.pointer (some ⟨w.heap.size + 1 + 1, 0, none⟩)], xyv x.1, xyv x.2, undef, undef, undef, undef, undef], defers := [] })
    (fun x a' _ X Y row hs hg hr => by obtain ⟨Ba, Bb, h1, h2, h3⟩ := hs; exact ⟨Ba, Bb, h1.kept hg (fun r e => (hr r e).2), h2.kept hg (fun r e => (hr r e).2), h3⟩)
    ?assign ?body ?done ?stop
  case assign =>
    rintro ll pre x W K ⟨hno, ⟨⟨bR1, pP1⟩, bS1⟩, hB1⟩ hK
    have hsW := hB1.size
    have hlt1 := bR1.lt
    have hlt2 := bS1.lt
    gi_wp2
    refine hK _ _ (((KeepsOthers.alloc _ _).trans (KeepsOthers.alloc _ _)).from _) ⟨by (repeat (first | exact Below.refl _ _ | assumption | refine Below.alloc ?_ (by first | exact Nat.le_refl _ | exact Below.size (by assumption) | omega | (simp <;> omega)) _ | refine Below.setCell ?_ (by first | exact Nat.le_refl _ | exact Below.size (by assumption) | omega | (simp <;> omega)) _ | refine below_drewN ?_ _ | refine Below.drew ?_)), ?_⟩ ⟨hno, ⟨⟨(bR1.alloc _).alloc _, (pP1.alloc (by omega) _).alloc (by simp; omega) _⟩, (bS1.alloc _).alloc _⟩, by (repeat (first | exact Below.refl _ _ | assumption | refine Below.alloc ?_ (by first | exact Nat.le_refl _ | exact Below.size (by assumption) | omega | (simp <;> omega)) _ | refine Below.setCell ?_ (by first | exact Nat.le_refl _ | exact Below.size (by assumption) | omega | (simp <;> omega)) _ | refine below_drewN ?_ _ | refine Below.drew ?_))⟩ ⟨W.heap.size, W.heap.size + 1, ?_, ?_, rfl⟩
    · rw [World.cell?_alloc_lt _ _ _ (by simp; omega), World.cell?_alloc_lt _ _ _ (by exact hlt2)]
    · exact (Pt.new W x.1 _).alloc (by simp) _
    · have h := Pt.new (W.alloc (.cells #[.int .i64 x.1.X, .int .i64 x.1.Y] 29)) x.2 29
      rw [World.size_alloc] at h
      exact h
  case body =>
    rintro ll pre x a' W hl ⟨r, hr⟩ ⟨hno, ⟨⟨bR1, pP1⟩, bS1⟩, hB1⟩ ⟨Ba, Bb, ⟨hax, hay⟩, ⟨hbx, hby⟩, rfl⟩ hlt
    have h1' : 1 ≤ 5 - 1 - 1 := by omega
    have hlt1 := bR1.lt
    have hlt2 := bS1.lt
    obtain ⟨hpx, hpy⟩ := pP1
    gi_wp2_with (refine ⟨trivial, ?_⟩; gi_at_call 29; refine (CallsIn.inRound ll (callsIn_wide.2 (cross_any x.1 x.2 p _))).mono ?_; rintro e w2 ⟨rfl, hb2⟩; have bR2 := boxed_below bR1 hb2 hlt1; have cR2 := bR2.cell; have fR2 := bR2.frozen)
    · have hneg : crossW x.1 x.2 p < 0 := by assumption
      exact ⟨(keepsFrom_below _ hb2).trans ((KeepsOthers.setCell _ _ _).from _), ⟨rfl, pre, x, rfl, by rw [decide_eq_true hneg]; rfl⟩, bR2.set _, (hB1.trans (hb2.mono hB1.size)).setCell (p := ⟨w.heap.size + 1, 0, none⟩) (by simp) _⟩
    · have hneg : 0 ≤ crossW x.1 x.2 p := by assumption
      refine ⟨keepsFrom_below _ hb2, ⟨hb2.mono hB1.size, ?_⟩, fun y hy => ?_, ⟨⟨bR2, (show Pt W w.heap.size p from ⟨hpx, hpy⟩).below hb2 (by omega)⟩, boxed_below bS1 hb2 hlt2⟩, hB1.trans (hb2.mono hB1.size)⟩
      · exact hb2.cell (p := ⟨w.heap.size + 1 + 1, 0, none⟩) hlt2
      · rcases List.mem_append.1 hy with h | h
        · exact hno y h
        · simp at h; subst h; rw [decide_eq_false (by omega)]; rfl
  case done =>
    rintro D ys W hD rfl ⟨hno, ⟨⟨bR1, pP1⟩, bS1⟩, hB1⟩ hK
    have cR := bR1.cell
    have fR := bR1.frozen
    gi_wp2
    have hK' := (KeepsOthers.setCell W ⟨w.heap.size + 1, 0, none⟩ (.bool true)).same D _ hK rfl
    refine ⟨by simp, .inl ⟨_, _, rfl, run_takeDeferred hK', ?_⟩⟩
    have hc5 := cell_kept (World.cell?_setCell_same' W ⟨w.heap.size + 1, 0, none⟩ (.bool true) (by rw [cR]; rfl)) (grownBy_putObj' _ D (.deferred none)) (fun r e => by cases e; exact ⟨_, hK', rfl⟩)
    refine ⟨.bool true, by simp [results, Try.f25, go_sem, hc5], Ret.mk (by rw [insideB_all hno]) ((hB1.setCell (p := ⟨w.heap.size + 1, 0, none⟩) (by simp) _).trans (belowK_b (w := w) (Nat.le_refl _) _ D _ _ (by omega) hK' rfl rfl))⟩
  case stop =>
    rintro D cc pre W hD ⟨k, hk, rfl⟩ ⟨⟨rfl, pre0, x, hp0, hx⟩, bR1, hB1⟩ hK
    gi_wp2
    refine ⟨by simp, .inl ⟨_, _, rfl, run_takeDeferred hK, ?_⟩⟩
    have hc5 := cell_kept bR1.cell (grownBy_putObj' _ D (.deferred none)) (fun r e => by cases e; exact ⟨_, hK, rfl⟩)
    rw [sidesTo_succ] at hp0
    obtain ⟨_, hp1⟩ := List.append_inj' hp0 rfl
    obtain rfl : (cy l k, cy l (k + 1)) = x := by simpa using hp1
    refine ⟨.bool false, by simp [results, Try.f25, go_sem, hc5], Ret.mk (by rw [insideB_not hk hx]) (hB1.trans (belowK_b (w := w) (Nat.le_refl _) W D _ _ (by omega) hK rfl rfl))⟩
end Go.Proofs.Ytcbphodkaiknmaa

namespace Go.Proofs.Ytcbphodkaiknmaa
open Go.RowKit Go.Shelf
attribute [local go_sem] Oper.semAt_some

def areaP (pre : List (XY × XY)) : Int := pre.foldl (fun n x => wrap64 (n + wrap64 (wrap64 (x.1.X * x.2.Y) - wrap64 (x.1.Y * x.2.X)))) 0
theorem areaP_snoc (pre : List (XY × XY)) (x : XY × XY) : areaP (pre ++ [x]) = wrap64 (areaP pre + wrap64 (wrap64 (x.1.X * x.2.Y) - wrap64 (x.1.Y * x.2.X))) := by simp [areaP]
theorem areaP_sides (l : List XY) (k : Nat) : areaP (sidesTo l k) = areaTo l k := by simp [areaP, sidesTo, areaTo, List.foldl_map]

set_option maxRecDepth 100000 in
set_option maxHeartbeats 2000000 in
theorem area2_any (A : Option Addr) (c : Nat) (l : List XY) (w : World) (hm : l.length ≤ 1000000) (hl : Rd w w.heap.size A l) :
    Calls Try.prog 35 #[.slice A l.length c] w (Ret (.int .i64 (areaW l)) w) := by
  refine (callsIn_wide (n := 5)).1 ?_
  have h1 : 1 ≤ 5 := by omega
  refine callsIn_of_wp_marks Try.func35 rfl trivial ?_ rfl
  simp only [Try.ntmps35, List.size_toArray, List.length_cons, List.length_nil, Nat.reduceAdd, Nat.reduceSub, Array.replicate_succ, Array.replicate_zero, List.push_toArray, List.append_toArray, List.nil_append, List.cons_append]
  have HL := Lib.hid hl; clear hl
  gi_wp2_with (refine ⟨trivial, ?_⟩; gi_at_call 39; refine (callsIn_wide.2 (sides_any _ _ _ _)).mono ?_; rintro e w' ⟨rfl, rfl⟩)
  have bR := (Boxed.new w 3 (.int .i64 0)).alloc (.cells #[.slice A l.length c] 22)
  have bS := Boxed.new (w.alloc (.cells #[.int .i64 0] 3)) 22 (.slice A l.length c)
  simp only [World.size_alloc] at bS
  have hB0 : Below w.heap.size w ((w.alloc (.cells #[.int .i64 0] 3)).alloc (.cells #[.slice A l.length c] 22)) := by (repeat (first | exact Below.refl _ _ | assumption | refine Below.alloc ?_ (by first | exact Nat.le_refl _ | exact Below.size (by assumption) | omega | (simp <;> omega)) _ | refine Below.setCell ?_ (by first | exact Nat.le_refl _ | exact Below.size (by assumption) | omega | (simp <;> omega)) _ | refine below_drewN ?_ _ | refine Below.drew ?_))
  have hsz : ((w.alloc (.cells #[.int .i64 0] 3)).alloc (.cells #[.slice A l.length c] 22)).heap.size = w.heap.size + 2 := by simp
  obtain ⟨W0, hW0⟩ : ∃ W0, (w.alloc (.cells #[.int .i64 0] 3)).alloc (.cells #[.slice A l.length c] 22) = W0 := ⟨_, rfl⟩
  rw [hW0] at bR bS hB0 hsz ⊢
  clear hW0
  refine wpIn_rangeFunc_ownH (F := Fence.wide) rfl h1 (gf := 52) (lb := #[.pointer (some ⟨w.heap.size + 1, 0, none⟩)]) rfl trivial (enters_of Try.func52 (by kernel_rfl) rfl)
    (sides_stops (5 - 1) (by omega) (w.heap.size + 1) w.heap.size A c l hm W0 (by omega) (by omega) bS.cell (HL.out.below hB0)) KpS.trans (KpS.book (by omega) (by omega)) (Below.refl _ _) (fun _ => rfl)
    (fun pre W => (Boxed W w.heap.size 3 (.int .i64 (areaP pre)) ∧ Boxed W (w.heap.size + 1) 22 (.slice A l.length c)) ∧ Below w.heap.size w W)
    (fun _ _ _ => False)
    (OwnFrom.and (OwnFrom.and (Own.from (boxed_own _ _ _) _) (Own.from (boxed_own _ _ _) _)) (ownFrom_below (Nat.le_refl _) (by omega)))
    (fun _ _ _ _ _ hs _ _ => hs)
    ⟨⟨bR, bS⟩, hB0⟩
    (fun x a' W => ∃ Ba Bb, Pt W Ba x.1 ∧ Pt W Bb x.2 ∧ a' = { tmps := #[.slice A l.length c, undef, .int .i64 0, .pointer (some ⟨w.heap.size, 0, none⟩), .pointer (some ⟨Ba, 0, none⟩), .pointer (some ⟨Bb, 0, none⟩), .slice A l.length c, .func (.func 52) #[] #[.pointer (some ⟨w.heap.size + 1, 0, none⟩)], xyv x.1, xyv x.2, undef, undef, undef, undef, undef, undef, undef, undef, undef, undef, undef, undef, undef, undef], defers := [] })
    (fun x a' _ X Y row hs hg hr => by obtain ⟨Ba, Bb, h1, h2, h3⟩ := hs; exact ⟨Ba, Bb, h1.kept hg (fun r e => (hr r e).2), h2.kept hg (fun r e => (hr r e).2), h3⟩)
    ?assign ?body ?done ?stop
  case assign =>
    rintro ll pre x W K ⟨⟨bR1, bS1⟩, hB1⟩ hK
    have hsW := hB1.size
    have hlt2 := bS1.lt
    gi_wp2
    refine hK _ _ (((KeepsOthers.alloc _ _).trans (KeepsOthers.alloc _ _)).from _) ⟨by (repeat (first | exact Below.refl _ _ | assumption | refine Below.alloc ?_ (by first | exact Nat.le_refl _ | exact Below.size (by assumption) | omega | (simp <;> omega)) _ | refine Below.setCell ?_ (by first | exact Nat.le_refl _ | exact Below.size (by assumption) | omega | (simp <;> omega)) _ | refine below_drewN ?_ _ | refine Below.drew ?_)), ?_⟩ ⟨⟨(bR1.alloc _).alloc _, (bS1.alloc _).alloc _⟩, by (repeat (first | exact Below.refl _ _ | assumption | refine Below.alloc ?_ (by first | exact Nat.le_refl _ | exact Below.size (by assumption) | omega | (simp <;> omega)) _ | refine Below.setCell ?_ (by first | exact Nat.le_refl _ | exact Below.size (by assumption) | omega | (simp <;> omega)) _ | refine below_drewN ?_ _ | refine Below.drew ?_))⟩ ⟨W.heap.size, W.heap.size + 1, ?_, ?_, rfl⟩
    · rw [World.cell?_alloc_lt _ _ _ (by simp; omega), World.cell?_alloc_lt _ _ _ (by exact hlt2)]
    · exact (Pt.new W x.1 _).alloc (by simp) _
    · have h := Pt.new (W.alloc (.cells #[.int .i64 x.1.X, .int .i64 x.1.Y] 29)) x.2 29
      rw [World.size_alloc] at h
      exact h
  case body =>
    rintro ll pre x a' W hl ⟨r, hr⟩ ⟨⟨bR1, bS1⟩, hB1⟩ ⟨Ba, Bb, ⟨hax, hay⟩, ⟨hbx, hby⟩, rfl⟩ hlt
    have cR := bR1.cell
    have fR := bR1.frozen
    gi_wp2
    refine ⟨(KeepsOthers.setCell _ _ _).from _, ⟨(Below.refl _ W).setCell (p := ⟨w.heap.size, 0, none⟩) (by simp) _, ?_⟩, ⟨by rw [areaP_snoc]; exact bR1.set _, bS1.other (by omega) _⟩, hB1.setCell (p := ⟨w.heap.size, 0, none⟩) (by simp) _⟩
    exact (bS1.other (by omega) _).cell.trans bS1.cell.symm
  case done =>
    rintro D ys W hD rfl ⟨⟨bR1, bS1⟩, hB1⟩ hK
    have cR := bR1.cell
    gi_wp2
    refine ⟨by simp, .inl ⟨_, _, rfl, run_takeDeferred hK, ?_⟩⟩
    exact ⟨_, results_tmp rfl _ _ _, Ret.mk (by rw [areaP_sides]; rfl) (hB1.trans (belowK_b (w := w) (Nat.le_refl _) W D _ _ (by omega) hK rfl rfl))⟩
  case stop =>
    rintro D cc pre W _ _ h _
    exact h.elim
end Go.Proofs.Ytcbphodkaiknmaa

namespace Go.Proofs.Ytcbphodkaiknmaa
open Go.RowKit Go.Shelf

theorem any_not_all (l : List XY) (f : XY → Bool) : (!l.any fun c => !f c) = l.all f := by
  induction l with
  | nil => rfl
  | cons a l ih => simp only [List.any_cons, List.all_cons, ← ih]; cases f a <;> simp

end Go.Proofs.Ytcbphodkaiknmaa

/- apart, in the program: the walk. -/
import Derived.Test.YtohlinbcbfgdfaaNW3
import Derived.LoopNIn
namespace Go.Proofs.Ytohlinbcbfgdfaa
open Go.RowKit Go.Shelf
attribute [local go_sem] Oper.semAt_some

/-- The boxes of apart: both lists, the gap, the result. -/
structure ApB (W : World) (s : Nat) (A A2 : Option Addr) (c c2 : Nat) (o p : List XY) (gap : Int) (r : Bool) : Prop where
  b0 : Boxed W s 39 (.slice A o.length c)
  b1 : Boxed W (s + 1) 39 (.slice A2 p.length c2)
  b2 : Boxed W (s + 2) 3 (.int .i64 gap)
  b3 : Boxed W (s + 3) 4 (.bool r)

theorem ApB.below {W W' : World} {s C : Nat} {A A2 : Option Addr} {c c2 : Nat} {o p : List XY} {gap : Int} {r : Bool} (h : ApB W s A A2 c c2 o p gap r) (hb : Below C W W') (hC : s + 3 < C) : ApB W' s A A2 c c2 o p gap r :=
  ⟨boxed_below h.b0 hb (by omega), boxed_below h.b1 hb (by omega), boxed_below h.b2 hb (by omega), boxed_below h.b3 hb (by omega)⟩
theorem ApB.kept {W W' : World} {s : Nat} {A A2 : Option Addr} {c c2 : Nat} {o p : List XY} {gap : Int} {r : Bool} {row : Option Nat} (h : ApB W s A A2 c c2 o p gap r) (hg : W.grownBy W' row) (hr : ∀ r, row = some r → ∃ o : Obj, W.heap[r]? = some o ∧ o.isCells = false) : ApB W' s A A2 c c2 o p gap r :=
  ⟨boxed_own _ _ (fun (_ : Unit) => _) () W W' row h.b0 hg hr, boxed_own _ _ (fun (_ : Unit) => _) () W W' row h.b1 hg hr, boxed_own _ _ (fun (_ : Unit) => _) () W W' row h.b2 hg hr, boxed_own _ _ (fun (_ : Unit) => _) () W W' row h.b3 hg hr⟩
theorem ApB.alloc {W : World} {s : Nat} {A A2 : Option Addr} {c c2 : Nat} {o p : List XY} {gap : Int} {r : Bool} (h : ApB W s A A2 c c2 o p gap r) (x : Obj) : ApB (W.alloc x) s A A2 c c2 o p gap r := ⟨h.b0.alloc x, h.b1.alloc x, h.b2.alloc x, h.b3.alloc x⟩
theorem ApB.set3 {W : World} {s : Nat} {A A2 : Option Addr} {c c2 : Nat} {o p : List XY} {gap : Int} {r : Bool} (h : ApB W s A A2 c c2 o p gap r) (q : Bool) : ApB (W.setCell ⟨s + 3, 0, none⟩ (.bool q)) s A A2 c c2 o p gap q :=
  ⟨h.b0.other (by omega) _, h.b1.other (by omega) _, h.b2.other (by omega) _, h.b3.set _⟩
theorem ApB.new (w : World) (A A2 : Option Addr) (c c2 : Nat) (o p : List XY) (gap : Int) : ApB ((((w.alloc (.cells #[.slice A o.length c] 39)).alloc (.cells #[.slice A2 p.length c2] 39)).alloc (.cells #[.int .i64 gap] 3)).alloc (.cells #[.bool false] 4)) w.heap.size A A2 c c2 o p gap false := by
  refine ⟨(((Boxed.new _ _ _).alloc _).alloc _).alloc _, ?_, ?_, ?_⟩
  · have h := (Boxed.new (w.alloc (.cells #[.slice A o.length c] 39)) 39 (.slice A2 p.length c2)).alloc (.cells #[.int .i64 gap] 3)
    simp only [World.size_alloc] at h
    exact h.alloc _
  · have h := (Boxed.new ((w.alloc (.cells #[.slice A o.length c] 39)).alloc (.cells #[.slice A2 p.length c2] 39)) 3 (.int .i64 gap)).alloc (.cells #[.bool false] 4)
    simp only [World.size_alloc] at h
    exact h
  · have h := Boxed.new (((w.alloc (.cells #[.slice A o.length c] 39)).alloc (.cells #[.slice A2 p.length c2] 39)).alloc (.cells #[.int .i64 gap] 3)) 4 (.bool false)
    simp only [World.size_alloc] at h
    exact h
/-- The two lists, in a block. -/
def Two (W : World) (L : Nat) (u v : Value) : Prop := W.cell? ⟨L, 0, none⟩ = some u ∧ W.cell? ⟨L, 1, none⟩ = some v
theorem Two.kept {W W' : World} {L : Nat} {u v : Value} {row : Option Nat} (h : Two W L u v) (hg : W.grownBy W' row) (hr : ∀ r, row = some r → ∃ o : Obj, W.heap[r]? = some o ∧ o.isCells = false) : Two W' L u v :=
  ⟨cell_kept h.1 hg hr, cell_kept h.2 hg hr⟩
theorem Two.below {W W' : World} {L C : Nat} {u v : Value} (h : Two W L u v) (hb : Below C W W') (hC : L < C) : Two W' L u v := ⟨(hb.cell (p := ⟨L, 0, none⟩) hC).trans h.1, (hb.cell (p := ⟨L, 1, none⟩) hC).trans h.2⟩

theorem any_hit {n k : Nat} {f : Nat → Bool} {pre0 : List Nat} {x : Nat} (hk : k < n) (hp : List.range (k + 1) = pre0 ++ [x]) (hx : f x = true) : (List.range n).any f = true := by
  rw [List.range_succ] at hp
  obtain ⟨_, hp1⟩ := List.append_inj' hp rfl
  obtain rfl : k = x := by simpa using hp1
  exact List.any_eq_true.2 ⟨k, List.mem_range.2 hk, hx⟩
theorem any_none {n : Nat} {f : Nat → Bool} (h : ∀ x ∈ List.range n, f x = false) : (List.range n).any f = false := by
  rw [List.any_eq_false]
  intro x hx
  rw [h x hx]
  exact Bool.false_ne_true
theorem keepsFrom_cell {W : World} (D : Nat) {x : Addr} {v : Value} (h : W.heap[D]? = some (.deferred (some []))) : (W.setCell x v).heap[D]? = some (.deferred (some [])) := (KeepsOthers.setCell W x v).same D _ h rfl

set_option maxRecDepth 100000 in
set_option maxHeartbeats 4000000 in
theorem apart_first (gap : Int) (A A2 : Option Addr) (c c2 : Nat) (o p : List XY) (w : World) (h0 : 0 < o.length) (h02 : 0 < p.length) (hm : o.length ≤ 1000000) (hm2 : p.length ≤ 1000000) (hl : Rd w w.heap.size A o) (hl2 : Rd w w.heap.size A2 p)
    (hs : splitB o p 1 0 gap = true ∨ (splitB o p 1 0 gap = false ∧ splitB o p 0 1 gap = true)) :
    Calls Try.prog 44 #[.slice A o.length c, .slice A2 p.length c2, .int .i64 gap] w (Ret (.bool true) w) := by
  have HL := Lib.hid hl; clear hl
  have HL2 := Lib.hid hl2; clear hl2
  have ab0 := ApB.new w A A2 c c2 o p gap
  have hB0 : Below w.heap.size w ((((w.alloc (.cells #[.slice A o.length c] 39)).alloc (.cells #[.slice A2 p.length c2] 39)).alloc (.cells #[.int .i64 gap] 3)).alloc (.cells #[.bool false] 4)) := by (repeat (first | exact Below.refl _ _ | assumption | refine Below.alloc ?_ (by first | exact Nat.le_refl _ | exact Below.size (by assumption) | omega | (simp <;> omega)) _ | refine Below.setCell ?_ (by first | exact Nat.le_refl _ | exact Below.size (by assumption) | omega | (simp <;> omega)) _ | refine below_drewN ?_ _ | refine Below.drew ?_))
  have hz0 : ((((w.alloc (.cells #[.slice A o.length c] 39)).alloc (.cells #[.slice A2 p.length c2] 39)).alloc (.cells #[.int .i64 gap] 3)).alloc (.cells #[.bool false] 4)).heap.size = w.heap.size + 4 := by simp
  have HAB := Lib.hid ab0; clear ab0
  have HB0 := Lib.hid hB0; clear hB0
  have HZ := Lib.hid hz0; clear hz0
  rcases hs with hs | ⟨hs1, hs⟩
  · have HS := Lib.hid hs; clear hs
    go_enter Try.func44, Try.ntmps44
    go_wp2_with fail
    refine (split_any 1 0 gap A A2 c c2 o p _ h0 h02 hm hm2 (HL.out.now HB0.out) (HL2.out.now HB0.out)).mono ?_
    rintro e w1 ⟨rfl, hb1⟩
    rw [HS.out]
    have ab1 := HAB.out.below hb1 (by rw [HZ.out]; omega)
    have hB1 := HB0.out.trans (hb1.mono HB0.out.size)
    clear hb1
    have k3 := ab1.b3.cell
    have l3 := ab1.b3.frozen
    go_wp2
    have d3 := (ab1.set3 true).b3.cell
    exact bodyPost_ret (v := .bool true) (by simp [results, Try.f44, go_sem, d3]) rfl (Ret.mk rfl (hB1.setCell (p := ⟨w.heap.size + 3, 0, none⟩) (by simp) _))
  · have HS1 := Lib.hid hs1; clear hs1
    have HS := Lib.hid hs; clear hs
    go_enter Try.func44, Try.ntmps44
    go_wp2_with fail
    refine (split_any 1 0 gap A A2 c c2 o p _ h0 h02 hm hm2 (HL.out.now HB0.out) (HL2.out.now HB0.out)).mono ?_
    rintro e w1 ⟨rfl, hb1⟩
    rw [HS1.out]
    have ab1 := HAB.out.below hb1 (by rw [HZ.out]; omega)
    have hB1 := HB0.out.trans (hb1.mono HB0.out.size)
    clear hb1
    have k0 := ab1.b0.cell
    have k1 := ab1.b1.cell
    have k2 := ab1.b2.cell
    have hz1 := ab1.b3.lt
    go_wp2_with fail
    refine (split_any 0 1 gap A A2 c c2 o p _ h0 h02 hm hm2 (HL.out.now hB1) (HL2.out.now hB1)).mono ?_
    rintro e w2 ⟨rfl, hb2⟩
    rw [HS.out]
    have ab2 := ab1.below hb2 hz1
    have hB2 := hB1.trans (hb2.mono hB1.size)
    clear hb2 k0 k1 k2
    have k3 := ab2.b3.cell
    have l3 := ab2.b3.frozen
    go_wp2
    have d3 := (ab2.set3 true).b3.cell
    exact bodyPost_ret (v := .bool true) (by simp [results, Try.f44, go_sem, d3]) rfl (Ret.mk rfl (hB2.setCell (p := ⟨w.heap.size + 3, 0, none⟩) (by simp) _))

set_option maxRecDepth 100000 in
set_option maxHeartbeats 8000000 in
theorem apart_rest (gap : Int) (A A2 : Option Addr) (c c2 : Nat) (o p : List XY) (w : World) (h0 : 0 < o.length) (h02 : 0 < p.length) (hm : o.length ≤ 1000000) (hm2 : p.length ≤ 1000000) (hl : Rd w w.heap.size A o) (hl2 : Rd w w.heap.size A2 p)
    (hs1 : splitB o p 1 0 gap = false) (hs : splitB o p 0 1 gap = false) :
    Calls Try.prog 44 #[.slice A o.length c, .slice A2 p.length c2, .int .i64 gap] w (Ret (.bool (apartB o p gap)) w) := by
  have HL := Lib.hid hl; clear hl
  have HL2 := Lib.hid hl2; clear hl2
  have hap : apartB o p gap = ((List.range o.length).any (fun i => splitB o p (dU o i) (dV o i) gap) || (List.range p.length).any (fun i => splitB o p (dU p i) (dV p i) gap)) := by
    unfold apartB; rw [hs1, hs]; rfl
  have HAP := Lib.hid hap; clear hap
  have ab0 := ApB.new w A A2 c c2 o p gap
  have hB0 : Below w.heap.size w ((((w.alloc (.cells #[.slice A o.length c] 39)).alloc (.cells #[.slice A2 p.length c2] 39)).alloc (.cells #[.int .i64 gap] 3)).alloc (.cells #[.bool false] 4)) := by (repeat (first | exact Below.refl _ _ | assumption | refine Below.alloc ?_ (by first | exact Nat.le_refl _ | exact Below.size (by assumption) | omega | (simp <;> omega)) _ | refine Below.setCell ?_ (by first | exact Nat.le_refl _ | exact Below.size (by assumption) | omega | (simp <;> omega)) _ | refine below_drewN ?_ _ | refine Below.drew ?_))
  have hz0 : ((((w.alloc (.cells #[.slice A o.length c] 39)).alloc (.cells #[.slice A2 p.length c2] 39)).alloc (.cells #[.int .i64 gap] 3)).alloc (.cells #[.bool false] 4)).heap.size = w.heap.size + 4 := by simp
  have HAB := Lib.hid ab0; clear ab0
  have HB0 := Lib.hid hB0; clear hB0
  have HZ := Lib.hid hz0; clear hz0
  have HS1 := Lib.hid hs1; clear hs1
  have HS := Lib.hid hs; clear hs
  refine (callsIn_wide (n := 5)).1 ?_
  have h1 : 1 ≤ 5 := by omega
  refine callsIn_of_wp_marks Try.func44 rfl trivial ?_ rfl
  simp only [Try.ntmps44, List.size_toArray, List.length_cons, List.length_nil, Nat.reduceAdd, Nat.reduceSub, Array.replicate_succ, Array.replicate_zero, List.push_toArray, List.append_toArray, List.nil_append, List.cons_append]
  gi_wp2_with fail
  refine ⟨trivial, ?_⟩
  refine (callsIn_wide.2 (split_any 1 0 gap A A2 c c2 o p _ h0 h02 hm hm2 (HL.out.now HB0.out) (HL2.out.now HB0.out))).mono ?_
  rintro e w1 ⟨rfl, hb1⟩
  rw [HS1.out]
  have ab1 := HAB.out.below hb1 (by rw [HZ.out]; omega)
  have hB1 := HB0.out.trans (hb1.mono HB0.out.size)
  have hs1 := hb1.size
  rw [HZ.out] at hs1
  clear hb1
  have k0 := ab1.b0.cell
  have k1 := ab1.b1.cell
  have k2 := ab1.b2.cell
  have hz1 := ab1.b3.lt
  gi_wp2_with fail
  refine ⟨trivial, ?_⟩
  refine (callsIn_wide.2 (split_any 0 1 gap A A2 c c2 o p _ h0 h02 hm hm2 (HL.out.now hB1) (HL2.out.now hB1))).mono ?_
  rintro e w2 ⟨rfl, hb2⟩
  rw [HS.out]
  have ab2 := ab1.below hb2 hz1
  have hB2 := hB1.trans (hb2.mono hB1.size)
  have hs2 := hb2.size
  clear hb2 k0 k1 k2 ab1 hz1
  have k0 := ab2.b0.cell
  have k1 := ab2.b1.cell
  have k2 := ab2.b2.cell
  gi_wp2
  refine wpIn_loop_rounds 3 ?_
  rw [roundsIn_succ]
  gi_wp2_with fail
  refine ⟨trivial, ?_⟩
  refine (callsIn_wide.2 (dirs_any _ _ _ _)).mono ?_
  rintro e w' ⟨rfl, rfl⟩
  gi_wp2
  have tw0 : Two (w2.alloc (.cells #[.slice A o.length c, .slice A2 p.length c2] 39)) w2.heap.size (.slice A o.length c) (.slice A2 p.length c2) := ⟨by simp, by simp⟩
  have ab3 := (ab2.alloc (.cells #[.slice A o.length c, .slice A2 p.length c2] 39)).alloc (.cells #[.slice A o.length c] 39)
  have tw1 := tw0.below (C := w2.heap.size + 1) (W' := (w2.alloc (.cells #[.slice A o.length c, .slice A2 p.length c2] 39)).alloc (.cells #[.slice A o.length c] 39)) (Below.alloc (Below.refl _ _) (by simp) _) (by omega)
  have bS := Boxed.new (w2.alloc (.cells #[.slice A o.length c, .slice A2 p.length c2] 39)) 39 (.slice A o.length c)
  rw [World.size_alloc] at bS
  have hB3 : Below w.heap.size w ((w2.alloc (.cells #[.slice A o.length c, .slice A2 p.length c2] 39)).alloc (.cells #[.slice A o.length c] 39)) := by have := hB2.size; (repeat (first | exact Below.refl _ _ | assumption | refine Below.alloc ?_ (by first | exact Nat.le_refl _ | exact Below.size (by assumption) | omega | (simp <;> omega)) _ | refine Below.setCell ?_ (by first | exact Nat.le_refl _ | exact Below.size (by assumption) | omega | (simp <;> omega)) _ | refine below_drewN ?_ _ | refine Below.drew ?_))
  have hz3 : ((w2.alloc (.cells #[.slice A o.length c, .slice A2 p.length c2] 39)).alloc (.cells #[.slice A o.length c] 39)).heap.size = w2.heap.size + 2 := by simp
  obtain ⟨W0, hW0⟩ : ∃ W0, (w2.alloc (.cells #[.slice A o.length c, .slice A2 p.length c2] 39)).alloc (.cells #[.slice A o.length c] 39) = W0 := ⟨_, rfl⟩
  rw [hW0] at ab3 tw1 bS hB3 hz3 ⊢
  clear hW0 tw0
  refine wpIn_rangeFunc_ownH (F := Fence.wide) rfl h1 (gf := 105) (lb := #[.pointer (some ⟨w2.heap.size + 1, 0, none⟩)]) rfl trivial (enters_of Try.func105 (by kernel_rfl) rfl)
    (dirs_stops (5 - 1) (by omega) (w2.heap.size + 1) w.heap.size A c o hm W0 (by omega) (by have := hB3.size; omega) bS.cell (HL.out.below hB3)) KpS.trans (KpS.book (by have := hB3.size; omega) (by omega)) (Below.refl _ _) (fun _ => rfl)
    (fun pre W => (∀ x ∈ pre, splitB o p (dU o x) (dV o x) gap = false) ∧ ((ApB W w.heap.size A A2 c c2 o p gap false ∧ Two W w2.heap.size (.slice A o.length c) (.slice A2 p.length c2)) ∧ Boxed W (w2.heap.size + 1) 39 (.slice A o.length c)) ∧ Below w.heap.size w W)
    (fun cc pre W => (cc = .ret ∧ ∃ pre0 x, pre = pre0 ++ [x] ∧ splitB o p (dU o x) (dV o x) gap = true) ∧ ApB W w.heap.size A A2 c c2 o p gap true ∧ Below w.heap.size w W)
    (OwnFrom.and (ownFrom_pure _ _) (OwnFrom.and (OwnFrom.and (OwnFrom.and (Own.from (fun _ _ _ _ hs hg hr => hs.kept hg hr) _) (Own.from (fun _ _ _ _ hs hg hr => hs.kept hg hr) _)) (Own.from (boxed_own _ _ _) _)) (ownFrom_below (Nat.le_refl _) (by have := hB3.size; omega))))
    (fun cc => OwnFrom.and (ownFrom_pure _ _) (OwnFrom.and (Own.from (fun _ _ _ _ hs hg hr => hs.kept hg hr) _) (ownFrom_below (Nat.le_refl _) (by have := hB3.size; omega))))
    ⟨by simp, ⟨⟨ab3, tw1⟩, bS⟩, hB3⟩
    (fun x a' W => a' = { tmps := #[.slice A o.length c, .slice A2 p.length c2, .int .i64 gap, .pointer (some ⟨w.heap.size, 0, none⟩), .pointer (some ⟨w.heap.size + 1, 0, none⟩), .pointer (some ⟨w.heap.size + 1 + 1, 0, none⟩), .pointer (some ⟨w.heap.size + 1 + 1 + 1, 0, none⟩), undef, .slice A o.length c, .int .i64 (dU o x), .int .i64 (dV o x), .slice A o.length c, .slice A2 p.length c2, .int .i64 gap, .bool false, .bool false, .slice A o.length c, .slice A2 p.length c2, .int .i64 gap, .bool false, .bool false, .slice A o.length c, .slice A2 p.length c2, .slice (some ⟨w2.heap.size, 0, none⟩) 2 2, .int .i64 2, .int .i64 0, .bool true, .pointer (some ⟨w2.heap.size, 0, none⟩), .slice A o.length c, .slice A o.length c, .func (.func 105) #[] #[.pointer (some ⟨w2.heap.size + 1, 0, none⟩)], .int .i64 (dU o x), .int .i64 (dV o x), undef, undef, undef, undef, undef, undef, undef], defers := [] })
    (fun x a' _ X Y row hs hg hr => hs)
    ?assign ?body ?done ?stop
  case assign =>
    rintro ll pre x W K ⟨hno, ⟨⟨ab, tw⟩, bS1⟩, hB⟩ hK
    gi_wp2
    exact hK _ _ (keepsFrom_below _ (Below.refl _ _)) ⟨Below.refl _ _, rfl⟩ ⟨hno, ⟨⟨ab, tw⟩, bS1⟩, hB⟩ rfl
  case body =>
    rintro ll pre x a' W hl ⟨r, hr⟩ ⟨hno, ⟨⟨ab, tw⟩, bS1⟩, hB⟩ rfl hlt
    have HNO := Lib.hid hno; clear hno
    have k0 := ab.b0.cell
    have k1 := ab.b1.cell
    have k2 := ab.b2.cell
    have hz := ab.b3.lt
    have hzb := bS1.lt
    have hzt : w2.heap.size < W.heap.size := World.block_lt_of_cell? W ⟨w2.heap.size, 0, none⟩ tw.1
    have hsW := hB.size
    cases hsp : splitB o p (dU o x) (dV o x) gap
    · have HSP := Lib.hid hsp; clear hsp
      gi_wp2_with (refine ⟨trivial, ?_⟩; gi_at_call 78; refine (CallsIn.inRound ll (callsIn_wide.2 (split_any (dU o x) (dV o x) gap A A2 c c2 o p _ h0 h02 hm hm2 (HL.out.now hB) (HL2.out.now hB)))).mono ?_; rintro e w3 ⟨rfl, hb3⟩; rw [HSP.out])
      refine ⟨keepsFrom_below _ hb3, ⟨hb3.mono hsW, hb3.cell (p := ⟨w2.heap.size + 1, 0, none⟩) hzb⟩, fun y hy => ?_, ⟨⟨ab.below hb3 hz, tw.below hb3 hzt⟩, boxed_below bS1 hb3 hzb⟩, hB.trans (hb3.mono hsW)⟩
      rcases List.mem_append.1 hy with h | h
      · exact HNO.out y h
      · simp at h; subst h; exact HSP.out
    · have HSP := Lib.hid hsp; clear hsp
      gi_wp2_with (refine ⟨trivial, ?_⟩; gi_at_call 78; refine (CallsIn.inRound ll (callsIn_wide.2 (split_any (dU o x) (dV o x) gap A A2 c c2 o p _ h0 h02 hm hm2 (HL.out.now hB) (HL2.out.now hB)))).mono ?_; rintro e w3 ⟨rfl, hb3⟩; rw [HSP.out]; have ab3b := ab.below hb3 hz; have c3 := ab3b.b3.cell; have f3 := ab3b.b3.frozen)
      exact ⟨(keepsFrom_below _ hb3).trans ((KeepsOthers.setCell _ _ _).from _), ⟨rfl, pre, x, rfl, HSP.out⟩, ab3b.set3 true, (hB.trans (hb3.mono hsW)).setCell (p := ⟨w.heap.size + 3, 0, none⟩) (by simp) _⟩
  case stop =>
    rintro D cc pre W hD ⟨k, hk, rfl⟩ ⟨⟨rfl, pre0, x, hp0, hx⟩, ab, hB1⟩ hK
    gi_wp2
    refine ⟨by simp, .inl ⟨_, _, rfl, run_takeDeferred hK, ?_⟩⟩
    have hc5 := cell_kept ab.b3.cell (grownBy_putObj' _ D (.deferred none)) (fun r e => by cases e; exact ⟨_, hK, rfl⟩)
    refine ⟨.bool true, by simp [results, Try.f44, go_sem, hc5], Ret.mk ?_ (hB1.trans (belowK_b (w := w) (Nat.le_refl _) W D _ _ (by have := hB3.size; omega) hK rfl rfl))⟩
    rw [HAP.out, any_hit hk hp0 hx]
    rfl
  case done =>
    rintro D1 ys Wd hD1w rfl ⟨hno, ⟨⟨abd, twd⟩, _⟩, hBd⟩ hKd
    have hD1 : D1 < Wd.heap.size := (Array.getElem?_eq_some_iff.1 hKd).1
    have hD1w : w.heap.size ≤ D1 := by have := hB3.size; omega
    have hn1 := any_none hno
    have HN1 := Lib.hid hn1; clear hn1 hno
    have k0 := twd.1
    have k1 := twd.2
    have hzt : w2.heap.size < Wd.heap.size := World.block_lt_of_cell? Wd ⟨w2.heap.size, 0, none⟩ twd.1
    gi_wp2
    rw [roundsIn_succ]
    gi_wp2_with fail
    refine ⟨trivial, ?_⟩
    refine (callsIn_wide.2 (dirs_any _ _ _ _)).mono ?_
    rintro e w' ⟨rfl, rfl⟩
    gi_wp2
    have abE := abd.alloc (.cells #[.slice A2 p.length c2] 39)
    have twE := twd.below (C := Wd.heap.size) (W' := Wd.alloc (.cells #[.slice A2 p.length c2] 39)) (by (repeat (first | exact Below.refl _ _ | assumption | refine Below.alloc ?_ (by first | exact Nat.le_refl _ | exact Below.size (by assumption) | omega | (simp <;> omega)) _ | refine Below.setCell ?_ (by first | exact Nat.le_refl _ | exact Below.size (by assumption) | omega | (simp <;> omega)) _ | refine below_drewN ?_ _ | refine Below.drew ?_))) (by omega)
    have bS := Boxed.new Wd 39 (.slice A2 p.length c2)
    have hBE : Below w.heap.size w (Wd.alloc (.cells #[.slice A2 p.length c2] 39)) := by have := hBd.size; (repeat (first | exact Below.refl _ _ | assumption | refine Below.alloc ?_ (by first | exact Nat.le_refl _ | exact Below.size (by assumption) | omega | (simp <;> omega)) _ | refine Below.setCell ?_ (by first | exact Nat.le_refl _ | exact Below.size (by assumption) | omega | (simp <;> omega)) _ | refine below_drewN ?_ _ | refine Below.drew ?_))
    have hzE : (Wd.alloc (.cells #[.slice A2 p.length c2] 39)).heap.size = Wd.heap.size + 1 := by simp
    have hKE : (Wd.alloc (.cells #[.slice A2 p.length c2] 39)).heap[D1]? = some (.deferred (some [])) := (((Below.refl Wd.heap.size Wd).alloc (Nat.le_refl _) _).block D1 hD1).trans hKd
    obtain ⟨W1, hW1⟩ : ∃ W1, Wd.alloc (.cells #[.slice A2 p.length c2] 39) = W1 := ⟨_, rfl⟩
    rw [hW1] at abE twE bS hBE hzE hKE ⊢
    clear hW1
    refine wpIn_rangeFunc_ownH (F := Fence.wide) rfl h1 (gf := 105) (lb := #[.pointer (some ⟨Wd.heap.size, 0, none⟩)]) rfl trivial (enters_of Try.func105 (by kernel_rfl) rfl)
      (dirs_stops (5 - 1) (by omega) (Wd.heap.size) w.heap.size A2 c2 p hm2 W1 (by omega) (by have := hBE.size; omega) bS.cell (HL2.out.below hBE)) KpS.trans (KpS.book (by have := hBE.size; omega) (by omega)) (Below.refl _ _) (fun _ => rfl)
      (fun pre W => (∀ x ∈ pre, splitB o p (dU p x) (dV p x) gap = false) ∧ ((ApB W w.heap.size A A2 c c2 o p gap false ∧ W.heap[D1]? = some (.deferred (some []))) ∧ Boxed W (Wd.heap.size) 39 (.slice A2 p.length c2)) ∧ Below w.heap.size w W)
      (fun cc pre W => (cc = .ret ∧ ∃ pre0 x, pre = pre0 ++ [x] ∧ splitB o p (dU p x) (dV p x) gap = true) ∧ (ApB W w.heap.size A A2 c c2 o p gap true ∧ W.heap[D1]? = some (.deferred (some []))) ∧ Below w.heap.size w W)
      (OwnFrom.and (ownFrom_pure _ _) (OwnFrom.and (OwnFrom.and (OwnFrom.and (Own.from (fun _ _ _ _ hs hg hr => hs.kept hg hr) _) (fun _ _ _ _ hs hg hr => (hg.block D1 (Array.getElem?_eq_some_iff.1 hs).1 (fun e => by have := (hr _ e.symm).1; omega)).trans hs)) (Own.from (boxed_own _ _ _) _)) (ownFrom_below (Nat.le_refl _) (by have := hBE.size; omega))))
      (fun cc => OwnFrom.and (ownFrom_pure _ _) (OwnFrom.and (OwnFrom.and (Own.from (fun _ _ _ _ hs hg hr => hs.kept hg hr) _) (fun _ _ _ _ hs hg hr => (hg.block D1 (Array.getElem?_eq_some_iff.1 hs).1 (fun e => by have := (hr _ e.symm).1; omega)).trans hs)) (ownFrom_below (Nat.le_refl _) (by have := hBE.size; omega))))
      ⟨by simp, ⟨⟨abE, hKE⟩, bS⟩, hBE⟩
      (fun x a' W => a' = { tmps := #[.slice A o.length c, .slice A2 p.length c2, .int .i64 gap, .pointer (some ⟨w.heap.size, 0, none⟩), .pointer (some ⟨w.heap.size + 1, 0, none⟩), .pointer (some ⟨w.heap.size + 1 + 1, 0, none⟩), .pointer (some ⟨w.heap.size + 1 + 1 + 1, 0, none⟩), undef, .slice A2 p.length c2, .int .i64 (dU p x), .int .i64 (dV p x), .slice A o.length c, .slice A2 p.length c2, .int .i64 gap, .bool false, .bool false, .slice A o.length c, .slice A2 p.length c2, .int .i64 gap, .bool false, .bool false, .slice A o.length c, .slice A2 p.length c2, .slice (some ⟨w2.heap.size, 0, none⟩) 2 2, .int .i64 2, .int .i64 1, .bool true, .pointer (some ⟨w2.heap.size, 1, none⟩), .slice A2 p.length c2, .slice A2 p.length c2, .func (.func 105) #[] #[.pointer (some ⟨Wd.heap.size, 0, none⟩)], .int .i64 (dU p x), .int .i64 (dV p x), undef, undef, undef, undef, undef, undef, .int .i64 1], defers := [] })
      (fun x a' _ X Y row hs hg hr => hs)
      ?assign ?body ?done ?stop
    case assign =>
      rintro ll pre x W K ⟨hno, ⟨⟨ab, hk1⟩, bS1⟩, hB⟩ hK
      gi_wp2
      exact hK _ _ (keepsFrom_below _ (Below.refl _ _)) ⟨Below.refl _ _, rfl⟩ ⟨hno, ⟨⟨ab, hk1⟩, bS1⟩, hB⟩ rfl
    case body =>
      rintro ll pre x a' W hl ⟨r, hr⟩ ⟨hno, ⟨⟨ab, hk1⟩, bS1⟩, hB⟩ rfl hlt
      have HNO := Lib.hid hno; clear hno
      have k0 := ab.b0.cell
      have k1 := ab.b1.cell
      have k2 := ab.b2.cell
      have hz := ab.b3.lt
      have hzb := bS1.lt
      have hzd : D1 < W.heap.size := (Array.getElem?_eq_some_iff.1 hk1).1
      have hsW := hB.size
      cases hsp : splitB o p (dU p x) (dV p x) gap
      · have HSP := Lib.hid hsp; clear hsp
        gi_wp2_with (refine ⟨trivial, ?_⟩; gi_at_call 78; refine (CallsIn.inRound ll (callsIn_wide.2 (split_any (dU p x) (dV p x) gap A A2 c c2 o p _ h0 h02 hm hm2 (HL.out.now hB) (HL2.out.now hB)))).mono ?_; rintro e w3 ⟨rfl, hb3⟩; rw [HSP.out])
        refine ⟨keepsFrom_below _ hb3, ⟨hb3.mono hsW, hb3.cell (p := ⟨Wd.heap.size, 0, none⟩) hzb⟩, fun y hy => ?_, ⟨⟨ab.below hb3 hz, (hb3.block D1 hzd).trans hk1⟩, boxed_below bS1 hb3 hzb⟩, hB.trans (hb3.mono hsW)⟩
        rcases List.mem_append.1 hy with h | h
        · exact HNO.out y h
        · simp at h; subst h; exact HSP.out
      · have HSP := Lib.hid hsp; clear hsp
        gi_wp2_with (refine ⟨trivial, ?_⟩; gi_at_call 78; refine (CallsIn.inRound ll (callsIn_wide.2 (split_any (dU p x) (dV p x) gap A A2 c c2 o p _ h0 h02 hm hm2 (HL.out.now hB) (HL2.out.now hB)))).mono ?_; rintro e w3 ⟨rfl, hb3⟩; rw [HSP.out]; have ab3b := ab.below hb3 hz; have c3 := ab3b.b3.cell; have f3 := ab3b.b3.frozen)
        refine ⟨(keepsFrom_below _ hb3).trans ((KeepsOthers.setCell _ _ _).from _), ⟨rfl, pre, x, rfl, HSP.out⟩, ⟨ab3b.set3 true, ?_⟩, (hB.trans (hb3.mono hsW)).setCell (p := ⟨w.heap.size + 3, 0, none⟩) (by simp) _⟩
        exact (keepsFrom_cell D1 (hb3.block D1 hzd |>.trans hk1))
    case stop =>
      rintro D cc pre W hD ⟨k, hk, rfl⟩ ⟨⟨rfl, pre0, x, hp0, hx⟩, ⟨ab, hk1⟩, hB1⟩ hK
      gi_wp2
      refine ⟨by simp, .inl ⟨_, _, rfl, run_takeDeferred hK, ?_⟩⟩
      have hne : D1 ≠ D := by omega
      have hk2 := (World.putObj_heap_other (w := W) (o := .deferred none) hne).trans hk1
      refine ⟨by simp, .inl ⟨_, _, rfl, run_takeDeferred hk2, ?_⟩⟩
      have hc4 := cell_kept ab.b3.cell (grownBy_putObj' _ D (.deferred none)) (fun r e => by cases e; exact ⟨_, hK, rfl⟩)
      have hc5 := cell_kept hc4 (grownBy_putObj' _ D1 (.deferred none)) (fun r e => by cases e; exact ⟨_, hk2, rfl⟩)
      refine ⟨.bool true, by simp [results, Try.f44, go_sem, hc5], Ret.mk ?_ ((hB1.trans (belowK_b (w := w) (Nat.le_refl _) W D _ _ (by have := hBE.size; omega) hK rfl rfl)).trans (belowK_b (w := w) (Nat.le_refl _) _ D1 _ _ hD1w hk2 rfl rfl))⟩
      rw [HAP.out, any_hit hk hp0 hx, Bool.or_true]
    case done =>
      rintro D ys W hD rfl ⟨hno, ⟨⟨ab, hk1⟩, _⟩, hB1⟩ hK
      have hn2 := any_none hno
      have HN2 := Lib.hid hn2; clear hn2 hno
      have cR := ab.b3.cell
      have fR := ab.b3.frozen
      have hDz : D < W.heap.size := (Array.getElem?_eq_some_iff.1 hK).1
      gi_wp2
      rw [roundsIn_succ]
      gi_wp2
      have ab5 := ab.set3 false
      have hK5 := (KeepsOthers.setCell W ⟨w.heap.size + 3, 0, none⟩ (.bool false)).same D _ hK rfl
      have hk5 := (KeepsOthers.setCell W ⟨w.heap.size + 3, 0, none⟩ (.bool false)).same D1 _ hk1 rfl
      have hB5 : Below w.heap.size w (W.setCell ⟨w.heap.size + 3, 0, none⟩ (.bool false)) := hB1.setCell (p := ⟨w.heap.size + 3, 0, none⟩) (by simp) _
      refine ⟨by simp, .inl ⟨_, _, rfl, run_takeDeferred hK5, ?_⟩⟩
      have hne : D1 ≠ D := by omega
      have hk2 := (World.putObj_heap_other (w := W.setCell ⟨w.heap.size + 3, 0, none⟩ (.bool false)) (o := .deferred none) hne).trans hk5
      refine ⟨by simp, .inl ⟨_, _, rfl, run_takeDeferred hk2, ?_⟩⟩
      have hc4 := cell_kept ab5.b3.cell (grownBy_putObj' _ D (.deferred none)) (fun r e => by cases e; exact ⟨_, hK5, rfl⟩)
      have hc5 := cell_kept hc4 (grownBy_putObj' _ D1 (.deferred none)) (fun r e => by cases e; exact ⟨_, hk2, rfl⟩)
      refine ⟨.bool false, by simp [results, Try.f44, go_sem, hc5], Ret.mk ?_ ((hB5.trans (belowK_b (w := w) (Nat.le_refl _) _ D _ _ (by have := hBE.size; omega) hK5 rfl rfl)).trans (belowK_b (w := w) (Nat.le_refl _) _ D1 _ _ hD1w hk2 rfl rfl))⟩
      rw [HAP.out, HN1.out, HN2.out]
      rfl

theorem apart_any (gap : Int) (A A2 : Option Addr) (c c2 : Nat) (o p : List XY) (w : World) (h0 : 0 < o.length) (h02 : 0 < p.length) (hm : o.length ≤ 1000000) (hm2 : p.length ≤ 1000000) (hl : Rd w w.heap.size A o) (hl2 : Rd w w.heap.size A2 p) :
    Calls Try.prog 44 #[.slice A o.length c, .slice A2 p.length c2, .int .i64 gap] w (Ret (.bool (apartB o p gap)) w) := by
  cases h1 : splitB o p 1 0 gap
  · cases h2 : splitB o p 0 1 gap
    · exact apart_rest gap A A2 c c2 o p w h0 h02 hm hm2 hl hl2 h1 h2
    · have e : apartB o p gap = true := by unfold apartB; rw [h1, h2]; rfl
      rw [e]
      exact apart_first gap A A2 c c2 o p w h0 h02 hm hm2 hl hl2 (.inr ⟨h1, h2⟩)
  · have e : apartB o p gap = true := by unfold apartB; rw [h1]; rfl
    rw [e]
    exact apart_first gap A A2 c c2 o p w h0 h02 hm hm2 hl hl2 (.inl h1)
end Go.Proofs.Ytohlinbcbfgdfaa

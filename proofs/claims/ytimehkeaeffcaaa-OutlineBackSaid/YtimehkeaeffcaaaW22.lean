/- Bounds of the length, in the program: the walk. -/
import Derived.Test.YtimehkeaeffcaaaW9n
import Derived.Test.YtimehkeaeffcaaaW6
import Derived.Test.YtimehkeaeffcaaaW8
import Derived.Test.YtimehkeaeffcaaaW10
import Derived.Test.YtimehkeaeffcaaaRound
import Derived.Test.YtimehkeaeffcaaaMathL
import Derived.BigRegion
namespace Go.Proofs.Ytimehkeaeffcaaa
open Go.RowKit Go.Shelf
attribute [local go_sem] Oper.semAt_some

/-- The two boxes of Around. -/
structure AB (W : World) (s : Nat) (m n : Int) : Prop where
  b0 : Boxed W s 3 (.int .i64 m)
  b1 : Boxed W (s + 1) 3 (.int .i64 n)
theorem AB.below {W W' : World} {s C : Nat} {m n : Int} (h : AB W s m n) (hb : Below C W W') (hC : s + 1 < C) : AB W' s m n := ⟨boxed_below h.b0 hb (by omega), boxed_below h.b1 hb hC⟩
theorem AB.kept {W W' : World} {s : Nat} {m n : Int} {row : Option Nat} (h : AB W s m n) (hg : W.grownBy W' row) (hr : ∀ r, row = some r → ∃ o : Obj, W.heap[r]? = some o ∧ o.isCells = false) : AB W' s m n :=
  ⟨boxed_own _ _ (fun (_ : Unit) => _) () W W' row h.b0 hg hr, boxed_own _ _ (fun (_ : Unit) => _) () W W' row h.b1 hg hr⟩
theorem AB.alloc {W : World} {s : Nat} {m n : Int} (h : AB W s m n) (o : Obj) : AB (W.alloc o) s m n := ⟨h.b0.alloc o, h.b1.alloc o⟩
theorem AB.set0 {W : World} {s : Nat} {m n : Int} (h : AB W s m n) (k : Int) : AB (W.setCell ⟨s, 0, none⟩ (.int .i64 k)) s k n := ⟨h.b0.set _, h.b1.other (by omega) _⟩
theorem AB.set1 {W : World} {s : Nat} {m n : Int} (h : AB W s m n) (k : Int) : AB (W.setCell ⟨s + 1, 0, none⟩ (.int .i64 k)) s m k := ⟨h.b0.other (by omega) _, h.b1.set _⟩
theorem AB.new (w : World) : AB ((w.alloc (.cells #[.int .i64 0] 3)).alloc (.cells #[.int .i64 0] 3)) w.heap.size 0 0 := by
  refine ⟨(Boxed.new _ _ _).alloc _, ?_⟩
  have h := Boxed.new (w.alloc (.cells #[.int .i64 0] 3)) 3 (.int .i64 0)
  simpa only [World.size_alloc] using h

set_option maxRecDepth 100000 in
set_option maxHeartbeats 2000000 in
theorem Around_any (A : Option Addr) (c : Nat) (l : List XY) (w : World) (hl : Rd w w.heap.size A l) :
    Calls Try.prog 17 #[.slice A l.length c] w (Ret (.tuple #[.int .i64 (aroundS validB l).1, .int .i64 (aroundS validB l).2.1, .int .i64 (aroundS validB l).2.2]) w) := by
  have HL := Lib.hid hl; clear hl
  have ab0 := AB.new w
  have hB0 : Below w.heap.size w ((w.alloc (.cells #[.int .i64 0] 3)).alloc (.cells #[.int .i64 0] 3)) := by (repeat (first | exact Below.refl _ _ | assumption | refine Below.alloc ?_ (by first | exact Nat.le_refl _ | exact Below.size (by assumption) | omega | (simp <;> omega)) _ | refine Below.setCell ?_ (by first | exact Nat.le_refl _ | exact Below.size (by assumption) | omega | (simp <;> omega)) _ | refine below_drewN ?_ _ | refine Below.drew ?_))
  have hz0 : ((w.alloc (.cells #[.int .i64 0] 3)).alloc (.cells #[.int .i64 0] 3)).heap.size = w.heap.size + 2 := by simp
  cases hv : validB l
  · have HS : Hid (aroundS validB l = (0, 0, 10)) := by simp [Hid, aroundS, hv]
    have HV := Lib.hid hv; clear hv
    have HAB := Lib.hid ab0; clear ab0
    have HZ := Lib.hid hz0; clear hz0
    have HB0 := Lib.hid hB0; clear hB0
    go_enter Try.func17, Try.ntmps17
    go_wp2_with fail
    refine (valid_any A c l _ (HL.out.now HB0.out)).mono ?_
    rintro e w1 ⟨rfl, hb1⟩
    have ab1 := HAB.out.below hb1 (by rw [HZ.out]; omega)
    have hB1 := HB0.out.trans (hb1.mono HB0.out.size)
    clear hb1
    have k3 := ab1.b0.cell
    have l3 := ab1.b0.frozen
    have k4 := ab1.b1.cell
    have l4 := ab1.b1.frozen
    rw [HV.out]
    go_wp2
    have d3 := ((ab1.b0.set (.int .i64 0)).other (B' := w.heap.size + 1) (by omega) (.int .i64 0)).cell
    have d4 := ((ab1.b1.other (B' := w.heap.size) (by omega) (.int .i64 0)).set (.int .i64 0)).cell
    exact bodyPost_ret (v := .tuple #[.int .i64 0, .int .i64 0, .int .i64 10]) (by simp [results, Try.f17, go_sem, d3, d4]) rfl (Ret.mk (by rw [HS.out]) ((hB1.setCell (p := ⟨w.heap.size, 0, none⟩) (by simp) _).setCell (p := ⟨w.heap.size + 1, 0, none⟩) (by simp) _))
  have HS : Hid (aroundS validB l = (arTo isqrt l l.length, arTo iceil l l.length, 0)) := by simp [Hid, aroundS, hv]
  have hlen := validB_len' hv
  have hbd : ∀ i, Bd 5000 (cy l i) := bd_cy (by omega) (validB_ranged hv)
  have HBD := Lib.hid hbd; clear hbd
  have HV := Lib.hid hv; clear hv
  refine (callsIn_wide (n := 5)).1 ?_
  have h1 : 1 ≤ 5 := by omega
  refine callsIn_of_wp_marks Try.func17 rfl trivial ?_ rfl
  simp only [Try.ntmps17, List.size_toArray, List.length_cons, List.length_nil, Nat.reduceAdd, Nat.reduceSub, Array.replicate_succ, Array.replicate_zero, List.push_toArray, List.append_toArray, List.nil_append, List.cons_append]
  have HAB := Lib.hid ab0; clear ab0
  have HZ := Lib.hid hz0; clear hz0
  gi_wp2_with fail
  refine ⟨trivial, ?_⟩
  refine (callsIn_wide.2 (valid_any A c l _ (HL.out.now hB0))).mono ?_
  rintro e w1 ⟨rfl, hb1⟩
  have ab1 := HAB.out.below hb1 (by rw [HZ.out]; omega)
  have hB1 := hB0.trans (hb1.mono hB0.size)
  have hs1 := hb1.size
  rw [HZ.out] at hs1
  clear hb1 hB0
  rw [HV.out]
  gi_wp2_with fail
  refine ⟨trivial, ?_⟩
  refine (callsIn_wide.2 (sides_any _ _ _ _)).mono ?_
  rintro e w4 ⟨rfl, rfl⟩
  gi_wp2
  have ab4 := ab1.alloc (.cells #[.slice A l.length c] 22)
  have bS := Boxed.new w1 22 (.slice A l.length c)
  have hB4 : Below w.heap.size w (w1.alloc (.cells #[.slice A l.length c] 22)) := by (repeat (first | exact Below.refl _ _ | assumption | refine Below.alloc ?_ (by first | exact Nat.le_refl _ | exact Below.size (by assumption) | omega | (simp <;> omega)) _ | refine Below.setCell ?_ (by first | exact Nat.le_refl _ | exact Below.size (by assumption) | omega | (simp <;> omega)) _ | refine below_drewN ?_ _ | refine Below.drew ?_))
  have hsz : (w1.alloc (.cells #[.slice A l.length c] 22)).heap.size = w1.heap.size + 1 := by simp
  clear ab1
  obtain ⟨W0, hW0⟩ : ∃ W0, w1.alloc (.cells #[.slice A l.length c] 22) = W0 := ⟨_, rfl⟩
  rw [hW0] at ab4 bS hB4 hsz ⊢
  clear hW0
  refine wpIn_rangeFunc_ownH (F := Fence.wide) rfl h1 (gf := 85) (lb := #[.pointer (some ⟨w1.heap.size, 0, none⟩)]) rfl trivial (enters_of Try.func85 (by kernel_rfl) rfl)
    (sides_stopsN (5 - 1) (by omega) w1.heap.size w.heap.size A c l (by omega) W0 (by omega) (by omega) bS.cell (HL.out.below hB4)) KpS.trans (KpS.book (by omega) (by omega)) (Below.refl _ _) (fun _ => rfl)
    (fun pre W => (AB W w.heap.size (arP isqrt l pre) (arP iceil l pre) ∧ Boxed W w1.heap.size 22 (.slice A l.length c)) ∧ Below w.heap.size w W)
    (fun _ _ _ => False)
    (OwnFrom.and (OwnFrom.and (Own.from (fun _ _ _ _ hs hg hr => hs.kept hg hr) _) (Own.from (boxed_own _ _ _) _)) (ownFrom_below (Nat.le_refl _) (by omega)))
    (fun _ _ _ _ _ hs _ _ => hs)
    ⟨⟨ab4, bS⟩, hB4⟩
    (fun x a' W => ∃ Ba Bb, Pt W Ba (cy l x) ∧ Pt W Bb (cy l (x + 1)) ∧ a' = { tmps := #[.slice A l.length c, undef, .pointer (some ⟨w.heap.size, 0, none⟩), .pointer (some ⟨w.heap.size + 1, 0, none⟩), .int .i64 0, .pointer (some ⟨Ba, 0, none⟩), .pointer (some ⟨Bb, 0, none⟩), undef, .slice A l.length c, .bool true, .bool false, .slice A l.length c, .func (.func 85) #[] #[.pointer (some ⟨w1.heap.size, 0, none⟩)], xyv (cy l x), xyv (cy l (x + 1)), undef, undef, undef, undef, undef, undef, undef, undef, undef, undef, undef, undef, undef, undef, undef, undef, undef, undef, undef, undef, undef, undef, undef, undef, undef, undef, undef, undef, undef, undef, undef, undef, undef], defers := [] })
    (fun x a' _ X Y row hs hg hr => by obtain ⟨Ba, Bb, h1, h2, h3⟩ := hs; exact ⟨Ba, Bb, h1.kept hg (fun r e => (hr r e).2), h2.kept hg (fun r e => (hr r e).2), h3⟩)
    ?assign ?body ?done ?stop
  case assign =>
    rintro ll pre x W K ⟨⟨ab, bS1⟩, hB⟩ hK
    have hsW := hB.size
    have hlt2 := bS1.lt
    gi_wp2
    refine hK _ _ (((KeepsOthers.alloc _ _).trans (KeepsOthers.alloc _ _)).from _) ⟨by (repeat (first | exact Below.refl _ _ | assumption | refine Below.alloc ?_ (by first | exact Nat.le_refl _ | exact Below.size (by assumption) | omega | (simp <;> omega)) _ | refine Below.setCell ?_ (by first | exact Nat.le_refl _ | exact Below.size (by assumption) | omega | (simp <;> omega)) _ | refine below_drewN ?_ _ | refine Below.drew ?_)), ?_⟩ ⟨⟨(ab.alloc _).alloc _, (bS1.alloc _).alloc _⟩, by (repeat (first | exact Below.refl _ _ | assumption | refine Below.alloc ?_ (by first | exact Nat.le_refl _ | exact Below.size (by assumption) | omega | (simp <;> omega)) _ | refine Below.setCell ?_ (by first | exact Nat.le_refl _ | exact Below.size (by assumption) | omega | (simp <;> omega)) _ | refine below_drewN ?_ _ | refine Below.drew ?_))⟩ ⟨W.heap.size, W.heap.size + 1, ?_, ?_, rfl⟩
    · rw [World.cell?_alloc_lt _ _ _ (by simp; omega), World.cell?_alloc_lt _ _ _ (by exact hlt2)]
    · exact (Pt.new W (cy l x) _).alloc (by simp) _
    · have h := Pt.new (W.alloc (.cells #[.int .i64 (cy l x).X, .int .i64 (cy l x).Y] 37)) (cy l (x + 1)) 37
      rw [World.size_alloc] at h
      exact h
  case body =>
    rintro ll pre x a' W hl ⟨r, hr⟩ ⟨⟨ab, bS1⟩, hB⟩ ⟨Ba, Bb, ⟨hax, hay⟩, ⟨hbx, hby⟩, rfl⟩ hlt
    have hn := lenW_eq (HBD.out x) (HBD.out (x + 1))
    have hnb := d2_bd (HBD.out x) (HBD.out (x + 1))
    generalize hd : d2 (cy l x) (cy l (x + 1)) = m at hn hnb
    have HD := Lib.hid hd; clear hd
    have hmx : Try.prog.follows .mixedOrders = true := by kernel_rfl
    gi_wp2
    rw [hn]
    have c0 := ab.b0.cell
    have f0 := ab.b0.frozen
    have hlt3 := ab.b1.lt
    gi_region_with_o (refine ⟨trivial, (CallsIn.inRound ll (callsIn_wide.2 (root_any m _ (by omega)))).mono ?_⟩; rintro e w2 ⟨rfl, hb2⟩; have ab2 := ab.below (below_of_drew hb2) hlt3; have k0 := ab2.b0.cell; have l0 := ab2.b0.frozen)
    all_goals
      have hb2' : Below W.heap.size W w2 := below_of_drew hb2
      have bS2 := boxed_below bS1 hb2' bS1.lt
      have hltS := bS1.lt
      obtain ⟨W3, hW3⟩ : ∃ W3, w2.setCell ⟨w.heap.size, 0, none⟩ (.int .i64 (IntKind.i64.wrap (arP isqrt l pre + ((isqrt m : Nat) : Int)))) = W3 := ⟨_, rfl⟩
      have ab3 : AB W3 w.heap.size (wrap64 (arP isqrt l pre + ((isqrt m : Nat) : Int))) (arP iceil l pre) := by rw [← hW3, w64_eq]; exact ab2.set0 _
      have hb3 : Below w.heap.size W W3 := by rw [← hW3]; exact (hb2'.mono hB.size).setCell (p := ⟨w.heap.size, 0, none⟩) (by simp) _
      have bS3 : Boxed W3 w1.heap.size 22 (.slice A l.length c) := by rw [← hW3]; exact bS2.other (by omega) _
      have hk3 : KeepsFrom W0.heap.size W W3 := by rw [← hW3]; exact (keepsFrom_below _ hb2').trans ((KeepsOthers.setCell _ _ _).from _)
      rw [hW3]
      clear k0 l0 c0 f0 ab2 hW3 hb2 hb2' bS2
      have c1 := ab3.b1.cell
      have f1 := ab3.b1.frozen
      have hlt4 := ab3.b1.lt
      have hltT := bS3.lt
      gi_wp2
      gi_region_with_o (refine ⟨trivial, (CallsIn.inRound ll (callsIn_wide.2 (ceiling_any m _ (by omega)))).mono ?_⟩; rintro e w5 ⟨rfl, hb5⟩; have ab5 := ab3.below (below_of_drew hb5) hlt4; have k1 := ab5.b1.cell; have l1 := ab5.b1.frozen)
      all_goals
        have hb5' : Below W3.heap.size W3 w5 := below_of_drew hb5
        gi_wp2
        refine ⟨(hk3.trans (keepsFrom_below _ hb5')).trans ((KeepsOthers.setCell _ _ _).from _), ⟨(hb3.trans (hb5'.mono (by have := hB.size; have := hb3.size; omega))).setCell (p := ⟨w.heap.size + 1, 0, none⟩) (by simp) _, ?_⟩, ⟨?_, ((boxed_below bS3 hb5' hltT).other (by omega) _)⟩, ?_⟩
        · exact (((boxed_below bS3 hb5' hltT).other (by omega) _).cell).trans bS1.cell.symm
        · rw [arP_snoc, arP_snoc, HD.out, w64_eq]
          exact ab5.set1 _
        · exact hB.trans ((hb3.trans (hb5'.mono (by have := hB.size; have := hb3.size; omega))).setCell (p := ⟨w.heap.size + 1, 0, none⟩) (by simp) _)
  case done =>
    rintro D ys W hD rfl ⟨⟨ab, bS1⟩, hB⟩ hK
    have c0 := ab.b0.cell
    have f0 := ab.b0.frozen
    have c1 := ab.b1.cell
    have f1 := ab.b1.frozen
    have hmx : Try.prog.follows .mixedOrders = true := by kernel_rfl
    gi_wp2
    refine wpIn_wide.2 ?_
    go_region
    gi_wp2
    have hK' := (KeepsOthers.setCell (W.setCell ⟨w.heap.size, 0, none⟩ (.int .i64 (arP isqrt l (List.range l.length)))) ⟨w.heap.size + 1, 0, none⟩ (.int .i64 (arP iceil l (List.range l.length)))).same D _ ((KeepsOthers.setCell W ⟨w.heap.size, 0, none⟩ (.int .i64 (arP isqrt l (List.range l.length)))).same D _ hK rfl) rfl
    have ab5 := (ab.set0 (arP isqrt l (List.range l.length))).set1 (arP iceil l (List.range l.length))
    obtain ⟨W5, hW5⟩ : ∃ W5, ((W.setCell ⟨w.heap.size, 0, none⟩ (.int .i64 (arP isqrt l (List.range l.length)))).setCell ⟨w.heap.size + 1, 0, none⟩ (.int .i64 (arP iceil l (List.range l.length)))).drew = W5 := ⟨_, rfl⟩
    have hK5 : W5.heap[D]? = some (.deferred (some [])) := by rw [← hW5]; exact hK'
    have ab6 : AB W5 w.heap.size (arP isqrt l (List.range l.length)) (arP iceil l (List.range l.length)) := by rw [← hW5]; exact ⟨ab5.b0, ab5.b1⟩
    have hB5 : Below w.heap.size w W5 := by rw [← hW5]; exact Below.drew ((hB.setCell (p := ⟨w.heap.size, 0, none⟩) (by simp) _).setCell (p := ⟨w.heap.size + 1, 0, none⟩) (by simp) _)
    rw [hW5]
    refine ⟨by simp, .inl ⟨_, _, rfl, run_takeDeferred hK5, ?_⟩⟩
    have e3 := cell_kept ab6.b0.cell (grownBy_putObj' _ D (.deferred none)) (fun r e => by cases e; exact ⟨_, hK5, rfl⟩)
    have e4 := cell_kept ab6.b1.cell (grownBy_putObj' _ D (.deferred none)) (fun r e => by cases e; exact ⟨_, hK5, rfl⟩)
    refine ⟨.tuple #[.int .i64 (arP isqrt l (List.range l.length)), .int .i64 (arP iceil l (List.range l.length)), .int .i64 0], by simp [results, Try.f17, go_sem, e3, e4], Ret.mk (by rw [HS.out]; rfl) (hB5.trans (belowK_b (w := w) (Nat.le_refl _) _ D _ _ (by omega) hK5 rfl rfl))⟩
  case stop =>
    rintro D cc pre W _ _ h _
    exact h.elim
end Go.Proofs.Ytimehkeaeffcaaa

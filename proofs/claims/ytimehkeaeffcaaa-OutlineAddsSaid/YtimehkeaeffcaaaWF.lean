/- In which grooves a lens sits, in the program: the walk. Seat, whole, in the program: the walk. In which grooves a lens sits, in the reference: the walk. -/
import Derived.Test.YtimehkeaeffcaaaWA
import Derived.Test.YtimehkeaeffcaaaWB
import Derived.Test.YtimehkeaeffcaaaWG
import Derived.Test.YtimehkeaeffcaaaRound
import Derived.Test.YtimehkeaeffcaaaMathA
namespace Go.Proofs.Ytimehkeaeffcaaa
open Go.RowKit Go.Shelf
attribute [local go_sem] Oper.semAt_some

def seatP (lens groove : List XY) (play : Int) (x : XY × XY) : Bool :=
  !decide (wrap64 (wrap64 (play * play) * wrap64 (wrap64 (wrap64 (x.2.Y - x.1.Y) * wrap64 (x.2.Y - x.1.Y)) + wrap64 (wrap64 (x.1.X - x.2.X) * wrap64 (x.1.X - x.2.X)))) <
    wrap64 (wrap64 (farW (wrap64 (x.2.Y - x.1.Y)) (wrap64 (x.1.X - x.2.X)) groove - farW (wrap64 (x.2.Y - x.1.Y)) (wrap64 (x.1.X - x.2.X)) lens) * wrap64 (farW (wrap64 (x.2.Y - x.1.Y)) (wrap64 (x.1.X - x.2.X)) groove - farW (wrap64 (x.2.Y - x.1.Y)) (wrap64 (x.1.X - x.2.X)) lens)))

/-- The five boxes of Seat. -/
structure SB (W : World) (s : Nat) (A A2 : Option Addr) (n c n2 c2 : Nat) (play : Int) : Prop where
  b0 : Boxed W s 22 (.slice A n c)
  b1 : Boxed W (s + 1) 22 (.slice A2 n2 c2)
  b2 : Boxed W (s + 1 + 1) 3 (.int .i64 play)
  b3 : Boxed W (s + 1 + 1 + 1) 4 (.bool false)
  b4 : Boxed W (s + 1 + 1 + 1 + 1) 23 (.int .i64 0)
theorem SB.lt {W : World} {s : Nat} {A A2 : Option Addr} {n c n2 c2 : Nat} {play : Int} (h : SB W s A A2 n c n2 c2 play) : s + 1 + 1 + 1 + 1 < W.heap.size := h.b4.lt
theorem SB.below {W W' : World} {s C : Nat} {A A2 : Option Addr} {n c n2 c2 : Nat} {play : Int} (h : SB W s A A2 n c n2 c2 play) (hb : Below C W W') (hC : s + 1 + 1 + 1 + 1 < C) : SB W' s A A2 n c n2 c2 play :=
  ⟨boxed_below h.b0 hb (by omega), boxed_below h.b1 hb (by omega), boxed_below h.b2 hb (by omega), boxed_below h.b3 hb (by omega), boxed_below h.b4 hb hC⟩
theorem SB.kept {W W' : World} {s : Nat} {A A2 : Option Addr} {n c n2 c2 : Nat} {play : Int} {row : Option Nat} (h : SB W s A A2 n c n2 c2 play) (hg : W.grownBy W' row) (hr : ∀ r, row = some r → ∃ o : Obj, W.heap[r]? = some o ∧ o.isCells = false) : SB W' s A A2 n c n2 c2 play :=
  ⟨boxed_own _ _ (fun (_ : Unit) => _) () W W' row h.b0 hg hr, boxed_own _ _ (fun (_ : Unit) => _) () W W' row h.b1 hg hr, boxed_own _ _ (fun (_ : Unit) => _) () W W' row h.b2 hg hr, boxed_own _ _ (fun (_ : Unit) => _) () W W' row h.b3 hg hr, boxed_own _ _ (fun (_ : Unit) => _) () W W' row h.b4 hg hr⟩
theorem SB.alloc {W : World} {s : Nat} {A A2 : Option Addr} {n c n2 c2 : Nat} {play : Int} (h : SB W s A A2 n c n2 c2 play) (o : Obj) : SB (W.alloc o) s A A2 n c n2 c2 play :=
  ⟨h.b0.alloc o, h.b1.alloc o, h.b2.alloc o, h.b3.alloc o, h.b4.alloc o⟩
theorem SB.put {W : World} {s : Nat} {A A2 : Option Addr} {n c n2 c2 : Nat} {play : Int} (h : SB W s A A2 n c n2 c2 play) : SB ((W.setCell ⟨s + 1 + 1 + 1, 0, none⟩ (.bool false)).setCell ⟨s + 1 + 1 + 1 + 1, 0, none⟩ (.int .i64 0)) s A A2 n c n2 c2 play :=
  ⟨(h.b0.other (by omega) _).other (by omega) _, (h.b1.other (by omega) _).other (by omega) _, (h.b2.other (by omega) _).other (by omega) _, (h.b3.set _).other (by omega) _, (h.b4.other (by omega) _).set _⟩
theorem SB.new (w : World) (A A2 : Option Addr) (n c n2 c2 : Nat) (play : Int) : SB (((((w.alloc (.cells #[.slice A n c] 22)).alloc (.cells #[.slice A2 n2 c2] 22)).alloc (.cells #[.int .i64 play] 3)).alloc (.cells #[.bool false] 4)).alloc (.cells #[.int .i64 0] 23)) w.heap.size A A2 n c n2 c2 play := by
  refine ⟨((((Boxed.new _ _ _).alloc _).alloc _).alloc _).alloc _, ?_, ?_, ?_, ?_⟩
  · have h := ((((Boxed.new (w.alloc (.cells #[.slice A n c] 22)) 22 (.slice A2 n2 c2)).alloc (.cells #[.int .i64 play] 3)).alloc (.cells #[.bool false] 4)).alloc (.cells #[.int .i64 0] 23))
    simpa only [World.size_alloc] using h
  · have h := (((Boxed.new ((w.alloc (.cells #[.slice A n c] 22)).alloc (.cells #[.slice A2 n2 c2] 22)) 3 (.int .i64 play)).alloc (.cells #[.bool false] 4)).alloc (.cells #[.int .i64 0] 23))
    simpa only [World.size_alloc] using h
  · have h := ((Boxed.new (((w.alloc (.cells #[.slice A n c] 22)).alloc (.cells #[.slice A2 n2 c2] 22)).alloc (.cells #[.int .i64 play] 3)) 4 (.bool false)).alloc (.cells #[.int .i64 0] 23))
    simpa only [World.size_alloc] using h
  · have h := (Boxed.new ((((w.alloc (.cells #[.slice A n c] 22)).alloc (.cells #[.slice A2 n2 c2] 22)).alloc (.cells #[.int .i64 play] 3)).alloc (.cells #[.bool false] 4)) 23 (.int .i64 0))
    simpa only [World.size_alloc] using h

set_option maxRecDepth 100000 in
set_option maxHeartbeats 2000000 in
theorem seat_loop (A A2 : Option Addr) (c c2 : Nat) (lens groove : List XY) (play : Int) (w : World) (hm : lens.length ≤ 1000000) (hm2 : groove.length ≤ 1000000) (hl0 : 0 < lens.length) (hg0 : 0 < groove.length) (hl : Rd w w.heap.size A lens) (hl2 : Rd w w.heap.size A2 groove)
    (hv1 : validB lens = true) (hv2 : validB groove = true) (hp0 : 0 ≤ play) (hp1 : play ≤ 1000) (hwi : withinB lens groove = true) :
    Calls Try.prog 14 #[.slice A lens.length c, .slice A2 groove.length c2, .int .i64 play] w (Ret (.tuple #[.bool ((sidesTo groove groove.length).all (seatP lens groove play)), .int .i64 0]) w) := by
  refine (callsIn_wide (n := 5)).1 ?_
  have h1 : 1 ≤ 5 := by omega
  have HL := Lib.hid hl; clear hl
  have HL2 := Lib.hid hl2; clear hl2
  have HV1 := Lib.hid hv1; clear hv1
  have HV2 := Lib.hid hv2; clear hv2
  have HWI := Lib.hid hwi; clear hwi
  refine callsIn_of_wp_marks Try.func14 rfl trivial ?_ rfl
  simp only [Try.ntmps14, List.size_toArray, List.length_cons, List.length_nil, Nat.reduceAdd, Nat.reduceSub, Array.replicate_succ, Array.replicate_zero, List.push_toArray, List.append_toArray, List.nil_append, List.cons_append]
  have sb0 := SB.new w A A2 lens.length c groove.length c2 play
  have hB0 : Below w.heap.size w (((((w.alloc (.cells #[.slice A lens.length c] 22)).alloc (.cells #[.slice A2 groove.length c2] 22)).alloc (.cells #[.int .i64 play] 3)).alloc (.cells #[.bool false] 4)).alloc (.cells #[.int .i64 0] 23)) := by (repeat (first | exact Below.refl _ _ | assumption | refine Below.alloc ?_ (by first | exact Nat.le_refl _ | exact Below.size (by assumption) | omega | (simp <;> omega)) _ | refine Below.setCell ?_ (by first | exact Nat.le_refl _ | exact Below.size (by assumption) | omega | (simp <;> omega)) _ | refine below_drewN ?_ _ | refine Below.drew ?_))
  have SB0 := Lib.hid sb0; clear sb0
  gi_wp2_with fail
  refine ⟨trivial, ?_⟩
  refine (callsIn_wide.2 (valid_any A c lens _ (HL.out.now hB0))).mono ?_
  rintro e w1 ⟨rfl, hb1⟩
  have sb1 := SB0.out.below hb1 (by simp)
  have hB1 := hB0.trans (hb1.mono hB0.size)
  clear hb1 hB0
  have k1 := sb1.b1.cell
  rw [HV1.out]
  gi_wp2_with fail
  refine ⟨trivial, ?_⟩
  refine (callsIn_wide.2 (valid_any A2 c2 groove _ (HL2.out.now hB1))).mono ?_
  rintro e w2 ⟨rfl, hb2⟩
  have sb2 := sb1.below hb2 sb1.lt
  have hB2 := hB1.trans (hb2.mono hB1.size)
  clear hb2 hB1 sb1 k1
  have k0 := sb2.b0.cell
  have k1 := sb2.b1.cell
  have k2 := sb2.b2.cell
  rw [HV2.out]
  gi_wp2_with fail
  refine ⟨trivial, ?_⟩
  refine (callsIn_wide.2 (within_any A A2 c c2 lens groove _ hm hm2 (HL.out.now hB2) (HL2.out.now hB2))).mono ?_
  rintro e w3 ⟨rfl, hb3⟩
  have sb3 := sb2.below hb3 sb2.lt
  have hB3 := hB2.trans (hb3.mono hB2.size)
  clear hb3 hB2 sb2 k0 k1 k2
  have k1 := sb3.b1.cell
  rw [HWI.out]
  gi_wp2_with fail
  refine ⟨trivial, ?_⟩
  refine (callsIn_wide.2 (sides_any _ _ _ _)).mono ?_
  rintro e w4 ⟨rfl, rfl⟩
  gi_wp2
  have sb4 := sb3.alloc (.cells #[.slice A2 groove.length c2] 22)
  have bS := Boxed.new w3 22 (.slice A2 groove.length c2)
  have hB4 : Below w.heap.size w (w3.alloc (.cells #[.slice A2 groove.length c2] 22)) := by (repeat (first | exact Below.refl _ _ | assumption | refine Below.alloc ?_ (by first | exact Nat.le_refl _ | exact Below.size (by assumption) | omega | (simp <;> omega)) _ | refine Below.setCell ?_ (by first | exact Nat.le_refl _ | exact Below.size (by assumption) | omega | (simp <;> omega)) _ | refine below_drewN ?_ _ | refine Below.drew ?_))
  have hsz : (w3.alloc (.cells #[.slice A2 groove.length c2] 22)).heap.size = w3.heap.size + 1 := by simp
  have hlt3 := sb3.lt
  clear sb3 k1
  obtain ⟨W0, hW0⟩ : ∃ W0, w3.alloc (.cells #[.slice A2 groove.length c2] 22) = W0 := ⟨_, rfl⟩
  rw [hW0] at sb4 bS hB4 hsz ⊢
  clear hW0
  refine wpIn_rangeFunc_ownH (F := Fence.wide) rfl h1 (gf := 85) (lb := #[.pointer (some ⟨w3.heap.size, 0, none⟩)]) rfl trivial (enters_of Try.func85 (by kernel_rfl) rfl)
    (sides_stops (5 - 1) (by omega) w3.heap.size w.heap.size A2 c2 groove hm2 W0 (by omega) (by omega) bS.cell (HL2.out.below hB4)) KpS.trans (KpS.book (by omega) (by omega)) (Below.refl _ _) (fun _ => rfl)
    (fun pre W => (∀ x ∈ pre, seatP lens groove play x = true) ∧ (SB W w.heap.size A A2 lens.length c groove.length c2 play ∧ Boxed W w3.heap.size 22 (.slice A2 groove.length c2)) ∧ Below w.heap.size w W)
    (fun cc pre W => (cc = .ret ∧ ∃ pre0 x, pre = pre0 ++ [x] ∧ seatP lens groove play x = false) ∧ SB W w.heap.size A A2 lens.length c groove.length c2 play ∧ Below w.heap.size w W)
    (OwnFrom.and (ownFrom_pure _ _) (OwnFrom.and (OwnFrom.and (Own.from (fun _ _ _ _ hs hg hr => hs.kept hg hr) _) (Own.from (boxed_own _ _ _) _)) (ownFrom_below (Nat.le_refl _) (by omega))))
    (fun cc => OwnFrom.and (ownFrom_pure _ _) (OwnFrom.and (Own.from (fun _ _ _ _ hs hg hr => hs.kept hg hr) _) (ownFrom_below (Nat.le_refl _) (by omega))))
    ⟨by simp, ⟨sb4, bS⟩, hB4⟩
    (fun x a' W => ∃ Ba Bb, Pt W Ba x.1 ∧ Pt W Bb x.2 ∧ (Ba < W.heap.size ∧ Bb < W.heap.size) ∧ a' = { tmps := #[.slice A lens.length c, .slice A2 groove.length c2, .int .i64 play, .pointer (some ⟨w.heap.size, 0, none⟩), .pointer (some ⟨w.heap.size + 1, 0, none⟩), .pointer (some ⟨w.heap.size + 1 + 1, 0, none⟩), .pointer (some ⟨w.heap.size + 1 + 1 + 1, 0, none⟩), .pointer (some ⟨w.heap.size + 1 + 1 + 1 + 1, 0, none⟩), .pointer (some ⟨Ba, 0, none⟩), .pointer (some ⟨Bb, 0, none⟩), undef, undef, undef, .bool false, .slice A lens.length c, .bool true, .bool false, .bool false, .slice A2 groove.length c2, .bool true, .bool false, .bool false, .bool (decide (play < 0) || decide (1000 < play)), .int .i64 play, .bool (decide (play < 0)), .bool (decide (play < 0)), .int .i64 play, .bool (decide (1000 < play)), .bool (decide (play < 0) || decide (1000 < play)), .bool false, .slice A lens.length c, .slice A2 groove.length c2, .bool true, .bool false, .slice A2 groove.length c2, .func (.func 85) #[] #[.pointer (some ⟨w3.heap.size, 0, none⟩)], xyv x.1, xyv x.2, undef, undef, undef, undef, undef, undef, undef, undef, undef, undef, undef, undef, undef, undef, undef, undef, undef, undef, undef, undef, undef, undef, undef, undef, undef, undef, undef, undef, undef, undef, undef, undef, undef, undef], defers := [] })
    (fun x a' _ X Y row hs hg hr => by obtain ⟨Ba, Bb, h1, h2, h4, h3⟩ := hs; exact ⟨Ba, Bb, h1.kept hg (fun r e => (hr r e).2), h2.kept hg (fun r e => (hr r e).2), ⟨Nat.lt_of_lt_of_le h4.1 hg.size, Nat.lt_of_lt_of_le h4.2 hg.size⟩, h3⟩)
    ?assign ?body ?done ?stop
  case assign =>
    rintro ll pre x W K ⟨hno, ⟨sb, bS1⟩, hB⟩ hK
    have hsW := hB.size
    have hlt2 := bS1.lt
    gi_wp2
    refine hK _ _ (((KeepsOthers.alloc _ _).trans (KeepsOthers.alloc _ _)).from _) ⟨by (repeat (first | exact Below.refl _ _ | assumption | refine Below.alloc ?_ (by first | exact Nat.le_refl _ | exact Below.size (by assumption) | omega | (simp <;> omega)) _ | refine Below.setCell ?_ (by first | exact Nat.le_refl _ | exact Below.size (by assumption) | omega | (simp <;> omega)) _ | refine below_drewN ?_ _ | refine Below.drew ?_)), ?_⟩ ⟨hno, ⟨(sb.alloc _).alloc _, (bS1.alloc _).alloc _⟩, by (repeat (first | exact Below.refl _ _ | assumption | refine Below.alloc ?_ (by first | exact Nat.le_refl _ | exact Below.size (by assumption) | omega | (simp <;> omega)) _ | refine Below.setCell ?_ (by first | exact Nat.le_refl _ | exact Below.size (by assumption) | omega | (simp <;> omega)) _ | refine below_drewN ?_ _ | refine Below.drew ?_))⟩ ⟨W.heap.size, W.heap.size + 1, ?_, ?_, ⟨by simp; omega, by simp⟩, rfl⟩
    · rw [World.cell?_alloc_lt _ _ _ (by simp; omega), World.cell?_alloc_lt _ _ _ (by exact hlt2)]
    · exact (Pt.new W x.1 _).alloc (by simp) _
    · have h := Pt.new (W.alloc (.cells #[.int .i64 x.1.X, .int .i64 x.1.Y] 37)) x.2 37
      rw [World.size_alloc] at h
      exact h
  case body =>
    rintro ll pre x a' W hl ⟨r, hr⟩ ⟨hno, ⟨sb, bS1⟩, hB⟩ ⟨Ba, Bb, ⟨hax, hay⟩, ⟨hbx, hby⟩, ⟨hzA, hzB⟩, rfl⟩ hlt
    have hmx : Try.prog.follows .mixedOrders = true := by kernel_rfl
    gi_wp2
    refine region_quiet_in_round hmx (by kernel_rfl) (by kernel_rfl) (by rintro ⟨a, w, h⟩; exact h) ?_
    repeat (go_big_quiet_step (fail))
    refine wpQuiet_nil ?_
    intro _ hw'
    obtain ⟨nq, hw''⟩ := hw'
    subst hw''
    obtain ⟨u, hu⟩ : ∃ u, wrap64 (x.2.Y - x.1.Y) = u := ⟨_, rfl⟩
    obtain ⟨v, hv⟩ : ∃ v, wrap64 (x.1.X - x.2.X) = v := ⟨_, rfl⟩
    rw [hu, hv]
    have HU := Lib.hid hu; clear hu
    have HV := Lib.hid hv; clear hv
    gi_wp2
    have HF : Hid (∀ w', Below W.heap.size W w' → w'.cell? ⟨w.heap.size, 0, none⟩ = some (.slice A lens.length c) ∧ w'.cell? ⟨w.heap.size + 1, 0, none⟩ = some (.slice A2 groove.length c2) ∧ w'.cell? ⟨w.heap.size + 1 + 1, 0, none⟩ = some (.int .i64 play)) :=
      fun w' hC => ⟨(sb.below hC sb.lt).b0.cell, (sb.below hC sb.lt).b1.cell, (sb.below hC sb.lt).b2.cell⟩
    obtain ⟨g, hg⟩ : ∃ g, IntKind.i64.wrap (farW u v groove - farW u v lens) = g := ⟨_, rfl⟩
    have HS : Hid (seatP lens groove play x = !decide (wrap64 (wrap64 (play * play) * wrap64 (wrap64 (u * u) + wrap64 (v * v))) < wrap64 (g * g))) := by
      unfold seatP; rw [HU.out, HV.out, ← w64_eq (farW u v groove - farW u v lens), hg]; exact rfl
    refine region_class_in_round (fun w' => Below W.heap.size W w') hmx (by kernel_rfl) (by kernel_rfl) (by rintro ⟨a, w, h⟩; exact h) (by (repeat (first | exact Below.refl _ _ | assumption | refine Below.alloc ?_ (by first | exact Nat.le_refl _ | exact Below.size (by assumption) | omega | (simp <;> omega)) _ | refine Below.setCell ?_ (by first | exact Nat.le_refl _ | exact Below.size (by assumption) | omega | (simp <;> omega)) _ | refine below_drewN ?_ _ | refine Below.drew ?_))) ?_
    repeat (refine quiet_read rfl (fun w' hC => by obtain ⟨f0, f1, f2⟩ := HF.out w' hC; clear hC; go_simp; rfl) ?_; simp only [Act.put, List.setIfInBounds_toArray, List.set_cons_succ, List.set_cons_zero])
    (refine quiet_call rfl (fun w' hC => by (go_simp; try rfl)) (fun w' hC => (reach_any u v A2 c2 groove w' hg0 hm2 (HL2.out.now (hB.trans (hC.mono hB.size)))).mono (fun e w2 hr => ⟨hr.1, hC.trans (hr.2.mono hC.size)⟩)) ?_; simp only [Act.put, List.setIfInBounds_toArray, List.set_cons_succ, List.set_cons_zero])
    repeat (refine quiet_read rfl (fun w' hC => by obtain ⟨f0, f1, f2⟩ := HF.out w' hC; clear hC; go_simp; rfl) ?_; simp only [Act.put, List.setIfInBounds_toArray, List.set_cons_succ, List.set_cons_zero])
    (refine quiet_call rfl (fun w' hC => by (go_simp; try rfl)) (fun w' hC => (reach_any u v A c lens w' hl0 hm (HL.out.now (hB.trans (hC.mono hB.size)))).mono (fun e w2 hr => ⟨hr.1, hC.trans (hr.2.mono hC.size)⟩)) ?_; simp only [Act.put, List.setIfInBounds_toArray, List.set_cons_succ, List.set_cons_zero])
    repeat (refine quiet_read rfl (fun w' hC => by obtain ⟨f0, f1, f2⟩ := HF.out w' hC; clear hC; go_simp; rfl) ?_; simp only [Act.put, List.setIfInBounds_toArray, List.set_cons_succ, List.set_cons_zero])
    refine wpQuiet_nil ?_
    intro w5 hb5
    have sb5 := sb.below hb5 sb.lt
    have bS5 := boxed_below bS1 hb5 bS1.lt
    have hB5 := hB.trans (hb5.mono hB.size)
    have k2 := sb5.b2.cell
    have k3 := sb5.b3.cell
    have l3 := sb5.b3.frozen
    have k4 := sb5.b4.cell
    have l4 := sb5.b4.frozen
    clear hg
    have hsz5 := hb5.size
    by_cases hbad : wrap64 (wrap64 (play * play) * wrap64 (wrap64 (u * u) + wrap64 (v * v))) < wrap64 (g * g)
    · have HD := Lib.hid (decide_eq_true hbad)
      gi_wp2
      refine ⟨((keepsFrom_below _ hb5).trans ((KeepsOthers.setCell _ _ _).from _)).trans ((KeepsOthers.setCell _ _ _).from _), ⟨rfl, pre, x, rfl, by rw [HS.out, HD.out]; rfl⟩, sb5.put, ?_⟩
      exact (hB5.setCell (p := ⟨w.heap.size + 1 + 1 + 1, 0, none⟩) (by simp; omega) _).setCell (p := ⟨w.heap.size + 1 + 1 + 1 + 1, 0, none⟩) (by simp; omega) _
    · have HD := Lib.hid (decide_eq_false hbad)
      gi_wp2
      refine ⟨keepsFrom_below _ hb5, ⟨hb5.mono hB.size, bS5.cell.trans bS1.cell.symm⟩, fun y1 y2 hy => ?_, ⟨sb5, bS5⟩, hB5⟩
      rcases List.mem_append.1 hy with h | h
      · exact hno (y1, y2) h
      · have h' : (y1, y2) = x := by simpa using h
        rw [h', HS.out, HD.out]; rfl
  case done =>
    rintro D ys W hD rfl ⟨hno, ⟨sb, bS1⟩, hB⟩ hK
    have c3 := sb.b3.cell
    have f3 := sb.b3.frozen
    have c4 := sb.b4.cell
    have f4 := sb.b4.frozen
    gi_wp2
    have hK' := (KeepsOthers.setCell (W.setCell ⟨w.heap.size + 1 + 1 + 1, 0, none⟩ (.bool true)) ⟨w.heap.size + 1 + 1 + 1 + 1, 0, none⟩ (.int .i64 0)).same D _ ((KeepsOthers.setCell W ⟨w.heap.size + 1 + 1 + 1, 0, none⟩ (.bool true)).same D _ hK rfl) rfl
    refine ⟨by simp, .inl ⟨_, _, rfl, run_takeDeferred hK', ?_⟩⟩
    have d3 := ((sb.b3.set (.bool true)).other (B' := w.heap.size + 1 + 1 + 1 + 1) (by omega) (.int .i64 0)).cell
    have d4 := ((sb.b4.other (B' := w.heap.size + 1 + 1 + 1) (by omega) (.bool true)).set (.int .i64 0)).cell
    have e3 := cell_kept d3 (grownBy_putObj' _ D (.deferred none)) (fun r e => by cases e; exact ⟨_, hK', rfl⟩)
    have e4 := cell_kept d4 (grownBy_putObj' _ D (.deferred none)) (fun r e => by cases e; exact ⟨_, hK', rfl⟩)
    refine ⟨.tuple #[.bool true, .int .i64 0], by simp [results, Try.f14, go_sem, e3, e4], Ret.mk (by rw [List.all_eq_true.2 hno]) ((((hB.setCell (p := ⟨w.heap.size + 1 + 1 + 1, 0, none⟩) (by simp; omega) _).setCell (p := ⟨w.heap.size + 1 + 1 + 1 + 1, 0, none⟩) (by simp; omega) _)).trans (belowK_b (w := w) (Nat.le_refl _) _ D _ _ (by omega) hK' rfl rfl))⟩
  case stop =>
    rintro D cc pre W hD ⟨k, hk, rfl⟩ ⟨⟨rfl, pre0, x, hp0, hx⟩, sb, hB⟩ hK
    gi_wp2
    refine ⟨by simp, .inl ⟨_, _, rfl, run_takeDeferred hK, ?_⟩⟩
    have e3 := cell_kept sb.b3.cell (grownBy_putObj' _ D (.deferred none)) (fun r e => by cases e; exact ⟨_, hK, rfl⟩)
    have e4 := cell_kept sb.b4.cell (grownBy_putObj' _ D (.deferred none)) (fun r e => by cases e; exact ⟨_, hK, rfl⟩)
    rw [sidesTo_succ] at hp0
    obtain ⟨_, hp1⟩ := List.append_inj' hp0 rfl
    obtain rfl : (cy groove k, cy groove (k + 1)) = x := by simpa using hp1
    have hall : (sidesTo groove groove.length).all (seatP lens groove play) = false := by
      rw [List.all_eq_false]
      exact ⟨_, List.mem_map.2 ⟨k, List.mem_range.2 hk, rfl⟩, by rw [hx]; simp⟩
    refine ⟨.tuple #[.bool false, .int .i64 0], by simp [results, Try.f14, go_sem, e3, e4], Ret.mk (by rw [hall]) (hB.trans (belowK_b (w := w) (Nat.le_refl _) W D _ _ (by omega) hK rfl rfl))⟩
end Go.Proofs.Ytimehkeaeffcaaa

namespace Go.Proofs.Ytimehkeaeffcaaa
open Go.RowKit Go.Shelf

theorem validB_len {l : List XY} (h : validB l = true) : 3 ≤ l.length ∧ l.length ≤ 64 := by
  simp only [validB, Bool.and_eq_true, decide_eq_true_eq] at h; exact ⟨h.1.1.1.1, h.1.1.1.2⟩

set_option maxRecDepth 100000 in
set_option maxHeartbeats 1000000 in
theorem seat_any (A A2 : Option Addr) (c c2 : Nat) (lens groove : List XY) (play : Int) (w : World) (hl : Rd w w.heap.size A lens) (hl2 : Rd w w.heap.size A2 groove) :
    Calls Try.prog 14 #[.slice A lens.length c, .slice A2 groove.length c2, .int .i64 play] w (Ret (.tuple #[.bool (seatS lens groove play).1, .int .i64 (seatS lens groove play).2]) w) := by
  cases hv1 : validB lens
  · have HS : Hid (seatS lens groove play = (false, 10)) := by simp [Hid, seatS, hv1]
    have HL := Lib.hid hl; clear hl hl2
    have HV1 := Lib.hid hv1; clear hv1
    have hB0 : Below w.heap.size w (((((w.alloc (.cells #[.slice A lens.length c] 22)).alloc (.cells #[.slice A2 groove.length c2] 22)).alloc (.cells #[.int .i64 play] 3)).alloc (.cells #[.bool false] 4)).alloc (.cells #[.int .i64 0] 23)) := by (repeat (first | exact Below.refl _ _ | assumption | refine Below.alloc ?_ (by first | exact Nat.le_refl _ | exact Below.size (by assumption) | omega | (simp <;> omega)) _ | refine Below.setCell ?_ (by first | exact Nat.le_refl _ | exact Below.size (by assumption) | omega | (simp <;> omega)) _ | refine below_drewN ?_ _ | refine Below.drew ?_))
    have hzz : (((((w.alloc (.cells #[.slice A lens.length c] 22)).alloc (.cells #[.slice A2 groove.length c2] 22)).alloc (.cells #[.int .i64 play] 3)).alloc (.cells #[.bool false] 4)).alloc (.cells #[.int .i64 0] 23)).heap.size = w.heap.size + 5 := by simp
    have HB0 := Lib.hid hB0; clear hB0
    have HZ := Lib.hid hzz; clear hzz
    go_enter Try.func14, Try.ntmps14
    go_wp2_with fail
    refine (valid_any A c lens _ (HL.out.now HB0.out)).mono ?_
    rintro e w1 ⟨rfl, hb1⟩
    have sb1 := (SB.new w A A2 lens.length c groove.length c2 play).below hb1 (by rw [HZ.out]; omega)
    have hB1 := HB0.out.trans (hb1.mono HB0.out.size)
    clear hb1
    have k3 := sb1.b3.cell
    have l3 := sb1.b3.frozen
    have k4 := sb1.b4.cell
    have l4 := sb1.b4.frozen
    rw [HV1.out]
    go_wp2
    have d3 := ((sb1.b3.set (.bool false)).other (B' := w.heap.size + 1 + 1 + 1 + 1) (by omega) (.int .i64 10)).cell
    have d4 := ((sb1.b4.other (B' := w.heap.size + 1 + 1 + 1) (by omega) (.bool false)).set (.int .i64 10)).cell
    exact bodyPost_ret (v := .tuple #[.bool false, .int .i64 10]) (by simp [results, Try.f14, go_sem, d3, d4]) rfl (Ret.mk (by rw [HS.out]) ((hB1.setCell (p := ⟨w.heap.size + 1 + 1 + 1, 0, none⟩) (by simp; omega) _).setCell (p := ⟨w.heap.size + 1 + 1 + 1 + 1, 0, none⟩) (by simp; omega) _))
  cases hv2 : validB groove
  · have HS : Hid (seatS lens groove play = (false, 10)) := by simp [Hid, seatS, hv2]
    have HL := Lib.hid hl; clear hl
    have HL2 := Lib.hid hl2; clear hl2
    have HV1 := Lib.hid hv1; clear hv1
    have HV2 := Lib.hid hv2; clear hv2
    have hB0 : Below w.heap.size w (((((w.alloc (.cells #[.slice A lens.length c] 22)).alloc (.cells #[.slice A2 groove.length c2] 22)).alloc (.cells #[.int .i64 play] 3)).alloc (.cells #[.bool false] 4)).alloc (.cells #[.int .i64 0] 23)) := by (repeat (first | exact Below.refl _ _ | assumption | refine Below.alloc ?_ (by first | exact Nat.le_refl _ | exact Below.size (by assumption) | omega | (simp <;> omega)) _ | refine Below.setCell ?_ (by first | exact Nat.le_refl _ | exact Below.size (by assumption) | omega | (simp <;> omega)) _ | refine below_drewN ?_ _ | refine Below.drew ?_))
    have hzz : (((((w.alloc (.cells #[.slice A lens.length c] 22)).alloc (.cells #[.slice A2 groove.length c2] 22)).alloc (.cells #[.int .i64 play] 3)).alloc (.cells #[.bool false] 4)).alloc (.cells #[.int .i64 0] 23)).heap.size = w.heap.size + 5 := by simp
    have HB0 := Lib.hid hB0; clear hB0
    have HZ := Lib.hid hzz; clear hzz
    go_enter Try.func14, Try.ntmps14
    go_wp2_with fail
    refine (valid_any A c lens _ (HL.out.now HB0.out)).mono ?_
    rintro e w1 ⟨rfl, hb1⟩
    have sb1 := (SB.new w A A2 lens.length c groove.length c2 play).below hb1 (by rw [HZ.out]; omega)
    have hB1 := HB0.out.trans (hb1.mono HB0.out.size)
    clear hb1
    have k1 := sb1.b1.cell
    rw [HV1.out]
    go_wp2_with fail
    refine (valid_any A2 c2 groove _ (HL2.out.now hB1)).mono ?_
    rintro e w2 ⟨rfl, hb2⟩
    have sb2 := sb1.below hb2 sb1.lt
    have hB2 := hB1.trans (hb2.mono hB1.size)
    have k2 := sb2.b2.cell
    clear hb2 k1
    have k3 := sb2.b3.cell
    have l3 := sb2.b3.frozen
    have k4 := sb2.b4.cell
    have l4 := sb2.b4.frozen
    rw [HV2.out]
    go_wp2
    have d3 := ((sb2.b3.set (.bool false)).other (B' := w.heap.size + 1 + 1 + 1 + 1) (by omega) (.int .i64 10)).cell
    have d4 := ((sb2.b4.other (B' := w.heap.size + 1 + 1 + 1) (by omega) (.bool false)).set (.int .i64 10)).cell
    exact bodyPost_ret (v := .tuple #[.bool false, .int .i64 10]) (by simp [results, Try.f14, go_sem, d3, d4]) rfl (Ret.mk (by rw [HS.out]) ((hB2.setCell (p := ⟨w.heap.size + 1 + 1 + 1, 0, none⟩) (by simp; omega) _).setCell (p := ⟨w.heap.size + 1 + 1 + 1 + 1, 0, none⟩) (by simp; omega) _))
  have hlen1 := validB_len hv1
  have hlen2 := validB_len hv2
  by_cases hp0 : play < 0
  · have HS : Hid (seatS lens groove play = (false, 2)) := by simp [Hid, seatS, hv1, hv2, hp0]
    have HL := Lib.hid hl; clear hl
    have HL2 := Lib.hid hl2; clear hl2
    have HV1 := Lib.hid hv1; clear hv1
    have HV2 := Lib.hid hv2; clear hv2
    have hB0 : Below w.heap.size w (((((w.alloc (.cells #[.slice A lens.length c] 22)).alloc (.cells #[.slice A2 groove.length c2] 22)).alloc (.cells #[.int .i64 play] 3)).alloc (.cells #[.bool false] 4)).alloc (.cells #[.int .i64 0] 23)) := by (repeat (first | exact Below.refl _ _ | assumption | refine Below.alloc ?_ (by first | exact Nat.le_refl _ | exact Below.size (by assumption) | omega | (simp <;> omega)) _ | refine Below.setCell ?_ (by first | exact Nat.le_refl _ | exact Below.size (by assumption) | omega | (simp <;> omega)) _ | refine below_drewN ?_ _ | refine Below.drew ?_))
    have hzz : (((((w.alloc (.cells #[.slice A lens.length c] 22)).alloc (.cells #[.slice A2 groove.length c2] 22)).alloc (.cells #[.int .i64 play] 3)).alloc (.cells #[.bool false] 4)).alloc (.cells #[.int .i64 0] 23)).heap.size = w.heap.size + 5 := by simp
    have HB0 := Lib.hid hB0; clear hB0
    have HZ := Lib.hid hzz; clear hzz
    go_enter Try.func14, Try.ntmps14
    go_wp2_with fail
    refine (valid_any A c lens _ (HL.out.now HB0.out)).mono ?_
    rintro e w1 ⟨rfl, hb1⟩
    have sb1 := (SB.new w A A2 lens.length c groove.length c2 play).below hb1 (by rw [HZ.out]; omega)
    have hB1 := HB0.out.trans (hb1.mono HB0.out.size)
    clear hb1
    have k1 := sb1.b1.cell
    rw [HV1.out]
    go_wp2_with fail
    refine (valid_any A2 c2 groove _ (HL2.out.now hB1)).mono ?_
    rintro e w2 ⟨rfl, hb2⟩
    have sb2 := sb1.below hb2 sb1.lt
    have hB2 := hB1.trans (hb2.mono hB1.size)
    have k2 := sb2.b2.cell
    clear hb2 k1
    have k3 := sb2.b3.cell
    have l3 := sb2.b3.frozen
    have k4 := sb2.b4.cell
    have l4 := sb2.b4.frozen
    rw [HV2.out]
    go_wp2
    have d3 := ((sb2.b3.set (.bool false)).other (B' := w.heap.size + 1 + 1 + 1 + 1) (by omega) (.int .i64 2)).cell
    have d4 := ((sb2.b4.other (B' := w.heap.size + 1 + 1 + 1) (by omega) (.bool false)).set (.int .i64 2)).cell
    exact bodyPost_ret (v := .tuple #[.bool false, .int .i64 2]) (by simp [results, Try.f14, go_sem, d3, d4]) rfl (Ret.mk (by rw [HS.out]) ((hB2.setCell (p := ⟨w.heap.size + 1 + 1 + 1, 0, none⟩) (by simp; omega) _).setCell (p := ⟨w.heap.size + 1 + 1 + 1 + 1, 0, none⟩) (by simp; omega) _))
  by_cases hp1 : 1000 < play
  · have HS : Hid (seatS lens groove play = (false, 2)) := by simp [Hid, seatS, hv1, hv2, hp1]
    have HL := Lib.hid hl; clear hl
    have HL2 := Lib.hid hl2; clear hl2
    have HV1 := Lib.hid hv1; clear hv1
    have HV2 := Lib.hid hv2; clear hv2
    have hB0 : Below w.heap.size w (((((w.alloc (.cells #[.slice A lens.length c] 22)).alloc (.cells #[.slice A2 groove.length c2] 22)).alloc (.cells #[.int .i64 play] 3)).alloc (.cells #[.bool false] 4)).alloc (.cells #[.int .i64 0] 23)) := by (repeat (first | exact Below.refl _ _ | assumption | refine Below.alloc ?_ (by first | exact Nat.le_refl _ | exact Below.size (by assumption) | omega | (simp <;> omega)) _ | refine Below.setCell ?_ (by first | exact Nat.le_refl _ | exact Below.size (by assumption) | omega | (simp <;> omega)) _ | refine below_drewN ?_ _ | refine Below.drew ?_))
    have hzz : (((((w.alloc (.cells #[.slice A lens.length c] 22)).alloc (.cells #[.slice A2 groove.length c2] 22)).alloc (.cells #[.int .i64 play] 3)).alloc (.cells #[.bool false] 4)).alloc (.cells #[.int .i64 0] 23)).heap.size = w.heap.size + 5 := by simp
    have HB0 := Lib.hid hB0; clear hB0
    have HZ := Lib.hid hzz; clear hzz
    go_enter Try.func14, Try.ntmps14
    go_wp2_with fail
    refine (valid_any A c lens _ (HL.out.now HB0.out)).mono ?_
    rintro e w1 ⟨rfl, hb1⟩
    have sb1 := (SB.new w A A2 lens.length c groove.length c2 play).below hb1 (by rw [HZ.out]; omega)
    have hB1 := HB0.out.trans (hb1.mono HB0.out.size)
    clear hb1
    have k1 := sb1.b1.cell
    rw [HV1.out]
    go_wp2_with fail
    refine (valid_any A2 c2 groove _ (HL2.out.now hB1)).mono ?_
    rintro e w2 ⟨rfl, hb2⟩
    have sb2 := sb1.below hb2 sb1.lt
    have hB2 := hB1.trans (hb2.mono hB1.size)
    have k2 := sb2.b2.cell
    clear hb2 k1
    have k3 := sb2.b3.cell
    have l3 := sb2.b3.frozen
    have k4 := sb2.b4.cell
    have l4 := sb2.b4.frozen
    rw [HV2.out]
    go_wp2
    have d3 := ((sb2.b3.set (.bool false)).other (B' := w.heap.size + 1 + 1 + 1 + 1) (by omega) (.int .i64 2)).cell
    have d4 := ((sb2.b4.other (B' := w.heap.size + 1 + 1 + 1) (by omega) (.bool false)).set (.int .i64 2)).cell
    exact bodyPost_ret (v := .tuple #[.bool false, .int .i64 2]) (by simp [results, Try.f14, go_sem, d3, d4]) rfl (Ret.mk (by rw [HS.out]) ((hB2.setCell (p := ⟨w.heap.size + 1 + 1 + 1, 0, none⟩) (by simp; omega) _).setCell (p := ⟨w.heap.size + 1 + 1 + 1 + 1, 0, none⟩) (by simp; omega) _))
  cases hwi : withinB lens groove
  · have HS : Hid (seatS lens groove play = (false, 0)) := by simp [Hid, seatS, hv1, hv2, hp0, hp1, hwi]
    have HL := Lib.hid hl; clear hl
    have HL2 := Lib.hid hl2; clear hl2
    have HV1 := Lib.hid hv1; clear hv1
    have HV2 := Lib.hid hv2; clear hv2
    have HWI := Lib.hid hwi; clear hwi
    have hB0 : Below w.heap.size w (((((w.alloc (.cells #[.slice A lens.length c] 22)).alloc (.cells #[.slice A2 groove.length c2] 22)).alloc (.cells #[.int .i64 play] 3)).alloc (.cells #[.bool false] 4)).alloc (.cells #[.int .i64 0] 23)) := by (repeat (first | exact Below.refl _ _ | assumption | refine Below.alloc ?_ (by first | exact Nat.le_refl _ | exact Below.size (by assumption) | omega | (simp <;> omega)) _ | refine Below.setCell ?_ (by first | exact Nat.le_refl _ | exact Below.size (by assumption) | omega | (simp <;> omega)) _ | refine below_drewN ?_ _ | refine Below.drew ?_))
    have hzz : (((((w.alloc (.cells #[.slice A lens.length c] 22)).alloc (.cells #[.slice A2 groove.length c2] 22)).alloc (.cells #[.int .i64 play] 3)).alloc (.cells #[.bool false] 4)).alloc (.cells #[.int .i64 0] 23)).heap.size = w.heap.size + 5 := by simp
    have HB0 := Lib.hid hB0; clear hB0
    have HZ := Lib.hid hzz; clear hzz
    go_enter Try.func14, Try.ntmps14
    go_wp2_with fail
    refine (valid_any A c lens _ (HL.out.now HB0.out)).mono ?_
    rintro e w1 ⟨rfl, hb1⟩
    have sb1 := (SB.new w A A2 lens.length c groove.length c2 play).below hb1 (by rw [HZ.out]; omega)
    have hB1 := HB0.out.trans (hb1.mono HB0.out.size)
    clear hb1
    have k1 := sb1.b1.cell
    rw [HV1.out]
    go_wp2_with fail
    refine (valid_any A2 c2 groove _ (HL2.out.now hB1)).mono ?_
    rintro e w2 ⟨rfl, hb2⟩
    have sb2 := sb1.below hb2 sb1.lt
    have hB2 := hB1.trans (hb2.mono hB1.size)
    have k2 := sb2.b2.cell
    clear hb2 k1
    have k0 := sb2.b0.cell
    have k1 := sb2.b1.cell
    rw [HV2.out]
    go_wp2_with fail
    refine (within_any A A2 c c2 lens groove _ (by omega) (by omega) (HL.out.now hB2) (HL2.out.now hB2)).mono ?_
    rintro e w3 ⟨rfl, hb3⟩
    have sb3 := sb2.below hb3 sb2.lt
    have hB3 := hB2.trans (hb3.mono hB2.size)
    clear hb3
    have k3 := sb3.b3.cell
    have l3 := sb3.b3.frozen
    have k4 := sb3.b4.cell
    have l4 := sb3.b4.frozen
    rw [HWI.out]
    go_wp2
    have d3 := ((sb3.b3.set (.bool false)).other (B' := w.heap.size + 1 + 1 + 1 + 1) (by omega) (.int .i64 0)).cell
    have d4 := ((sb3.b4.other (B' := w.heap.size + 1 + 1 + 1) (by omega) (.bool false)).set (.int .i64 0)).cell
    exact bodyPost_ret (v := .tuple #[.bool false, .int .i64 0]) (by simp [results, Try.f14, go_sem, d3, d4]) rfl (Ret.mk (by rw [HS.out]) ((hB3.setCell (p := ⟨w.heap.size + 1 + 1 + 1, 0, none⟩) (by simp; omega) _).setCell (p := ⟨w.heap.size + 1 + 1 + 1 + 1, 0, none⟩) (by simp; omega) _))
  have hfin := seat_loop A A2 c c2 lens groove play w (by omega) (by omega) (by omega) (by omega) hl hl2 hv1 hv2 (by omega) (by omega) hwi
  have he : seatS lens groove play = ((sidesTo groove groove.length).all (seatP lens groove play), 0) := by
    have h1 : (List.range groove.length).all (seatAt lens groove play) = (sidesTo groove groove.length).all (seatP lens groove play) := by
      unfold sidesTo; rw [List.all_map]; rfl
    simp [seatS, hv1, hv2, hp0, hp1, hwi, h1]
  rw [he]
  exact hfin
end Go.Proofs.Ytimehkeaeffcaaa

namespace Go.Proofs.Ytimehkeaeffcaaa
open Go.RowKit Go.Shelf

theorem validRB_len {l : List XY} (h : validRB l = true) : 3 ≤ l.length ∧ l.length ≤ 64 := by
  simp only [validRB, Bool.and_eq_true, decide_eq_true_eq] at h; exact ⟨h.1.1.1, h.1.1.2⟩

set_option maxRecDepth 100000 in
set_option maxHeartbeats 1000000 in
theorem seat2_any (A A2 : Option Addr) (c c2 : Nat) (lens groove : List XY) (play : Int) (w : World) (hl : Rd w w.heap.size A lens) (hl2 : Rd w w.heap.size A2 groove) :
    Calls Try.prog 15 #[.slice A lens.length c, .slice A2 groove.length c2, .int .i64 play] w (Ret (.tuple #[.bool (seat2S lens groove play).1, .int .i64 (seat2S lens groove play).2]) w) := by
  have HL := Lib.hid hl; clear hl
  have HL2 := Lib.hid hl2; clear hl2
  cases hv1 : validRB lens
  · have HS : Hid (seat2S lens groove play = (false, 10)) := by simp [Hid, seat2S, hv1]
    have HV1 := Lib.hid hv1; clear hv1
    go_enter Try.func15, Try.ntmps15
    go_wp2_with fail
    refine (validR_any A c lens _ HL.out).mono ?_
    rintro e w1 ⟨rfl, hb1⟩
    rw [HV1.out]
    go_wp2
    go_ret2
    exact Ret.mk (by rw [HS.out]; rfl) hb1
  cases hv2 : validRB groove
  · have HS : Hid (seat2S lens groove play = (false, 10)) := by simp [Hid, seat2S, hv2]
    have HV1 := Lib.hid hv1; clear hv1
    have HV2 := Lib.hid hv2; clear hv2
    go_enter Try.func15, Try.ntmps15
    go_wp2_with fail
    refine (validR_any A c lens _ HL.out).mono ?_
    rintro e w1 ⟨rfl, hb1⟩
    rw [HV1.out]
    go_wp2_with fail
    refine (validR_any A2 c2 groove _ (HL2.out.now hb1)).mono ?_
    rintro e w2 ⟨rfl, hb2⟩
    rw [HV2.out]
    go_wp2
    go_ret2
    exact Ret.mk (by rw [HS.out]; rfl) (hb1.trans (hb2.mono hb1.size))
  have hlen1 := validRB_len hv1
  have hlen2 := validRB_len hv2
  by_cases hp : play < 0 ∨ 1000 < play
  · have HS : Hid (seat2S lens groove play = (false, 2)) := by simp [Hid, seat2S, hv1, hv2, hp]
    have HV1 := Lib.hid hv1; clear hv1
    have HV2 := Lib.hid hv2; clear hv2
    rcases hp with hp | hp
    all_goals
      go_enter Try.func15, Try.ntmps15
      go_wp2_with fail
      refine (validR_any A c lens _ HL.out).mono ?_
      rintro e w1 ⟨rfl, hb1⟩
      rw [HV1.out]
      go_wp2_with fail
      refine (validR_any A2 c2 groove _ (HL2.out.now hb1)).mono ?_
      rintro e w2 ⟨rfl, hb2⟩
      rw [HV2.out]
      go_wp2
      go_ret2
      exact Ret.mk (by rw [HS.out]; rfl) (hb1.trans (hb2.mono hb1.size))
  have HS : Hid (seat2S lens groove play = (within2B lens groove && (List.range groove.length).all (seatAt lens groove play), 0)) := by simp [Hid, seat2S, hv1, hv2, hp]
  have hp0 : 0 ≤ play := by omega
  have hp1 : play ≤ 1000 := by omega
  clear hp
  have HV1 := Lib.hid hv1; clear hv1
  have HV2 := Lib.hid hv2; clear hv2
  have hpb1 : decide (play < 0) = false := decide_eq_false (by omega)
  have hpb2 : decide (1000 < play) = false := decide_eq_false (by omega)
  go_enter Try.func15, Try.ntmps15
  go_wp2_with fail
  refine (validR_any A c lens _ HL.out).mono ?_
  rintro e w1 ⟨rfl, hb1⟩
  rw [HV1.out]
  go_wp2_with fail
  refine (validR_any A2 c2 groove _ (HL2.out.now hb1)).mono ?_
  rintro e w2 ⟨rfl, hb2⟩
  rw [HV2.out]
  have hB2 := hb1.trans (hb2.mono hb1.size)
  clear hb1 hb2
  go_wp2
  go_loopw [8, 11, 12, 13, 30] (fun _ _ _ _ i wr => ∃ k : Nat, k ≤ groove.length ∧ i = .int .i64 k ∧ (∀ i, i < k → seatAt lens groove play i = true) ∧ Below w.heap.size w wr) (fun _ _ _ _ i _ => groove.length - (intOf i).toNat)
  case atStart => exact ⟨0, Nat.zero_le _, rfl, by simp, hB2⟩
  case round =>
    obtain ⟨k, hk, rfl, hno, hB⟩ := hrel
    have HN := Lib.hid hno; clear hno
    by_cases hlt : k < groove.length
    · obtain ⟨q, hq⟩ := getElem?_of_lt hlt
      obtain ⟨b, off, hA, hb, hcx, hcy⟩ := (HL2.out.below hB) k q hq
      subst hA
      have hlt2 : (k + 1) % groove.length < groove.length := Nat.mod_lt _ (by omega)
      obtain ⟨r, hr⟩ := getElem?_of_lt hlt2
      obtain ⟨b1, off1, hA, hb1, hdx, hdy⟩ := (HL2.out.below hB) _ r hr
      obtain ⟨rfl, rfl⟩ : b = b1 ∧ off = off1 := by simpa using hA
      clear hA
      have HQ := Lib.hid (cy_lt hq); clear hq
      have HR := Lib.hid (cy_of hr); clear hr
      have e2 : ((k : Int) + 1).tmod (groove.length : Int) = ((k : Int) + 1) % (groove.length : Int) := tmod_pos (by omega)
      obtain ⟨e4, e5⟩ := emod_bd (x := (k : Int) + 1) (n := groove.length) (by omega)
      have e6 : (((k : Int) + 1) % (groove.length : Int)).toNat = (k + 1) % groove.length := emod_toNat rfl
      have e3 : ¬ groove = [] := ne_nil_of_lt hlt
      have hbw : b < wr.heap.size := by have := hB.size; omega
      have hBw : Below wr.heap.size wr (wr.alloc (.cells #[.int .i64 q.X, .int .i64 q.Y] 37)) := by (repeat (first | exact Below.refl _ _ | assumption | refine Below.alloc ?_ (by first | exact Nat.le_refl _ | exact Below.size (by assumption) | omega | (simp <;> omega)) _ | refine Below.setCell ?_ (by first | exact Nat.le_refl _ | exact Below.size (by assumption) | omega | (simp <;> omega)) _ | refine below_drewN ?_ _ | refine Below.drew ?_))
      have cdx : (wr.alloc (.cells #[.int .i64 q.X, .int .i64 q.Y] 37)).cell? ⟨b, off + (k + 1) % groove.length * 2, none⟩ = some (.int .i64 r.X) := by rw [World.cell?_alloc_lt _ _ _ hbw]; exact hdx
      have cdy : (wr.alloc (.cells #[.int .i64 q.X, .int .i64 q.Y] 37)).cell? ⟨b, off + (k + 1) % groove.length * 2 + 1, none⟩ = some (.int .i64 r.Y) := by rw [World.cell?_alloc_lt _ _ _ hbw]; exact hdy
      go_wp2
      go_quiet (fail)
      obtain ⟨w4, hw4⟩ : ∃ w4 : World, ((wr.alloc (.cells #[.int .i64 q.X, .int .i64 q.Y] 37)).alloc (.cells #[.int .i64 r.X, .int .i64 r.Y] 37)).drewN nq = w4 := ⟨_, rfl⟩
      have hB4 : Below w.heap.size w w4 := hw4 ▸ below_drewN ((hB.alloc hB.size _).alloc (by have := hB.size; simp; omega) _) nq
      rw [hw4]
      clear hw4
      obtain ⟨u, hu⟩ : ∃ u, wrap64 (r.Y - q.Y) = u := ⟨_, rfl⟩
      obtain ⟨v, hv⟩ : ∃ v, wrap64 (q.X - r.X) = v := ⟨_, rfl⟩
      rw [hu, hv]
      have HU := Lib.hid hu; clear hu
      have HV := Lib.hid hv; clear hv
      go_wp2_with fail
      refine (far_any u v _ c2 groove _ (by omega) (by omega) (HL2.out.now hB4)).mono ?_
      rintro e w5 ⟨rfl, hb5⟩
      have hB5 := hB4.trans (hb5.mono hB4.size)
      go_wp2_with fail
      refine (far_any u v A c lens _ (by omega) (by omega) (HL.out.now hB5)).mono ?_
      rintro e w6 ⟨rfl, hb6⟩
      have hB6 := hB5.trans (hb6.mono hB5.size)
      clear hb5 hb6
      obtain ⟨g, hg⟩ : ∃ g, wrap64 (farW u v groove - farW u v lens) = g := ⟨_, rfl⟩
      have HSA : Hid (seatAt lens groove play k = !decide (wrap64 (wrap64 (play * play) * wrap64 (wrap64 (u * u) + wrap64 (v * v))) < wrap64 (g * g))) := by
        unfold seatAt; rw [HQ.out, HR.out, HU.out, HV.out]; dsimp only; rw [hg]; exact rfl
      by_cases hbad : wrap64 (wrap64 (play * play) * wrap64 (wrap64 (u * u) + wrap64 (v * v))) < wrap64 (g * g)
      · have HD := Lib.hid (decide_eq_true hbad)
        go_wp2
        go_ret2
        have hall : (List.range groove.length).all (seatAt lens groove play) = false := all_range_false hlt (by rw [HSA.out, HD.out]; rfl)
        exact Ret.mk (by rw [HS.out, hall, Bool.and_false]; rfl) hB6
      · have HD := Lib.hid (decide_eq_false hbad)
        go_wp2
        go_roundw
        case rel => exact ⟨k + 1, by omega, by go_num, all_range_succ HN.out (by rw [HSA.out, HD.out]; rfl), hB6⟩
        case measure => simp [intOf]; omega
    · obtain rfl : k = groove.length := by omega
      have hall : (List.range groove.length).all (seatAt lens groove play) = true := all_range_true HN.out
      have HALL := Lib.hid hall; clear hall
      go_wp2_with fail
      refine (within2_any A A2 c c2 lens groove _ (by omega) (by omega) (HL.out.now hB) (HL2.out.now hB)).mono ?_
      rintro e w3 ⟨rfl, hb3⟩
      go_wp2
      go_ret2
      exact Ret.mk (by rw [HS.out, HALL.out, Bool.and_true]; rfl) (hB.trans (hb3.mono hB.size))
end Go.Proofs.Ytimehkeaeffcaaa

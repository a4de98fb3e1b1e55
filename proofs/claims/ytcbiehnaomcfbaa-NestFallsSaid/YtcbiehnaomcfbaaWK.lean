/- Drop, of both: the walks. Drop, of the reference: the walk. -/
import Derived.Test.YtcbiehnaomcfbaaWJ
namespace Go.Proofs.Ytcbiehnaomcfbaa
open Go.RowKit Go.Shelf

/-- Where a thing comes to lie that falls from n on. -/
def fallN (f : Nat → Bool) : Nat → Nat
  | 0 => 0
  | n + 1 => if f n then fallN f n else n + 1
def atY (p : PL) (y : Int) : PL := ⟨p.part, p.X, y, p.t⟩
def zeroP : PL := ⟨0, 0, 0, false⟩
def dropS (b : BD) (ps : List PT) (L : List PL) (p : PL) : PL × Bool × Int :=
  if (checkS b ps L).2 = 0 then
    if betw 0 p.Y 500 then
      if freeB b ps (L.map (lyP ps)) p then (atY p (fallN (fun n => freeB b ps (L.map (lyP ps)) (atY p n)) p.Y.toNat), true, 0) else (zeroP, false, 0)
    else (zeroP, false, 2)
  else (zeroP, false, (checkS b ps L).2)

def Px (w : World) (B : Nat) (p : PL) : Prop := w.heap[B]? = some (.cells #[.int .i64 p.part, .int .i64 p.X, .int .i64 p.Y, .bool p.t] 48 (0, 0))
theorem Px.c {w : World} {B : Nat} {p : PL} (h : Px w B p) : PlAt w B p := by unfold Px at h; exact ⟨by simp [World.cell?, h], by simp [World.cell?, h], by simp [World.cell?, h], by simp [World.cell?, h]⟩
theorem Px.f {w : World} {B : Nat} {p : PL} (h : Px w B p) : w.frozen? ⟨B, 0, none⟩ = false ∧ w.frozen? ⟨B, 1, none⟩ = false ∧ w.frozen? ⟨B, 2, none⟩ = false ∧ w.frozen? ⟨B, 3, none⟩ = false := by unfold Px at h; exact ⟨by simp [World.frozen?, h], by simp [World.frozen?, h], by simp [World.frozen?, h], by simp [World.frozen?, h]⟩
theorem Px.below {w w' : World} {B C : Nat} {p : PL} (h : Px w B p) (hb : Below C w w') (hB : B < C) : Px w' B p := (hb.block B hB).trans h
theorem Px.put {w : World} {B : Nat} {p : PL} (h : Px w B p) (q : PL) : Px ((((w.setCell ⟨B, 0, none⟩ (.int .i64 q.part)).setCell ⟨B, 1, none⟩ (.int .i64 q.X)).setCell ⟨B, 2, none⟩ (.int .i64 q.Y)).setCell ⟨B, 3, none⟩ (.bool q.t)) B q := by
  unfold Px at h ⊢
  simp [World.setCell, Array.getElem?_modify, h]
theorem Px.new (w : World) (p : PL) : Px (w.alloc (.cells #[.int .i64 p.part, .int .i64 p.X, .int .i64 p.Y, .bool p.t] 48)) w.heap.size p := heap_alloc_new w _
theorem Px.setY {w : World} {B : Nat} {p : PL} (h : Px w B p) (y : Int) : Px (w.setCell ⟨B, 2, none⟩ (.int .i64 y)) B (atY p y) := by
  unfold Px at h ⊢
  simp [World.setCell, Array.getElem?_modify, h, atY]
theorem Px.rd {w : World} {B : Nat} {p : PL} (h : Px w B p) (x y z u : Value) : (w.setCell ⟨B, 0, none⟩ x).cell? ⟨B, 0, none⟩ = some x ∧ ((w.setCell ⟨B, 0, none⟩ x).setCell ⟨B, 1, none⟩ y).cell? ⟨B, 1, none⟩ = some y ∧
    (((w.setCell ⟨B, 0, none⟩ x).setCell ⟨B, 1, none⟩ y).setCell ⟨B, 2, none⟩ z).cell? ⟨B, 2, none⟩ = some z ∧ ((((w.setCell ⟨B, 0, none⟩ x).setCell ⟨B, 1, none⟩ y).setCell ⟨B, 2, none⟩ z).setCell ⟨B, 3, none⟩ u).cell? ⟨B, 3, none⟩ = some u := by
  unfold Px at h
  exact ⟨by simp [World.setCell, World.cell?, Array.getElem?_modify, h], by simp [World.setCell, World.cell?, Array.getElem?_modify, h], by simp [World.setCell, World.cell?, Array.getElem?_modify, h], by simp [World.setCell, World.cell?, Array.getElem?_modify, h]⟩
theorem put4_other {w : World} {B k : Nat} {x y z u : Value} (hk : k ≠ B) : ((((w.setCell ⟨B, 0, none⟩ x).setCell ⟨B, 1, none⟩ y).setCell ⟨B, 2, none⟩ z).setCell ⟨B, 3, none⟩ u).heap[k]? = w.heap[k]? := by
  simp [World.setCell, Array.getElem?_modify, Ne.symm hk]
theorem put4_grown {w : World} {B : Nat} {x y z u : Value} : w.grownBy ((((w.setCell ⟨B, 0, none⟩ x).setCell ⟨B, 1, none⟩ y).setCell ⟨B, 2, none⟩ z).setCell ⟨B, 3, none⟩ u) (some B) :=
  ⟨rfl, rfl, rfl, by simp [World.setCell], fun k _ hne => put4_other (fun e => hne (by rw [e]))⟩
theorem grown_below {a b c : World} {row : Option Nat} (hg : a.grownBy b row) (hb : Below b.heap.size b c) : a.grownBy c row :=
  ⟨hb.os.trans hg.os, hb.tape.trans hg.tape, hb.output.trans hg.output, Nat.le_trans hg.size hb.size, fun k hk hne => (hb.block k (Nat.lt_of_lt_of_le hk hg.size)).trans (hg.block k hk hne)⟩
theorem grown_grown {a b c : World} {row : Option Nat} (hg : a.grownBy b row) (hb : b.grownBy c row) : a.grownBy c row :=
  ⟨hb.os.trans hg.os, hb.tape.trans hg.tape, hb.output.trans hg.output, Nat.le_trans hg.size hb.size, fun k hk hne => (hb.block k (Nat.lt_of_lt_of_le hk hg.size) hne).trans (hg.block k hk hne)⟩
theorem grown_refl (w : World) (row : Option Nat) : w.grownBy w row := ⟨rfl, rfl, rfl, Nat.le_refl _, fun _ _ _ => rfl⟩
theorem below_of_grown {B : Nat} {a b c : World} {k : Nat} (h : Below B a b) (hg : b.grownBy c (some k)) (hk : B ≤ k) (hB : B ≤ b.heap.size) : Below B a c :=
  below_grown h hg (fun j hj => by cases hj; exact hk) hB
theorem px_grown {w w' : World} {B k : Nat} {p : PL} (h : Px w B p) (hg : w.grownBy w' (some k)) (hB : B < w.heap.size) (hne : B ≠ k) : Px w' B p := (hg.block B hB (by simpa using hne)).trans h
theorem bd_grown {w w' : World} {B k : Nat} {b : BD} {A : Option Addr} {c : Nat} (h : BdAt w B b A c) (hg : w.grownBy w' (some k)) (hne : B ≠ k) : BdAt w' B b A c :=
  ⟨hg.cell h.c0 (by simpa using hne), hg.cell h.c1 (by simpa using hne), hg.cell h.c2 (by simpa using hne), hg.cell h.c3 (by simpa using hne)⟩
theorem rds_grown {w w' : World} {k : Nat} {A : Option Addr} {l : List SL} (h : RdS w w.heap.size A l) (hg : w.grownBy w' (some k)) (hne : ∀ a, A = some a → a.block ≠ k) : RdS w' w'.heap.size A l := by
  intro i p hp
  obtain ⟨b, off, hA, hb, h0⟩ := h i p hp
  have hn := hne _ hA
  exact ⟨b, off, hA, Nat.lt_of_lt_of_le hb hg.size, hg.cell h0 (by simpa using hn)⟩
/-- The height of the place that lies at B. -/
def yOf (w : World) (B : Nat) : Nat := ((w.cell? ⟨B, 2, none⟩).map (fun v => (intOf v).toNat)).getD 0
theorem Px.y {w : World} {B : Nat} {p : PL} (h : Px w B p) : yOf w B = p.Y.toNat := by unfold yOf; rw [h.c.c2]; rfl


set_option maxRecDepth 100000 in
set_option maxHeartbeats 4000000 in
theorem Drop_any (b : BD) (A A2 A3 : Option Addr) (c c2 c3 : Nat) (ps : List PT) (L : List PL) (p : PL) (w : World) (hF : RdR w w.heap.size A b.F) (hp : RdPP w w.heap.size A2 ps) (hl : RdL w w.heap.size A3 L) :
    Calls Try.prog 32 #[bdv b A c, .slice A2 ps.length c2, .slice A3 L.length c3, valL p] w (Ret (.tuple #[valL (dropS b ps L p).1, .bool (dropS b ps L p).2.1, .int .i64 (dropS b ps L p).2.2]) w) := by
  have HF := Lib.hid hF; clear hF
  have HP := Lib.hid hp; clear hp
  have HL := Lib.hid hl; clear hl
  obtain ⟨w0, hw0⟩ : ∃ w0, ((w.alloc (.cells #[.int .i64 b.W, .int .i64 b.H, .int .i64 b.G, .slice A b.F.length c] 35)).alloc (.cells #[.int .i64 p.part, .int .i64 p.X, .int .i64 p.Y, .bool p.t] 48)).alloc (.cells #[.int .i64 0, .int .i64 0, .int .i64 0, .bool false] 48) = w0 := ⟨_, rfl⟩
  have hB0 : Below w.heap.size w w0 := by rw [← hw0]; (repeat (first | exact Below.refl _ _ | assumption | refine Below.alloc ?_ (by first | exact Nat.le_refl _ | exact Below.size (by assumption) | omega | (simp <;> omega)) _ | refine Below.setCell ?_ (by first | exact Nat.le_refl _ | exact Below.size (by assumption) | omega | (simp <;> omega)) _ | refine below_drewN ?_ _ | refine Below.drew ?_))
  have hz0 : w0.heap.size = w.heap.size + 3 := by rw [← hw0]; simp
  have hbd : BdAt w0 w.heap.size b A c := by rw [← hw0]; exact (BdAt.new w b A c).below (C := w.heap.size + 1) (by (repeat (first | exact Below.refl _ _ | assumption | refine Below.alloc ?_ (by first | exact Nat.le_refl _ | exact Below.size (by assumption) | omega | (simp <;> omega)) _ | refine Below.setCell ?_ (by first | exact Nat.le_refl _ | exact Below.size (by assumption) | omega | (simp <;> omega)) _ | refine below_drewN ?_ _ | refine Below.drew ?_))) (by omega)
  have hpx : Px w0 (w.heap.size + 1) p := by
    rw [← hw0]
    refine Px.below (w := (w.alloc (.cells #[.int .i64 b.W, .int .i64 b.H, .int .i64 b.G, .slice A b.F.length c] 35)).alloc (.cells #[.int .i64 p.part, .int .i64 p.X, .int .i64 p.Y, .bool p.t] 48)) (C := w.heap.size + 1 + 1) ?_ (by (repeat (first | exact Below.refl _ _ | assumption | refine Below.alloc ?_ (by first | exact Nat.le_refl _ | exact Below.size (by assumption) | omega | (simp <;> omega)) _ | refine Below.setCell ?_ (by first | exact Nat.le_refl _ | exact Below.size (by assumption) | omega | (simp <;> omega)) _ | refine below_drewN ?_ _ | refine Below.drew ?_))) (by omega)
    unfold Px
    have := heap_alloc_new (w.alloc (.cells #[.int .i64 b.W, .int .i64 b.H, .int .i64 b.G, .slice A b.F.length c] 35)) (.cells #[.int .i64 p.part, .int .i64 p.X, .int .i64 p.Y, .bool p.t] 48)
    rwa [World.size_alloc] at this
  have hpz : Px w0 (w.heap.size + 1 + 1) zeroP := by
    rw [← hw0]; unfold Px
    have := heap_alloc_new ((w.alloc (.cells #[.int .i64 b.W, .int .i64 b.H, .int .i64 b.G, .slice A b.F.length c] 35)).alloc (.cells #[.int .i64 p.part, .int .i64 p.X, .int .i64 p.Y, .bool p.t] 48)) (.cells #[.int .i64 0, .int .i64 0, .int .i64 0, .bool false] 48)
    rwa [World.size_alloc, World.size_alloc] at this
  have HBD := Lib.hid hbd
  have HPX := Lib.hid hpx
  have HPZ := Lib.hid hpz
  obtain ⟨k0, k1, k2, k3⟩ := hbd
  clear hpx hpz
  have hok := fun h => checkS_ok (b := b) (ps := ps) (L := L) h
  have hs : dropS b ps L p = if (checkS b ps L).2 = 0 then if betw 0 p.Y 500 then if freeB b ps (L.map (lyP ps)) p then (atY p (fallN (fun n => freeB b ps (L.map (lyP ps)) (atY p n)) p.Y.toNat), true, 0) else (zeroP, false, 0) else (zeroP, false, 2) else (zeroP, false, (checkS b ps L).2) := rfl
  obtain ⟨⟨n, f⟩, hn⟩ : ∃ r, checkS b ps L = r := ⟨_, rfl⟩
  rw [hn] at hs hok
  dsimp only at hs hok
  have HN := Lib.hid hn; clear hn
  have HSA := Lib.hid hs; clear hs
  have HOK := Lib.hid hok; clear hok
  go_enter Try.func32, Try.ntmps32
  go_wp2_with fail
  clear hw0
  refine (Check_any b A A2 A3 c c2 c3 ps L _ (HF.out.now hB0) (HP.out.now hB0) (HL.out.now hB0)).mono ?_
  rintro e w2 ⟨rfl, hb2⟩
  rw [HN.out]
  have hB2 := hB0.trans (hb2.mono hB0.size)
  have hs2 := hb2.size
  clear k0 k1 k2 k3
  have HBD2 := Lib.hid (HBD.out.below hb2 (by omega))
  have HPX2 := Lib.hid (HPX.out.below hb2 (by omega))
  have HPZ2 := Lib.hid (HPZ.out.below hb2 (by omega))
  obtain ⟨k0, k1, k2, k3⟩ := HBD2.out
  obtain ⟨q0, q1, q2, q3⟩ := HPX2.out.c
  obtain ⟨z0, z1, z2, z3⟩ := HPZ2.out.c
  obtain ⟨g0, g1, g2, g3⟩ := HPZ2.out.f
  have hww : w.heap.size < w2.heap.size := by omega
  have hww1 : w.heap.size + 1 < w2.heap.size := by omega
  have hww2 : w.heap.size + 1 + 1 < w2.heap.size := by omega
  by_cases hf : f = 0
  case neg =>
    have hs := HSA.out
    rw [if_neg hf] at hs
    have HS := Lib.hid hs; clear hs HSA
    go_wp2
    obtain ⟨r0, r1, r2, r3⟩ := Px.rd HPZ2.out (.int .i64 0) (.int .i64 0) (.int .i64 0) (.bool false); refine bodyPost_ret (v := .tuple #[valL zeroP, .bool false, .int .i64 f]) (by simp [results, Try.results32, go_sem, r0, r1, r2, r3, zeroP]) rfl ?_
    exact Ret.mk (by rw [HS.out] <;> rfl) (by (repeat (first | exact Below.refl _ _ | assumption | refine Below.alloc ?_ (by first | exact Nat.le_refl _ | exact Below.size (by assumption) | omega | (simp <;> omega)) _ | refine Below.setCell ?_ (by first | exact Nat.le_refl _ | exact Below.size (by assumption) | omega | (simp <;> omega)) _ | refine below_drewN ?_ _ | refine Below.drew ?_)))
  subst hf
  have HRL := Lib.hid (HOK.out rfl)
  have hs := HSA.out
  rw [if_pos rfl] at hs
  cases hy : betw 0 p.Y 500
  · rw [hy] at hs
    have HS := Lib.hid hs; clear hs HSA
    have HY := Lib.hid hy; clear hy
    go_wp2_with fail
    refine (between_any 0 p.Y 500 _).mono ?_
    rintro e w3 ⟨rfl, rfl⟩
    rw [HY.out]
    go_wp2
    obtain ⟨r0, r1, r2, r3⟩ := Px.rd HPZ2.out (.int .i64 0) (.int .i64 0) (.int .i64 0) (.bool false); refine bodyPost_ret (v := .tuple #[valL zeroP, .bool false, .int .i64 2]) (by simp [results, Try.results32, go_sem, r0, r1, r2, r3, zeroP]) rfl ?_
    exact Ret.mk (by rw [HS.out] <;> rfl) (by (repeat (first | exact Below.refl _ _ | assumption | refine Below.alloc ?_ (by first | exact Nat.le_refl _ | exact Below.size (by assumption) | omega | (simp <;> omega)) _ | refine Below.setCell ?_ (by first | exact Nat.le_refl _ | exact Below.size (by assumption) | omega | (simp <;> omega)) _ | refine below_drewN ?_ _ | refine Below.drew ?_)))
  rw [hy, if_pos rfl] at hs
  have hy2 : 0 ≤ p.Y ∧ p.Y ≤ 500 := by simpa [betw] using hy
  have HSB := Lib.hid hs; clear hs HSA
  have HY := Lib.hid hy; clear hy
  go_wp2_with fail
  refine (between_any 0 p.Y 500 _).mono ?_
  rintro e w3 ⟨rfl, rfl⟩
  rw [HY.out]
  have hlL := HRL.out.hl
  go_wp2_with fail
  refine (all_any A2 A3 c2 c3 ps L _ (by omega) HRL.out.hp (fun q hq => rightB_placed (HRL.out.hr q hq)) (HP.out.now hB2) (HL.out.now hB2)).mono ?_
  rintro e w4 ⟨A4, c4, sl, rfl, _, ⟨hnA, hnS⟩, hrs, hrd, hmap, hb4⟩
  have hsl2 : sl.length ≤ 1000000 := by
    have := congrArg List.length hmap
    simp at this; omega
  have HSL := Lib.hid (HRL.out.sl hmap)
  have HRS := Lib.hid hrs
  have HRD := Lib.hid hrd
  have hfa : ∀ (q : PL) (W : World), w4.grownBy W (some (w.heap.size + 1)) → Below w.heap.size w W → Calls Try.prog 74 #[bdv b A c, .slice A2 ps.length c2, .slice A4 sl.length c4, valL q] W (Ret (.bool (freeB b ps (L.map (lyP ps)) q)) W) := fun q W hg hW => by
    rw [← hmap]
    exact free_any b A A2 A4 c c2 c4 ps sl q W HRL.out.hb HRL.out.hp hsl2 HSL.out (HF.out.now hW) (HP.out.now hW) (rds_grown HRS.out hg (fun a ha => by have := hnA a ha; omega)) (fun s hs => rd_grown (HRD.out s hs) hg (fun a ha => by have := hnS s hs a ha; simp; omega))
  have HFA := Lib.hid hfa; clear hfa hnA hnS hrs hrd hmap
  have hB4 := hB2.trans (hb4.mono hB2.size)
  have hb04 := hb4
  have hs4 := hb4.size
  clear k0 k1 k2 k3 q0 q1 q2 q3 z0 z1 z2 z3 g0 g1 g2 g3
  have HBD4 := Lib.hid (HBD2.out.below hb4 (by omega))
  have HPX4 := Lib.hid (HPX2.out.below hb4 (by omega))
  have HPZ4 := Lib.hid (HPZ2.out.below hb4 (by omega))
  obtain ⟨k0, k1, k2, k3⟩ := HBD4.out
  obtain ⟨q0, q1, q2, q3⟩ := HPX4.out.c
  obtain ⟨Y, hY⟩ : ∃ Y : Nat, p.Y = (Y : Int) := ⟨p.Y.toNat, by omega⟩
  have hYt : p.Y.toNat = Y := by rw [hY]; rfl
  have hsb := HSB.out
  rw [hYt] at hsb
  obtain ⟨fr, hfr⟩ : ∃ fr : PL → Bool, (fun q => freeB b ps (L.map (lyP ps)) q) = fr := ⟨_, rfl⟩
  have hfe : ∀ q, freeB b ps (L.map (lyP ps)) q = fr q := fun q => by rw [← hfr]
  have hfa := HFA.out
  simp only [hfe] at hsb hfa
  have HFA2 := Lib.hid hfa; clear hfa HFA
  have HSC := Lib.hid hsb; clear hsb HSB hfr hfe
  have HYY := Lib.hid hY; clear hYt hY
  have hwA : w.heap.size < w4.heap.size := by omega
  have hwB : w.heap.size + 1 < w4.heap.size := by omega
  have hwC : w.heap.size + 1 + 1 < w4.heap.size := by omega
  go_wp2_with fail
  refine (HFA2.out p _ (grown_refl _ _) hB4).mono ?_
  rintro e w5 ⟨rfl, hb5⟩
  have hB5 := hB4.trans (hb5.mono hB4.size)
  have hs5 := hb5.size
  have HPX5 := Lib.hid (HPX4.out.below hb5 (by omega))
  have HPZ5 := Lib.hid (HPZ4.out.below hb5 (by omega))
  have HBD5 := Lib.hid (HBD4.out.below hb5 (by omega))
  clear k0 k1 k2 k3 q0 q1 q2 q3
  cases hfp : fr p
  · have hs := HSC.out
    rw [hfp] at hs
    have HS := Lib.hid hs; clear hs HSC
    have HFP := Lib.hid hfp; clear hfp
    obtain ⟨z0, z1, z2, z3⟩ := HPZ5.out.c
    obtain ⟨g0, g1, g2, g3⟩ := HPZ5.out.f
    have hwD : w.heap.size + 1 + 1 < w5.heap.size := by omega
    go_wp2
    obtain ⟨r0, r1, r2, r3⟩ := Px.rd HPZ5.out (.int .i64 0) (.int .i64 0) (.int .i64 0) (.bool false); refine bodyPost_ret (v := .tuple #[valL zeroP, .bool false, .int .i64 0]) (by simp [results, Try.results32, go_sem, r0, r1, r2, r3, zeroP]) rfl ?_
    exact Ret.mk (by rw [HS.out] <;> rfl) (by (repeat (first | exact Below.refl _ _ | assumption | refine Below.alloc ?_ (by first | exact Nat.le_refl _ | exact Below.size (by assumption) | omega | (simp <;> omega)) _ | refine Below.setCell ?_ (by first | exact Nat.le_refl _ | exact Below.size (by assumption) | omega | (simp <;> omega)) _ | refine below_drewN ?_ _ | refine Below.drew ?_)))
  have hs := HSC.out
  rw [hfp, if_pos rfl] at hs
  have HS := Lib.hid hs; clear hs HSC
  have HFP := Lib.hid hfp; clear hfp
  have hg5 : w4.grownBy w5 (some (w.heap.size + 1)) := grown_below (grown_refl _ _) hb5
  have hwD : w.heap.size + 1 + 1 < w5.heap.size := by omega
  have HSTART := Lib.hid (show Px w5 (w.heap.size + 1) (atY p (Y : Int)) by have := HPX5.out; rwa [show atY p (Y : Int) = p by unfold atY; rw [← HYY.out]])
  have HG5 := Lib.hid hg5; clear hg5
  go_wp2
  go_loopw [14] (fun _ wr => ∃ n : Nat, n ≤ Y ∧ fallN (fun n => fr (atY p n)) n = fallN (fun n => fr (atY p n)) Y ∧ Px wr (w.heap.size + 1) (atY p (n : Int)) ∧ Px wr (w.heap.size + 1 + 1) zeroP ∧ BdAt wr w.heap.size b A c ∧ w4.grownBy wr (some (w.heap.size + 1)) ∧ w.heap.size + 1 + 1 < wr.heap.size ∧ Below w.heap.size w wr) (fun _ wr => yOf wr (w.heap.size + 1))
  case atStart => exact ⟨Y, Nat.le_refl _, rfl, HSTART.out, HPZ5.out, HBD5.out, HG5.out, hwD, hB5⟩
  case round =>
    obtain ⟨n, hn, hfall, hpx, hpz, hbd, hgr, hsz, hB⟩ := hrel
    have HX := Lib.hid hpx
    have HZ := Lib.hid hpz
    have HB := Lib.hid hbd
    have HFL := Lib.hid hfall
    have HGR := Lib.hid hgr
    obtain ⟨k0, k1, k2, k3⟩ := hbd
    obtain ⟨q0, q1, q2, q3⟩ := hpx.c
    obtain ⟨h0, h1, h2, h3⟩ := hpx.f
    have hyr : yOf wr (w.heap.size + 1) = n := hpx.y
    clear hpx hpz hfall hgr
    have hwE : w.heap.size < wr.heap.size := by omega
    have hwF : w.heap.size + 1 < wr.heap.size := by omega
    unfold atY at q0 q1 q2 q3
    dsimp only at q0 q1 q2 q3
    cases n with
    | zero =>
      obtain ⟨z0, z1, z2, z3⟩ := HZ.out.c
      obtain ⟨g0, g1, g2, g3⟩ := HZ.out.f
      have q2' : wr.cell? ⟨w.heap.size + 1, 2, none⟩ = some (.int .i64 0) := q2
      clear q2 hyr
      go_wp2
      obtain ⟨r0, r1, r2, r3⟩ := Px.rd HZ.out (.int .i64 p.part) (.int .i64 p.X) (.int .i64 0) (.bool p.t); refine bodyPost_ret (v := .tuple #[valL (atY p 0), .bool true, .int .i64 0]) (by simp [results, Try.results32, go_sem, r0, r1, r2, r3, atY]) rfl ?_
      refine Ret.mk ?_ (by (repeat (first | exact Below.refl _ _ | assumption | refine Below.alloc ?_ (by first | exact Nat.le_refl _ | exact Below.size (by assumption) | omega | (simp <;> omega)) _ | refine Below.setCell ?_ (by first | exact Nat.le_refl _ | exact Below.size (by assumption) | omega | (simp <;> omega)) _ | refine below_drewN ?_ _ | refine Below.drew ?_)))
      rw [HS.out, ← HFL.out] <;> rfl
    | succ m =>
      have q2' : wr.cell? ⟨w.heap.size + 1, 2, none⟩ = some (.int .i64 ((m : Int) + 1)) := by rw [q2]; simp
      clear q2
      have hYb : (Y : Int) ≤ 500 := by have := HYY.out; omega
      obtain ⟨wn, hwn⟩ : ∃ wn, wr.alloc (.cells #[.int .i64 p.part, .int .i64 p.X, .int .i64 (m : Int), .bool p.t] 48) = wn := ⟨_, rfl⟩
      have hbn : Below wr.heap.size wr wn := by rw [← hwn]; (repeat (first | exact Below.refl _ _ | assumption | refine Below.alloc ?_ (by first | exact Nat.le_refl _ | exact Below.size (by assumption) | omega | (simp <;> omega)) _ | refine Below.setCell ?_ (by first | exact Nat.le_refl _ | exact Below.size (by assumption) | omega | (simp <;> omega)) _ | refine below_drewN ?_ _ | refine Below.drew ?_))
      have hzn : wn.heap.size = wr.heap.size + 1 := by rw [← hwn]; simp
      have HPN : Hid (Px wn wr.heap.size (atY p (m : Int))) := by
        unfold Hid
        rw [← hwn]
        exact Px.new wr (atY p (m : Int))
      have HWN := Lib.hid hwn; clear hwn
      have hBn := hB.trans (hbn.mono (by omega))
      have HBN := Lib.hid (HB.out.below hbn hwE)
      have hgn := grown_below HGR.out hbn
      have HGN := Lib.hid hgn; clear hgn
      go_upto_region 12 with fail
      rw [HWN.out]
      clear HWN k0 k1 k2 k3 q0 q1 q2' q3
      obtain ⟨k0, k1, k2, k3⟩ := HBN.out
      obtain ⟨n0, n1, n2, n3⟩ := HPN.out.c
      unfold atY at n0 n1 n2 n3
      dsimp only at n0 n1 n2 n3
      have hwG : w.heap.size < wn.heap.size := by omega
      have hwH : wr.heap.size < wn.heap.size := by omega
      go_wp2_with fail
      refine (HFA2.out (atY p (m : Int)) _ HGN.out hBn).mono ?_
      rintro e w8 ⟨rfl, hb8⟩
      have hB8 := hBn.trans (hb8.mono hBn.size)
      have hbr8 := hbn.trans (hb8.mono hbn.size)
      have hs8 := hb8.size
      have HX8 := Lib.hid (HX.out.below hbr8 (by omega))
      have HZ8 := Lib.hid (HZ.out.below hbr8 (by omega))
      have HB8 := Lib.hid (HB.out.below hbr8 (by omega))
      have HG8 := Lib.hid (grown_below HGR.out hbr8)
      have HPN8 := Lib.hid (HPN.out.below hb8 (by omega))
      clear k0 k1 k2 k3 n0 n1 n2 n3 h0 h1 h2 h3
      obtain ⟨q0, q1, q2, q3⟩ := HX8.out.c
      obtain ⟨h0, h1, h2, h3⟩ := HX8.out.f
      unfold atY at q0 q1 q2 q3
      dsimp only at q0 q1 q2 q3
      have hwI : w.heap.size + 1 < w8.heap.size := by omega
      have hwJ : w.heap.size + 1 + 1 < w8.heap.size := by omega
      have hwK : wr.heap.size < w8.heap.size := by omega
      cases hfm : fr (atY p (m : Int))
      · have hst : fallN (fun n => fr (atY p n)) (m + 1) = m + 1 := by show (if fr (atY p (m : Int)) then _ else _) = _; rw [hfm]; rfl
        have hfl := HFL.out
        rw [hst] at hfl
        have HFL2 := Lib.hid hfl; clear hfl HFL hst
        have HFM := Lib.hid hfm; clear hfm
        obtain ⟨z0, z1, z2, z3⟩ := HZ8.out.c
        obtain ⟨g0, g1, g2, g3⟩ := HZ8.out.f
        go_wp2
        obtain ⟨r0, r1, r2, r3⟩ := Px.rd HZ8.out (.int .i64 p.part) (.int .i64 p.X) (.int .i64 ((m : Int) + 1)) (.bool p.t); refine bodyPost_ret (v := .tuple #[valL (atY p ((m : Int) + 1)), .bool true, .int .i64 0]) (by simp [results, Try.results32, go_sem, r0, r1, r2, r3, atY]) rfl ?_
        refine Ret.mk ?_ (by (repeat (first | exact Below.refl _ _ | assumption | refine Below.alloc ?_ (by first | exact Nat.le_refl _ | exact Below.size (by assumption) | omega | (simp <;> omega)) _ | refine Below.setCell ?_ (by first | exact Nat.le_refl _ | exact Below.size (by assumption) | omega | (simp <;> omega)) _ | refine below_drewN ?_ _ | refine Below.drew ?_)))
        rw [HS.out, ← HFL2.out] <;> rfl
      · have hst : fallN (fun n => fr (atY p n)) (m + 1) = fallN (fun n => fr (atY p n)) m := by show (if fr (atY p (m : Int)) then _ else _) = _; rw [hfm]; rfl
        have hfl := HFL.out
        rw [hst] at hfl
        have HFL2 := Lib.hid hfl; clear hfl HFL hst
        have HFM := Lib.hid hfm; clear hfm
        obtain ⟨n0, n1, n2, n3⟩ := HPN8.out.c
        unfold atY at n0 n1 n2 n3
        dsimp only at n0 n1 n2 n3
        have hne : ¬ wr.heap.size = w.heap.size + 1 := by omega
        have HPUT := Lib.hid (Px.put HX8.out (atY p (m : Int)))
        have hgp := put4_grown (w := w8) (B := w.heap.size + 1) (x := .int .i64 p.part) (y := .int .i64 p.X) (z := .int .i64 (m : Int)) (u := .bool p.t)
        have HGP := Lib.hid hgp; clear hgp
        have hYR := hyr
        clear hyr
        have HYR := Lib.hid hYR; clear hYR
        go_wp2
        go_roundw
        case rel => exact ⟨m, by omega, HFL2.out, HPUT.out, px_grown HZ8.out HGP.out (by omega) (by omega), bd_grown HB8.out HGP.out (by omega), grown_grown HG8.out HGP.out, Nat.lt_of_lt_of_le hwJ HGP.out.size, below_of_grown hB8 HGP.out (by omega) (by omega)⟩
        case measure =>
          have e1 := HYR.out
          have e2 := HPUT.out.y
          show yOf _ _ < yOf _ _
          rw [e1]
          exact Nat.lt_of_le_of_lt (Nat.le_of_eq e2) (by show (m : Int).toNat < m + 1; omega)
end Go.Proofs.Ytcbiehnaomcfbaa

namespace Go.Proofs.Ytcbiehnaomcfbaa
open Go.RowKit Go.Shelf

set_option maxRecDepth 100000 in
set_option maxHeartbeats 4000000 in
theorem Drop2_any (b : BD) (A A2 A3 : Option Addr) (c c2 c3 : Nat) (ps : List PT) (L : List PL) (p : PL) (w : World) (hm : ps.length ≤ Go.maxLen) (hc3 : L.length ≤ c3) (hF : RdR w w.heap.size A b.F) (hp : RdPP w w.heap.size A2 ps) (hl : RdL w w.heap.size A3 L) :
    Calls Try.prog 33 #[bdv b A c, .slice A2 ps.length c2, .slice A3 L.length c3, valL p] w (Ret (.tuple #[valL (dropS b ps L p).1, .bool (dropS b ps L p).2.1, .int .i64 (dropS b ps L p).2.2]) w) := by
  have HF := Lib.hid hF; clear hF
  have HP := Lib.hid hp; clear hp
  have HL := Lib.hid hl; clear hl
  obtain ⟨w0, hw0⟩ : ∃ w0, ((w.alloc (.cells #[.int .i64 b.W, .int .i64 b.H, .int .i64 b.G, .slice A b.F.length c] 35)).alloc (.cells #[.int .i64 p.part, .int .i64 p.X, .int .i64 p.Y, .bool p.t] 48)).alloc (.cells #[.int .i64 0, .int .i64 0, .int .i64 0, .bool false] 48) = w0 := ⟨_, rfl⟩
  have hB0 : Below w.heap.size w w0 := by rw [← hw0]; (repeat (first | exact Below.refl _ _ | assumption | refine Below.alloc ?_ (by first | exact Nat.le_refl _ | exact Below.size (by assumption) | omega | (simp <;> omega)) _ | refine Below.setCell ?_ (by first | exact Nat.le_refl _ | exact Below.size (by assumption) | omega | (simp <;> omega)) _ | refine below_drewN ?_ _ | refine Below.drew ?_))
  have hz0 : w0.heap.size = w.heap.size + 3 := by rw [← hw0]; simp
  have hbd : BdAt w0 w.heap.size b A c := by rw [← hw0]; exact (BdAt.new w b A c).below (C := w.heap.size + 1) (by (repeat (first | exact Below.refl _ _ | assumption | refine Below.alloc ?_ (by first | exact Nat.le_refl _ | exact Below.size (by assumption) | omega | (simp <;> omega)) _ | refine Below.setCell ?_ (by first | exact Nat.le_refl _ | exact Below.size (by assumption) | omega | (simp <;> omega)) _ | refine below_drewN ?_ _ | refine Below.drew ?_))) (by omega)
  have hpx : Px w0 (w.heap.size + 1) p := by
    rw [← hw0]
    refine Px.below (w := (w.alloc (.cells #[.int .i64 b.W, .int .i64 b.H, .int .i64 b.G, .slice A b.F.length c] 35)).alloc (.cells #[.int .i64 p.part, .int .i64 p.X, .int .i64 p.Y, .bool p.t] 48)) (C := w.heap.size + 1 + 1) ?_ (by (repeat (first | exact Below.refl _ _ | assumption | refine Below.alloc ?_ (by first | exact Nat.le_refl _ | exact Below.size (by assumption) | omega | (simp <;> omega)) _ | refine Below.setCell ?_ (by first | exact Nat.le_refl _ | exact Below.size (by assumption) | omega | (simp <;> omega)) _ | refine below_drewN ?_ _ | refine Below.drew ?_))) (by omega)
    unfold Px
    have := heap_alloc_new (w.alloc (.cells #[.int .i64 b.W, .int .i64 b.H, .int .i64 b.G, .slice A b.F.length c] 35)) (.cells #[.int .i64 p.part, .int .i64 p.X, .int .i64 p.Y, .bool p.t] 48)
    rwa [World.size_alloc] at this
  have hpz : Px w0 (w.heap.size + 1 + 1) zeroP := by
    rw [← hw0]; unfold Px
    have := heap_alloc_new ((w.alloc (.cells #[.int .i64 b.W, .int .i64 b.H, .int .i64 b.G, .slice A b.F.length c] 35)).alloc (.cells #[.int .i64 p.part, .int .i64 p.X, .int .i64 p.Y, .bool p.t] 48)) (.cells #[.int .i64 0, .int .i64 0, .int .i64 0, .bool false] 48)
    rwa [World.size_alloc, World.size_alloc] at this
  have HBD := Lib.hid hbd
  have HPX := Lib.hid hpx
  have HPZ := Lib.hid hpz
  obtain ⟨k0, k1, k2, k3⟩ := hbd
  clear hpx hpz
  have hok := fun h => checkS_ok (b := b) (ps := ps) (L := L) h
  have hs : dropS b ps L p = if (checkS b ps L).2 = 0 then if betw 0 p.Y 500 then if freeB b ps (L.map (lyP ps)) p then (atY p (fallN (fun n => freeB b ps (L.map (lyP ps)) (atY p n)) p.Y.toNat), true, 0) else (zeroP, false, 0) else (zeroP, false, 2) else (zeroP, false, (checkS b ps L).2) := rfl
  obtain ⟨⟨n, f⟩, hn⟩ : ∃ r, checkS b ps L = r := ⟨_, rfl⟩
  rw [hn] at hs hok
  dsimp only at hs hok
  have HN := Lib.hid hn; clear hn
  have HSA := Lib.hid hs; clear hs
  have HOK := Lib.hid hok; clear hok
  go_enter Try.func33, Try.ntmps33
  go_wp2_with fail
  clear hw0
  refine (Check2_any b A A2 A3 c c2 c3 ps L _ hm hc3 (HF.out.now hB0) (HP.out.now hB0) (HL.out.now hB0)).mono ?_
  rintro e w2 ⟨rfl, hb2⟩
  rw [HN.out]
  have hB2 := hB0.trans (hb2.mono hB0.size)
  have hs2 := hb2.size
  clear k0 k1 k2 k3
  have HBD2 := Lib.hid (HBD.out.below hb2 (by omega))
  have HPX2 := Lib.hid (HPX.out.below hb2 (by omega))
  have HPZ2 := Lib.hid (HPZ.out.below hb2 (by omega))
  obtain ⟨k0, k1, k2, k3⟩ := HBD2.out
  obtain ⟨q0, q1, q2, q3⟩ := HPX2.out.c
  obtain ⟨z0, z1, z2, z3⟩ := HPZ2.out.c
  obtain ⟨g0, g1, g2, g3⟩ := HPZ2.out.f
  have hww : w.heap.size < w2.heap.size := by omega
  have hww1 : w.heap.size + 1 < w2.heap.size := by omega
  have hww2 : w.heap.size + 1 + 1 < w2.heap.size := by omega
  by_cases hf : f = 0
  case neg =>
    have hs := HSA.out
    rw [if_neg hf] at hs
    have HS := Lib.hid hs; clear hs HSA
    go_wp2
    obtain ⟨r0, r1, r2, r3⟩ := Px.rd HPZ2.out (.int .i64 0) (.int .i64 0) (.int .i64 0) (.bool false); refine bodyPost_ret (v := .tuple #[valL zeroP, .bool false, .int .i64 f]) (by simp [results, Try.results33, go_sem, r0, r1, r2, r3, zeroP]) rfl ?_
    exact Ret.mk (by rw [HS.out] <;> rfl) (by (repeat (first | exact Below.refl _ _ | assumption | refine Below.alloc ?_ (by first | exact Nat.le_refl _ | exact Below.size (by assumption) | omega | (simp <;> omega)) _ | refine Below.setCell ?_ (by first | exact Nat.le_refl _ | exact Below.size (by assumption) | omega | (simp <;> omega)) _ | refine below_drewN ?_ _ | refine Below.drew ?_)))
  subst hf
  have HRL := Lib.hid (HOK.out rfl)
  have hs := HSA.out
  rw [if_pos rfl] at hs
  by_cases hy2 : 0 ≤ p.Y ∧ p.Y ≤ 500
  case neg =>
    have hy : betw 0 p.Y 500 = false := by simp only [betw, Bool.and_eq_false_iff, decide_eq_false_iff_not]; omega
    rw [hy] at hs
    have HS := Lib.hid hs; clear hs HSA
    have hcond : (decide (p.Y < 0) || decide (500 < p.Y)) = true := by simp; omega
    have HY2 := Lib.hid hy2; clear hy hy2
    go_wp2
    all_goals first
      | (exfalso; have := HY2.out; omega)
      | (obtain ⟨r0, r1, r2, r3⟩ := Px.rd HPZ2.out (.int .i64 0) (.int .i64 0) (.int .i64 0) (.bool false); refine bodyPost_ret (v := .tuple #[valL zeroP, .bool false, .int .i64 2]) (by simp [results, Try.results33, go_sem, r0, r1, r2, r3, zeroP]) rfl ?_
         exact Ret.mk (by rw [HS.out] <;> rfl) (by (repeat (first | exact Below.refl _ _ | assumption | refine Below.alloc ?_ (by first | exact Nat.le_refl _ | exact Below.size (by assumption) | omega | (simp <;> omega)) _ | refine Below.setCell ?_ (by first | exact Nat.le_refl _ | exact Below.size (by assumption) | omega | (simp <;> omega)) _ | refine below_drewN ?_ _ | refine Below.drew ?_))))
  have hy : betw 0 p.Y 500 = true := by simp only [betw, Bool.and_eq_true, decide_eq_true_eq]; exact hy2
  rw [hy, if_pos rfl] at hs
  have HSB := Lib.hid hs; clear hs HSA hy
  have hy3 : ¬ p.Y < 0 := by omega
  have hy4 : ¬ 500 < p.Y := by omega
  obtain ⟨w4, hw4⟩ : ∃ w4, w2 = w4 := ⟨_, rfl⟩
  subst hw4
  have hb4 : Below w2.heap.size w2 w2 := Below.refl _ _
  have hfa : ∀ (q : PL) (W : World), w2.grownBy W (some (w.heap.size + 1)) → Below w.heap.size w W → Calls Try.prog 75 #[bdv b A c, .slice A2 ps.length c2, .slice A3 L.length c3, valL q] W (Ret (.bool (freeB b ps (L.map (lyP ps)) q)) W) := fun q W hg hW =>
    free2_any b A A2 A3 c c2 c3 ps L q W HRL.out (HF.out.now hW) (HP.out.now hW) (HL.out.now hW)
  have HFA := Lib.hid hfa; clear hfa
  have hB4 := hB2.trans (hb4.mono hB2.size)
  have hs4 := hb4.size
  clear k0 k1 k2 k3 q0 q1 q2 q3 z0 z1 z2 z3 g0 g1 g2 g3
  have HBD4 := Lib.hid (HBD2.out.below hb4 (by omega))
  have HPX4 := Lib.hid (HPX2.out.below hb4 (by omega))
  have HPZ4 := Lib.hid (HPZ2.out.below hb4 (by omega))
  obtain ⟨k0, k1, k2, k3⟩ := HBD4.out
  obtain ⟨q0, q1, q2, q3⟩ := HPX4.out.c
  obtain ⟨Y, hY⟩ : ∃ Y : Nat, p.Y = (Y : Int) := ⟨p.Y.toNat, by omega⟩
  have hYt : p.Y.toNat = Y := by rw [hY]; rfl
  have hsb := HSB.out
  rw [hYt] at hsb
  obtain ⟨fr, hfr⟩ : ∃ fr : PL → Bool, (fun q => freeB b ps (L.map (lyP ps)) q) = fr := ⟨_, rfl⟩
  have hfe : ∀ q, freeB b ps (L.map (lyP ps)) q = fr q := fun q => by rw [← hfr]
  have hfa := HFA.out
  simp only [hfe] at hsb hfa
  have HFA2 := Lib.hid hfa; clear hfa HFA
  have HSC := Lib.hid hsb; clear hsb HSB hfr hfe
  have HYY := Lib.hid hY; clear hYt hY
  have hwA : w.heap.size < w2.heap.size := by omega
  have hwB : w.heap.size + 1 < w2.heap.size := by omega
  have hwC : w.heap.size + 1 + 1 < w2.heap.size := by omega
  go_wp2_with fail
  refine (HFA2.out p _ (grown_refl _ _) hB4).mono ?_
  rintro e w5 ⟨rfl, hb5⟩
  have hB5 := hB4.trans (hb5.mono hB4.size)
  have hs5 := hb5.size
  have HPX5 := Lib.hid (HPX4.out.below hb5 (by omega))
  have HPZ5 := Lib.hid (HPZ4.out.below hb5 (by omega))
  have HBD5 := Lib.hid (HBD4.out.below hb5 (by omega))
  clear k0 k1 k2 k3 q0 q1 q2 q3
  cases hfp : fr p
  · have hs := HSC.out
    rw [hfp] at hs
    have HS := Lib.hid hs; clear hs HSC
    have HFP := Lib.hid hfp; clear hfp
    obtain ⟨z0, z1, z2, z3⟩ := HPZ5.out.c
    obtain ⟨g0, g1, g2, g3⟩ := HPZ5.out.f
    have hwD : w.heap.size + 1 + 1 < w5.heap.size := by omega
    go_wp2
    obtain ⟨r0, r1, r2, r3⟩ := Px.rd HPZ5.out (.int .i64 0) (.int .i64 0) (.int .i64 0) (.bool false); refine bodyPost_ret (v := .tuple #[valL zeroP, .bool false, .int .i64 0]) (by simp [results, Try.results33, go_sem, r0, r1, r2, r3, zeroP]) rfl ?_
    exact Ret.mk (by rw [HS.out] <;> rfl) (by (repeat (first | exact Below.refl _ _ | assumption | refine Below.alloc ?_ (by first | exact Nat.le_refl _ | exact Below.size (by assumption) | omega | (simp <;> omega)) _ | refine Below.setCell ?_ (by first | exact Nat.le_refl _ | exact Below.size (by assumption) | omega | (simp <;> omega)) _ | refine below_drewN ?_ _ | refine Below.drew ?_)))
  have hs := HSC.out
  rw [hfp, if_pos rfl] at hs
  have HS := Lib.hid hs; clear hs HSC
  have HFP := Lib.hid hfp; clear hfp
  have hg5 : w2.grownBy w5 (some (w.heap.size + 1)) := grown_below (grown_refl _ _) hb5
  have hwD : w.heap.size + 1 + 1 < w5.heap.size := by omega
  have HSTART := Lib.hid (show Px w5 (w.heap.size + 1) (atY p (Y : Int)) by have := HPX5.out; rwa [show atY p (Y : Int) = p by unfold atY; rw [← HYY.out]])
  have HG5 := Lib.hid hg5; clear hg5
  go_wp2
  go_loopw [13] (fun _ wr => ∃ n : Nat, n ≤ Y ∧ fallN (fun n => fr (atY p n)) n = fallN (fun n => fr (atY p n)) Y ∧ Px wr (w.heap.size + 1) (atY p (n : Int)) ∧ Px wr (w.heap.size + 1 + 1) zeroP ∧ BdAt wr w.heap.size b A c ∧ w2.grownBy wr (some (w.heap.size + 1)) ∧ w.heap.size + 1 + 1 < wr.heap.size ∧ Below w.heap.size w wr) (fun _ wr => yOf wr (w.heap.size + 1))
  case atStart => exact ⟨Y, Nat.le_refl _, rfl, HSTART.out, HPZ5.out, HBD5.out, HG5.out, hwD, hB5⟩
  case round =>
    obtain ⟨n, hn, hfall, hpx, hpz, hbd, hgr, hsz, hB⟩ := hrel
    have HX := Lib.hid hpx
    have HZ := Lib.hid hpz
    have HB := Lib.hid hbd
    have HFL := Lib.hid hfall
    have HGR := Lib.hid hgr
    obtain ⟨k0, k1, k2, k3⟩ := hbd
    obtain ⟨q0, q1, q2, q3⟩ := hpx.c
    obtain ⟨h0, h1, h2, h3⟩ := hpx.f
    have hyr : yOf wr (w.heap.size + 1) = n := hpx.y
    clear hpx hpz hfall hgr
    have hwE : w.heap.size < wr.heap.size := by omega
    have hwF : w.heap.size + 1 < wr.heap.size := by omega
    unfold atY at q0 q1 q2 q3
    dsimp only at q0 q1 q2 q3
    cases n with
    | zero =>
      obtain ⟨z0, z1, z2, z3⟩ := HZ.out.c
      obtain ⟨g0, g1, g2, g3⟩ := HZ.out.f
      have q2' : wr.cell? ⟨w.heap.size + 1, 2, none⟩ = some (.int .i64 0) := q2
      clear q2 hyr
      go_wp2
      obtain ⟨r0, r1, r2, r3⟩ := Px.rd HZ.out (.int .i64 p.part) (.int .i64 p.X) (.int .i64 0) (.bool p.t); refine bodyPost_ret (v := .tuple #[valL (atY p 0), .bool true, .int .i64 0]) (by simp [results, Try.results33, go_sem, r0, r1, r2, r3, atY]) rfl ?_
      refine Ret.mk ?_ (by (repeat (first | exact Below.refl _ _ | assumption | refine Below.alloc ?_ (by first | exact Nat.le_refl _ | exact Below.size (by assumption) | omega | (simp <;> omega)) _ | refine Below.setCell ?_ (by first | exact Nat.le_refl _ | exact Below.size (by assumption) | omega | (simp <;> omega)) _ | refine below_drewN ?_ _ | refine Below.drew ?_)))
      rw [HS.out, ← HFL.out] <;> rfl
    | succ m =>
      have q2' : wr.cell? ⟨w.heap.size + 1, 2, none⟩ = some (.int .i64 ((m : Int) + 1)) := by rw [q2]; simp
      clear q2
      have hYb : (Y : Int) ≤ 500 := by have := HYY.out; omega
      obtain ⟨wn, hwn⟩ : ∃ wn, wr.alloc (.cells #[.int .i64 p.part, .int .i64 p.X, .int .i64 (m : Int), .bool p.t] 48) = wn := ⟨_, rfl⟩
      have hbn : Below wr.heap.size wr wn := by rw [← hwn]; (repeat (first | exact Below.refl _ _ | assumption | refine Below.alloc ?_ (by first | exact Nat.le_refl _ | exact Below.size (by assumption) | omega | (simp <;> omega)) _ | refine Below.setCell ?_ (by first | exact Nat.le_refl _ | exact Below.size (by assumption) | omega | (simp <;> omega)) _ | refine below_drewN ?_ _ | refine Below.drew ?_))
      have hzn : wn.heap.size = wr.heap.size + 1 := by rw [← hwn]; simp
      have HPN : Hid (Px wn wr.heap.size (atY p (m : Int))) := by
        unfold Hid
        rw [← hwn]
        exact Px.new wr (atY p (m : Int))
      have HWN := Lib.hid hwn; clear hwn
      have hBn := hB.trans (hbn.mono (by omega))
      have HBN := Lib.hid (HB.out.below hbn hwE)
      have hgn := grown_below HGR.out hbn
      have HGN := Lib.hid hgn; clear hgn
      go_upto_region 11 with fail
      rw [HWN.out]
      clear HWN k0 k1 k2 k3 q0 q1 q2' q3
      obtain ⟨k0, k1, k2, k3⟩ := HBN.out
      obtain ⟨n0, n1, n2, n3⟩ := HPN.out.c
      unfold atY at n0 n1 n2 n3
      dsimp only at n0 n1 n2 n3
      have hwG : w.heap.size < wn.heap.size := by omega
      have hwH : wr.heap.size < wn.heap.size := by omega
      go_wp2_with fail
      refine (HFA2.out (atY p (m : Int)) _ HGN.out hBn).mono ?_
      rintro e w8 ⟨rfl, hb8⟩
      have hB8 := hBn.trans (hb8.mono hBn.size)
      have hbr8 := hbn.trans (hb8.mono hbn.size)
      have hs8 := hb8.size
      have HX8 := Lib.hid (HX.out.below hbr8 (by omega))
      have HZ8 := Lib.hid (HZ.out.below hbr8 (by omega))
      have HB8 := Lib.hid (HB.out.below hbr8 (by omega))
      have HG8 := Lib.hid (grown_below HGR.out hbr8)
      have HPN8 := Lib.hid (HPN.out.below hb8 (by omega))
      clear k0 k1 k2 k3 n0 n1 n2 n3 h0 h1 h2 h3
      obtain ⟨q0, q1, q2, q3⟩ := HX8.out.c
      obtain ⟨h0, h1, h2, h3⟩ := HX8.out.f
      unfold atY at q0 q1 q2 q3
      dsimp only at q0 q1 q2 q3
      have hwI : w.heap.size + 1 < w8.heap.size := by omega
      have hwJ : w.heap.size + 1 + 1 < w8.heap.size := by omega
      have hwK : wr.heap.size < w8.heap.size := by omega
      cases hfm : fr (atY p (m : Int))
      · have hst : fallN (fun n => fr (atY p n)) (m + 1) = m + 1 := by show (if fr (atY p (m : Int)) then _ else _) = _; rw [hfm]; rfl
        have hfl := HFL.out
        rw [hst] at hfl
        have HFL2 := Lib.hid hfl; clear hfl HFL hst
        have HFM := Lib.hid hfm; clear hfm
        obtain ⟨z0, z1, z2, z3⟩ := HZ8.out.c
        obtain ⟨g0, g1, g2, g3⟩ := HZ8.out.f
        go_wp2
        obtain ⟨r0, r1, r2, r3⟩ := Px.rd HZ8.out (.int .i64 p.part) (.int .i64 p.X) (.int .i64 ((m : Int) + 1)) (.bool p.t); refine bodyPost_ret (v := .tuple #[valL (atY p ((m : Int) + 1)), .bool true, .int .i64 0]) (by simp [results, Try.results33, go_sem, r0, r1, r2, r3, atY]) rfl ?_
        refine Ret.mk ?_ (by (repeat (first | exact Below.refl _ _ | assumption | refine Below.alloc ?_ (by first | exact Nat.le_refl _ | exact Below.size (by assumption) | omega | (simp <;> omega)) _ | refine Below.setCell ?_ (by first | exact Nat.le_refl _ | exact Below.size (by assumption) | omega | (simp <;> omega)) _ | refine below_drewN ?_ _ | refine Below.drew ?_)))
        rw [HS.out, ← HFL2.out] <;> rfl
      · have hst : fallN (fun n => fr (atY p n)) (m + 1) = fallN (fun n => fr (atY p n)) m := by show (if fr (atY p (m : Int)) then _ else _) = _; rw [hfm]; rfl
        have hfl := HFL.out
        rw [hst] at hfl
        have HFL2 := Lib.hid hfl; clear hfl HFL hst
        have HFM := Lib.hid hfm; clear hfm
        obtain ⟨n0, n1, n2, n3⟩ := HPN8.out.c
        unfold atY at n0 n1 n2 n3
        dsimp only at n0 n1 n2 n3
        have hne : ¬ wr.heap.size = w.heap.size + 1 := by omega
        have HPUT := Lib.hid (Px.put HX8.out (atY p (m : Int)))
        have hgp := put4_grown (w := w8) (B := w.heap.size + 1) (x := .int .i64 p.part) (y := .int .i64 p.X) (z := .int .i64 (m : Int)) (u := .bool p.t)
        have HGP := Lib.hid hgp; clear hgp
        have hYR := hyr
        clear hyr
        have HYR := Lib.hid hYR; clear hYR
        go_wp2
        go_roundw
        case rel => exact ⟨m, by omega, HFL2.out, HPUT.out, px_grown HZ8.out HGP.out (by omega) (by omega), bd_grown HB8.out HGP.out (by omega), grown_grown HG8.out HGP.out, Nat.lt_of_lt_of_le hwJ HGP.out.size, below_of_grown hB8 HGP.out (by omega) (by omega)⟩
        case measure =>
          have e1 := HYR.out
          have e2 := HPUT.out.y
          show yOf _ _ < yOf _ _
          rw [e1]
          exact Nat.lt_of_le_of_lt (Nat.le_of_eq e2) (by show (m : Int).toNat < m + 1; omega)
end Go.Proofs.Ytcbiehnaomcfbaa

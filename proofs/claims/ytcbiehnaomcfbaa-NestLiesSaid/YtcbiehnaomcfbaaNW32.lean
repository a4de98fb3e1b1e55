/- Lying and Extent, of both: the walks. -/
import Derived.Test.YtcbiehnaomcfbaaNW31
import Derived.Test.YtcbiehnaomcfbaaWJ
namespace Go.Proofs.Ytcbiehnaomcfbaa
open Go.RowKit Go.Shelf

def lyingS (ps : List PT) (p : PL) : List XY × Int := if !partsB ps then ([], 70) else if !placedB ps.length p then ([], 2) else (lyP ps p, 0)

set_option maxRecDepth 100000 in
set_option maxHeartbeats 1000000 in
theorem Lying_any (A : Option Addr) (c : Nat) (ps : List PT) (p : PL) (w : World) (hp : RdPP w w.heap.size A ps) :
    Calls Try.prog 25 #[.slice A ps.length c, valL p] w (RetO2 (lyingS ps p).1 (lyingS ps p).2 w) := by
  have HP := Lib.hid hp; clear hp
  obtain ⟨w0, hw0⟩ : ∃ w0, w.alloc (.cells #[.int .i64 p.part, .int .i64 p.X, .int .i64 p.Y, .bool p.t] 48) = w0 := ⟨_, rfl⟩
  have hB0 : Below w.heap.size w w0 := by rw [← hw0]; (repeat (first | exact Below.refl _ _ | assumption | refine Below.alloc ?_ (by first | exact Nat.le_refl _ | exact Below.size (by assumption) | omega | (simp <;> omega)) _ | refine Below.setCell ?_ (by first | exact Nat.le_refl _ | exact Below.size (by assumption) | omega | (simp <;> omega)) _ | refine below_drewN ?_ _ | refine Below.drew ?_))
  have hz0 : w0.heap.size = w.heap.size + 1 := by rw [← hw0]; simp
  have HPA := Lib.hid (show PlAt w0 w.heap.size p by rw [← hw0]; exact PlAt.new w p)
  obtain ⟨q0, q1, q2, q3⟩ := HPA.out
  cases hv : partsB ps
  · have HS : Hid (lyingS ps p = ([], 70)) := by unfold Hid lyingS; rw [hv]; rfl
    have HV := Lib.hid hv; clear hv
    go_enter Try.func25, Try.ntmps25
    go_wp2_with fail
    clear hw0
    refine (partsValid_any A c ps _ (HP.out.now hB0)).mono ?_
    rintro e w2 ⟨rfl, hb2⟩
    rw [HV.out]
    go_wp2
    go_ret2
    rw [HS.out]
    exact ⟨_, rfl, World.ownsRow_nil _ _ _ _, hB0.trans (hb2.mono hB0.size)⟩
  have hps := partsB_len hv
  cases hpl : placedB ps.length p
  · have HS : Hid (lyingS ps p = ([], 2)) := by unfold Hid lyingS; rw [hv, hpl]; rfl
    have HV := Lib.hid hv; clear hv
    have HX := Lib.hid hpl; clear hpl
    go_enter Try.func25, Try.ntmps25
    go_wp2_with fail
    clear hw0 q0 q1 q2 q3
    refine (partsValid_any A c ps _ (HP.out.now hB0)).mono ?_
    rintro e w2 ⟨rfl, hb2⟩
    rw [HV.out]
    obtain ⟨q0, q1, q2, q3⟩ := HPA.out.below hb2 (by omega)
    have hz2 : w.heap.size < w2.heap.size := by have := hb2.size; omega
    go_wp2_with fail
    refine (placed_any A c ps.length p _ hps).mono ?_
    rintro e w3 ⟨rfl, hb3⟩
    rw [HX.out]
    go_wp2
    go_ret2
    rw [HS.out]
    exact ⟨_, rfl, World.ownsRow_nil _ _ _ _, hB0.trans ((hb2.trans (hb3.mono hb2.size)).mono hB0.size)⟩
  have HS : Hid (lyingS ps p = (lyP ps p, 0)) := by unfold Hid lyingS; rw [hv, hpl]; rfl
  have hly : ∀ W : World, Below w.heap.size w W → Calls Try.prog 57 #[.slice A ps.length c, valL p] W (RetO (lyP ps p) W) := fun W hW => by
    obtain ⟨k, pt, hpk, hk, hat, _⟩ := placed_get hpl
    have := lying_any A c ps k p.X p.Y p.t pt W hk (partsB_each hv (List.mem_of_getElem? hk)) (HP.out.now hW)
    unfold lyP
    rw [hat, ← hpk] at *
    exact this
  have HLY := Lib.hid hly; clear hly
  have HV := Lib.hid hv; clear hv
  have HX := Lib.hid hpl; clear hpl
  go_enter Try.func25, Try.ntmps25
  go_wp2_with fail
  clear hw0 q0 q1 q2 q3
  refine (partsValid_any A c ps _ (HP.out.now hB0)).mono ?_
  rintro e w2 ⟨rfl, hb2⟩
  rw [HV.out]
  have hs2 := hb2.size
  obtain ⟨q0, q1, q2, q3⟩ := HPA.out.below hb2 (by omega)
  have hz2 : w.heap.size < w2.heap.size := by omega
  go_wp2_with fail
  refine (placed_any A c ps.length p _ hps).mono ?_
  rintro e w3 ⟨rfl, hb3⟩
  rw [HX.out]
  have hb03 := hb2.trans (hb3.mono hs2)
  have hB3 := hB0.trans (hb03.mono hB0.size)
  have hs3 := hb03.size
  clear q0 q1 q2 q3
  obtain ⟨q0, q1, q2, q3⟩ := HPA.out.below hb03 (by omega)
  have hz3 : w.heap.size < w3.heap.size := by omega
  go_wp2_with fail
  refine (HLY.out _ hB3).mono ?_
  rintro e w4 ⟨v4, rfl, hown4, hb4⟩
  go_wp2
  go_ret2
  rw [HS.out]
  exact ⟨_, rfl, own_base hown4 hB3.size, hB3.trans (hb4.mono hB3.size)⟩

set_option maxRecDepth 100000 in
set_option maxHeartbeats 1000000 in
theorem Lying2_any (A : Option Addr) (c : Nat) (ps : List PT) (p : PL) (w : World) (hm : ps.length ≤ Go.maxLen) (hp : RdPP w w.heap.size A ps) :
    Calls Try.prog 26 #[.slice A ps.length c, valL p] w (RetO2 (lyingS ps p).1 (lyingS ps p).2 w) := by
  have HP := Lib.hid hp; clear hp
  obtain ⟨w0, hw0⟩ : ∃ w0, w.alloc (.cells #[.int .i64 p.part, .int .i64 p.X, .int .i64 p.Y, .bool p.t] 48) = w0 := ⟨_, rfl⟩
  have hB0 : Below w.heap.size w w0 := by rw [← hw0]; (repeat (first | exact Below.refl _ _ | assumption | refine Below.alloc ?_ (by first | exact Nat.le_refl _ | exact Below.size (by assumption) | omega | (simp <;> omega)) _ | refine Below.setCell ?_ (by first | exact Nat.le_refl _ | exact Below.size (by assumption) | omega | (simp <;> omega)) _ | refine below_drewN ?_ _ | refine Below.drew ?_))
  have hz0 : w0.heap.size = w.heap.size + 1 := by rw [← hw0]; simp
  have HPA := Lib.hid (show PlAt w0 w.heap.size p by rw [← hw0]; exact PlAt.new w p)
  obtain ⟨q0, q1, q2, q3⟩ := HPA.out
  cases hv : partsB ps
  · have HS : Hid (lyingS ps p = ([], 70)) := by unfold Hid lyingS; rw [hv]; rfl
    have HV := Lib.hid hv; clear hv
    go_enter Try.func26, Try.ntmps26
    go_wp2_with fail
    clear hw0
    refine (validParts_any A c ps _ hm (HP.out.now hB0)).mono ?_
    rintro e w2 ⟨rfl, hb2⟩
    rw [HV.out]
    go_wp2
    go_ret2
    rw [HS.out]
    exact ⟨_, rfl, World.ownsRow_nil _ _ _ _, hB0.trans (hb2.mono hB0.size)⟩
  have hps := partsB_len hv
  cases hpl : placedB ps.length p
  · have HS : Hid (lyingS ps p = ([], 2)) := by unfold Hid lyingS; rw [hv, hpl]; rfl
    have HV := Lib.hid hv; clear hv
    have HX := Lib.hid hpl; clear hpl
    go_enter Try.func26, Try.ntmps26
    go_wp2_with fail
    clear hw0 q0 q1 q2 q3
    refine (validParts_any A c ps _ hm (HP.out.now hB0)).mono ?_
    rintro e w2 ⟨rfl, hb2⟩
    rw [HV.out]
    obtain ⟨q0, q1, q2, q3⟩ := HPA.out.below hb2 (by omega)
    have hz2 : w.heap.size < w2.heap.size := by have := hb2.size; omega
    go_wp2_with fail
    refine (lies_any A c ps.length p _).mono ?_
    rintro e w3 ⟨rfl, hb3⟩
    rw [HX.out]
    go_wp2
    go_ret2
    rw [HS.out]
    exact ⟨_, rfl, World.ownsRow_nil _ _ _ _, hB0.trans ((hb2.trans (hb3.mono hb2.size)).mono hB0.size)⟩
  have HS : Hid (lyingS ps p = (lyP ps p, 0)) := by unfold Hid lyingS; rw [hv, hpl]; rfl
  have hly : ∀ W : World, Below w.heap.size w W → Calls Try.prog 63 #[.slice A ps.length c, valL p] W (RetO (lyP ps p) W) := fun W hW => by
    obtain ⟨k, pt, hpk, hk, hat, _⟩ := placed_get hpl
    have := lying2_any A c ps k p.X p.Y p.t pt W hk (partsB_each hv (List.mem_of_getElem? hk)) (HP.out.now hW)
    unfold lyP
    rw [hat, ← hpk] at *
    exact this
  have HLY := Lib.hid hly; clear hly
  have HV := Lib.hid hv; clear hv
  have HX := Lib.hid hpl; clear hpl
  go_enter Try.func26, Try.ntmps26
  go_wp2_with fail
  clear hw0 q0 q1 q2 q3
  refine (validParts_any A c ps _ hm (HP.out.now hB0)).mono ?_
  rintro e w2 ⟨rfl, hb2⟩
  rw [HV.out]
  have hs2 := hb2.size
  obtain ⟨q0, q1, q2, q3⟩ := HPA.out.below hb2 (by omega)
  have hz2 : w.heap.size < w2.heap.size := by omega
  go_wp2_with fail
  refine (lies_any A c ps.length p _).mono ?_
  rintro e w3 ⟨rfl, hb3⟩
  rw [HX.out]
  have hb03 := hb2.trans (hb3.mono hs2)
  have hB3 := hB0.trans (hb03.mono hB0.size)
  have hs3 := hb03.size
  clear q0 q1 q2 q3
  obtain ⟨q0, q1, q2, q3⟩ := HPA.out.below hb03 (by omega)
  have hz3 : w.heap.size < w3.heap.size := by omega
  go_wp2_with fail
  refine (HLY.out _ hB3).mono ?_
  rintro e w4 ⟨v4, rfl, hown4, hb4⟩
  go_wp2
  go_ret2
  rw [HS.out]
  exact ⟨_, rfl, own_base hown4 hB3.size, hB3.trans (hb4.mono hB3.size)⟩

/-! ### Extent -/
def zeroR : RC := ⟨0, 0, 0, 0⟩
def boxL (l : List XY) : RC := ⟨nearW 1 0 l, nearW 0 1 l, wrap64 (farW 1 0 l - nearW 1 0 l), wrap64 (farW 0 1 l - nearW 0 1 l)⟩
def extL (ps : List PT) (L : List PL) : List XY := (L.map (lyP ps)).flatten
def extS (ps : List PT) (L : List PL) : RC × Int :=
  if !partsB ps then (zeroR, 70) else if 200 < L.length then (zeroR, 2) else if L.any (fun p => !placedB ps.length p) then (zeroR, 2) else
  if L.length = 0 then (zeroR, 0) else (boxL (extL ps L), 0)
theorem catL_map {sl : List SL} {os : List (List XY)} (h : sl.map (·.l) = os) : catL sl sl.length = os.flatten := by
  unfold catL; rw [List.take_length, ← h, List.flatMap_def]
theorem wd_mem {l : List XY} (h : Wd l) {q : XY} (hq : q ∈ l) : Bd 300000 q := by
  obtain ⟨k, hk⟩ := List.getElem?_of_mem hq
  have := h.2 k
  rwa [cy_lt hk] at this
structure ExtOk (ps : List PT) (L : List PL) : Prop where
  hp : partsB ps = true
  hl : L.length ≤ 200
  hr : ∀ p ∈ L, placedB ps.length p = true
theorem ext_wd {ps : List PT} {L : List PL} (h : ExtOk ps L) (h0 : 0 < L.length) : Wd (extL ps L) ∧ (extL ps L).length ≤ 12800 ∧ 3 ≤ (extL ps L).length := by
  have hmem : ∀ q ∈ extL ps L, Bd 300000 q := fun q hq => by
    obtain ⟨o, ho, hqo⟩ := List.mem_flatten.1 hq
    obtain ⟨p, hp, rfl⟩ := List.mem_map.1 ho
    exact wd_mem (lyP_lay h.hp (h.hr p hp)).1 hqo
  have hlen : ∀ M : List PL, (∀ p ∈ M, placedB ps.length p = true) → 3 * M.length ≤ (extL ps M).length ∧ (extL ps M).length ≤ 64 * M.length := by
    intro M
    induction M with
    | nil => intro _; unfold extL; simp
    | cons p M ih =>
      intro hM
      have h1 := ih (fun q hq => hM q (List.mem_cons_of_mem _ hq))
      have h2 := lyP_len h.hp (hM p (List.mem_cons_self ..))
      have e : extL ps (p :: M) = lyP ps p ++ extL ps M := by unfold extL; simp
      rw [e, List.length_append, List.length_cons]
      omega
  have hl := hlen L h.hr
  have hL := h.hl
  have hpos : 0 < (extL ps L).length := by omega
  exact ⟨⟨hpos, fun j => hmem _ (cy_mem hpos j)⟩, by omega, by omega⟩

structure Rx4 (w : World) (B : Nat) (r : RC) : Prop where
  c0 : w.cell? ⟨B, 0, none⟩ = some (.int .i64 r.X)
  c1 : w.cell? ⟨B, 1, none⟩ = some (.int .i64 r.Y)
  c2 : w.cell? ⟨B, 2, none⟩ = some (.int .i64 r.W)
  c3 : w.cell? ⟨B, 3, none⟩ = some (.int .i64 r.H)
def Rx (w : World) (B : Nat) (r : RC) : Prop := w.heap[B]? = some (.cells #[.int .i64 r.X, .int .i64 r.Y, .int .i64 r.W, .int .i64 r.H] 51 (0, 0))
theorem Rx.c {w : World} {B : Nat} {p : RC} (h : Rx w B p) : Rx4 w B p := by unfold Rx at h; exact ⟨by simp [World.cell?, h], by simp [World.cell?, h], by simp [World.cell?, h], by simp [World.cell?, h]⟩
theorem Rx.f {w : World} {B : Nat} {p : RC} (h : Rx w B p) : w.frozen? ⟨B, 0, none⟩ = false ∧ w.frozen? ⟨B, 1, none⟩ = false ∧ w.frozen? ⟨B, 2, none⟩ = false ∧ w.frozen? ⟨B, 3, none⟩ = false := by unfold Rx at h; exact ⟨by simp [World.frozen?, h], by simp [World.frozen?, h], by simp [World.frozen?, h], by simp [World.frozen?, h]⟩
theorem Rx.below {w w' : World} {B C : Nat} {p : RC} (h : Rx w B p) (hb : Below C w w') (hB : B < C) : Rx w' B p := (hb.block B hB).trans h
theorem Rx.new (w : World) (p : RC) : Rx (w.alloc (.cells #[.int .i64 p.X, .int .i64 p.Y, .int .i64 p.W, .int .i64 p.H] 51)) w.heap.size p := heap_alloc_new w _
theorem Rx.rd {w : World} {B : Nat} {p : RC} (h : Rx w B p) (x y z u : Value) : (w.setCell ⟨B, 0, none⟩ x).cell? ⟨B, 0, none⟩ = some x ∧ ((w.setCell ⟨B, 0, none⟩ x).setCell ⟨B, 1, none⟩ y).cell? ⟨B, 1, none⟩ = some y ∧
    (((w.setCell ⟨B, 0, none⟩ x).setCell ⟨B, 1, none⟩ y).setCell ⟨B, 2, none⟩ z).cell? ⟨B, 2, none⟩ = some z ∧ ((((w.setCell ⟨B, 0, none⟩ x).setCell ⟨B, 1, none⟩ y).setCell ⟨B, 2, none⟩ z).setCell ⟨B, 3, none⟩ u).cell? ⟨B, 3, none⟩ = some u := by
  unfold Rx at h
  exact ⟨by simp [World.setCell, World.cell?, Array.getElem?_modify, h], by simp [World.setCell, World.cell?, Array.getElem?_modify, h], by simp [World.setCell, World.cell?, Array.getElem?_modify, h], by simp [World.setCell, World.cell?, Array.getElem?_modify, h]⟩

set_option maxRecDepth 100000 in
set_option maxHeartbeats 1000000 in
theorem ext1_any (A : Option Addr) (c : Nat) (n : Nat) (Bp : Nat) (p : PL) (w : World) (hm : n ≤ 60) (hb : w.cell? ⟨Bp, 0, none⟩ = some (.slice A n c)) (hBp : Bp < w.heap.size) :
    Calls Try.prog 71 #[valL p, .pointer (some ⟨Bp, 0, none⟩)] w (Ret (.bool (!placedB n p)) w) := by
  have hB0 : Below w.heap.size w (w.alloc (.cells #[.int .i64 p.part, .int .i64 p.X, .int .i64 p.Y, .bool p.t] 48)) := by (repeat (first | exact Below.refl _ _ | assumption | refine Below.alloc ?_ (by first | exact Nat.le_refl _ | exact Below.size (by assumption) | omega | (simp <;> omega)) _ | refine Below.setCell ?_ (by first | exact Nat.le_refl _ | exact Below.size (by assumption) | omega | (simp <;> omega)) _ | refine below_drewN ?_ _ | refine Below.drew ?_))
  go_enter Try.func71, Try.ntmps71
  go_wp2_with fail
  refine (placed_any A c n p _ hm).mono ?_
  rintro e w2 ⟨rfl, hb2⟩
  go_wp2
  go_ret
  exact Ret.mk rfl (hB0.trans (hb2.mono hB0.size))

set_option maxRecDepth 100000 in
set_option maxHeartbeats 4000000 in
theorem Extent_any (A A3 : Option Addr) (c c3 : Nat) (ps : List PT) (L : List PL) (w : World) (hp : RdPP w w.heap.size A ps) (hl : RdL w w.heap.size A3 L) :
    Calls Try.prog 28 #[.slice A ps.length c, .slice A3 L.length c3] w (Ret (.tuple #[valR (extS ps L).1, .int .i64 (extS ps L).2]) w) := by
  have HP := Lib.hid hp; clear hp
  have HL := Lib.hid hl; clear hl
  obtain ⟨w0, hw0⟩ : ∃ w0, (w.alloc (.cells #[.slice A ps.length c] 36)).alloc (.cells #[.int .i64 0, .int .i64 0, .int .i64 0, .int .i64 0] 51) = w0 := ⟨_, rfl⟩
  have hB0 : Below w.heap.size w w0 := by rw [← hw0]; (repeat (first | exact Below.refl _ _ | assumption | refine Below.alloc ?_ (by first | exact Nat.le_refl _ | exact Below.size (by assumption) | omega | (simp <;> omega)) _ | refine Below.setCell ?_ (by first | exact Nat.le_refl _ | exact Below.size (by assumption) | omega | (simp <;> omega)) _ | refine below_drewN ?_ _ | refine Below.drew ?_))
  have hz0 : w0.heap.size = w.heap.size + 2 := by rw [← hw0]; simp
  have hbp : w0.cell? ⟨w.heap.size, 0, none⟩ = some (.slice A ps.length c) := by rw [← hw0]; simp
  have HBP := Lib.hid hbp
  have HRX : Hid (Rx w0 (w.heap.size + 1) zeroR) := by
    rw [Hid, ← hw0]
    have := Rx.new (w.alloc (.cells #[.slice A ps.length c] 36)) zeroR
    rwa [World.size_alloc] at this
  have hs : extS ps L = if !partsB ps then (zeroR, 70) else if 200 < L.length then (zeroR, 2) else if L.any (fun p => !placedB ps.length p) then (zeroR, 2) else if L.length = 0 then (zeroR, 0) else (boxL (extL ps L), 0) := rfl
  cases hv : partsB ps
  · rw [hv] at hs
    have HS := Lib.hid hs; clear hs
    have HV := Lib.hid hv; clear hv
    go_enter Try.func28, Try.ntmps28
    go_wp2_with fail
    clear hw0
    refine (partsValid_any A c ps _ (HP.out.now hB0)).mono ?_
    rintro e w2 ⟨rfl, hb2⟩
    rw [HV.out]
    have hs2 := hb2.size
    have HRX2 := Lib.hid (HRX.out.below hb2 (by omega))
    obtain ⟨r0, r1, r2, r3⟩ := HRX2.out.c
    obtain ⟨g0, g1, g2, g3⟩ := HRX2.out.f
    have hB2 := hB0.trans (hb2.mono hB0.size)
    have hzz : w.heap.size + 1 < w2.heap.size := by omega
    go_wp2
    obtain ⟨y0, y1, y2, y3⟩ := Rx.rd HRX2.out (.int .i64 0) (.int .i64 0) (.int .i64 0) (.int .i64 0); refine bodyPost_ret (v := .tuple #[valR zeroR, .int .i64 70]) (by simp [results, Try.results28, go_sem, y0, y1, y2, y3, zeroR]) rfl ?_
    exact Ret.mk (by rw [HS.out] <;> rfl) (by (repeat (first | exact Below.refl _ _ | assumption | refine Below.alloc ?_ (by first | exact Nat.le_refl _ | exact Below.size (by assumption) | omega | (simp <;> omega)) _ | refine Below.setCell ?_ (by first | exact Nat.le_refl _ | exact Below.size (by assumption) | omega | (simp <;> omega)) _ | refine below_drewN ?_ _ | refine Below.drew ?_)))
  rw [hv, if_neg (by simp)] at hs
  have hps := partsB_len hv
  have HV := Lib.hid hv; clear hv
  by_cases h200 : 200 < L.length
  · rw [if_pos h200] at hs
    have HS := Lib.hid hs; clear hs
    have hI : 200 < (L.length : Int) := by omega
    go_enter Try.func28, Try.ntmps28
    go_wp2_with fail
    clear hw0
    refine (partsValid_any A c ps _ (HP.out.now hB0)).mono ?_
    rintro e w2 ⟨rfl, hb2⟩
    rw [HV.out]
    have hs2 := hb2.size
    have HRX2 := Lib.hid (HRX.out.below hb2 (by omega))
    obtain ⟨r0, r1, r2, r3⟩ := HRX2.out.c
    obtain ⟨g0, g1, g2, g3⟩ := HRX2.out.f
    have hB2 := hB0.trans (hb2.mono hB0.size)
    have hzz : w.heap.size + 1 < w2.heap.size := by omega
    go_wp2
    obtain ⟨y0, y1, y2, y3⟩ := Rx.rd HRX2.out (.int .i64 0) (.int .i64 0) (.int .i64 0) (.int .i64 0); refine bodyPost_ret (v := .tuple #[valR zeroR, .int .i64 2]) (by simp [results, Try.results28, go_sem, y0, y1, y2, y3, zeroR]) rfl ?_
    exact Ret.mk (by rw [HS.out] <;> rfl) (by (repeat (first | exact Below.refl _ _ | assumption | refine Below.alloc ?_ (by first | exact Nat.le_refl _ | exact Below.size (by assumption) | omega | (simp <;> omega)) _ | refine Below.setCell ?_ (by first | exact Nat.le_refl _ | exact Below.size (by assumption) | omega | (simp <;> omega)) _ | refine below_drewN ?_ _ | refine Below.drew ?_)))
  rw [if_neg h200] at hs
  have HSA := Lib.hid hs; clear hs
  have hI : ¬ 200 < (L.length : Int) := by omega
  go_enter Try.func28, Try.ntmps28
  go_wp2_with fail
  clear hw0
  refine (partsValid_any A c ps _ (HP.out.now hB0)).mono ?_
  rintro e w1 ⟨rfl, hb1⟩
  rw [HV.out]
  have hB1 := hB0.trans (hb1.mono hB0.size)
  have hs1 := hb1.size
  have hbp1 := (hb1.cell (p := ⟨w.heap.size, 0, none⟩) (by show w.heap.size < _; omega)).trans HBP.out
  have htl : TellsL 71 #[.pointer (some ⟨w.heap.size, 0, none⟩)] (fun p => !placedB ps.length p) L w1 :=
    ⟨enters_of Try.func71 (by kernel_rfl) rfl, fun W p _ hW => ext1_any A c ps.length w.heap.size p W hps ((hW.cell (p := ⟨w.heap.size, 0, none⟩) (by show w.heap.size < _; omega)).trans hbp1) (by have := hW.size; omega)⟩
  have HCF := Lib.hid (containsFuncL_any 71 #[.pointer (some ⟨w.heap.size, 0, none⟩)] (fun p => !placedB ps.length p) A3 c3 L w1 htl (by omega) (HL.out.now hB1))
  clear htl hbp
  go_wp2_with fail
  refine HCF.out.mono ?_
  rintro e w2 ⟨rfl, hb2⟩
  have hB2 := hB1.trans (hb2.mono hB1.size)
  have hb02 := hb1.trans (hb2.mono hb1.size)
  have hs2 := hb02.size
  clear HCF hbp1
  have HRX2 := Lib.hid (HRX.out.below hb02 (by omega))
  have hz2 : w.heap.size < w2.heap.size := by omega
  have hz2' : w.heap.size + 1 < w2.heap.size := by omega
  have hs := HSA.out
  clear HSA
  by_cases hr : L.any (fun p => !placedB ps.length p) = true
  · rw [if_pos hr] at hs
    have HS := Lib.hid hs; clear hs
    rw [hr]
    clear hr
    obtain ⟨r0, r1, r2, r3⟩ := HRX2.out.c
    obtain ⟨g0, g1, g2, g3⟩ := HRX2.out.f
    go_wp2
    obtain ⟨y0, y1, y2, y3⟩ := Rx.rd HRX2.out (.int .i64 0) (.int .i64 0) (.int .i64 0) (.int .i64 0); refine bodyPost_ret (v := .tuple #[valR zeroR, .int .i64 2]) (by simp [results, Try.results28, go_sem, y0, y1, y2, y3, zeroR]) rfl ?_
    exact Ret.mk (by rw [HS.out] <;> rfl) (by (repeat (first | exact Below.refl _ _ | assumption | refine Below.alloc ?_ (by first | exact Nat.le_refl _ | exact Below.size (by assumption) | omega | (simp <;> omega)) _ | refine Below.setCell ?_ (by first | exact Nat.le_refl _ | exact Below.size (by assumption) | omega | (simp <;> omega)) _ | refine below_drewN ?_ _ | refine Below.drew ?_)))
  rw [if_neg hr] at hs
  rw [Bool.not_eq_true] at hr
  rw [hr]
  have hall : ∀ p ∈ L, placedB ps.length p = true := fun p hp => by
    rw [List.any_eq_false] at hr
    have := hr p hp
    simpa using this
  have HEX := Lib.hid (ExtOk.mk HV.out (by omega) hall); clear hall hr
  have HSB := Lib.hid hs; clear hs
  have hbp2 := (hb02.cell (p := ⟨w.heap.size, 0, none⟩) (by show w.heap.size < _; omega)).trans HBP.out
  go_wp2_with fail
  refine (all_any A A3 c c3 ps L _ (by omega) HV.out HEX.out.hr (HP.out.now hB2) (HL.out.now hB2)).mono ?_
  rintro e w3 ⟨A4, c4, sl, rfl, _, _, hrs, hrd, hmap, hb3⟩
  have hsl2 : sl.length = L.length := by
    have := congrArg List.length hmap
    simpa using this
  have hlen : ∀ s ∈ sl, 3 ≤ s.l.length ∧ s.l.length ≤ 64 := fun s hs => by
    have : s.l ∈ L.map (lyP ps) := by rw [← hmap]; exact List.mem_map.2 ⟨s, hs, rfl⟩
    obtain ⟨p, hp, e⟩ := List.mem_map.1 this
    rw [← e]
    exact lyP_len HV.out (HEX.out.hr p hp)
  have hcat : catL sl sl.length = extL ps L := catL_map hmap
  have hB3 := hB2.trans (hb3.mono hB2.size)
  have hb03 := hb02.trans (hb3.mono hb02.size)
  have hsl3 : sl.length ≤ 200 := by omega
  have HRS := Lib.hid hrs
  have HRD := Lib.hid hrd
  have HLN := Lib.hid hlen
  clear hbp2 hrs hrd hlen hmap hsl2
  go_wp2_with fail
  refine (Concat_any A4 c4 sl _ hsl3 HLN.out HRS.out HRD.out).mono ?_
  rintro e w4 ⟨v4, rfl, hown4, hb4⟩
  rw [hcat] at hown4
  clear hcat
  obtain ⟨A5, c5, rfl, hr5⟩ := own_rd hown4
  have HR5 := Lib.hid hr5; clear hr5 hown4
  have hB4 := hB3.trans (hb4.mono hB3.size)
  have hb04 := hb03.trans (hb4.mono hb03.size)
  have hs4 := hb04.size
  have HRX4 := Lib.hid (HRX.out.below hb04 (by omega))
  have hz4 : w.heap.size + 1 < w4.heap.size := by omega
  have hs := HSB.out
  clear HSB
  by_cases h0 : L.length = 0
  · rw [if_pos h0] at hs
    have HS := Lib.hid hs; clear hs
    have hle : (extL ps L).length = 0 := by
      have : L = [] := List.length_eq_zero_iff.1 h0
      rw [this]; rfl
    have HLE := Lib.hid hle; clear hle
    rw [HLE.out]
    clear h0
    obtain ⟨r0, r1, r2, r3⟩ := HRX4.out.c
    obtain ⟨g0, g1, g2, g3⟩ := HRX4.out.f
    go_wp2
    obtain ⟨y0, y1, y2, y3⟩ := Rx.rd HRX4.out (.int .i64 0) (.int .i64 0) (.int .i64 0) (.int .i64 0); refine bodyPost_ret (v := .tuple #[valR zeroR, .int .i64 0]) (by simp [results, Try.results28, go_sem, y0, y1, y2, y3, zeroR]) rfl ?_
    exact Ret.mk (by rw [HS.out] <;> rfl) (by (repeat (first | exact Below.refl _ _ | assumption | refine Below.alloc ?_ (by first | exact Nat.le_refl _ | exact Below.size (by assumption) | omega | (simp <;> omega)) _ | refine Below.setCell ?_ (by first | exact Nat.le_refl _ | exact Below.size (by assumption) | omega | (simp <;> omega)) _ | refine below_drewN ?_ _ | refine Below.drew ?_)))
  rw [if_neg h0] at hs
  obtain ⟨hwd, hle1, hle2⟩ := ext_wd HEX.out (by omega)
  have HS := Lib.hid hs; clear hs h0
  obtain ⟨l, hl⟩ : ∃ l, extL ps L = l := ⟨_, rfl⟩
  rw [hl] at HS HR5 hwd hle1 hle2 ⊢
  clear hl
  have hsp1 : ∀ W : World, Rd W W.heap.size A5 l → Calls Try.prog 58 #[.slice A5 l.length c5, .int .i64 1, .int .i64 0] W (Ret (.tuple #[.int .i64 (nearW 1 0 l), .int .i64 (farW 1 0 l)]) W) := fun W h => span_any 1 0 A5 c5 l W (by omega) (by omega) h
  have hsp2 : ∀ W : World, Rd W W.heap.size A5 l → Calls Try.prog 58 #[.slice A5 l.length c5, .int .i64 0, .int .i64 1] W (Ret (.tuple #[.int .i64 (nearW 0 1 l), .int .i64 (farW 0 1 l)]) W) := fun W h => span_any 0 1 A5 c5 l W (by omega) (by omega) h
  have hbx : boxL l = ⟨nearW 1 0 l, nearW 0 1 l, wrap64 (farW 1 0 l - nearW 1 0 l), wrap64 (farW 0 1 l - nearW 0 1 l)⟩ := rfl
  have HBX := Lib.hid hbx; clear hbx
  generalize nearW 1 0 l = x1 at hsp1 HBX
  generalize farW 1 0 l = x2 at hsp1 HBX
  generalize nearW 0 1 l = y1 at hsp2 HBX
  generalize farW 0 1 l = y2 at hsp2 HBX
  have HS1 := Lib.hid hsp1; clear hsp1
  have HS2 := Lib.hid hsp2; clear hsp2 hwd
  have hne : ¬ l = [] := by rintro rfl; simp at hle2
  have hneI : ¬ (l.length : Int) = 0 := by omega
  go_wp2_with fail
  refine (HS1.out _ HR5.out).mono ?_
  rintro e w5 ⟨rfl, hb5⟩
  go_wp2_with fail
  refine (HS2.out _ (HR5.out.now hb5)).mono ?_
  rintro e w6 ⟨rfl, hb6⟩
  have hb46 := hb5.trans (hb6.mono hb5.size)
  have hB6 := hB4.trans (hb46.mono hB4.size)
  have hs6 := hb46.size
  have HRX6 := Lib.hid (HRX4.out.below hb46 (by omega))
  obtain ⟨r0, r1, r2, r3⟩ := HRX6.out.c
  obtain ⟨g0, g1, g2, g3⟩ := HRX6.out.f
  have hz6 : w.heap.size + 1 < w6.heap.size := by omega
  go_wp2
  obtain ⟨z0, z1, z2, z3⟩ := Rx.rd HRX6.out (.int .i64 x1) (.int .i64 y1) (.int .i64 (wrap64 (x2 - x1))) (.int .i64 (wrap64 (y2 - y1))); refine bodyPost_ret (v := .tuple #[valR ⟨x1, y1, wrap64 (x2 - x1), wrap64 (y2 - y1)⟩, .int .i64 0]) (by simp [results, Try.results28, go_sem, z0, z1, z2, z3]) rfl ?_
  exact Ret.mk (by rw [HS.out, HBX.out] <;> rfl) (by (repeat (first | exact Below.refl _ _ | assumption | refine Below.alloc ?_ (by first | exact Nat.le_refl _ | exact Below.size (by assumption) | omega | (simp <;> omega)) _ | refine Below.setCell ?_ (by first | exact Nat.le_refl _ | exact Below.size (by assumption) | omega | (simp <;> omega)) _ | refine below_drewN ?_ _ | refine Below.drew ?_)))
end Go.Proofs.Ytcbiehnaomcfbaa

/- Which boards and parts are valid, in the program: the walks. -/
import Derived.Test.YtohlinbcbfgdfaaNIdx
import Derived.Test.YtohlinbcbfgdfaaWB
namespace Go.Proofs.Ytohlinbcbfgdfaa
open Go.RowKit Go.Shelf

/-- A board as a value; in a block of its own. -/
abbrev bdv (b : BD) (A : Option Addr) (c : Nat) : Value := .agg #[.int .i64 b.W, .int .i64 b.H, .int .i64 b.G, .slice A b.F.length c]
structure BdAt (w : World) (B : Nat) (b : BD) (A : Option Addr) (c : Nat) : Prop where
  c0 : w.cell? ⟨B, 0, none⟩ = some (.int .i64 b.W)
  c1 : w.cell? ⟨B, 1, none⟩ = some (.int .i64 b.H)
  c2 : w.cell? ⟨B, 2, none⟩ = some (.int .i64 b.G)
  c3 : w.cell? ⟨B, 3, none⟩ = some (.slice A b.F.length c)
theorem BdAt.below {w w' : World} {B C : Nat} {b : BD} {A : Option Addr} {c : Nat} (h : BdAt w B b A c) (hb : Below C w w') (hB : B < C) : BdAt w' B b A c :=
  ⟨(hb.cell (p := ⟨B, 0, none⟩) hB).trans h.c0, (hb.cell (p := ⟨B, 1, none⟩) hB).trans h.c1, (hb.cell (p := ⟨B, 2, none⟩) hB).trans h.c2, (hb.cell (p := ⟨B, 3, none⟩) hB).trans h.c3⟩
theorem BdAt.new (w : World) (b : BD) (A : Option Addr) (c : Nat) : BdAt (w.alloc (.cells #[.int .i64 b.W, .int .i64 b.H, .int .i64 b.G, .slice A b.F.length c] 24)) w.heap.size b A c := ⟨by simp, by simp, by simp, by simp⟩
/-- Parts as they lie: with their outlines. -/
structure RdPP (w : World) (B : Nat) (A : Option Addr) (ps : List PT) : Prop where
  flat : RdP w B A ps
  each : ∀ p ∈ ps, Rd w B p.A p.o ∧ p.o.length ≤ p.c
theorem RdPP.now {w w' : World} {A : Option Addr} {ps : List PT} (h : RdPP w w.heap.size A ps) (hb : Below w.heap.size w w') : RdPP w' w'.heap.size A ps := ⟨h.flat.now hb, fun p hp => ⟨(h.each p hp).1.now hb, (h.each p hp).2⟩⟩

/-- The call returns v, and the world is as it was. -/
def RetS (v : Value) (w : World) (e : Ending) (w' : World) : Prop := e = .returned v ∧ w' = w

theorem between_any (a n b : Int) (w : World) : Calls Try.prog 45 #[.int .i64 a, .int .i64 n, .int .i64 b] w (RetS (.bool (betw a n b)) w) := by
  go_enter Try.func45, Try.ntmps45
  go_wp2
  all_goals
    go_ret
    exact ⟨by simp [betw]; omega, rfl⟩

set_option maxRecDepth 100000 in
set_option maxHeartbeats 1000000 in
theorem board1_any (b : BD) (Ab : Nat) (A : Option Addr) (c : Nat) (r : RC) (w : World) (hb : BdAt w Ab b A c) (hAb : Ab < w.heap.size) :
    Calls Try.prog 101 #[valR r, .pointer (some ⟨Ab, 0, none⟩)] w (Ret (.bool (rcBad b.W b.H r)) w) := by
  obtain ⟨c0, c1, c2, c3⟩ := hb
  have hB0 : Below w.heap.size w (w.alloc (.cells #[.int .i64 r.X, .int .i64 r.Y, .int .i64 r.W, .int .i64 r.H] 61)) := by (repeat (first | exact Below.refl _ _ | assumption | refine Below.alloc ?_ (by first | exact Nat.le_refl _ | exact Below.size (by assumption) | omega | (simp <;> omega)) _ | refine Below.setCell ?_ (by first | exact Nat.le_refl _ | exact Below.size (by assumption) | omega | (simp <;> omega)) _ | refine below_drewN ?_ _ | refine Below.drew ?_))
  cases h1 : betw 0 r.X b.W
  · have H1 := Lib.hid h1; clear h1
    have HS : Hid (rcBad b.W b.H r = true) := by simp [Hid, rcBad, H1.out]
    go_enter Try.func101, Try.ntmps101
    go_wp2_with fail
    refine (between_any 0 r.X b.W _).mono ?_
    rintro e w2 ⟨rfl, rfl⟩
    rw [H1.out]
    go_wp2
    go_ret
    exact Ret.mk (by rw [HS.out]; rfl) hB0
  · have H1 := Lib.hid h1; clear h1
    cases h2 : betw 0 r.Y b.H
    · have H2 := Lib.hid h2; clear h2
      have HS : Hid (rcBad b.W b.H r = true) := by simp [Hid, rcBad, H1.out, H2.out]
      go_enter Try.func101, Try.ntmps101
      go_wp2_with fail
      refine (between_any 0 r.X b.W _).mono ?_
      rintro e w2 ⟨rfl, rfl⟩
      rw [H1.out]
      go_wp2_with fail
      refine (between_any 0 r.Y b.H _).mono ?_
      rintro e w2 ⟨rfl, rfl⟩
      rw [H2.out]
      go_wp2
      go_ret
      exact Ret.mk (by rw [HS.out]; rfl) hB0
    · have H2 := Lib.hid h2; clear h2
      cases h3 : betw 1 r.W (wrap64 (b.W - r.X))
      · have H3 := Lib.hid h3; clear h3
        have HS : Hid (rcBad b.W b.H r = true) := by simp [Hid, rcBad, H1.out, H2.out, H3.out]
        go_enter Try.func101, Try.ntmps101
        go_wp2_with fail
        refine (between_any 0 r.X b.W _).mono ?_
        rintro e w2 ⟨rfl, rfl⟩
        rw [H1.out]
        go_wp2_with fail
        refine (between_any 0 r.Y b.H _).mono ?_
        rintro e w2 ⟨rfl, rfl⟩
        rw [H2.out]
        go_wp2_with fail
        refine (between_any 1 r.W (wrap64 (b.W - r.X)) _).mono ?_
        rintro e w2 ⟨rfl, rfl⟩
        rw [H3.out]
        go_wp2
        go_ret
        exact Ret.mk (by rw [HS.out]; rfl) hB0
      · have H3 := Lib.hid h3; clear h3
        have HS : Hid (rcBad b.W b.H r = !betw 1 r.H (wrap64 (b.H - r.Y))) := by simp [Hid, rcBad, H1.out, H2.out, H3.out]
        go_enter Try.func101, Try.ntmps101
        go_wp2_with fail
        refine (between_any 0 r.X b.W _).mono ?_
        rintro e w2 ⟨rfl, rfl⟩
        rw [H1.out]
        go_wp2_with fail
        refine (between_any 0 r.Y b.H _).mono ?_
        rintro e w2 ⟨rfl, rfl⟩
        rw [H2.out]
        go_wp2_with fail
        refine (between_any 1 r.W (wrap64 (b.W - r.X)) _).mono ?_
        rintro e w2 ⟨rfl, rfl⟩
        rw [H3.out]
        go_wp2_with fail
        refine (between_any 1 r.H (wrap64 (b.H - r.Y)) _).mono ?_
        rintro e w2 ⟨rfl, rfl⟩
        go_wp2
        go_ret
        exact Ret.mk (by rw [HS.out]; rfl) hB0

theorem board_any (b : BD) (A : Option Addr) (c : Nat) (w : World) (hF : RdR w w.heap.size A b.F) :
    Calls Try.prog 71 #[bdv b A c] w (Ret (.bool (boardB b)) w) := by
  have HF := Lib.hid hF; clear hF
  have hB0 : Below w.heap.size w (w.alloc (.cells #[.int .i64 b.W, .int .i64 b.H, .int .i64 b.G, .slice A b.F.length c] 24)) := by (repeat (first | exact Below.refl _ _ | assumption | refine Below.alloc ?_ (by first | exact Nat.le_refl _ | exact Below.size (by assumption) | omega | (simp <;> omega)) _ | refine Below.setCell ?_ (by first | exact Nat.le_refl _ | exact Below.size (by assumption) | omega | (simp <;> omega)) _ | refine below_drewN ?_ _ | refine Below.drew ?_))
  have HN := Lib.hid (BdAt.new w b A c)
  cases h1 : betw 1 b.W 60000
  · have H1 := Lib.hid h1; clear h1
    have HS : Hid (boardB b = false) := by simp [Hid, boardB, H1.out]
    go_enter Try.func71, Try.ntmps71
    go_wp2_with fail
    refine (between_any 1 b.W 60000 _).mono ?_
    rintro e w2 ⟨rfl, rfl⟩
    rw [H1.out]
    go_wp2
    go_ret
    exact Ret.mk (by rw [HS.out]; rfl) hB0
  have H1 := Lib.hid h1; clear h1
  cases h2 : betw 1 b.H 60000
  · have H2 := Lib.hid h2; clear h2
    have HS : Hid (boardB b = false) := by simp [Hid, boardB, H2.out]
    go_enter Try.func71, Try.ntmps71
    go_wp2_with fail
    refine (between_any 1 b.W 60000 _).mono ?_
    rintro e w2 ⟨rfl, rfl⟩
    rw [H1.out]
    go_wp2_with fail
    refine (between_any 1 b.H 60000 _).mono ?_
    rintro e w2 ⟨rfl, rfl⟩
    rw [H2.out]
    go_wp2
    go_ret
    exact Ret.mk (by rw [HS.out]; rfl) hB0
  have H2 := Lib.hid h2; clear h2
  cases h3 : betw 0 b.G 2000
  · have H3 := Lib.hid h3; clear h3
    have HS : Hid (boardB b = false) := by simp [Hid, boardB, H3.out]
    go_enter Try.func71, Try.ntmps71
    go_wp2_with fail
    refine (between_any 1 b.W 60000 _).mono ?_
    rintro e w2 ⟨rfl, rfl⟩
    rw [H1.out]
    go_wp2_with fail
    refine (between_any 1 b.H 60000 _).mono ?_
    rintro e w2 ⟨rfl, rfl⟩
    rw [H2.out]
    go_wp2_with fail
    refine (between_any 0 b.G 2000 _).mono ?_
    rintro e w2 ⟨rfl, rfl⟩
    rw [H3.out]
    go_wp2
    go_ret
    exact Ret.mk (by rw [HS.out]; rfl) hB0
  have H3 := Lib.hid h3; clear h3
  by_cases h4 : 10 < b.F.length
  · have HS : Hid (boardB b = false) := by simp [Hid, boardB]; omega
    go_enter Try.func71, Try.ntmps71
    go_wp2_with fail
    refine (between_any 1 b.W 60000 _).mono ?_
    rintro e w2 ⟨rfl, rfl⟩
    rw [H1.out]
    go_wp2_with fail
    refine (between_any 1 b.H 60000 _).mono ?_
    rintro e w2 ⟨rfl, rfl⟩
    rw [H2.out]
    go_wp2_with fail
    refine (between_any 0 b.G 2000 _).mono ?_
    rintro e w2 ⟨rfl, rfl⟩
    rw [H3.out]
    go_wp2
    go_ret
    exact Ret.mk (by rw [HS.out]; rfl) hB0
  · have HS : Hid (boardB b = !b.F.any (rcBad b.W b.H)) := by simp [Hid, boardB, H1.out, H2.out, H3.out, show b.F.length ≤ 10 by omega]
    have hz : (w.alloc (.cells #[.int .i64 b.W, .int .i64 b.H, .int .i64 b.G, .slice A b.F.length c] 24)).heap.size = w.heap.size + 1 := by simp
    have htl : TellsR 101 #[.pointer (some ⟨w.heap.size, 0, none⟩)] (rcBad b.W b.H) b.F (w.alloc (.cells #[.int .i64 b.W, .int .i64 b.H, .int .i64 b.G, .slice A b.F.length c] 24)) :=
      ⟨enters_of Try.func101 (by kernel_rfl) rfl, fun W p _ hW => board1_any b w.heap.size A c p W (HN.out.below hW (by omega)) (by have := hW.size; omega)⟩
    have HCF := Lib.hid (containsFuncR_any 101 #[.pointer (some ⟨w.heap.size, 0, none⟩)] (rcBad b.W b.H) A c b.F _ htl (by omega) (HF.out.now hB0))
    clear htl
    go_enter Try.func71, Try.ntmps71
    go_wp2_with fail
    refine (between_any 1 b.W 60000 _).mono ?_
    rintro e w2 ⟨rfl, rfl⟩
    rw [H1.out]
    go_wp2_with fail
    refine (between_any 1 b.H 60000 _).mono ?_
    rintro e w2 ⟨rfl, rfl⟩
    rw [H2.out]
    go_wp2_with fail
    refine (between_any 0 b.G 2000 _).mono ?_
    rintro e w2 ⟨rfl, rfl⟩
    rw [H3.out]
    go_wp2_with fail
    refine HCF.out.mono ?_
    rintro e w3 ⟨rfl, hb3⟩
    go_wp2
    go_ret
    exact Ret.mk (by rw [HS.out]; rfl) (hB0.trans (hb3.mono hB0.size))

theorem parts1_any (p : PT) (w : World) (hp : Rd w w.heap.size p.A p.o) : Calls Try.prog 103 #[valP p] w (Ret (.bool (!validB p.o)) w) := by
  have HP := Lib.hid hp; clear hp
  have hB0 : Below w.heap.size w (w.alloc (.cells #[.slice p.A p.o.length p.c, .bool p.t] 41)) := by (repeat (first | exact Below.refl _ _ | assumption | refine Below.alloc ?_ (by first | exact Nat.le_refl _ | exact Below.size (by assumption) | omega | (simp <;> omega)) _ | refine Below.setCell ?_ (by first | exact Nat.le_refl _ | exact Below.size (by assumption) | omega | (simp <;> omega)) _ | refine below_drewN ?_ _ | refine Below.drew ?_))
  go_enter Try.func103, Try.ntmps103
  go_wp2_with fail
  refine (valid_any p.A p.c p.o _ (HP.out.now hB0)).mono ?_
  rintro e w2 ⟨rfl, hb2⟩
  go_wp2
  go_ret
  exact Ret.mk rfl (hB0.trans (hb2.mono hB0.size))

theorem partsValid_any (A : Option Addr) (c : Nat) (ps : List PT) (w : World) (hp : RdPP w w.heap.size A ps) :
    Calls Try.prog 72 #[.slice A ps.length c] w (Ret (.bool (partsB ps)) w) := by
  have HP := Lib.hid hp; clear hp
  by_cases h4 : ps.length ≤ 60
  · have HS : Hid (partsB ps = !ps.any (fun p => !validB p.o)) := by simp [Hid, partsB, h4]
    have HCF := Lib.hid (containsFuncP_any 103 #[] (fun p => !validB p.o) A c ps w ⟨enters_of Try.func103 (by kernel_rfl) rfl, fun W p hm hW => parts1_any p W ((HP.out.now hW).each p hm).1⟩ (by omega) HP.out.flat)
    go_enter Try.func72, Try.ntmps72
    go_wp2_with fail
    refine HCF.out.mono ?_
    rintro e w3 ⟨rfl, hb3⟩
    go_wp2
    go_ret
    exact Ret.mk (by rw [HS.out]; rfl) hb3
  · have HS : Hid (partsB ps = false) := by simp [Hid, partsB, h4]
    go_enter Try.func72, Try.ntmps72
    go_wp2
    go_ret
    exact Ret.mk (by rw [HS.out]; rfl) (by (repeat (first | exact Below.refl _ _ | assumption | refine Below.alloc ?_ (by first | exact Nat.le_refl _ | exact Below.size (by assumption) | omega | (simp <;> omega)) _ | refine Below.setCell ?_ (by first | exact Nat.le_refl _ | exact Below.size (by assumption) | omega | (simp <;> omega)) _ | refine below_drewN ?_ _ | refine Below.drew ?_)))

theorem nvalid_any (b : BD) (A A2 : Option Addr) (c c2 : Nat) (ps : List PT) (w : World) (hF : RdR w w.heap.size A b.F) (hp : RdPP w w.heap.size A2 ps) :
    Calls Try.prog 32 #[bdv b A c, .slice A2 ps.length c2] w (Ret (.bool (boardB b && partsB ps)) w) := by
  have HF := Lib.hid hF; clear hF
  have HP := Lib.hid hp; clear hp
  have hB0 : Below w.heap.size w (w.alloc (.cells #[.int .i64 b.W, .int .i64 b.H, .int .i64 b.G, .slice A b.F.length c] 24)) := by (repeat (first | exact Below.refl _ _ | assumption | refine Below.alloc ?_ (by first | exact Nat.le_refl _ | exact Below.size (by assumption) | omega | (simp <;> omega)) _ | refine Below.setCell ?_ (by first | exact Nat.le_refl _ | exact Below.size (by assumption) | omega | (simp <;> omega)) _ | refine below_drewN ?_ _ | refine Below.drew ?_))
  cases hv : boardB b
  · have HV := Lib.hid hv; clear hv
    go_enter Try.func32, Try.ntmps32
    go_wp2_with fail
    refine (board_any b A c _ (HF.out.now hB0)).mono ?_
    rintro e w2 ⟨rfl, hb2⟩
    rw [HV.out]
    go_wp2
    go_ret
    exact Ret.mk rfl (hB0.trans (hb2.mono hB0.size))
  · have HV := Lib.hid hv; clear hv
    go_enter Try.func32, Try.ntmps32
    go_wp2_with fail
    refine (board_any b A c _ (HF.out.now hB0)).mono ?_
    rintro e w2 ⟨rfl, hb2⟩
    rw [HV.out]
    have hB2 := hB0.trans (hb2.mono hB0.size)
    go_wp2_with fail
    refine (partsValid_any A2 c2 ps _ (HP.out.now hB2)).mono ?_
    rintro e w3 ⟨rfl, hb3⟩
    go_wp2
    go_ret
    exact Ret.mk rfl (hB2.trans (hb3.mono hB2.size))
end Go.Proofs.Ytohlinbcbfgdfaa

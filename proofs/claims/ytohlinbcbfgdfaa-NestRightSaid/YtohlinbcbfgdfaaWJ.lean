/- Check of the reference; free, of both: the walks. Free, of both: the walks. -/
import Derived.Test.YtohlinbcbfgdfaaWI
namespace Go.Proofs.Ytohlinbcbfgdfaa
open Go.RowKit Go.Shelf

set_option maxRecDepth 100000 in
set_option maxHeartbeats 1000000 in
theorem Check2_any (b : BD) (A A2 A3 : Option Addr) (c c2 c3 : Nat) (ps : List PT) (L : List PL) (w : World) (hm : ps.length ≤ Go.maxLen) (hc3 : L.length ≤ c3) (hF : RdR w w.heap.size A b.F) (hp : RdPP w w.heap.size A2 ps) (hl : RdL w w.heap.size A3 L) :
    Calls Try.prog 27 #[bdv b A c, .slice A2 ps.length c2, .slice A3 L.length c3] w (Ret (.tuple #[.int .i64 (checkS b ps L).1, .int .i64 (checkS b ps L).2]) w) := by
  have HF := Lib.hid hF; clear hF
  have HP := Lib.hid hp; clear hp
  have HL := Lib.hid hl; clear hl
  obtain ⟨w0, hw0⟩ : ∃ w0, w.alloc (.cells #[.int .i64 b.W, .int .i64 b.H, .int .i64 b.G, .slice A b.F.length c] 24) = w0 := ⟨_, rfl⟩
  have hB0 : Below w.heap.size w w0 := by rw [← hw0]; (repeat (first | exact Below.refl _ _ | assumption | refine Below.alloc ?_ (by first | exact Nat.le_refl _ | exact Below.size (by assumption) | omega | (simp <;> omega)) _ | refine Below.setCell ?_ (by first | exact Nat.le_refl _ | exact Below.size (by assumption) | omega | (simp <;> omega)) _ | refine below_drewN ?_ _ | refine Below.drew ?_))
  have hz0 : w0.heap.size = w.heap.size + 1 := by rw [← hw0]; simp
  have HBD := Lib.hid (show BdAt w0 w.heap.size b A c by rw [← hw0]; exact BdAt.new w b A c)
  obtain ⟨k0, k1, k2, k3⟩ := HBD.out
  cases hv : boardB b && partsB ps
  · have hs : checkS b ps L = (0, 70) := by unfold checkS; rw [hv]; rfl
    have HS := Lib.hid hs; clear hs
    have HV := Lib.hid hv; clear hv
    go_enter Try.func27, Try.ntmps27
    go_wp2_with fail
    clear hw0
    refine (nvalid2_any b A A2 c c2 ps _ hm (HF.out.now hB0) (HP.out.now hB0)).mono ?_
    rintro e w2 ⟨rfl, hb2⟩
    rw [HV.out]
    go_wp2
    go_ret2
    exact Ret.mk (by rw [HS.out]; rfl) (hB0.trans (hb2.mono hB0.size))
  · have hv' := hv
    simp only [Bool.and_eq_true] at hv'
    have HV := Lib.hid hv; clear hv
    have hck := fun W h1 h2 h3 => check2_any b A A2 A3 c c2 c3 ps L W hc3 hv'.1 hv'.2 h1 h2 h3
    obtain ⟨⟨n, f⟩, hn⟩ : ∃ r, checkS b ps L = r := ⟨_, rfl⟩
    rw [hn] at hck ⊢
    have HCK := Lib.hid hck; clear hck hn hv'
    go_enter Try.func27, Try.ntmps27
    go_wp2_with fail
    clear hw0
    refine (nvalid2_any b A A2 c c2 ps _ hm (HF.out.now hB0) (HP.out.now hB0)).mono ?_
    rintro e w2 ⟨rfl, hb2⟩
    rw [HV.out]
    have hB2 := hB0.trans (hb2.mono hB0.size)
    clear k0 k1 k2 k3
    obtain ⟨k0, k1, k2, k3⟩ := HBD.out.below hb2 (by omega)
    have hz2 : w.heap.size < w2.heap.size := by have := hb2.size; omega
    go_wp2_with fail
    refine (HCK.out _ (HF.out.now hB2) (HP.out.now hB2) (HL.out.now hB2)).mono ?_
    rintro e w3 ⟨rfl, hb3⟩
    go_wp2
    go_ret2
    exact Ret.mk rfl (hB2.trans (hb3.mono hB2.size))

/-- What a layout is where Check finds no error. -/
structure RightL (b : BD) (ps : List PT) (L : List PL) : Prop where
  hb : boardB b = true
  hp : partsB ps = true
  hl : L.length ≤ 200
  hr : ∀ p ∈ L, rightB ps p = true
theorem checkS_ok {b : BD} {ps : List PT} {L : List PL} (h : (checkS b ps L).2 = 0) : RightL b ps L := by
  unfold checkS at h
  cases hv : boardB b && partsB ps
  · rw [hv] at h; simp at h
  rw [hv] at h
  simp only [Bool.and_eq_true] at hv
  rw [if_neg (by simp)] at h
  by_cases h200 : 200 < L.length
  · rw [if_pos h200] at h; simp at h
  rw [if_neg h200] at h
  by_cases hr : L.any (fun p => !rightB ps p) = true
  · rw [if_pos hr] at h; simp at h
  exact ⟨hv.1, hv.2, by omega, all_right (by simpa using hr)⟩
theorem RightL.len {b : BD} {ps : List PT} {L : List PL} (h : RightL b ps L) {p : PL} (hp : p ∈ L) : 3 ≤ (lyP ps p).length ∧ (lyP ps p).length ≤ 64 := lyP_len h.hp (rightB_placed (h.hr p hp))
theorem RightL.sl {b : BD} {ps : List PT} {L : List PL} (h : RightL b ps L) {sl : List SL} (hmap : sl.map (·.l) = L.map (lyP ps)) : ∀ s ∈ sl, 3 ≤ s.l.length ∧ s.l.length ≤ 64 := fun s hs => by
  have : s.l ∈ L.map (lyP ps) := by rw [← hmap]; exact List.mem_map.2 ⟨s, hs, rfl⟩
  obtain ⟨p, hp, e⟩ := List.mem_map.1 this
  rw [← e]
  exact h.len hp

/-- Whether one more place is free. -/
def freeB (b : BD) (ps : List PT) (os : List (List XY)) (p : PL) : Bool :=
  decide (os.length < 200) && (rightB ps p && (!beyondB b.W b.H (lyP ps p) && (!faultyB b.F (lyP ps p) && !os.any (fun c => !apartB (lyP ps p) c b.G))))

set_option maxRecDepth 100000 in
set_option maxHeartbeats 4000000 in
theorem free_any (b : BD) (A A2 A4 : Option Addr) (c c2 c4 : Nat) (ps : List PT) (sl : List SL) (p : PL) (w : World) (hbv : boardB b = true) (hpv : partsB ps = true) (hsm : sl.length ≤ 1000000) (hlen : ∀ s ∈ sl, 3 ≤ s.l.length ∧ s.l.length ≤ 64)
    (hF : RdR w w.heap.size A b.F) (hp : RdPP w w.heap.size A2 ps) (hS : RdS w w.heap.size A4 sl) (hD : ∀ s ∈ sl, Rd w w.heap.size s.A s.l) :
    Calls Try.prog 46 #[bdv b A c, .slice A2 ps.length c2, .slice A4 sl.length c4, valL p] w (Ret (.bool (freeB b ps (sl.map (·.l)) p)) w) := by
  have HF := Lib.hid hF; clear hF
  have HP := Lib.hid hp; clear hp
  have HS := Lib.hid hS; clear hS
  have HD := Lib.hid hD; clear hD
  have HLEN := Lib.hid hlen; clear hlen
  have hps := partsB_len hpv
  obtain ⟨b1, b2, b3, b4, b5, b6, b7⟩ := boardB_facts hbv
  obtain ⟨w0, hw0⟩ : ∃ w0, (w.alloc (.cells #[.int .i64 b.W, .int .i64 b.H, .int .i64 b.G, .slice A b.F.length c] 24)).alloc (.cells #[.int .i64 p.part, .int .i64 p.X, .int .i64 p.Y, .bool p.t] 52) = w0 := ⟨_, rfl⟩
  have hB0 : Below w.heap.size w w0 := by rw [← hw0]; (repeat (first | exact Below.refl _ _ | assumption | refine Below.alloc ?_ (by first | exact Nat.le_refl _ | exact Below.size (by assumption) | omega | (simp <;> omega)) _ | refine Below.setCell ?_ (by first | exact Nat.le_refl _ | exact Below.size (by assumption) | omega | (simp <;> omega)) _ | refine below_drewN ?_ _ | refine Below.drew ?_))
  have hz0 : w0.heap.size = w.heap.size + 2 := by rw [← hw0]; simp
  have hbd : BdAt w0 w.heap.size b A c := by rw [← hw0]; exact ⟨by simp, by simp, by simp, by simp⟩
  have hpl : PlAt w0 (w.heap.size + 1) p := by rw [← hw0]; exact ⟨by simp, by simp, by simp, by simp⟩
  have HBD := Lib.hid hbd
  have HPL := Lib.hid hpl
  obtain ⟨k0, k1, k2, k3⟩ := hbd
  obtain ⟨q0, q1, q2, q3⟩ := hpl
  have hfr : freeB b ps (sl.map (·.l)) p = (decide (sl.length < 200) && (rightB ps p && (!beyondB b.W b.H (lyP ps p) && (!faultyB b.F (lyP ps p) && !sl.any (fun s => !apartB (lyP ps p) s.l b.G))))) := by
    unfold freeB; rw [List.length_map, any_map']
  by_cases h200 : sl.length < 200
  case neg =>
    rw [decide_eq_false h200] at hfr
    have HFR := Lib.hid hfr; clear hfr
    have hI : 200 ≤ (sl.length : Int) := by omega
    go_enter Try.func46, Try.ntmps46
    go_wp2
    go_ret
    exact Ret.mk (by rw [HFR.out]; rfl) hB0
  rw [decide_eq_true h200, Bool.true_and] at hfr
  have hI : ¬ 200 ≤ (sl.length : Int) := by omega
  cases hr : rightB ps p
  · rw [hr] at hfr
    have HFR := Lib.hid hfr; clear hfr
    have HR := Lib.hid hr; clear hr
    go_enter Try.func46, Try.ntmps46
    go_wp2_with fail
    clear hw0
    refine (right_any A2 c2 ps p _ hps (HP.out.now hB0)).mono ?_
    rintro e w2 ⟨rfl, hb2⟩
    rw [HR.out]
    go_wp2
    go_ret
    exact Ret.mk (by rw [HFR.out]; rfl) (hB0.trans (hb2.mono hB0.size))
  rw [hr, Bool.true_and] at hfr
  have hplc := rightB_placed hr
  have hly : ∀ W : World, Below w.heap.size w W → Calls Try.prog 62 #[.slice A2 ps.length c2, valL p] W (RetO (lyP ps p) W) := fun W hW => by
    obtain ⟨k, pt, hpk, hk, hat, _⟩ := placed_get hplc
    have := lying_any A2 c2 ps k p.X p.Y p.t pt W hk (partsB_each hpv (List.mem_of_getElem? hk)) (HP.out.now hW)
    unfold lyP
    rw [hat, ← hpk] at *
    exact this
  have hol := lyP_len hpv hplc
  have HLY := Lib.hid hly; clear hly hplc
  obtain ⟨o, ho⟩ : ∃ o, lyP ps p = o := ⟨_, rfl⟩
  rw [ho] at hfr HLY hol
  have HFR := Lib.hid hfr; clear hfr ho
  have HR := Lib.hid hr; clear hr
  go_enter Try.func46, Try.ntmps46
  go_wp2_with fail
  clear hw0
  refine (right_any A2 c2 ps p _ hps (HP.out.now hB0)).mono ?_
  rintro e w2 ⟨rfl, hb2⟩
  rw [HR.out]
  have hB2 := hB0.trans (hb2.mono hB0.size)
  have hs2 := hb2.size
  clear k0 k1 k2 k3 q0 q1 q2 q3
  obtain ⟨q0, q1, q2, q3⟩ := HPL.out.below hb2 (by omega)
  go_wp2_with fail
  refine (HLY.out _ hB2).mono ?_
  rintro e w3 ⟨v3, rfl, hown3, hb3⟩
  obtain ⟨A5, c5, rfl, hr5⟩ := own_rd hown3
  have hB3 := hB2.trans (hb3.mono hB2.size)
  have hb03 := hb2.trans (hb3.mono hb2.size)
  obtain ⟨w4, hw4⟩ : ∃ w4, w3.alloc (.cells #[.slice A5 o.length c5] 39) = w4 := ⟨_, rfl⟩
  have hb34 : Below w3.heap.size w3 w4 := by rw [← hw4]; (repeat (first | exact Below.refl _ _ | assumption | refine Below.alloc ?_ (by first | exact Nat.le_refl _ | exact Below.size (by assumption) | omega | (simp <;> omega)) _ | refine Below.setCell ?_ (by first | exact Nat.le_refl _ | exact Below.size (by assumption) | omega | (simp <;> omega)) _ | refine below_drewN ?_ _ | refine Below.drew ?_))
  have hz4 : w4.heap.size = w3.heap.size + 1 := by rw [← hw4]; simp
  have ho4 : w4.cell? ⟨w3.heap.size, 0, none⟩ = some (.slice A5 o.length c5) := by rw [← hw4]; simp
  have HR5 := Lib.hid (hr5.now hb34); clear hr5 hown3
  have hB4 := hB3.trans (hb34.mono hB3.size)
  have hb04 := hb03.trans (hb34.mono hb03.size)
  have HBD4 := Lib.hid (HBD.out.below hb04 (by omega))
  have HO4 := Lib.hid ho4
  have HW4 := Lib.hid hw4; clear hw4
  have hs3 := hb03.size
  go_upto_region 4 with fail
  rw [HW4.out]
  clear HW4 q0 q1 q2 q3
  obtain ⟨k0, k1, k2, k3⟩ := HBD4.out
  have hww4 : w.heap.size < w4.heap.size := by omega
  have hww34 : w3.heap.size < w4.heap.size := by omega
  go_wp2_with fail
  refine (beyond_any b A A5 c c5 o _ (by omega) HR5.out).mono ?_
  rintro e w5 ⟨rfl, hb5⟩
  have hB5 := hB4.trans (hb5.mono hB4.size)
  have hs5 := hb5.size
  cases hby : beyondB b.W b.H o
  · have hfr := HFR.out
    rw [hby] at hfr
    have HFR2 := Lib.hid hfr; clear hfr HFR
    have HBY := Lib.hid hby; clear hby ho4 k0 k1 k2 k3
    obtain ⟨k0, k1, k2, k3⟩ := HBD4.out.below hb5 hww4
    have ho5 := (hb5.cell (p := ⟨w3.heap.size, 0, none⟩) hww34).trans HO4.out
    go_wp2_with fail
    refine (faulty_any b A A5 c c5 o _ (by omega) (by omega) (by omega) (HF.out.now hB5) (HR5.out.now hb5)).mono ?_
    rintro e w6 ⟨rfl, hb6⟩
    have hB6 := hB5.trans (hb6.mono hB5.size)
    have hb46 := hb5.trans (hb6.mono hb5.size)
    cases hfa : faultyB b.F o
    · have hfr := HFR2.out
      rw [hfa] at hfr
      have HFR3 := Lib.hid hfr; clear hfr HFR2
      have HFA := Lib.hid hfa; clear hfa ho5 k0 k1 k2 k3
      have HBD6 := Lib.hid (HBD4.out.below hb46 hww4)
      have HO6 := Lib.hid ((hb46.cell (p := ⟨w3.heap.size, 0, none⟩) hww34).trans HO4.out)
      have hs6 := hb46.size
      have htl : TellsS 80 #[.pointer (some ⟨w3.heap.size, 0, none⟩), .pointer (some ⟨w.heap.size, 0, none⟩)] (fun s => !apartB o s.l b.G) sl w6 :=
        ⟨enters_of Try.func80 (by kernel_rfl) rfl, fun W s hs hW => free1_any b A A5 c c5 w3.heap.size w.heap.size o s W (by have := HLEN.out s hs; omega) (by have := HLEN.out s hs; omega) (by omega) (by omega) ((hW.cell (p := ⟨w3.heap.size, 0, none⟩) (by show w3.heap.size < _; omega)).trans HO6.out) (HBD6.out.below hW (by omega)) ((HD.out s hs).now (hB6.trans (hW.mono hB6.size))) (HR5.out.now (hb46.trans (hW.mono hb46.size)))⟩
      have HCF := Lib.hid (containsFuncS_any 80 #[.pointer (some ⟨w3.heap.size, 0, none⟩), .pointer (some ⟨w.heap.size, 0, none⟩)] (fun s => !apartB o s.l b.G) A4 c4 sl w6 htl hsm (HS.out.now hB6))
      clear htl
      go_wp2_with fail
      refine HCF.out.mono ?_
      rintro e w7 ⟨rfl, hb7⟩
      go_wp2
      go_ret
      exact Ret.mk (by rw [HFR3.out]; rfl) (hB6.trans (hb7.mono hB6.size))
    · have hfr := HFR2.out
      rw [hfa] at hfr
      have HFR3 := Lib.hid hfr; clear hfr HFR2
      have HFA := Lib.hid hfa; clear hfa
      go_wp2
      go_ret
      exact Ret.mk (by rw [HFR3.out]; rfl) hB6
  · have hfr := HFR.out
    rw [hby] at hfr
    have HFR2 := Lib.hid hfr; clear hfr HFR
    have HBY := Lib.hid hby; clear hby
    go_wp2
    go_ret
    exact Ret.mk (by rw [HFR2.out]; rfl) hB5

end Go.Proofs.Ytohlinbcbfgdfaa

namespace Go.Proofs.Ytohlinbcbfgdfaa
open Go.RowKit Go.Shelf

def freeS (b : BD) (ps : List PT) (L : List PL) (p : PL) : Bool × Int := if (checkS b ps L).2 = 0 then (freeB b ps (L.map (lyP ps)) p, 0) else (false, (checkS b ps L).2)

set_option maxRecDepth 100000 in
set_option maxHeartbeats 2000000 in
theorem Free_any (b : BD) (A A2 A3 : Option Addr) (c c2 c3 : Nat) (ps : List PT) (L : List PL) (p : PL) (w : World) (hF : RdR w w.heap.size A b.F) (hp : RdPP w w.heap.size A2 ps) (hl : RdL w w.heap.size A3 L) :
    Calls Try.prog 19 #[bdv b A c, .slice A2 ps.length c2, .slice A3 L.length c3, valL p] w (Ret (.tuple #[.bool (freeS b ps L p).1, .int .i64 (freeS b ps L p).2]) w) := by
  have HF := Lib.hid hF; clear hF
  have HP := Lib.hid hp; clear hp
  have HL := Lib.hid hl; clear hl
  have hmx : Try.prog.follows .mixedOrders = true := by kernel_rfl
  obtain ⟨w0, hw0⟩ : ∃ w0, (w.alloc (.cells #[.int .i64 b.W, .int .i64 b.H, .int .i64 b.G, .slice A b.F.length c] 24)).alloc (.cells #[.int .i64 p.part, .int .i64 p.X, .int .i64 p.Y, .bool p.t] 52) = w0 := ⟨_, rfl⟩
  have hB0 : Below w.heap.size w w0 := by rw [← hw0]; (repeat (first | exact Below.refl _ _ | assumption | refine Below.alloc ?_ (by first | exact Nat.le_refl _ | exact Below.size (by assumption) | omega | (simp <;> omega)) _ | refine Below.setCell ?_ (by first | exact Nat.le_refl _ | exact Below.size (by assumption) | omega | (simp <;> omega)) _ | refine below_drewN ?_ _ | refine Below.drew ?_))
  have hz0 : w0.heap.size = w.heap.size + 2 := by rw [← hw0]; simp
  have hbd : BdAt w0 w.heap.size b A c := by rw [← hw0]; exact ⟨by simp, by simp, by simp, by simp⟩
  have hpl : PlAt w0 (w.heap.size + 1) p := by rw [← hw0]; exact ⟨by simp, by simp, by simp, by simp⟩
  have HBD := Lib.hid hbd
  have HPL := Lib.hid hpl
  obtain ⟨k0, k1, k2, k3⟩ := hbd
  have hok := fun h => checkS_ok (b := b) (ps := ps) (L := L) h
  have hs : freeS b ps L p = if (checkS b ps L).2 = 0 then (freeB b ps (L.map (lyP ps)) p, 0) else (false, (checkS b ps L).2) := rfl
  obtain ⟨⟨n, f⟩, hn⟩ : ∃ r, checkS b ps L = r := ⟨_, rfl⟩
  rw [hn] at hs hok
  dsimp only at hs hok
  have HN := Lib.hid hn; clear hn
  have HSA := Lib.hid hs; clear hs
  have HOK := Lib.hid hok; clear hok
  go_enter Try.func19, Try.ntmps19
  go_wp2_with fail
  clear hw0
  refine (Check_any b A A2 A3 c c2 c3 ps L _ (HF.out.now hB0) (HP.out.now hB0) (HL.out.now hB0)).mono ?_
  rintro e w2 ⟨rfl, hb2⟩
  rw [HN.out]
  have hB2 := hB0.trans (hb2.mono hB0.size)
  by_cases hf : f = 0
  · subst hf
    have hrl := HOK.out rfl
    have hs := HSA.out
    rw [if_pos rfl] at hs
    have HS := Lib.hid hs; clear hs HSA
    have hs2 := hb2.size
    clear k0 k1 k2 k3 hpl
    have HKP : Hid (∀ w', Below w2.heap.size w2 w' → w'.cell? ⟨w.heap.size, 0, none⟩ = some (.int .i64 b.W) ∧ w'.cell? ⟨w.heap.size, 1, none⟩ = some (.int .i64 b.H) ∧ w'.cell? ⟨w.heap.size, 2, none⟩ = some (.int .i64 b.G) ∧ w'.cell? ⟨w.heap.size, 3, none⟩ = some (.slice A b.F.length c) ∧ w'.cell? ⟨w.heap.size + 1, 0, none⟩ = some (.int .i64 p.part) ∧ w'.cell? ⟨w.heap.size + 1, 1, none⟩ = some (.int .i64 p.X) ∧ w'.cell? ⟨w.heap.size + 1, 2, none⟩ = some (.int .i64 p.Y) ∧ w'.cell? ⟨w.heap.size + 1, 3, none⟩ = some (.bool p.t)) := fun w' hC => by
      obtain ⟨a0, a1, a2, a3⟩ := HBD.out.below (hb2.trans (hC.mono hs2)) (by omega)
      obtain ⟨d0, d1, d2, d3⟩ := HPL.out.below (hb2.trans (hC.mono hs2)) (by omega)
      exact ⟨a0, a1, a2, a3, d0, d1, d2, d3⟩
    have hlL := hrl.hl
    have HRL := Lib.hid hrl; clear hrl
    have hdr : Below w2.heap.size w2 w2.drew := (Below.refl _ _).drew
    go_wp2
    go_cut [8, 9] (fun v u wx' => v = .bool (freeB b ps (L.map (lyP ps)) p) ∧ u = .int .i64 0 ∧ Below w2.heap.size w2 wx')
    case first =>
      go_region_held3 (fun w' => w'.cell? ⟨w.heap.size, 0, none⟩ = some (.int .i64 b.W) ∧ w'.cell? ⟨w.heap.size, 1, none⟩ = some (.int .i64 b.H) ∧ w'.cell? ⟨w.heap.size, 2, none⟩ = some (.int .i64 b.G) ∧ w'.cell? ⟨w.heap.size, 3, none⟩ = some (.slice A b.F.length c) ∧ w'.cell? ⟨w.heap.size + 1, 0, none⟩ = some (.int .i64 p.part) ∧ w'.cell? ⟨w.heap.size + 1, 1, none⟩ = some (.int .i64 p.X) ∧ w'.cell? ⟨w.heap.size + 1, 2, none⟩ = some (.int .i64 p.Y) ∧ w'.cell? ⟨w.heap.size + 1, 3, none⟩ = some (.bool p.t)) (first | exact HKP.out _ hdr | exact HKP.out _ hb11' | exact HKP.out _ hb12') (first | (go_at_call 36; refine (all_any A2 A3 c2 c3 ps L _ (by omega) HRL.out.hp (fun q hq => rightB_placed (HRL.out.hr q hq)) (HP.out.now (hB2.trans (hdr.mono hB2.size))) (HL.out.now (hB2.trans (hdr.mono hB2.size)))).mono ?_; rintro e w11 ⟨A4, c4, sl, rfl, _, _, hrs, hrd, hmap, hb11⟩; have hb11' : Below w2.heap.size w2 w11 := below_of_drew hb11; have hB11 := hB2.trans (hb11'.mono hB2.size); have HRS := Lib.hid hrs; have HRD := Lib.hid hrd; have HMAP := Lib.hid hmap; have hsl2 : sl.length ≤ 1000000 := (by have := congrArg List.length hmap; simp at this; omega); clear hrs hrd hmap hb11) | (go_at_call 46; refine (free_any b A A2 A4 c c2 c4 ps sl p _ HRL.out.hb HRL.out.hp hsl2 (HRL.out.sl HMAP.out) (HF.out.now hB11) (HP.out.now hB11) HRS.out HRD.out).mono ?_; rintro e w12 ⟨rfl, hb12⟩; have hb12' := hb11'.trans (hb12.mono hb11'.size)))
      all_goals
        go_wp2_with fail
        go_meet
        exact ⟨by rw [HMAP.out], rfl, hb12'⟩
    case rest =>
      obtain ⟨rfl, rfl, hbx⟩ := hcut
      go_wp2
      go_ret2
      exact Ret.mk (by rw [HS.out]; rfl) (hB2.trans (hbx.mono hB2.size))
  · have hs := HSA.out
    rw [if_neg hf] at hs
    have HS := Lib.hid hs; clear hs HSA
    go_wp2
    go_ret2
    exact Ret.mk (by rw [HS.out]; rfl) hB2

end Go.Proofs.Ytohlinbcbfgdfaa

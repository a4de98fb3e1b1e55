/- Which places name a part and are in range, which are right: the walks of both. all: the corners of all places, lists in memory of their own: the walk. Beyond the board, on it; what Check and free ask of a list: the walks. -/
import Derived.Test.YtohlinbcbfgdfaaNW16
import Derived.Maps.AppendAt
namespace Go.Proofs.Ytohlinbcbfgdfaa
open Go.RowKit

def placedB (n : Nat) (p : PL) : Bool := betw 0 p.part ((n : Int) - 1) && (betw (-120000) p.X 120000 && betw (-120000) p.Y 120000)
def partAt (ps : List PT) (k : Int) : PT := (ps[k.toNat]?).getD ⟨none, 0, [], false⟩
def rightB (ps : List PT) (p : PL) : Bool := placedB ps.length p && (!p.t || (partAt ps p.part).t)
def lyP (ps : List PT) (p : PL) : List XY := lyL (partAt ps p.part).o p.X p.Y p.t
theorem partAt_eq {ps : List PT} {k : Nat} {pt : PT} (h : ps[k]? = some pt) : partAt ps (k : Int) = pt := by unfold partAt; rw [show (k : Int).toNat = k from rfl, h]; rfl
theorem placed_get {ps : List PT} {p : PL} (h : placedB ps.length p = true) : ∃ (k : Nat) (pt : PT), p.part = (k : Int) ∧ ps[k]? = some pt ∧ partAt ps p.part = pt ∧ Far p.X p.Y := by
  simp only [placedB, betw, Bool.and_eq_true, decide_eq_true_eq] at h
  obtain ⟨⟨h1, h2⟩, ⟨h3, h4⟩, h5, h6⟩ := h
  obtain ⟨k, hk⟩ : ∃ k : Nat, p.part = k := ⟨p.part.toNat, by omega⟩
  obtain ⟨pt, hpt⟩ := getElem?_of_lt (show k < ps.length by omega)
  exact ⟨k, pt, hk, hpt, by rw [hk]; exact partAt_eq hpt, by unfold Far; omega⟩

set_option maxRecDepth 100000 in
set_option maxHeartbeats 1000000 in
theorem placed_any (A : Option Addr) (c : Nat) (n : Nat) (p : PL) (w : World) (hm : n ≤ 60) :
    Calls Try.prog 73 #[.slice A n c, valL p] w (Ret (.bool (placedB n p)) w) := by
  have hB0 : Below w.heap.size w (w.alloc (.cells #[.int .i64 p.part, .int .i64 p.X, .int .i64 p.Y, .bool p.t] 52)) := by (repeat (first | exact Below.refl _ _ | assumption | refine Below.alloc ?_ (by first | exact Nat.le_refl _ | exact Below.size (by assumption) | omega | (simp <;> omega)) _ | refine Below.setCell ?_ (by first | exact Nat.le_refl _ | exact Below.size (by assumption) | omega | (simp <;> omega)) _ | refine below_drewN ?_ _ | refine Below.drew ?_))
  have e1 : IntKind.i64.wrap ((n : Int) - 1) = (n : Int) - 1 := IntWalk.i64_in _ (by omega)
  cases h1 : betw 0 p.part ((n : Int) - 1)
  · have HS : Hid (placedB n p = false) := by simp [Hid, placedB, h1]
    have H1 := Lib.hid h1; clear h1
    go_enter Try.func73, Try.ntmps73
    go_wp2_with fail
    refine (between_any 0 p.part ((n : Int) - 1) _).mono ?_
    rintro e w2 ⟨rfl, rfl⟩
    rw [H1.out]
    go_wp2
    go_ret
    exact Ret.mk (by rw [HS.out]; rfl) hB0
  have H1 := Lib.hid h1; clear h1
  cases h2 : betw (-120000) p.X 120000
  · have HS : Hid (placedB n p = false) := by simp [Hid, placedB, H1.out, h2]
    have H2 := Lib.hid h2; clear h2
    go_enter Try.func73, Try.ntmps73
    go_wp2_with fail
    refine (between_any 0 p.part ((n : Int) - 1) _).mono ?_
    rintro e w2 ⟨rfl, rfl⟩
    rw [H1.out]
    go_wp2_with fail
    refine (between_any (-120000) p.X 120000 _).mono ?_
    rintro e w3 ⟨rfl, rfl⟩
    rw [H2.out]
    go_wp2
    go_ret
    exact Ret.mk (by rw [HS.out]; rfl) hB0
  have H2 := Lib.hid h2; clear h2
  have HS : Hid (placedB n p = betw (-120000) p.Y 120000) := by simp [Hid, placedB, H1.out, H2.out]
  go_enter Try.func73, Try.ntmps73
  go_wp2_with fail
  refine (between_any 0 p.part ((n : Int) - 1) _).mono ?_
  rintro e w2 ⟨rfl, rfl⟩
  rw [H1.out]
  go_wp2_with fail
  refine (between_any (-120000) p.X 120000 _).mono ?_
  rintro e w3 ⟨rfl, rfl⟩
  rw [H2.out]
  go_wp2_with fail
  refine (between_any (-120000) p.Y 120000 _).mono ?_
  rintro e w4 ⟨rfl, rfl⟩
  go_wp2
  go_ret
  exact Ret.mk (by rw [HS.out]; rfl) hB0

set_option maxRecDepth 100000 in
set_option maxHeartbeats 1000000 in
theorem right_any (A : Option Addr) (c : Nat) (ps : List PT) (p : PL) (w : World) (hm : ps.length ≤ 60) (hp : RdPP w w.heap.size A ps) :
    Calls Try.prog 35 #[.slice A ps.length c, valL p] w (Ret (.bool (rightB ps p)) w) := by
  have HP := Lib.hid hp; clear hp
  obtain ⟨w0, hw0⟩ : ∃ w0, w.alloc (.cells #[.int .i64 p.part, .int .i64 p.X, .int .i64 p.Y, .bool p.t] 52) = w0 := ⟨_, rfl⟩
  have hB0 : Below w.heap.size w w0 := by rw [← hw0]; (repeat (first | exact Below.refl _ _ | assumption | refine Below.alloc ?_ (by first | exact Nat.le_refl _ | exact Below.size (by assumption) | omega | (simp <;> omega)) _ | refine Below.setCell ?_ (by first | exact Nat.le_refl _ | exact Below.size (by assumption) | omega | (simp <;> omega)) _ | refine below_drewN ?_ _ | refine Below.drew ?_))
  have hz0 : w0.heap.size = w.heap.size + 1 := by rw [← hw0]; simp
  have HPA := Lib.hid (show PlAt w0 w.heap.size p by rw [← hw0]; exact PlAt.new w p)
  obtain ⟨q0, q1, q2, q3⟩ := HPA.out
  cases h1 : placedB ps.length p
  · have HS : Hid (rightB ps p = false) := by simp [Hid, rightB, h1]
    have H1 := Lib.hid h1; clear h1
    go_enter Try.func35, Try.ntmps35
    go_wp2_with fail
    clear hw0
    refine (placed_any A c ps.length p _ hm).mono ?_
    rintro e w2 ⟨rfl, hb2⟩
    rw [H1.out]
    go_wp2
    go_ret
    exact Ret.mk (by rw [HS.out]; rfl) (hB0.trans (hb2.mono hB0.size))
  · obtain ⟨k, pt, hpk, hk, hat, _⟩ := placed_get h1
    have hkl : k < ps.length := (List.getElem?_eq_some_iff.1 hk).1
    obtain ⟨b, off, hA, hb, d0, d1⟩ := HP.out.flat k pt hk
    subst hA
    have hs : rightB ps p = (!p.t || pt.t) := by unfold rightB; rw [h1, hat]; rfl
    have H1 := Lib.hid h1; clear h1 hat hk
    have HPK := Lib.hid hpk; clear hpk
    have hkI : (k : Int) < (ps.length : Int) := by omega
    have HS := Lib.hid hs; clear hs
    go_enter Try.func35, Try.ntmps35
    go_wp2_with fail
    clear hw0
    refine (placed_any _ c ps.length p _ hm).mono ?_
    rintro e w2 ⟨rfl, hb2⟩
    rw [H1.out]
    have hB2 := hB0.trans (hb2.mono hB0.size)
    have x1 := (hB2.cell (p := ⟨b, off + k * 2 + 1, none⟩) hb).trans d1
    have hbw2 : b < w2.heap.size := by have := hB2.size; omega
    clear q0 q1 q2 q3 d0 d1
    obtain ⟨q0, q1, q2, q3⟩ := HPA.out.below hb2 (by omega)
    rw [HPK.out] at q0
    have hz2 : w.heap.size < w2.heap.size := by have := hb2.size; omega
    cases ht : p.t
    · rw [ht] at q3 HS
      go_wp2
      go_ret
      exact Ret.mk (by rw [HS.out]; rfl) hB2
    · rw [ht] at q3 HS
      go_wp2
      go_ret
      exact Ret.mk (by rw [HS.out]; rfl) hB2
end Go.Proofs.Ytohlinbcbfgdfaa

namespace Go.Proofs.Ytohlinbcbfgdfaa
open Go.RowKit

def flatS (l : List SL) : List Value := l.map valS
theorem Try.infoXYs : (Try.prog.info? 39).map (fun i => (i.zero, i.size, i.bytes)) = some (some (.slice none 0 0), 1, 24) := by kernel_rfl
theorem info_partsS {i : Option TypeInfo} (h : i.map (fun i => (i.zero, i.size, i.bytes)) = some (some (.slice none 0 0), 1, 24)) : ∃ i0, i = some i0 ∧ i0.zero = some (.slice none 0 0) ∧ i0.size = 1 ∧ i0.bytes = 24 := by
  cases i with
  | none => simp at h
  | some i0 => simp at h; exact ⟨i0, rfl, h.1, h.2.1, h.2.2⟩
abbrev OwnS (w : World) (B : Nat) (v : Value) (l : List SL) : Prop := w.ownsRow B 39 1 v l.length (flatS l)
theorem own_rdS {w : World} {B : Nat} {v : Value} {l : List SL} (h : OwnS w B v l) : ∃ A c, v = .slice A l.length c ∧ RdS w w.heap.size A l ∧ l.length ≤ c ∧ ∀ a, A = some a → B ≤ a.block := by
  rcases h.2 with ⟨rfl, hn⟩ | ⟨g, cap, cur, rfl, hB, hg, h1, h2, h3, h4⟩
  · obtain rfl : l = [] := List.length_eq_zero_iff.1 hn
    exact ⟨none, 0, rfl, fun i p hp => by simp at hp, Nat.le_refl _, fun a h => by cases h⟩
  · refine ⟨some ⟨g, 0, none⟩, cap, rfl, fun i p hp => ?_, h1, fun a h => by cases h; exact hB⟩
    have f0 : (flatS l)[i]? = some (valS p) := by unfold flatS; rw [List.getElem?_map, hp]; rfl
    have c0 := h.cells (g := g) rfl _ _ f0
    rw [add_none] at c0
    exact ⟨g, 0, rfl, (Array.getElem?_eq_some_iff.1 hg).1, c0⟩
theorem rd_grown {w w' : World} {row : Option Nat} {A : Option Addr} {l : List XY} (h : Rd w w.heap.size A l) (hg : w.grownBy w' row) (hne : ∀ a, A = some a → some a.block ≠ row) : Rd w' w'.heap.size A l := by
  intro i p hp
  obtain ⟨b, off, hA, hb, h0, h1⟩ := h i p hp
  have hn := hne _ hA
  exact ⟨b, off, hA, Nat.lt_of_lt_of_le hb hg.size, hg.cell h0 hn, hg.cell h1 hn⟩
/-- A list that a call made: its block is new. -/
theorem own_new {w : World} {B : Nat} {v : Value} {l : List XY} (h : OwnL w B v l) : ∃ A c, v = .slice A l.length c ∧ Rd w w.heap.size A l ∧ ∀ a, A = some a → B ≤ a.block ∧ a.block < w.heap.size := by
  rcases h.2 with ⟨rfl, hn⟩ | ⟨g, cap, cur, rfl, hB, hg, h1, h2, h3, h4⟩
  · obtain rfl : l = [] := List.length_eq_zero_iff.1 hn
    exact ⟨none, 0, rfl, fun i p hp => by simp at hp, fun a h => by cases h⟩
  · obtain ⟨A, c, e, hr⟩ := own_rd h
    refine ⟨A, c, e, hr, fun a ha => ?_⟩
    subst ha
    simp at e
    obtain ⟨rfl, _⟩ := e
    exact ⟨hB, (Array.getElem?_eq_some_iff.1 hg).1⟩
/-- All lists read, and none lies in the row's block. -/
structure AllAt (B : Nat) (w : World) (v : Value) (sl : List SL) : Prop where
  lo : ∀ s ∈ sl, ∀ a, s.A = some a → B ≤ a.block
  each : ∀ s ∈ sl, Rd w w.heap.size s.A s.l
  lt : ∀ s ∈ sl, ∀ a, s.A = some a → a.block < w.heap.size
  off : ∀ s ∈ sl, ∀ a, s.A = some a → some a.block ≠ v.ownBlock
theorem AllAt.below {B : Nat} {w w' : World} {v : Value} {sl : List SL} (h : AllAt B w v sl) (hb : Below w.heap.size w w') : AllAt B w' v sl :=
  ⟨h.lo, fun s hs => (h.each s hs).now hb, fun s hs a ha => Nat.lt_of_lt_of_le (h.lt s hs a ha) hb.size, h.off⟩
theorem AllAt.grown {B : Nat} {w w' : World} {v v' : Value} {sl : List SL} (h : AllAt B w v sl) (hg : w.grownBy w' v.ownBlock) (hv : v'.ownBlock = v.ownBlock ∨ v'.ownBlock = some w.heap.size)   : AllAt B w' v' sl := by
  refine ⟨h.lo, fun s hs => rd_grown (h.each s hs) hg (h.off s hs), fun s hs a ha => Nat.lt_of_lt_of_le (h.lt s hs a ha) hg.size, fun s hs a ha => ?_⟩
  rcases hv with e | e
  · rw [e]; exact h.off s hs a ha
  · rw [e]; have := h.lt s hs a ha; simp; omega

/-- The call returns lists of corners in memory of its own. -/
def RetS2 (os : List (List XY)) (w : World) (e : Ending) (w' : World) : Prop :=
  ∃ (A : Option Addr) (c : Nat) (sl : List SL), e = .returned (.slice A sl.length c) ∧ sl.length ≤ c ∧ ((∀ a, A = some a → w.heap.size ≤ a.block) ∧ ∀ s ∈ sl, ∀ a, s.A = some a → w.heap.size ≤ a.block) ∧ RdS w' w'.heap.size A sl ∧ (∀ s ∈ sl, Rd w' w'.heap.size s.A s.l) ∧ sl.map (·.l) = os ∧ Below w.heap.size w w'

set_option maxRecDepth 100000 in
set_option maxHeartbeats 2000000 in
theorem all_any (A A2 : Option Addr) (c c2 : Nat) (ps : List PT) (L : List PL) (w : World) (hm : L.length ≤ 1000000) (hpv : partsB ps = true) (hok : ∀ p ∈ L, placedB ps.length p = true) (hp : RdPP w w.heap.size A ps) (hl : RdL w w.heap.size A2 L) :
    Calls Try.prog 36 #[.slice A ps.length c, .slice A2 L.length c2] w (RetS2 (L.map (lyP ps)) w) := by
  have HP := Lib.hid hp; clear hp
  have HL := Lib.hid hl; clear hl
  have hly : ∀ p ∈ L, ∀ W : World, Below w.heap.size w W → Calls Try.prog 62 #[.slice A ps.length c, valL p] W (RetO (lyP ps p) W) := fun p hpm W hW => by
    obtain ⟨k, pt, hpk, hk, hat, _⟩ := placed_get (hok p hpm)
    have := lying_any A c ps k p.X p.Y p.t pt W hk (partsB_each hpv (List.mem_of_getElem? hk)) (HP.out.now hW)
    unfold lyP
    rw [hat, ← hpk] at *
    exact this
  have HLY := Lib.hid hly; clear hly hok hpv
  obtain ⟨i0, hi, hz0', hz1, hz2⟩ := info_partsS Try.infoXYs
  have HJ := Lib.hid hi; clear hi
  go_enter Try.func36, Try.ntmps36
  go_wp2
  go_loopw [5, 7, 10] (fun v _ i wr => ∃ (k : Nat) (sl : List SL) (u : Value), u = v ∧ k ≤ L.length ∧ i = .int .i64 k ∧ OwnS wr w.heap.size u sl ∧ AllAt w.heap.size wr u sl ∧ sl.map (·.l) = (L.take k).map (lyP ps) ∧ Below w.heap.size w wr) (fun _ _ i _ => L.length - (intOf i).toNat)
  case atStart => exact ⟨0, [], _, rfl, Nat.zero_le _, rfl, World.ownsRow_nil _ _ _ _, ⟨by simp, by simp, by simp, by simp⟩, rfl, Below.refl _ _⟩
  case round =>
    obtain ⟨k, sl, v, rfl, hk, rfl, hown, hall, hsl, hB⟩ := hrel
    have HO := Lib.hid hown; clear hown
    have HA := Lib.hid hall; clear hall
    have HSL := Lib.hid hsl
    have hlen : sl.length = k := by
      have := congrArg List.length hsl
      simp at this; omega
    clear hsl
    have hsB := hB.size
    by_cases hlt : k < L.length
    · obtain ⟨q, hq⟩ := getElem?_of_lt hlt
      obtain ⟨b, off, hA, hb, d0, d1, d2, d3⟩ := (HL.out.below hB) k q hq
      subst hA
      have hmem : q ∈ L := List.mem_of_getElem? hq
      have HQ := Lib.hid (take_succ_of hq); clear hq
      have hBa : Below w.heap.size w (wr.alloc (.cells #[.int .i64 q.part, .int .i64 q.X, .int .i64 q.Y, .bool q.t] 52)) := by (repeat (first | exact Below.refl _ _ | assumption | refine Below.alloc ?_ (by first | exact Nat.le_refl _ | exact Below.size (by assumption) | omega | (simp <;> omega)) _ | refine Below.setCell ?_ (by first | exact Nat.le_refl _ | exact Below.size (by assumption) | omega | (simp <;> omega)) _ | refine below_drewN ?_ _ | refine Below.drew ?_))
      have hBr : Below wr.heap.size wr (wr.alloc (.cells #[.int .i64 q.part, .int .i64 q.X, .int .i64 q.Y, .bool q.t] 52)) := by (repeat (first | exact Below.refl _ _ | assumption | refine Below.alloc ?_ (by first | exact Nat.le_refl _ | exact Below.size (by assumption) | omega | (simp <;> omega)) _ | refine Below.setCell ?_ (by first | exact Nat.le_refl _ | exact Below.size (by assumption) | omega | (simp <;> omega)) _ | refine below_drewN ?_ _ | refine Below.drew ?_))
      have HBA := Lib.hid (And.intro hBa hBr); clear hBa hBr
      go_wp2_with fail
      refine (HLY.out q hmem _ HBA.out.1).mono ?_
      rintro e w5 ⟨v5, rfl, hown5, hb5⟩
      obtain ⟨A5, c5, rfl, hr5, hn5⟩ := own_new hown5
      have hbr5 : Below wr.heap.size wr w5 := HBA.out.2.trans (hb5.mono HBA.out.2.size)
      have hB5 := hB.trans (hbr5.mono hsB)
      have HO5 := Lib.hid (own_belowP HO.out hbr5)
      have hall5 : AllAt w.heap.size w5 v sl := HA.out.below hbr5
      have hsz5 : wr.heap.size < w5.heap.size := by have := hb5.size; simp at this; omega
      have hall6 : AllAt w.heap.size w5 v (sl ++ [⟨A5, c5, lyP ps q⟩]) := by
        refine ⟨fun s hs a ha => ?_, fun s hs => ?_, fun s hs a ha => ?_, fun s hs a ha => ?_⟩
        · rcases List.mem_append.1 hs with h | h
          · exact hall5.lo s h a ha
          · simp at h; subst h; have h1 := (hn5 a ha).1; simp at h1; omega
        · rcases List.mem_append.1 hs with h | h
          · exact hall5.each s h
          · simp at h; subst h; exact hr5
        · rcases List.mem_append.1 hs with h | h
          · exact hall5.lt s h a ha
          · simp at h; subst h; exact (hn5 a ha).2
        · rcases List.mem_append.1 hs with h | h
          · exact hall5.off s h a ha
          · simp at h; subst h
            have h1 := (hn5 a ha).1
            simp at h1
            intro e
            have := (HO.out.lt a.block e.symm).2
            omega
      have HA6 := Lib.hid (hall6.below (w' := w5.alloc (.cells #[.slice A5 (lyP ps q).length c5] 39)) (by (repeat (first | exact Below.refl _ _ | assumption | refine Below.alloc ?_ (by first | exact Nat.le_refl _ | exact Below.size (by assumption) | omega | (simp <;> omega)) _ | refine Below.setCell ?_ (by first | exact Nat.le_refl _ | exact Below.size (by assumption) | omega | (simp <;> omega)) _ | refine below_drewN ?_ _ | refine Below.drew ?_)))); clear hall5 hall6 hown5 hr5 hn5 HA HO
      go_wp2_with (at_builtin; refine wpList_append_own_at _ rfl _ _ 68 rfl w.heap.size 39 i0 (.slice none 0 0) 1 24 Try.underlying68 HJ.out hz0' hz1 hz2 rfl (by decide) _ _ _ rfl (HO5.out.alloc _) ⟨w5.heap.size, 0, none⟩ 1 1 [.slice A5 (lyP ps q).length c5] rfl rfl (cell_one_new _ _ _) (by intro u hu; simp at hu; subst hu; rfl) (by unfold maxLen; omega) (by omega) (by simp; omega) ?_; intro v' w11 hown' hgrow _ hat; have hB11 := below_grown (w1 := w5.alloc (.cells #[.slice A5 (lyP ps q).length c5] 39)) (hB5.alloc (by omega) _) hgrow (fun j hj => (HO5.out.lt j hj).1) (by simp; omega); have hall11 := HA6.out.grown hgrow hat; have HA11 := Lib.hid hall11; clear hall11 hgrow hat; have HO11 := Lib.hid hown'; clear hown')
      go_wp2
      go_roundw
      case rel =>
        refine ⟨k + 1, sl ++ [⟨A5, c5, lyP ps q⟩], _, rfl, by omega, by go_num, ?_, HA11.out, ?_, hB11⟩
        · have e := HO11.out
          show World.ownsRow _ _ _ _ _ (sl ++ [_]).length (flatS (sl ++ [_]))
          unfold flatS
          rw [List.map_append, List.length_append]
          exact e
        · rw [List.map_append, HSL.out, HQ.out, List.map_append]; rfl
      case measure => simp [intOf]; omega
    · obtain rfl : k = L.length := by omega
      obtain ⟨Av, cv, hvv, hrv, hcv, hnv⟩ := own_rdS HO.out
      subst hvv
      have HRV := Lib.hid hrv; clear hrv
      go_wp2
      go_ret
      refine ⟨_, _, sl, rfl, hcv, ⟨hnv, HA.out.lo⟩, HRV.out, HA.out.each, ?_, hB⟩
      rw [HSL.out, List.take_length]
end Go.Proofs.Ytohlinbcbfgdfaa

namespace Go.Proofs.Ytohlinbcbfgdfaa
open Go.RowKit Go.Shelf

theorem beyond_iff {o : List XY} (W H : Int) (hw : Wd o) : (0 ≤ (lowTo o o.length).X ∧ 0 ≤ (lowTo o o.length).Y ∧ (highTo o o.length).X ≤ W ∧ (highTo o o.length).Y ≤ H) ↔ beyondB W H o = false := by
  obtain ⟨n1, n2, n3, n4⟩ := ends_all hw
  rw [n1, n2, n3, n4]
  obtain ⟨a1, i1, e1⟩ := near_bot hw.1 1 0
  obtain ⟨a2, i2, e2⟩ := near_bot hw.1 0 1
  obtain ⟨a3, i3, e3⟩ := far_top hw.1 1 0
  obtain ⟨a4, i4, e4⟩ := far_top hw.1 0 1
  have hx : ∀ j, dotW 1 0 (cy o j) = (cy o j).X ∧ dotW 0 1 (cy o j) = (cy o j).Y := fun j => dot_xy (hw.2 j)
  unfold beyondB
  rw [List.any_eq_false]
  constructor
  · intro h c hc
    obtain ⟨k, hk⟩ := List.getElem?_of_mem hc
    have e := cy_lt hk
    have b1 := a1 k; have b2 := a2 k; have b3 := a3 k; have b4 := a4 k
    rw [(hx k).1, e] at b1 b3
    rw [(hx k).2, e] at b2 b4
    simp only [betw, Bool.or_eq_true, Bool.not_eq_true', Bool.and_eq_false_iff, decide_eq_false_iff_not]
    omega
  · intro h
    have key : ∀ j, 0 ≤ (cy o j).X ∧ (cy o j).X ≤ W ∧ 0 ≤ (cy o j).Y ∧ (cy o j).Y ≤ H := fun j => by
      have := h _ (cy_mem hw.1 j)
      simp only [betw, Bool.or_eq_true, Bool.not_eq_true', Bool.and_eq_false_iff, decide_eq_false_iff_not] at this
      omega
    rw [← e1, ← e2, ← e3, ← e4, (hx i1).1, (hx i2).2, (hx i3).1, (hx i4).2]
    have k1 := key i1; have k2 := key i2; have k3 := key i3; have k4 := key i4
    omega

set_option maxRecDepth 100000 in
set_option maxHeartbeats 1000000 in
theorem beyond1_any (b : BD) (A : Option Addr) (c : Nat) (Bb : Nat) (p : XY) (w : World) (hb : BdAt w Bb b A c) (hBb : Bb < w.heap.size) :
    Calls Try.prog 74 #[xyv p, .pointer (some ⟨Bb, 0, none⟩)] w (Ret (.bool (!betw 0 p.X b.W || !betw 0 p.Y b.H)) w) := by
  obtain ⟨c0, c1, c2, c3⟩ := hb
  have hB0 : Below w.heap.size w (w.alloc (.cells #[.int .i64 p.X, .int .i64 p.Y] 55)) := by (repeat (first | exact Below.refl _ _ | assumption | refine Below.alloc ?_ (by first | exact Nat.le_refl _ | exact Below.size (by assumption) | omega | (simp <;> omega)) _ | refine Below.setCell ?_ (by first | exact Nat.le_refl _ | exact Below.size (by assumption) | omega | (simp <;> omega)) _ | refine below_drewN ?_ _ | refine Below.drew ?_))
  cases h1 : betw 0 p.X b.W
  · have H1 := Lib.hid h1; clear h1
    go_enter Try.func74, Try.ntmps74
    go_wp2_with fail
    refine (between_any 0 p.X b.W _).mono ?_
    rintro e w2 ⟨rfl, rfl⟩
    rw [H1.out]
    go_wp2
    go_ret
    exact Ret.mk rfl hB0
  · have H1 := Lib.hid h1; clear h1
    go_enter Try.func74, Try.ntmps74
    go_wp2_with fail
    refine (between_any 0 p.X b.W _).mono ?_
    rintro e w2 ⟨rfl, rfl⟩
    rw [H1.out]
    go_wp2_with fail
    refine (between_any 0 p.Y b.H _).mono ?_
    rintro e w3 ⟨rfl, rfl⟩
    go_wp2
    go_ret
    exact Ret.mk rfl hB0

set_option maxRecDepth 100000 in
set_option maxHeartbeats 1000000 in
theorem beyond_any (b : BD) (A A2 : Option Addr) (c c2 : Nat) (o : List XY) (w : World) (hm : o.length ≤ 1000000) (hl : Rd w w.heap.size A2 o) :
    Calls Try.prog 39 #[bdv b A c, .slice A2 o.length c2] w (Ret (.bool (beyondB b.W b.H o)) w) := by
  have HL := Lib.hid hl; clear hl
  have hB0 : Below w.heap.size w (w.alloc (.cells #[.int .i64 b.W, .int .i64 b.H, .int .i64 b.G, .slice A b.F.length c] 24)) := by (repeat (first | exact Below.refl _ _ | assumption | refine Below.alloc ?_ (by first | exact Nat.le_refl _ | exact Below.size (by assumption) | omega | (simp <;> omega)) _ | refine Below.setCell ?_ (by first | exact Nat.le_refl _ | exact Below.size (by assumption) | omega | (simp <;> omega)) _ | refine below_drewN ?_ _ | refine Below.drew ?_))
  have HN := Lib.hid (BdAt.new w b A c)
  have hz : (w.alloc (.cells #[.int .i64 b.W, .int .i64 b.H, .int .i64 b.G, .slice A b.F.length c] 24)).heap.size = w.heap.size + 1 := by simp
  have htl : Tells 74 #[.pointer (some ⟨w.heap.size, 0, none⟩)] (fun p => !betw 0 p.X b.W || !betw 0 p.Y b.H) (w.alloc (.cells #[.int .i64 b.W, .int .i64 b.H, .int .i64 b.G, .slice A b.F.length c] 24)) :=
    ⟨enters_of Try.func74 (by kernel_rfl) rfl, fun W p hW => beyond1_any b A c w.heap.size p W (HN.out.below hW (by omega)) (by have := hW.size; omega)⟩
  have HCF := Lib.hid (containsFunc_any 74 #[.pointer (some ⟨w.heap.size, 0, none⟩)] (fun p => !betw 0 p.X b.W || !betw 0 p.Y b.H) A2 c2 o _ htl hm (HL.out.now hB0))
  clear htl
  go_enter Try.func39, Try.ntmps39
  go_wp2_with fail
  refine HCF.out.mono ?_
  rintro e w3 ⟨rfl, hb3⟩
  go_wp2
  go_ret
  exact Ret.mk rfl (hB0.trans (hb3.mono hB0.size))

set_option maxRecDepth 100000 in
set_option maxHeartbeats 1000000 in
theorem on_any (b : BD) (A A2 : Option Addr) (c c2 : Nat) (o : List XY) (w : World) (hm : o.length ≤ 1000000) (hw : Wd o) (hl : Rd w w.heap.size A2 o) :
    Calls Try.prog 97 #[bdv b A c, .slice A2 o.length c2] w (Ret (.bool (!beyondB b.W b.H o)) w) := by
  have HL := Lib.hid hl; clear hl
  obtain ⟨w0, hw0⟩ : ∃ w0, w.alloc (.cells #[.int .i64 b.W, .int .i64 b.H, .int .i64 b.G, .slice A b.F.length c] 24) = w0 := ⟨_, rfl⟩
  have hB0 : Below w.heap.size w w0 := by rw [← hw0]; (repeat (first | exact Below.refl _ _ | assumption | refine Below.alloc ?_ (by first | exact Nat.le_refl _ | exact Below.size (by assumption) | omega | (simp <;> omega)) _ | refine Below.setCell ?_ (by first | exact Nat.le_refl _ | exact Below.size (by assumption) | omega | (simp <;> omega)) _ | refine below_drewN ?_ _ | refine Below.drew ?_))
  have hz0 : w0.heap.size = w.heap.size + 1 := by rw [← hw0]; simp
  have HBD := Lib.hid (show BdAt w0 w.heap.size b A c by rw [← hw0]; exact BdAt.new w b A c)
  obtain ⟨k0, k1, k2, k3⟩ := HBD.out
  have hbi := beyond_iff b.W b.H hw
  have hen : ∀ W : World, Rd W W.heap.size A2 o → Calls Try.prog 120 #[.slice A2 o.length c2] W (Ret (.tuple #[xyv (lowTo o o.length), xyv (highTo o o.length)]) W) := fun W h => Ends_any A2 c2 o W hw.1 hm h
  generalize lowTo o o.length = lo at hbi hen
  generalize highTo o o.length = hi at hbi hen
  have HEN := Lib.hid hen; clear hen hw
  have hs : (!beyondB b.W b.H o) = (decide (0 ≤ lo.X) && decide (0 ≤ lo.Y) && decide (hi.X ≤ b.W) && decide (hi.Y ≤ b.H)) := by
    rw [Bool.eq_iff_iff]; simp only [Bool.not_eq_true', Bool.and_eq_true, decide_eq_true_eq, ← hbi]; omega
  have HS := Lib.hid hs; clear hs hbi
  go_enter Try.func97, Try.ntmps97
  go_wp2_with fail
  clear hw0
  refine (HEN.out _ (HL.out.now hB0)).mono ?_
  rintro e w2 ⟨rfl, hb2⟩
  have hB2 := hB0.trans (hb2.mono hB0.size)
  clear k0 k1 k2 k3
  obtain ⟨k0, k1, k2, k3⟩ := HBD.out.below hb2 (by omega)
  have hz2 : w.heap.size < w2.heap.size := by have := hb2.size; omega
  by_cases h1 : 0 ≤ lo.X
  · by_cases h2 : 0 ≤ lo.Y
    · by_cases h3 : hi.X ≤ b.W
      · rw [decide_eq_true h1, decide_eq_true h2, decide_eq_true h3] at HS
        go_wp2
        go_ret
        exact Ret.mk (by rw [HS.out]; rfl) (by (repeat (first | exact Below.refl _ _ | assumption | refine Below.alloc ?_ (by first | exact Nat.le_refl _ | exact Below.size (by assumption) | omega | (simp <;> omega)) _ | refine Below.setCell ?_ (by first | exact Nat.le_refl _ | exact Below.size (by assumption) | omega | (simp <;> omega)) _ | refine below_drewN ?_ _ | refine Below.drew ?_)))
      · rw [decide_eq_true h1, decide_eq_true h2, decide_eq_false h3] at HS
        go_wp2
        go_ret
        exact Ret.mk (by rw [HS.out]; rfl) (by (repeat (first | exact Below.refl _ _ | assumption | refine Below.alloc ?_ (by first | exact Nat.le_refl _ | exact Below.size (by assumption) | omega | (simp <;> omega)) _ | refine Below.setCell ?_ (by first | exact Nat.le_refl _ | exact Below.size (by assumption) | omega | (simp <;> omega)) _ | refine below_drewN ?_ _ | refine Below.drew ?_)))
    · rw [decide_eq_true h1, decide_eq_false h2] at HS
      go_wp2
      go_ret
      exact Ret.mk (by rw [HS.out]; rfl) (by (repeat (first | exact Below.refl _ _ | assumption | refine Below.alloc ?_ (by first | exact Nat.le_refl _ | exact Below.size (by assumption) | omega | (simp <;> omega)) _ | refine Below.setCell ?_ (by first | exact Nat.le_refl _ | exact Below.size (by assumption) | omega | (simp <;> omega)) _ | refine below_drewN ?_ _ | refine Below.drew ?_)))
  · rw [decide_eq_false h1] at HS
    go_wp2
    go_ret
    exact Ret.mk (by rw [HS.out]; rfl) (by (repeat (first | exact Below.refl _ _ | assumption | refine Below.alloc ?_ (by first | exact Nat.le_refl _ | exact Below.size (by assumption) | omega | (simp <;> omega)) _ | refine Below.setCell ?_ (by first | exact Nat.le_refl _ | exact Below.size (by assumption) | omega | (simp <;> omega)) _ | refine below_drewN ?_ _ | refine Below.drew ?_)))

/-! ### The questions of Check and free -/
set_option maxRecDepth 100000 in
set_option maxHeartbeats 1000000 in
theorem chk1_any (A : Option Addr) (c : Nat) (ps : List PT) (Bp : Nat) (p : PL) (w : World) (hm : ps.length ≤ 60) (hb : w.cell? ⟨Bp, 0, none⟩ = some (.slice A ps.length c)) (hBp : Bp < w.heap.size) (hp : RdPP w w.heap.size A ps) :
    Calls Try.prog 34 #[valL p, .pointer (some ⟨Bp, 0, none⟩)] w (Ret (.bool (!rightB ps p)) w) := by
  have HP := Lib.hid hp; clear hp
  have hB0 : Below w.heap.size w (w.alloc (.cells #[.int .i64 p.part, .int .i64 p.X, .int .i64 p.Y, .bool p.t] 52)) := by (repeat (first | exact Below.refl _ _ | assumption | refine Below.alloc ?_ (by first | exact Nat.le_refl _ | exact Below.size (by assumption) | omega | (simp <;> omega)) _ | refine Below.setCell ?_ (by first | exact Nat.le_refl _ | exact Below.size (by assumption) | omega | (simp <;> omega)) _ | refine below_drewN ?_ _ | refine Below.drew ?_))
  go_enter Try.func34, Try.ntmps34
  go_wp2_with fail
  refine (right_any A c ps p _ hm (HP.out.now hB0)).mono ?_
  rintro e w2 ⟨rfl, hb2⟩
  go_wp2
  go_ret
  exact Ret.mk rfl (hB0.trans (hb2.mono hB0.size))
set_option maxRecDepth 100000 in
set_option maxHeartbeats 1000000 in
theorem chk2_any (b : BD) (A : Option Addr) (c : Nat) (Bb : Nat) (s : SL) (w : World) (hm : s.l.length ≤ 1000000) (hb : BdAt w Bb b A c) (hl : Rd w w.heap.size s.A s.l) :
    Calls Try.prog 38 #[valS s, .pointer (some ⟨Bb, 0, none⟩)] w (Ret (.bool (beyondB b.W b.H s.l)) w) := by
  have HL := Lib.hid hl; clear hl
  obtain ⟨c0, c1, c2, c3⟩ := hb
  go_enter Try.func38, Try.ntmps38
  go_wp2_with fail
  refine (beyond_any b A s.A c s.c s.l _ hm HL.out).mono ?_
  rintro e w2 ⟨rfl, hb2⟩
  go_wp2
  go_ret
  exact Ret.mk rfl hb2
set_option maxRecDepth 100000 in
set_option maxHeartbeats 1000000 in
theorem chk3_any (b : BD) (A : Option Addr) (c : Nat) (Bb : Nat) (s : SL) (w : World) (h0 : 0 < s.l.length) (hm : s.l.length ≤ 1000000) (hFm : b.F.length ≤ 1000000) (hb : BdAt w Bb b A c) (hF : RdR w w.heap.size A b.F) (hl : Rd w w.heap.size s.A s.l) :
    Calls Try.prog 40 #[valS s, .pointer (some ⟨Bb, 0, none⟩)] w (Ret (.bool (faultyB b.F s.l)) w) := by
  have HL := Lib.hid hl; clear hl
  have HF := Lib.hid hF; clear hF
  obtain ⟨c0, c1, c2, c3⟩ := hb
  go_enter Try.func40, Try.ntmps40
  go_wp2_with fail
  refine (faulty_any b A s.A c s.c s.l _ h0 hm hFm HF.out HL.out).mono ?_
  rintro e w2 ⟨rfl, hb2⟩
  go_wp2
  go_ret
  exact Ret.mk rfl hb2
set_option maxRecDepth 100000 in
set_option maxHeartbeats 1000000 in
/-- It captures the lists, the number of one of them, and the board. -/
theorem chk4_any (b : BD) (A A2 : Option Addr) (c c2 : Nat) (Bo Bi Bb : Nat) (sl : List SL) (i : Nat) (s t : SL) (w : World) (hi : sl[i]? = some t) (h0 : 0 < s.l.length) (hm : s.l.length ≤ 1000000) (h0' : 0 < t.l.length) (hm' : t.l.length ≤ 1000000)
    (ho : w.cell? ⟨Bo, 0, none⟩ = some (.slice A2 sl.length c2)) (hBo : Bo < w.heap.size) (hI : w.cell? ⟨Bi, 0, none⟩ = some (.int .i64 (i : Int))) (hBi : Bi < w.heap.size) (hb : BdAt w Bb b A c) (hBb : Bb < w.heap.size)
    (hS : RdS w w.heap.size A2 sl) (hl : Rd w w.heap.size s.A s.l) (hl' : Rd w w.heap.size t.A t.l) :
    Calls Try.prog 43 #[valS s, .pointer (some ⟨Bo, 0, none⟩), .pointer (some ⟨Bi, 0, none⟩), .pointer (some ⟨Bb, 0, none⟩)] w (Ret (.bool (!apartB t.l s.l b.G)) w) := by
  have HL := Lib.hid hl; clear hl
  have HL' := Lib.hid hl'; clear hl'
  have hmx : Try.prog.follows .mixedOrders = true := by kernel_rfl
  obtain ⟨bb, off, hA, hbb, d0⟩ := hS i t hi
  subst hA
  have hil : i < sl.length := (List.getElem?_eq_some_iff.1 hi).1
  clear hi hS
  have hiI : (i : Int) < (sl.length : Int) := by omega
  have HBD := Lib.hid hb
  have HX := Lib.hid (And.intro ho (And.intro hI d0))
  have HC : Hid (∀ w', Below w.heap.size w w' → w'.cell? ⟨Bo, 0, none⟩ = some (.slice (some ⟨bb, off, none⟩) sl.length c2) ∧ w'.cell? ⟨Bi, 0, none⟩ = some (.int .i64 (i : Int)) ∧ w'.cell? ⟨bb, off + i, none⟩ = some (.slice t.A t.l.length t.c) ∧ w'.cell? ⟨Bb, 2, none⟩ = some (.int .i64 b.G)) := fun w' hC =>
    ⟨(hC.cell (p := ⟨Bo, 0, none⟩) hBo).trans HX.out.1, (hC.cell (p := ⟨Bi, 0, none⟩) hBi).trans HX.out.2.1, (hC.cell (p := ⟨bb, off + i, none⟩) hbb).trans HX.out.2.2, (HBD.out.below hC hBb).c2⟩
  clear ho hI hb d0
  go_enter Try.func43, Try.ntmps43
  go_wp2
  refine region_class (fun w' => Below w.heap.size w w') hmx (by kernel_rfl) (by (repeat (first | exact Below.refl _ _ | assumption | refine Below.alloc ?_ (by first | exact Nat.le_refl _ | exact Below.size (by assumption) | omega | (simp <;> omega)) _ | refine Below.setCell ?_ (by first | exact Nat.le_refl _ | exact Below.size (by assumption) | omega | (simp <;> omega)) _ | refine below_drewN ?_ _ | refine Below.drew ?_))) ?_
  repeat (refine quiet_read rfl (fun w' hC => by obtain ⟨f0, f1, f2, f3⟩ := HC.out w' hC; clear hC; go_simp; rfl) ?_; simp only [Act.put, List.setIfInBounds_toArray, List.set_cons_succ, List.set_cons_zero])
  (refine quiet_call rfl (fun w' hC => by (go_simp; try rfl)) (fun w' hC => (apart_any b.G t.A s.A t.c s.c t.l s.l w' h0' h0 hm' hm (HL'.out.now hC) (HL.out.now hC)).mono (fun e w2 hr => ⟨hr.1, hC.trans (hr.2.mono hC.size)⟩)) ?_; simp only [Act.put, List.setIfInBounds_toArray, List.set_cons_succ, List.set_cons_zero])
  repeat (refine quiet_read rfl (fun w' hC => by obtain ⟨f0, f1, f2, f3⟩ := HC.out w' hC; clear hC; go_simp; rfl) ?_; simp only [Act.put, List.setIfInBounds_toArray, List.set_cons_succ, List.set_cons_zero])
  refine wpQuiet_nil ?_
  intro w9 hb9
  go_wp2
  go_ret
  exact Ret.mk rfl hb9
set_option maxRecDepth 100000 in
set_option maxHeartbeats 1000000 in
theorem free1_any (b : BD) (A A2 : Option Addr) (c c2 : Nat) (Bo Bb : Nat) (o : List XY) (s : SL) (w : World) (h0 : 0 < s.l.length) (hm : s.l.length ≤ 1000000) (h0' : 0 < o.length) (hm' : o.length ≤ 1000000)
    (ho : w.cell? ⟨Bo, 0, none⟩ = some (.slice A2 o.length c2)) (hb : BdAt w Bb b A c) (hl : Rd w w.heap.size s.A s.l) (hl' : Rd w w.heap.size A2 o) :
    Calls Try.prog 80 #[valS s, .pointer (some ⟨Bo, 0, none⟩), .pointer (some ⟨Bb, 0, none⟩)] w (Ret (.bool (!apartB o s.l b.G)) w) := by
  have HL := Lib.hid hl; clear hl
  have HL' := Lib.hid hl'; clear hl'
  obtain ⟨k0, k1, k2, k3⟩ := hb
  go_enter Try.func80, Try.ntmps80
  go_wp2_with fail
  refine (apart_any b.G A2 s.A c2 s.c o s.l _ h0' h0 hm' hm HL'.out HL.out).mono ?_
  rintro e w2 ⟨rfl, hb2⟩
  go_wp2
  go_ret
  exact Ret.mk rfl hb2
end Go.Proofs.Ytohlinbcbfgdfaa

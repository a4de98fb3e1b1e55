/- slices.IndexFunc and ContainsFunc at rectangles, places, parts and lists: the walks. -/
import Derived.Test.YtohlinbcbfgdfaaNSpec
namespace Go.Proofs.Ytohlinbcbfgdfaa
open Go.RowKit

/-- A list of corners, as it lies in memory. -/
structure SL where
  A : Option Addr
  c : Nat
  l : List XY
/-- The first place at which f holds, or -1. -/
def idxG {α : Type} (f : α → Bool) (l : List α) : Int := if l.any f then (l.findIdx f : Nat) else -1
theorem idxG_hit {α : Type} {f : α → Bool} {l : List α} {k : Nat} {q : α} (hno : ∀ x ∈ l.take k, f x = false) (h : l[k]? = some q) (hq : f q = true) : idxG f l = k := by
  have hmem : q ∈ l := List.mem_of_getElem? h
  have hlt : k < l.length := (List.getElem?_eq_some_iff.1 h).1
  have hqe : l[k] = q := (List.getElem?_eq_some_iff.1 h).2
  unfold idxG
  rw [if_pos (List.any_eq_true.2 ⟨q, hmem, hq⟩)]
  have : l.findIdx f = k := by
    rw [List.findIdx_eq hlt]
    refine ⟨by rw [hqe]; exact hq, fun j hj => ?_⟩
    exact hno _ (List.mem_take_iff_getElem.2 ⟨j, by omega, rfl⟩)
  rw [this]
theorem idxG_none {α : Type} {f : α → Bool} {l : List α} (hno : ∀ x ∈ l, f x = false) : idxG f l = -1 := by
  unfold idxG
  rw [if_neg (by simp only [List.any_eq_true, not_exists, not_and]; intro x hx; rw [hno x hx]; simp)]
theorem noG_take_succ {α : Type} {f : α → Bool} {l : List α} {k : Nat} {q : α} (hno : ∀ x ∈ l.take k, f x = false) (h : l[k]? = some q) (hq : f q = false) : ∀ x ∈ l.take (k + 1), f x = false := by
  rw [take_succ_of h]
  intro x hx
  rcases List.mem_append.1 hx with hx | hx
  · exact hno x hx
  · simp at hx; rw [hx]; exact hq

abbrev valR (p : RC) : Value := .agg #[.int .i64 p.X, .int .i64 p.Y, .int .i64 p.W, .int .i64 p.H]
/-- The slice's address A reads as these rectangles. -/
def RdR (w : World) (B : Nat) (A : Option Addr) (l : List RC) : Prop :=
  ∀ i p, l[i]? = some p → ∃ b off, A = some ⟨b, off, none⟩ ∧ b < B ∧ w.cell? ⟨b, off + i * 4, none⟩ = some (.int .i64 p.X) ∧ w.cell? ⟨b, off + i * 4 + 1, none⟩ = some (.int .i64 p.Y) ∧ w.cell? ⟨b, off + i * 4 + 2, none⟩ = some (.int .i64 p.W) ∧ w.cell? ⟨b, off + i * 4 + 3, none⟩ = some (.int .i64 p.H)
theorem RdR.keep {w w' : World} {B : Nat} {A : Option Addr} {l : List RC} (h : RdR w B A l) (hk : ∀ p : Addr, p.block < B → w'.cell? p = w.cell? p) : RdR w' B A l := by
  intro i p hp
  obtain ⟨b, off, hA, hb, h0, h1, h2, h3⟩ := h i p hp
  exact ⟨b, off, hA, hb, (hk ⟨b, off + i * 4, none⟩ hb).trans h0, (hk ⟨b, off + i * 4 + 1, none⟩ hb).trans h1, (hk ⟨b, off + i * 4 + 2, none⟩ hb).trans h2, (hk ⟨b, off + i * 4 + 3, none⟩ hb).trans h3⟩
theorem RdR.below {w w' : World} {B : Nat} {A : Option Addr} {l : List RC} (h : RdR w B A l) (hb : Below B w w') : RdR w' B A l := h.keep fun _ hp => hb.cell hp
theorem RdR.more {w : World} {B B' : Nat} {A : Option Addr} {l : List RC} (h : RdR w B A l) (hB : B ≤ B') : RdR w B' A l := by
  intro i p hp
  obtain ⟨b, off, hA, hb, h0, h1, h2, h3⟩ := h i p hp
  exact ⟨b, off, hA, by omega, h0, h1, h2, h3⟩
theorem RdR.now {w w' : World} {A : Option Addr} {l : List RC} (h : RdR w w.heap.size A l) (hb : Below w.heap.size w w') : RdR w' w'.heap.size A l := (h.below hb).more hb.size
def TellsR (g : Nat) (cb : Array Value) (f : RC → Bool) (l : List RC) (w : World) : Prop :=
  (∀ args W, (callFunc g args).run Try.prog W = .ok (.enter g args) W) ∧ ∀ (W : World) (p : RC), p ∈ l → Below w.heap.size w W → Calls Try.prog g (#[valR p] ++ cb) W (Ret (.bool (f p)) W)

set_option maxRecDepth 100000 in
set_option maxHeartbeats 400000 in
theorem indexFuncR_any (g : Nat) (cb : Array Value) (f : RC → Bool) (A : Option Addr) (c : Nat) (l : List RC) (w : World) (hf : TellsR g cb f l w) (hm : l.length ≤ 1000000) (hl : RdR w w.heap.size A l) :
    Calls Try.prog 104 #[.slice A l.length c, .func (.func g) #[] cb] w (Ret (.int .i64 (idxG f l)) w) := by
  have eg := hf.1
  have HF := Lib.hid hf.2; clear hf
  have HL := Lib.hid hl; clear hl
  go_enter Try.func104, Try.ntmps104
  go_wp2
  go_loopw [5, 8] (fun _ i wr => ∃ k : Nat, k ≤ l.length ∧ i = .int .i64 k ∧ (∀ x ∈ l.take k, f x = false) ∧ Below w.heap.size w wr) (fun _ i _ => l.length - (intOf i).toNat)
  case atStart => exact ⟨0, Nat.zero_le _, rfl, by simp, Below.refl _ _⟩
  case round =>
    obtain ⟨k, hk, rfl, hno, hB⟩ := hrel
    have HN := Lib.hid hno; clear hno
    by_cases hlt : k < l.length
    · obtain ⟨q, hq⟩ := getElem?_of_lt hlt
      obtain ⟨b, off, hA, hb, hc0, hc1, hc2, hc3⟩ := (HL.out.below hB) k q hq
      subst hA
      have hqm : q ∈ l := List.mem_of_getElem? hq
      have HQ := Lib.hid hq; clear hq
      go_wp2_with fail
      refine (HF.out _ _ hqm hB).mono ?_
      rintro e w2 ⟨rfl, hb2⟩
      have hB2 := hB.trans (hb2.mono hB.size)
      cases hfq : f q
      · go_wp2
        go_roundw
        case rel => exact ⟨k + 1, by omega, by go_num, noG_take_succ HN.out HQ.out hfq, hB2⟩
        case measure => simp [intOf]; omega
      · go_wp2
        go_ret
        exact Ret.mk (by rw [idxG_hit HN.out HQ.out hfq]; rfl) hB2
    · go_wp2
      go_ret
      exact Ret.mk (by rw [idxG_none (fun x hx => HN.out x (by rw [List.take_of_length_le (by omega)]; exact hx))]; rfl) hB

set_option maxRecDepth 100000 in
set_option maxHeartbeats 400000 in
theorem containsFuncR_any (g : Nat) (cb : Array Value) (f : RC → Bool) (A : Option Addr) (c : Nat) (l : List RC) (w : World) (hf : TellsR g cb f l w) (hm : l.length ≤ 1000000) (hl : RdR w w.heap.size A l) :
    Calls Try.prog 75 #[.slice A l.length c, .func (.func g) #[] cb] w (Ret (.bool (l.any f)) w) := by
  have HI := Lib.hid (indexFuncR_any g cb f A c l w hf hm hl)
  clear hf hl
  go_enter Try.func75, Try.ntmps75
  go_wp2_with fail
  refine HI.out.mono ?_
  rintro e w2 ⟨rfl, hb2⟩
  go_wp2
  go_ret
  refine ⟨?_, hb2⟩
  show _ = Ending.returned (Value.bool (l.any f))
  cases h : l.any f <;> simp [idxG, h]


abbrev valL (p : PL) : Value := .agg #[.int .i64 p.part, .int .i64 p.X, .int .i64 p.Y, .bool p.t]
/-- The slice's address A reads as these places. -/
def RdL (w : World) (B : Nat) (A : Option Addr) (l : List PL) : Prop :=
  ∀ i p, l[i]? = some p → ∃ b off, A = some ⟨b, off, none⟩ ∧ b < B ∧ w.cell? ⟨b, off + i * 4, none⟩ = some (.int .i64 p.part) ∧ w.cell? ⟨b, off + i * 4 + 1, none⟩ = some (.int .i64 p.X) ∧ w.cell? ⟨b, off + i * 4 + 2, none⟩ = some (.int .i64 p.Y) ∧ w.cell? ⟨b, off + i * 4 + 3, none⟩ = some (.bool p.t)
theorem RdL.keep {w w' : World} {B : Nat} {A : Option Addr} {l : List PL} (h : RdL w B A l) (hk : ∀ p : Addr, p.block < B → w'.cell? p = w.cell? p) : RdL w' B A l := by
  intro i p hp
  obtain ⟨b, off, hA, hb, h0, h1, h2, h3⟩ := h i p hp
  exact ⟨b, off, hA, hb, (hk ⟨b, off + i * 4, none⟩ hb).trans h0, (hk ⟨b, off + i * 4 + 1, none⟩ hb).trans h1, (hk ⟨b, off + i * 4 + 2, none⟩ hb).trans h2, (hk ⟨b, off + i * 4 + 3, none⟩ hb).trans h3⟩
theorem RdL.below {w w' : World} {B : Nat} {A : Option Addr} {l : List PL} (h : RdL w B A l) (hb : Below B w w') : RdL w' B A l := h.keep fun _ hp => hb.cell hp
theorem RdL.more {w : World} {B B' : Nat} {A : Option Addr} {l : List PL} (h : RdL w B A l) (hB : B ≤ B') : RdL w B' A l := by
  intro i p hp
  obtain ⟨b, off, hA, hb, h0, h1, h2, h3⟩ := h i p hp
  exact ⟨b, off, hA, by omega, h0, h1, h2, h3⟩
theorem RdL.now {w w' : World} {A : Option Addr} {l : List PL} (h : RdL w w.heap.size A l) (hb : Below w.heap.size w w') : RdL w' w'.heap.size A l := (h.below hb).more hb.size
def TellsL (g : Nat) (cb : Array Value) (f : PL → Bool) (l : List PL) (w : World) : Prop :=
  (∀ args W, (callFunc g args).run Try.prog W = .ok (.enter g args) W) ∧ ∀ (W : World) (p : PL), p ∈ l → Below w.heap.size w W → Calls Try.prog g (#[valL p] ++ cb) W (Ret (.bool (f p)) W)

set_option maxRecDepth 100000 in
set_option maxHeartbeats 400000 in
theorem indexFuncL_any (g : Nat) (cb : Array Value) (f : PL → Bool) (A : Option Addr) (c : Nat) (l : List PL) (w : World) (hf : TellsL g cb f l w) (hm : l.length ≤ 1000000) (hl : RdL w w.heap.size A l) :
    Calls Try.prog 33 #[.slice A l.length c, .func (.func g) #[] cb] w (Ret (.int .i64 (idxG f l)) w) := by
  have eg := hf.1
  have HF := Lib.hid hf.2; clear hf
  have HL := Lib.hid hl; clear hl
  go_enter Try.func33, Try.ntmps33
  go_wp2
  go_loopw [5, 8] (fun _ i wr => ∃ k : Nat, k ≤ l.length ∧ i = .int .i64 k ∧ (∀ x ∈ l.take k, f x = false) ∧ Below w.heap.size w wr) (fun _ i _ => l.length - (intOf i).toNat)
  case atStart => exact ⟨0, Nat.zero_le _, rfl, by simp, Below.refl _ _⟩
  case round =>
    obtain ⟨k, hk, rfl, hno, hB⟩ := hrel
    have HN := Lib.hid hno; clear hno
    by_cases hlt : k < l.length
    · obtain ⟨q, hq⟩ := getElem?_of_lt hlt
      obtain ⟨b, off, hA, hb, hc0, hc1, hc2, hc3⟩ := (HL.out.below hB) k q hq
      subst hA
      have hqm : q ∈ l := List.mem_of_getElem? hq
      have HQ := Lib.hid hq; clear hq
      go_wp2_with fail
      refine (HF.out _ _ hqm hB).mono ?_
      rintro e w2 ⟨rfl, hb2⟩
      have hB2 := hB.trans (hb2.mono hB.size)
      cases hfq : f q
      · go_wp2
        go_roundw
        case rel => exact ⟨k + 1, by omega, by go_num, noG_take_succ HN.out HQ.out hfq, hB2⟩
        case measure => simp [intOf]; omega
      · go_wp2
        go_ret
        exact Ret.mk (by rw [idxG_hit HN.out HQ.out hfq]; rfl) hB2
    · go_wp2
      go_ret
      exact Ret.mk (by rw [idxG_none (fun x hx => HN.out x (by rw [List.take_of_length_le (by omega)]; exact hx))]; rfl) hB

abbrev valP (p : PT) : Value := .agg #[.slice p.A p.o.length p.c, .bool p.t]
/-- The slice's address A reads as these parts. -/
def RdP (w : World) (B : Nat) (A : Option Addr) (l : List PT) : Prop :=
  ∀ i p, l[i]? = some p → ∃ b off, A = some ⟨b, off, none⟩ ∧ b < B ∧ w.cell? ⟨b, off + i * 2, none⟩ = some (.slice p.A p.o.length p.c) ∧ w.cell? ⟨b, off + i * 2 + 1, none⟩ = some (.bool p.t)
theorem RdP.keep {w w' : World} {B : Nat} {A : Option Addr} {l : List PT} (h : RdP w B A l) (hk : ∀ p : Addr, p.block < B → w'.cell? p = w.cell? p) : RdP w' B A l := by
  intro i p hp
  obtain ⟨b, off, hA, hb, h0, h1⟩ := h i p hp
  exact ⟨b, off, hA, hb, (hk ⟨b, off + i * 2, none⟩ hb).trans h0, (hk ⟨b, off + i * 2 + 1, none⟩ hb).trans h1⟩
theorem RdP.below {w w' : World} {B : Nat} {A : Option Addr} {l : List PT} (h : RdP w B A l) (hb : Below B w w') : RdP w' B A l := h.keep fun _ hp => hb.cell hp
theorem RdP.more {w : World} {B B' : Nat} {A : Option Addr} {l : List PT} (h : RdP w B A l) (hB : B ≤ B') : RdP w B' A l := by
  intro i p hp
  obtain ⟨b, off, hA, hb, h0, h1⟩ := h i p hp
  exact ⟨b, off, hA, by omega, h0, h1⟩
theorem RdP.now {w w' : World} {A : Option Addr} {l : List PT} (h : RdP w w.heap.size A l) (hb : Below w.heap.size w w') : RdP w' w'.heap.size A l := (h.below hb).more hb.size
def TellsP (g : Nat) (cb : Array Value) (f : PT → Bool) (l : List PT) (w : World) : Prop :=
  (∀ args W, (callFunc g args).run Try.prog W = .ok (.enter g args) W) ∧ ∀ (W : World) (p : PT), p ∈ l → Below w.heap.size w W → Calls Try.prog g (#[valP p] ++ cb) W (Ret (.bool (f p)) W)

set_option maxRecDepth 100000 in
set_option maxHeartbeats 400000 in
theorem indexFuncP_any (g : Nat) (cb : Array Value) (f : PT → Bool) (A : Option Addr) (c : Nat) (l : List PT) (w : World) (hf : TellsP g cb f l w) (hm : l.length ≤ 1000000) (hl : RdP w w.heap.size A l) :
    Calls Try.prog 124 #[.slice A l.length c, .func (.func g) #[] cb] w (Ret (.int .i64 (idxG f l)) w) := by
  have eg := hf.1
  have HF := Lib.hid hf.2; clear hf
  have HL := Lib.hid hl; clear hl
  go_enter Try.func124, Try.ntmps124
  go_wp2
  go_loopw [5, 8] (fun _ i wr => ∃ k : Nat, k ≤ l.length ∧ i = .int .i64 k ∧ (∀ x ∈ l.take k, f x = false) ∧ Below w.heap.size w wr) (fun _ i _ => l.length - (intOf i).toNat)
  case atStart => exact ⟨0, Nat.zero_le _, rfl, by simp, Below.refl _ _⟩
  case round =>
    obtain ⟨k, hk, rfl, hno, hB⟩ := hrel
    have HN := Lib.hid hno; clear hno
    by_cases hlt : k < l.length
    · obtain ⟨q, hq⟩ := getElem?_of_lt hlt
      obtain ⟨b, off, hA, hb, hc0, hc1⟩ := (HL.out.below hB) k q hq
      subst hA
      have hqm : q ∈ l := List.mem_of_getElem? hq
      have HQ := Lib.hid hq; clear hq
      go_wp2_with fail
      refine (HF.out _ _ hqm hB).mono ?_
      rintro e w2 ⟨rfl, hb2⟩
      have hB2 := hB.trans (hb2.mono hB.size)
      cases hfq : f q
      · go_wp2
        go_roundw
        case rel => exact ⟨k + 1, by omega, by go_num, noG_take_succ HN.out HQ.out hfq, hB2⟩
        case measure => simp [intOf]; omega
      · go_wp2
        go_ret
        exact Ret.mk (by rw [idxG_hit HN.out HQ.out hfq]; rfl) hB2
    · go_wp2
      go_ret
      exact Ret.mk (by rw [idxG_none (fun x hx => HN.out x (by rw [List.take_of_length_le (by omega)]; exact hx))]; rfl) hB

set_option maxRecDepth 100000 in
set_option maxHeartbeats 400000 in
theorem containsFuncP_any (g : Nat) (cb : Array Value) (f : PT → Bool) (A : Option Addr) (c : Nat) (l : List PT) (w : World) (hf : TellsP g cb f l w) (hm : l.length ≤ 1000000) (hl : RdP w w.heap.size A l) :
    Calls Try.prog 102 #[.slice A l.length c, .func (.func g) #[] cb] w (Ret (.bool (l.any f)) w) := by
  have HI := Lib.hid (indexFuncP_any g cb f A c l w hf hm hl)
  clear hf hl
  go_enter Try.func102, Try.ntmps102
  go_wp2_with fail
  refine HI.out.mono ?_
  rintro e w2 ⟨rfl, hb2⟩
  go_wp2
  go_ret
  refine ⟨?_, hb2⟩
  show _ = Ending.returned (Value.bool (l.any f))
  cases h : l.any f <;> simp [idxG, h]


abbrev valS (p : SL) : Value := .slice p.A p.l.length p.c
/-- The slice's address A reads as these lists. -/
def RdS (w : World) (B : Nat) (A : Option Addr) (l : List SL) : Prop :=
  ∀ i p, l[i]? = some p → ∃ b off, A = some ⟨b, off, none⟩ ∧ b < B ∧ w.cell? ⟨b, off + i, none⟩ = some (.slice p.A p.l.length p.c)
theorem RdS.keep {w w' : World} {B : Nat} {A : Option Addr} {l : List SL} (h : RdS w B A l) (hk : ∀ p : Addr, p.block < B → w'.cell? p = w.cell? p) : RdS w' B A l := by
  intro i p hp
  obtain ⟨b, off, hA, hb, h0⟩ := h i p hp
  exact ⟨b, off, hA, hb, (hk ⟨b, off + i, none⟩ hb).trans h0⟩
theorem RdS.below {w w' : World} {B : Nat} {A : Option Addr} {l : List SL} (h : RdS w B A l) (hb : Below B w w') : RdS w' B A l := h.keep fun _ hp => hb.cell hp
theorem RdS.more {w : World} {B B' : Nat} {A : Option Addr} {l : List SL} (h : RdS w B A l) (hB : B ≤ B') : RdS w B' A l := by
  intro i p hp
  obtain ⟨b, off, hA, hb, h0⟩ := h i p hp
  exact ⟨b, off, hA, by omega, h0⟩
theorem RdS.now {w w' : World} {A : Option Addr} {l : List SL} (h : RdS w w.heap.size A l) (hb : Below w.heap.size w w') : RdS w' w'.heap.size A l := (h.below hb).more hb.size
def TellsS (g : Nat) (cb : Array Value) (f : SL → Bool) (l : List SL) (w : World) : Prop :=
  (∀ args W, (callFunc g args).run Try.prog W = .ok (.enter g args) W) ∧ ∀ (W : World) (p : SL), p ∈ l → Below w.heap.size w W → Calls Try.prog g (#[valS p] ++ cb) W (Ret (.bool (f p)) W)

set_option maxRecDepth 100000 in
set_option maxHeartbeats 400000 in
theorem indexFuncS_any (g : Nat) (cb : Array Value) (f : SL → Bool) (A : Option Addr) (c : Nat) (l : List SL) (w : World) (hf : TellsS g cb f l w) (hm : l.length ≤ 1000000) (hl : RdS w w.heap.size A l) :
    Calls Try.prog 37 #[.slice A l.length c, .func (.func g) #[] cb] w (Ret (.int .i64 (idxG f l)) w) := by
  have eg := hf.1
  have HF := Lib.hid hf.2; clear hf
  have HL := Lib.hid hl; clear hl
  go_enter Try.func37, Try.ntmps37
  go_wp2
  go_loopw [5, 8] (fun _ i wr => ∃ k : Nat, k ≤ l.length ∧ i = .int .i64 k ∧ (∀ x ∈ l.take k, f x = false) ∧ Below w.heap.size w wr) (fun _ i _ => l.length - (intOf i).toNat)
  case atStart => exact ⟨0, Nat.zero_le _, rfl, by simp, Below.refl _ _⟩
  case round =>
    obtain ⟨k, hk, rfl, hno, hB⟩ := hrel
    have HN := Lib.hid hno; clear hno
    by_cases hlt : k < l.length
    · obtain ⟨q, hq⟩ := getElem?_of_lt hlt
      obtain ⟨b, off, hA, hb, hc0⟩ := (HL.out.below hB) k q hq
      subst hA
      have hqm : q ∈ l := List.mem_of_getElem? hq
      have HQ := Lib.hid hq; clear hq
      go_wp2_with fail
      refine (HF.out _ _ hqm hB).mono ?_
      rintro e w2 ⟨rfl, hb2⟩
      have hB2 := hB.trans (hb2.mono hB.size)
      cases hfq : f q
      · go_wp2
        go_roundw
        case rel => exact ⟨k + 1, by omega, by go_num, noG_take_succ HN.out HQ.out hfq, hB2⟩
        case measure => simp [intOf]; omega
      · go_wp2
        go_ret
        exact Ret.mk (by rw [idxG_hit HN.out HQ.out hfq]; rfl) hB2
    · go_wp2
      go_ret
      exact Ret.mk (by rw [idxG_none (fun x hx => HN.out x (by rw [List.take_of_length_le (by omega)]; exact hx))]; rfl) hB

set_option maxRecDepth 100000 in
set_option maxHeartbeats 400000 in
theorem containsFuncS_any (g : Nat) (cb : Array Value) (f : SL → Bool) (A : Option Addr) (c : Nat) (l : List SL) (w : World) (hf : TellsS g cb f l w) (hm : l.length ≤ 1000000) (hl : RdS w w.heap.size A l) :
    Calls Try.prog 42 #[.slice A l.length c, .func (.func g) #[] cb] w (Ret (.bool (l.any f)) w) := by
  have HI := Lib.hid (indexFuncS_any g cb f A c l w hf hm hl)
  clear hf hl
  go_enter Try.func42, Try.ntmps42
  go_wp2_with fail
  refine HI.out.mono ?_
  rintro e w2 ⟨rfl, hb2⟩
  go_wp2
  go_ret
  refine ⟨?_, hb2⟩
  show _ = Ending.returned (Value.bool (l.any f))
  cases h : l.any f <;> simp [idxG, h]

end Go.Proofs.Ytohlinbcbfgdfaa

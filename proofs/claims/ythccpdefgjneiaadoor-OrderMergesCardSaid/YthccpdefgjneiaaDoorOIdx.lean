/- The lists of the orders as they lie in memory; slices.IndexFunc and ContainsFunc at their elements: the walks. Printed by gido.py. -/
import Derived.Test.YthccpdefgjneiaaDoorOW1
import Derived.Test.YthccpdefgjneiaaDoorNIdx0
namespace Go.Proofs.YthccpdefgjneiaaDoor
open Go.RowKit Go.Shelf

/-- A step of a price. -/
structure ST where
  n : Int
  c : Int

def RdT2 (w : World) (B : Nat) (A : Option Addr) (l : List ST) : Prop :=
  ∀ i p, l[i]? = some p → ∃ b off, A = some ⟨b, off, none⟩ ∧ b < B ∧ w.cell? ⟨b, off + i * 2, none⟩ = some (.int .i64 p.n) ∧ w.cell? ⟨b, off + i * 2 + 1, none⟩ = some (.int .i64 p.c)
theorem RdT2.now {w w' : World} {A : Option Addr} {l : List ST} (h : RdT2 w w.heap.size A l) (hb : Below w.heap.size w w') : RdT2 w' w'.heap.size A l := by
  intro i p hp
  obtain ⟨b, off, hA, hbb, h0, h1⟩ := h i p hp
  exact ⟨b, off, hA, Nat.lt_of_lt_of_le hbb hb.size, (hb.cell (p := ⟨b, off + i * 2, none⟩) hbb).trans h0, (hb.cell (p := ⟨b, off + i * 2 + 1, none⟩) hbb).trans h1⟩

/-- A rate. -/
structure RT where
  c : ByteArray
  d : Int
  n : Int
  m : Int
abbrev valT (p : RT) : Value := .agg #[.string p.c, .int .i64 p.d, .int .i64 p.n, .int .i64 p.m]
def RdT (w : World) (B : Nat) (A : Option Addr) (l : List RT) : Prop :=
  ∀ i p, l[i]? = some p → ∃ b off, A = some ⟨b, off, none⟩ ∧ b < B ∧ w.cell? ⟨b, off + i * 4, none⟩ = some (.string p.c) ∧ w.cell? ⟨b, off + i * 4 + 1, none⟩ = some (.int .i64 p.d) ∧ w.cell? ⟨b, off + i * 4 + 2, none⟩ = some (.int .i64 p.n) ∧ w.cell? ⟨b, off + i * 4 + 3, none⟩ = some (.int .i64 p.m)
theorem RdT.keep {w w' : World} {B : Nat} {A : Option Addr} {l : List RT} (h : RdT w B A l) (hk : ∀ p : Addr, p.block < B → w'.cell? p = w.cell? p) : RdT w' B A l := by
  intro i p hp
  obtain ⟨b, off, hA, hb, h0, h1, h2, h3⟩ := h i p hp
  exact ⟨b, off, hA, hb, (hk ⟨b, off + i * 4, none⟩ hb).trans h0, (hk ⟨b, off + i * 4 + 1, none⟩ hb).trans h1, (hk ⟨b, off + i * 4 + 2, none⟩ hb).trans h2, (hk ⟨b, off + i * 4 + 3, none⟩ hb).trans h3⟩
theorem RdT.below {w w' : World} {B : Nat} {A : Option Addr} {l : List RT} (h : RdT w B A l) (hb : Below B w w') : RdT w' B A l := h.keep fun _ hp => hb.cell hp
theorem RdT.now {w w' : World} {A : Option Addr} {l : List RT} (h : RdT w w.heap.size A l) (hb : Below w.heap.size w w') : RdT w' w'.heap.size A l := by
  intro i p hp
  obtain ⟨b, off, hA, hbb, h0, h1, h2, h3⟩ := (h.below hb) i p hp
  exact ⟨b, off, hA, Nat.lt_of_lt_of_le hbb hb.size, h0, h1, h2, h3⟩
/-- Such a value in a block. -/
structure AtT (w : World) (B : Nat) (p : RT) : Prop where
  c0 : w.cell? ⟨B, 0, none⟩ = some (.string p.c)
  c1 : w.cell? ⟨B, 1, none⟩ = some (.int .i64 p.d)
  c2 : w.cell? ⟨B, 2, none⟩ = some (.int .i64 p.n)
  c3 : w.cell? ⟨B, 3, none⟩ = some (.int .i64 p.m)
theorem AtT.new (w : World) (p : RT) : AtT (w.alloc (.cells #[.string p.c, .int .i64 p.d, .int .i64 p.n, .int .i64 p.m] 70)) w.heap.size p := ⟨by simp, by simp, by simp, by simp⟩
theorem AtT.below {w w' : World} {B C : Nat} {p : RT} (h : AtT w B p) (hb : Below C w w') (hB : B < C) : AtT w' B p := ⟨(hb.cell (p := ⟨B, 0, none⟩) hB).trans h.c0, (hb.cell (p := ⟨B, 1, none⟩) hB).trans h.c1, (hb.cell (p := ⟨B, 2, none⟩) hB).trans h.c2, (hb.cell (p := ⟨B, 3, none⟩) hB).trans h.c3⟩
/-- A price. -/
structure QT where
  m : ByteArray
  d : Int
  A : Option Addr
  cp : Nat
  st : List ST
abbrev valQ (p : QT) : Value := .agg #[.string p.m, .int .i64 p.d, .slice p.A p.st.length p.cp]
def RdQ (w : World) (B : Nat) (A : Option Addr) (l : List QT) : Prop :=
  ∀ i p, l[i]? = some p → ∃ b off, A = some ⟨b, off, none⟩ ∧ b < B ∧ w.cell? ⟨b, off + i * 3, none⟩ = some (.string p.m) ∧ w.cell? ⟨b, off + i * 3 + 1, none⟩ = some (.int .i64 p.d) ∧ w.cell? ⟨b, off + i * 3 + 2, none⟩ = some (.slice p.A p.st.length p.cp)
theorem RdQ.keep {w w' : World} {B : Nat} {A : Option Addr} {l : List QT} (h : RdQ w B A l) (hk : ∀ p : Addr, p.block < B → w'.cell? p = w.cell? p) : RdQ w' B A l := by
  intro i p hp
  obtain ⟨b, off, hA, hb, h0, h1, h2⟩ := h i p hp
  exact ⟨b, off, hA, hb, (hk ⟨b, off + i * 3, none⟩ hb).trans h0, (hk ⟨b, off + i * 3 + 1, none⟩ hb).trans h1, (hk ⟨b, off + i * 3 + 2, none⟩ hb).trans h2⟩
theorem RdQ.below {w w' : World} {B : Nat} {A : Option Addr} {l : List QT} (h : RdQ w B A l) (hb : Below B w w') : RdQ w' B A l := h.keep fun _ hp => hb.cell hp
theorem RdQ.now {w w' : World} {A : Option Addr} {l : List QT} (h : RdQ w w.heap.size A l) (hb : Below w.heap.size w w') : RdQ w' w'.heap.size A l := by
  intro i p hp
  obtain ⟨b, off, hA, hbb, h0, h1, h2⟩ := (h.below hb) i p hp
  exact ⟨b, off, hA, Nat.lt_of_lt_of_le hbb hb.size, h0, h1, h2⟩
/-- Such a value in a block. -/
structure AtQ (w : World) (B : Nat) (p : QT) : Prop where
  c0 : w.cell? ⟨B, 0, none⟩ = some (.string p.m)
  c1 : w.cell? ⟨B, 1, none⟩ = some (.int .i64 p.d)
  c2 : w.cell? ⟨B, 2, none⟩ = some (.slice p.A p.st.length p.cp)
theorem AtQ.new (w : World) (p : QT) : AtQ (w.alloc (.cells #[.string p.m, .int .i64 p.d, .slice p.A p.st.length p.cp] 54)) w.heap.size p := ⟨by simp, by simp, by simp⟩
theorem AtQ.below {w w' : World} {B C : Nat} {p : QT} (h : AtQ w B p) (hb : Below C w w') (hB : B < C) : AtQ w' B p := ⟨(hb.cell (p := ⟨B, 0, none⟩) hB).trans h.c0, (hb.cell (p := ⟨B, 1, none⟩) hB).trans h.c1, (hb.cell (p := ⟨B, 2, none⟩) hB).trans h.c2⟩
/-- A line. -/
structure GT where
  m : ByteArray
  c : Int
  z : Int
  n : Int
abbrev valG (p : GT) : Value := .agg #[.string p.m, .int .i64 p.c, .int .i64 p.z, .int .i64 p.n]
def RdG (w : World) (B : Nat) (A : Option Addr) (l : List GT) : Prop :=
  ∀ i p, l[i]? = some p → ∃ b off, A = some ⟨b, off, none⟩ ∧ b < B ∧ w.cell? ⟨b, off + i * 4, none⟩ = some (.string p.m) ∧ w.cell? ⟨b, off + i * 4 + 1, none⟩ = some (.int .i64 p.c) ∧ w.cell? ⟨b, off + i * 4 + 2, none⟩ = some (.int .i64 p.z) ∧ w.cell? ⟨b, off + i * 4 + 3, none⟩ = some (.int .i64 p.n)
theorem RdG.keep {w w' : World} {B : Nat} {A : Option Addr} {l : List GT} (h : RdG w B A l) (hk : ∀ p : Addr, p.block < B → w'.cell? p = w.cell? p) : RdG w' B A l := by
  intro i p hp
  obtain ⟨b, off, hA, hb, h0, h1, h2, h3⟩ := h i p hp
  exact ⟨b, off, hA, hb, (hk ⟨b, off + i * 4, none⟩ hb).trans h0, (hk ⟨b, off + i * 4 + 1, none⟩ hb).trans h1, (hk ⟨b, off + i * 4 + 2, none⟩ hb).trans h2, (hk ⟨b, off + i * 4 + 3, none⟩ hb).trans h3⟩
theorem RdG.below {w w' : World} {B : Nat} {A : Option Addr} {l : List GT} (h : RdG w B A l) (hb : Below B w w') : RdG w' B A l := h.keep fun _ hp => hb.cell hp
theorem RdG.now {w w' : World} {A : Option Addr} {l : List GT} (h : RdG w w.heap.size A l) (hb : Below w.heap.size w w') : RdG w' w'.heap.size A l := by
  intro i p hp
  obtain ⟨b, off, hA, hbb, h0, h1, h2, h3⟩ := (h.below hb) i p hp
  exact ⟨b, off, hA, Nat.lt_of_lt_of_le hbb hb.size, h0, h1, h2, h3⟩
/-- Such a value in a block. -/
structure AtG (w : World) (B : Nat) (p : GT) : Prop where
  c0 : w.cell? ⟨B, 0, none⟩ = some (.string p.m)
  c1 : w.cell? ⟨B, 1, none⟩ = some (.int .i64 p.c)
  c2 : w.cell? ⟨B, 2, none⟩ = some (.int .i64 p.z)
  c3 : w.cell? ⟨B, 3, none⟩ = some (.int .i64 p.n)
theorem AtG.new (w : World) (p : GT) : AtG (w.alloc (.cells #[.string p.m, .int .i64 p.c, .int .i64 p.z, .int .i64 p.n] 64)) w.heap.size p := ⟨by simp, by simp, by simp, by simp⟩
theorem AtG.below {w w' : World} {B C : Nat} {p : GT} (h : AtG w B p) (hb : Below C w w') (hB : B < C) : AtG w' B p := ⟨(hb.cell (p := ⟨B, 0, none⟩) hB).trans h.c0, (hb.cell (p := ⟨B, 1, none⟩) hB).trans h.c1, (hb.cell (p := ⟨B, 2, none⟩) hB).trans h.c2, (hb.cell (p := ⟨B, 3, none⟩) hB).trans h.c3⟩
def TellsT (g : Nat) (cb : Array Value) (f : RT → Bool) (l : List RT) (w : World) : Prop :=
  (∀ args W, (callFunc g args).run Tryd.prog W = .ok (.enter g args) W) ∧ ∀ (W : World) (p : RT), p ∈ l → Below w.heap.size w W → Calls Tryd.prog g (#[valT p] ++ cb) W (Ret (.bool (f p)) W)

set_option maxRecDepth 100000 in
set_option maxHeartbeats 400000 in
theorem indexFuncT_any (g : Nat) (cb : Array Value) (f : RT → Bool) (A : Option Addr) (c : Nat) (l : List RT) (w : World) (hf : TellsT g cb f l w) (hm : l.length ≤ 1000000) (hl : RdT w w.heap.size A l) :
    Calls Tryd.prog 80 #[.slice A l.length c, .func (.func g) #[] cb] w (Ret (.int .i64 (idxG f l)) w) := by
  have eg := hf.1
  have HF := Lib.hid hf.2; clear hf
  have HL := Lib.hid hl; clear hl
  go_enter Tryd.func80, Tryd.ntmps80
  go_wp2
  go_loopw [5, 8] (fun _ i wr => ∃ k : Nat, k ≤ l.length ∧ i = .int .i64 k ∧ (∀ x ∈ l.take k, f x = false) ∧ Below w.heap.size w wr) (fun _ i _ => l.length - (intOf i).toNat)
  case atStart => exact ⟨0, Nat.zero_le _, rfl, by simp, Below.refl _ _⟩
  case round =>
    obtain ⟨k, hk, rfl, hno, hB⟩ := hrel
    have HN := Lib.hid hno; clear hno
    by_cases hlt : k < l.length
    · obtain ⟨q, hq⟩ := getElem?_of_lt hlt
      obtain ⟨b, off, hA, hb, hc0, hc1, hc2, hc3⟩ := (HL.out.now hB) k q hq
      subst hA
      have hqm : q ∈ l := List.mem_of_getElem? hq
      have HQ := Lib.hid hq; clear hq
      go_wp2_with fail
      refine (HF.out _ _ hqm hB).mono ?_
      rintro e w2 ⟨rfl, hb2⟩
      have hB2 := hB.trans (hb2.mono hB.size)
      cases hfq : f q
      · go_wp2
        go_roundw
        case rel => exact ⟨k + 1, by omega, by go_num, noG_take_succ HN.out HQ.out hfq, hB2⟩
        case measure => simp [intOf]; omega
      · have HS := Lib.hid (idxG_hit HN.out HQ.out hfq)
        go_wp2
        go_ret
        exact Ret.mk (by rw [HS.out] <;> rfl) hB2
    · obtain rfl : k = l.length := by omega
      have HS := Lib.hid (show idxG f l = -1 from idxG_none (fun x hx => HN.out x (by rw [List.take_length]; exact hx)))
      go_wp2
      go_ret
      exact Ret.mk (by rw [HS.out] <;> rfl) hB
set_option maxRecDepth 100000 in
set_option maxHeartbeats 400000 in
theorem containsFuncT_any (g : Nat) (cb : Array Value) (f : RT → Bool) (A : Option Addr) (c : Nat) (l : List RT) (w : World) (hf : TellsT g cb f l w) (hm : l.length ≤ 1000000) (hl : RdT w w.heap.size A l) :
    Calls Tryd.prog 67 #[.slice A l.length c, .func (.func g) #[] cb] w (Ret (.bool (l.any f)) w) := by
  have HF := Lib.hid hf; clear hf
  have HL := Lib.hid hl; clear hl
  cases ha : l.any f
  · have HI := Lib.hid (show idxG f l = -1 by unfold idxG; rw [if_neg (by rw [ha]; simp)])
    clear ha
    go_enter Tryd.func67, Tryd.ntmps67
    go_wp2_with fail
    refine (indexFuncT_any g cb f A c l _ HF.out hm HL.out).mono ?_
    rintro e w2 ⟨rfl, hb2⟩
    rw [HI.out]
    go_wp2
    go_ret
    exact Ret.mk rfl hb2
  · obtain ⟨k, hk⟩ : ∃ k : Nat, idxG f l = k := ⟨l.findIdx f, by unfold idxG; rw [if_pos ha]⟩
    have HI := Lib.hid hk; clear ha hk
    go_enter Tryd.func67, Tryd.ntmps67
    go_wp2_with fail
    refine (indexFuncT_any g cb f A c l _ HF.out hm HL.out).mono ?_
    rintro e w2 ⟨rfl, hb2⟩
    rw [HI.out]
    go_wp2
    go_ret
    exact Ret.mk rfl hb2

def TellsQ (g : Nat) (cb : Array Value) (f : QT → Bool) (l : List QT) (w : World) : Prop :=
  (∀ args W, (callFunc g args).run Tryd.prog W = .ok (.enter g args) W) ∧ ∀ (W : World) (p : QT), p ∈ l → Below w.heap.size w W → Calls Tryd.prog g (#[valQ p] ++ cb) W (Ret (.bool (f p)) W)

set_option maxRecDepth 100000 in
set_option maxHeartbeats 400000 in
theorem indexFuncQ_any (g : Nat) (cb : Array Value) (f : QT → Bool) (A : Option Addr) (c : Nat) (l : List QT) (w : World) (hf : TellsQ g cb f l w) (hm : l.length ≤ 1000000) (hl : RdQ w w.heap.size A l) :
    Calls Tryd.prog 79 #[.slice A l.length c, .func (.func g) #[] cb] w (Ret (.int .i64 (idxG f l)) w) := by
  have eg := hf.1
  have HF := Lib.hid hf.2; clear hf
  have HL := Lib.hid hl; clear hl
  go_enter Tryd.func79, Tryd.ntmps79
  go_wp2
  go_loopw [5, 8] (fun _ i wr => ∃ k : Nat, k ≤ l.length ∧ i = .int .i64 k ∧ (∀ x ∈ l.take k, f x = false) ∧ Below w.heap.size w wr) (fun _ i _ => l.length - (intOf i).toNat)
  case atStart => exact ⟨0, Nat.zero_le _, rfl, by simp, Below.refl _ _⟩
  case round =>
    obtain ⟨k, hk, rfl, hno, hB⟩ := hrel
    have HN := Lib.hid hno; clear hno
    by_cases hlt : k < l.length
    · obtain ⟨q, hq⟩ := getElem?_of_lt hlt
      obtain ⟨b, off, hA, hb, hc0, hc1, hc2⟩ := (HL.out.now hB) k q hq
      subst hA
      have hqm : q ∈ l := List.mem_of_getElem? hq
      have HQ := Lib.hid hq; clear hq
      go_wp2_with fail
      refine (HF.out _ _ hqm hB).mono ?_
      rintro e w2 ⟨rfl, hb2⟩
      have hB2 := hB.trans (hb2.mono hB.size)
      cases hfq : f q
      · go_wp2
        go_roundw
        case rel => exact ⟨k + 1, by omega, by go_num, noG_take_succ HN.out HQ.out hfq, hB2⟩
        case measure => simp [intOf]; omega
      · have HS := Lib.hid (idxG_hit HN.out HQ.out hfq)
        go_wp2
        go_ret
        exact Ret.mk (by rw [HS.out] <;> rfl) hB2
    · obtain rfl : k = l.length := by omega
      have HS := Lib.hid (show idxG f l = -1 from idxG_none (fun x hx => HN.out x (by rw [List.take_length]; exact hx)))
      go_wp2
      go_ret
      exact Ret.mk (by rw [HS.out] <;> rfl) hB
set_option maxRecDepth 100000 in
set_option maxHeartbeats 400000 in
theorem containsFuncQ_any (g : Nat) (cb : Array Value) (f : QT → Bool) (A : Option Addr) (c : Nat) (l : List QT) (w : World) (hf : TellsQ g cb f l w) (hm : l.length ≤ 1000000) (hl : RdQ w w.heap.size A l) :
    Calls Tryd.prog 60 #[.slice A l.length c, .func (.func g) #[] cb] w (Ret (.bool (l.any f)) w) := by
  have HF := Lib.hid hf; clear hf
  have HL := Lib.hid hl; clear hl
  cases ha : l.any f
  · have HI := Lib.hid (show idxG f l = -1 by unfold idxG; rw [if_neg (by rw [ha]; simp)])
    clear ha
    go_enter Tryd.func60, Tryd.ntmps60
    go_wp2_with fail
    refine (indexFuncQ_any g cb f A c l _ HF.out hm HL.out).mono ?_
    rintro e w2 ⟨rfl, hb2⟩
    rw [HI.out]
    go_wp2
    go_ret
    exact Ret.mk rfl hb2
  · obtain ⟨k, hk⟩ : ∃ k : Nat, idxG f l = k := ⟨l.findIdx f, by unfold idxG; rw [if_pos ha]⟩
    have HI := Lib.hid hk; clear ha hk
    go_enter Tryd.func60, Tryd.ntmps60
    go_wp2_with fail
    refine (indexFuncQ_any g cb f A c l _ HF.out hm HL.out).mono ?_
    rintro e w2 ⟨rfl, hb2⟩
    rw [HI.out]
    go_wp2
    go_ret
    exact Ret.mk rfl hb2

def TellsG (g : Nat) (cb : Array Value) (f : GT → Bool) (l : List GT) (w : World) : Prop :=
  (∀ args W, (callFunc g args).run Tryd.prog W = .ok (.enter g args) W) ∧ ∀ (W : World) (p : GT), p ∈ l → Below w.heap.size w W → Calls Tryd.prog g (#[valG p] ++ cb) W (Ret (.bool (f p)) W)

set_option maxRecDepth 100000 in
set_option maxHeartbeats 400000 in
theorem indexFuncG_any (g : Nat) (cb : Array Value) (f : GT → Bool) (A : Option Addr) (c : Nat) (l : List GT) (w : World) (hf : TellsG g cb f l w) (hm : l.length ≤ 1000000) (hl : RdG w w.heap.size A l) :
    Calls Tryd.prog 75 #[.slice A l.length c, .func (.func g) #[] cb] w (Ret (.int .i64 (idxG f l)) w) := by
  have eg := hf.1
  have HF := Lib.hid hf.2; clear hf
  have HL := Lib.hid hl; clear hl
  go_enter Tryd.func75, Tryd.ntmps75
  go_wp2
  go_loopw [5, 8] (fun _ i wr => ∃ k : Nat, k ≤ l.length ∧ i = .int .i64 k ∧ (∀ x ∈ l.take k, f x = false) ∧ Below w.heap.size w wr) (fun _ i _ => l.length - (intOf i).toNat)
  case atStart => exact ⟨0, Nat.zero_le _, rfl, by simp, Below.refl _ _⟩
  case round =>
    obtain ⟨k, hk, rfl, hno, hB⟩ := hrel
    have HN := Lib.hid hno; clear hno
    by_cases hlt : k < l.length
    · obtain ⟨q, hq⟩ := getElem?_of_lt hlt
      obtain ⟨b, off, hA, hb, hc0, hc1, hc2, hc3⟩ := (HL.out.now hB) k q hq
      subst hA
      have hqm : q ∈ l := List.mem_of_getElem? hq
      have HQ := Lib.hid hq; clear hq
      go_wp2_with fail
      refine (HF.out _ _ hqm hB).mono ?_
      rintro e w2 ⟨rfl, hb2⟩
      have hB2 := hB.trans (hb2.mono hB.size)
      cases hfq : f q
      · go_wp2
        go_roundw
        case rel => exact ⟨k + 1, by omega, by go_num, noG_take_succ HN.out HQ.out hfq, hB2⟩
        case measure => simp [intOf]; omega
      · have HS := Lib.hid (idxG_hit HN.out HQ.out hfq)
        go_wp2
        go_ret
        exact Ret.mk (by rw [HS.out] <;> rfl) hB2
    · obtain rfl : k = l.length := by omega
      have HS := Lib.hid (show idxG f l = -1 from idxG_none (fun x hx => HN.out x (by rw [List.take_length]; exact hx)))
      go_wp2
      go_ret
      exact Ret.mk (by rw [HS.out] <;> rfl) hB
def TellsI (g : Nat) (cb : Array Value) (f : Int → Bool) (l : List Int) (w : World) : Prop :=
  (∀ args W, (callFunc g args).run Tryd.prog W = .ok (.enter g args) W) ∧ ∀ (W : World) (p : Int), p ∈ l → Below w.heap.size w W → Calls Tryd.prog g (#[.int .i64 p] ++ cb) W (Ret (.bool (f p)) W)

set_option maxRecDepth 100000 in
set_option maxHeartbeats 400000 in
theorem indexFuncI_any (g : Nat) (cb : Array Value) (f : Int → Bool) (A : Option Addr) (c : Nat) (l : List Int) (w : World) (hf : TellsI g cb f l w) (hm : l.length ≤ 1000000) (hl : RdI w w.heap.size A l) :
    Calls Tryd.prog 78 #[.slice A l.length c, .func (.func g) #[] cb] w (Ret (.int .i64 (idxG f l)) w) := by
  have eg := hf.1
  have HF := Lib.hid hf.2; clear hf
  have HL := Lib.hid hl; clear hl
  go_enter Tryd.func78, Tryd.ntmps78
  go_wp2
  go_loopw [5, 8] (fun _ i wr => ∃ k : Nat, k ≤ l.length ∧ i = .int .i64 k ∧ (∀ x ∈ l.take k, f x = false) ∧ Below w.heap.size w wr) (fun _ i _ => l.length - (intOf i).toNat)
  case atStart => exact ⟨0, Nat.zero_le _, rfl, by simp, Below.refl _ _⟩
  case round =>
    obtain ⟨k, hk, rfl, hno, hB⟩ := hrel
    have HN := Lib.hid hno; clear hno
    by_cases hlt : k < l.length
    · obtain ⟨q, hq⟩ := getElem?_of_lt hlt
      obtain ⟨b, off, hA, hb, hc0⟩ := (HL.out.now hB) k q hq
      subst hA
      have hqm : q ∈ l := List.mem_of_getElem? hq
      have HQ := Lib.hid hq; clear hq
      go_wp2_with fail
      refine (HF.out _ _ hqm hB).mono ?_
      rintro e w2 ⟨rfl, hb2⟩
      have hB2 := hB.trans (hb2.mono hB.size)
      cases hfq : f q
      · go_wp2
        go_roundw
        case rel => exact ⟨k + 1, by omega, by go_num, noG_take_succ HN.out HQ.out hfq, hB2⟩
        case measure => simp [intOf]; omega
      · have HS := Lib.hid (idxG_hit HN.out HQ.out hfq)
        go_wp2
        go_ret
        exact Ret.mk (by rw [HS.out] <;> rfl) hB2
    · obtain rfl : k = l.length := by omega
      have HS := Lib.hid (show idxG f l = -1 from idxG_none (fun x hx => HN.out x (by rw [List.take_length]; exact hx)))
      go_wp2
      go_ret
      exact Ret.mk (by rw [HS.out] <;> rfl) hB
set_option maxRecDepth 100000 in
set_option maxHeartbeats 400000 in
theorem containsFuncI_any (g : Nat) (cb : Array Value) (f : Int → Bool) (A : Option Addr) (c : Nat) (l : List Int) (w : World) (hf : TellsI g cb f l w) (hm : l.length ≤ 1000000) (hl : RdI w w.heap.size A l) :
    Calls Tryd.prog 56 #[.slice A l.length c, .func (.func g) #[] cb] w (Ret (.bool (l.any f)) w) := by
  have HF := Lib.hid hf; clear hf
  have HL := Lib.hid hl; clear hl
  cases ha : l.any f
  · have HI := Lib.hid (show idxG f l = -1 by unfold idxG; rw [if_neg (by rw [ha]; simp)])
    clear ha
    go_enter Tryd.func56, Tryd.ntmps56
    go_wp2_with fail
    refine (indexFuncI_any g cb f A c l _ HF.out hm HL.out).mono ?_
    rintro e w2 ⟨rfl, hb2⟩
    rw [HI.out]
    go_wp2
    go_ret
    exact Ret.mk rfl hb2
  · obtain ⟨k, hk⟩ : ∃ k : Nat, idxG f l = k := ⟨l.findIdx f, by unfold idxG; rw [if_pos ha]⟩
    have HI := Lib.hid hk; clear ha hk
    go_enter Tryd.func56, Tryd.ntmps56
    go_wp2_with fail
    refine (indexFuncI_any g cb f A c l _ HF.out hm HL.out).mono ?_
    rintro e w2 ⟨rfl, hb2⟩
    rw [HI.out]
    go_wp2
    go_ret
    exact Ret.mk rfl hb2

end Go.Proofs.YthccpdefgjneiaaDoor

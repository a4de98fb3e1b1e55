/- Blocks: a string read from its end: the walks. Blocks: slices.EqualFunc of two lists of strings, one read backwards: the walks. -/
import Derived.Test.YtbcnkcndhgihaaaDoorSL1
import Derived.Test.YtbcnkcndhgihaaaDoorRoundX
import Derived.BigRegion
namespace Go.Proofs.YtbcnkcndhgihaaaDoor
open Go.RowKit
set_option linter.unusedSimpArgs false

/-- Bytes lie in block k. -/
def Cells (W : World) (k n : Nat) (f : Nat → Int) : Prop := ∀ m, m < n → W.cell? ⟨k, m, none⟩ = some (.int .u8 (f m)) ∧ W.frozen? ⟨k, m, none⟩ = false
def swapF (f : Nat → Int) (i j : Nat) : Nat → Int := fun m => if m = i then f j else if m = j then f i else f m
theorem Cells.swap {W : World} {k n : Nat} {f : Nat → Int} {i j : Nat} (h : Cells W k n f) (hi : i < n) (hj : j < n) (hne : i ≠ j) : Cells ((W.setCell ⟨k, i, none⟩ (.int .u8 (f j))).setCell ⟨k, j, none⟩ (.int .u8 (f i))) k n (swapF f i j) := by
  intro m hm
  obtain ⟨c, g⟩ := h m hm
  have ci := (h i hi).1
  have cj := (h j hj).1
  have ao : ∀ x y : Nat, x ≠ y → (⟨k, x, none⟩ : Addr) ≠ ⟨k, y, none⟩ := fun x y h e => by injection e with _ e; exact h e
  refine ⟨?_, by rw [World.frozen?_setCell, World.frozen?_setCell]; exact g⟩
  unfold swapF
  by_cases h1 : m = i
  · subst h1
    rw [if_pos rfl, World.cell?_setCell_other _ _ _ _ (ao _ _ (Ne.symm hne)), World.cell?_setCell_same _ _ _ ci]
  · rw [if_neg h1]
    by_cases h2 : m = j
    · subst h2
      rw [if_pos rfl]
      exact World.cell?_setCell_same _ _ _ (u := .int .u8 (f m)) (by rw [World.cell?_setCell_other _ _ _ _ (ao _ _ hne)]; exact cj)
    · rw [if_neg h2, World.cell?_setCell_other _ _ _ _ (ao _ _ (Ne.symm h2)), World.cell?_setCell_other _ _ _ _ (ao _ _ (Ne.symm h1))]
      exact c
theorem grown_then9 {a b c : World} {k : Nat} (h : a.grownBy b (some k)) (h2 : b.grownBy c (some k)) : a.grownBy c (some k) :=
  ⟨h2.os.trans h.os, h2.tape.trans h.tape, h2.output.trans h.output, Nat.le_trans h.size h2.size, fun i hi hne => (h2.block i (Nat.lt_of_lt_of_le hi h.size) hne).trans (h.block i hi hne)⟩
theorem grownBy_setC (W : World) (b i : Nat) (v : Value) : W.grownBy (W.setCell ⟨b, i, none⟩ v) (some b) :=
  ⟨rfl, rfl, rfl, (KeepsWalks.setCell W _ v).size, fun k _ hk => Below.heap_setCell _ _ _ k (fun e => hk (by rw [e]))⟩
theorem Cells.eqf {W : World} {k n : Nat} {f g : Nat → Int} (h : Cells W k n f) (e : ∀ m, m < n → f m = g m) : Cells W k n g := fun m hm => by rw [← e m hm]; exact h m hm
theorem Cells.drew {W : World} {k n : Nat} {f : Nat → Int} (h : Cells W k n f) : Cells W.drew k n f := h
/-- The first i and the last i are exchanged. -/
def revK (n : Nat) (f : Nat → Int) (i : Nat) : Nat → Int := fun m => if m < i ∨ n < m + 1 + i then f (n - 1 - m) else f m
theorem revK_step {n i m : Nat} {f : Nat → Int} (hi : 2 * i + 1 < n) (hm : m < n) : swapF (revK n f i) i (n - 1 - i) m = revK n f (i + 1) m := by
  unfold swapF revK
  by_cases h1 : m = i
  · subst h1
    rw [if_pos rfl, if_neg (by omega), if_pos (by omega)]
  · rw [if_neg h1]
    by_cases h2 : m = n - 1 - i
    · rw [if_pos h2, if_neg (by omega), if_pos (by omega)]
      congr 1; omega
    · rw [if_neg h2]
      by_cases h3 : m < i ∨ n < m + 1 + i
      · rw [if_pos h3, if_pos (by omega)]
      · rw [if_neg h3, if_neg (by omega)]
theorem revK_end {n i m : Nat} {f : Nat → Int} (hi : n ≤ 2 * i + 1) (hm : m < n) : revK n f i m = f (n - 1 - m) := by
  unfold revK
  by_cases h3 : m < i ∨ n < m + 1 + i
  · rw [if_pos h3]
  · rw [if_neg h3]; congr 1; omega
set_option maxRecDepth 100000 in
set_option maxHeartbeats 4000000 in
theorem Reverse_any (k n cap : Nat) (f : Nat → Int) (w : World) (hn : n ≤ 1000000) (h : Cells w k n f) : Calls Tryd.prog 87 #[.slice (some ⟨k, 0, none⟩) n cap] w fun e w' => (∃ v, e = .returned v) ∧ w.grownBy w' (some k) ∧ Cells w' k n (fun m => f (n - 1 - m)) := by
  have hmx : Tryd.prog.follows .mixedOrders = true := by kernel_rfl
  have HC := Lib.hid h
  clear h
  have e0 : wrap64 ((n : Int) - 1) = (n : Int) - 1 := w64b (by omega) (by omega)
  go_enter Tryd.func87, Tryd.ntmps87
  go_wp2
  clear e0
  go_loopw [2, 3] (fun i j wr => ∃ m : Nat, 2 * m ≤ n + 1 ∧ i = .int .i64 m ∧ j = .int .i64 ((n : Int) - 1 - m) ∧ w.grownBy wr (some k) ∧ Cells wr k n (revK n f m)) (fun i _ _ => n - (intOf i).toNat)
  case atStart => exact ⟨0, by omega, rfl, by simp, ⟨rfl, rfl, rfl, Nat.le_refl _, fun _ _ _ => rfl⟩, HC.out.eqf fun m hm => by unfold revK; rw [if_neg (by omega)]⟩
  case round =>
    obtain ⟨m, hm, rfl, rfl, hg, hc⟩ := hrel
    have HG := Lib.hid hg; have HCC := Lib.hid hc
    clear hg hc
    by_cases hlt : 2 * m + 1 < n
    · obtain ⟨j, hj⟩ : ∃ j : Nat, j = n - 1 - m := ⟨_, rfl⟩
      have hji : (n : Int) - 1 - m = (j : Int) := by omega
      have hmn : m < n := by omega
      have hjn : j < n := by omega
      have hne : m ≠ j := by omega
      have hmj : m < j := by omega
      obtain ⟨c1, g1⟩ := HCC.out m hmn
      obtain ⟨c2, g2⟩ := HCC.out j hjn
      have HSW := Lib.hid (HCC.out.swap hmn hjn hne)
      have HST : Hid (∀ x, x < n → swapF (revK n f m) m j x = revK n f (m + 1) x) := fun x hx => by rw [hj]; exact revK_step hlt hx
      have HJ := Lib.hid hj
      generalize hu : revK n f m m = u at *
      generalize hv : revK n f m j = v at *
      clear hu hv hj hne
      rw [hji]
      have e1 : wrap64 ((j : Int) - 1) = (j : Int) - 1 := w64b (by omega) (by omega)
      go_wp2
      go_region
      have hgr : w.grownBy ((wr.setCell ⟨k, m, none⟩ (.int .u8 v)).setCell ⟨k, j, none⟩ (.int .u8 u)).drew (some k) := by
        have h9 := grown_then9 HG.out (grown_then9 (grownBy_setC wr k m (.int .u8 v)) (grownBy_setC (wr.setCell ⟨k, m, none⟩ (.int .u8 v)) k j (.int .u8 u)))
        exact ⟨h9.os, h9.tape, h9.output, h9.size, h9.block⟩
      have HGR := Lib.hid hgr
      have HCF : Hid (Cells ((wr.setCell ⟨k, m, none⟩ (.int .u8 v)).setCell ⟨k, j, none⟩ (.int .u8 u)).drew k n (revK n f (m + 1))) := HSW.out.drew.eqf fun x hx => HST.out x hx
      clear hgr HSW
      generalize ((wr.setCell ⟨k, m, none⟩ (.int .u8 v)).setCell ⟨k, j, none⟩ (.int .u8 u)).drew = wF at *
      go_wp2
      go_roundw
      case rel => exact ⟨m + 1, by omega, by go_num, by rw [HJ.out]; go_num, HGR.out, HCF.out⟩
      case measure => simp [intOf]; omega
    · have HE : Hid (Cells wr k n (fun x => f (n - 1 - x))) := HCC.out.eqf fun x hx => revK_end (by omega) hx
      clear HCC
      go_wp2
      go_end0
      exact ⟨⟨_, rfl⟩, HG.out, HE.out⟩
def byteF (s : ByteArray) (m : Nat) : Int := (((s.data.toList[m]?).getD 0).toNat : Int)
def revBA (s : ByteArray) : ByteArray := ⟨s.data.toList.reverse.toArray⟩
theorem byteF_of {s : ByteArray} {m : Nat} (h : m < s.data.size) : byteF s m = (s.data[m].toNat : Int) := by
  unfold byteF
  rw [List.getElem?_eq_getElem (by simpa using h)]
  simp
theorem cells_row (w : World) (s : ByteArray) (cap : Nat) : Cells (w.drew.alloc (.cells (bytesRow s cap) 5 ((bytesRow s cap).size, (bytesRow s cap).size + 1))) w.heap.size s.size (byteF s) := by
  have hh : (w.drew.alloc (.cells (bytesRow s cap) 5 ((bytesRow s cap).size, (bytesRow s cap).size + 1))).heap[w.heap.size]? = some (.cells (bytesRow s cap) 5 ((bytesRow s cap).size, (bytesRow s cap).size + 1)) := heap_alloc_new w.drew _
  intro m hm
  have hm' : m < s.data.size := hm
  have hb := bytesRow_at s cap m hm'
  have hlt : m < (bytesRow s cap).size := (Array.getElem?_eq_some_iff.1 hb).1
  refine ⟨?_, ?_⟩
  · rw [byteF_of hm']
    simp only [World.cell?, hh]
    exact hb
  · simp only [World.frozen?, hh]
    simp; omega
set_option maxRecDepth 100000 in
set_option maxHeartbeats 4000000 in
theorem backwards_any (s : ByteArray) (w : World) (hs : s.size ≤ 1000000) : Calls Tryd.prog 71 #[.string s] w (Ret (.string (revBA s)) w) := by
  have hconv := run_bytes_of_string (P := Tryd.prog) w 9 52 5 s Tryd.underlying9 Tryd.underlying52 Tryd.underlying5
  obtain ⟨cap, hcap⟩ : ∃ cap, grownCap w s.size 0 5 = cap := ⟨_, rfl⟩
  rw [hcap] at hconv
  clear hcap
  have hrow := cells_row w s cap
  obtain ⟨w1, hw1⟩ : ∃ w1, w.drew.alloc (.cells (bytesRow s cap) 5 ((bytesRow s cap).size, (bytesRow s cap).size + 1)) = w1 := ⟨_, rfl⟩
  rw [hw1] at hconv hrow
  have hb1 : Below w.heap.size w w1 := by rw [← hw1]; (repeat (first | exact Below.refl _ _ | assumption | refine Below.alloc ?_ (by first | exact Nat.le_refl _ | exact Below.size (by assumption) | omega | (simp <;> omega)) _ | refine Below.setCell ?_ (by first | exact Nat.le_refl _ | exact Below.size (by assumption) | omega | (simp <;> omega)) _ | refine below_drewN ?_ _ | refine Below.drew ?_))
  have hz1 : w1.heap.size = w.heap.size + 1 := by rw [← hw1]; simp
  clear hw1
  have HR := Lib.hid (Reverse_any w.heap.size s.size cap (byteF s) w1 hs hrow)
  clear hrow
  go_enter Tryd.func71, Tryd.ntmps71
  go_wp2_with fail
  refine HR.out.mono ?_
  rintro e w2 ⟨⟨v, rfl⟩, hg, hc⟩
  have hb2 : Below w.heap.size w1 w2 := ⟨hg.os, hg.tape, hg.output, Nat.le_trans (Nat.le_refl _) hg.size, fun i hi => hg.block i (by omega) (fun e => by injection e with e; omega)⟩
  have hB := hb1.trans hb2
  have hback := run_convert_bytes_back (P := Tryd.prog) w2 52 9 5 ⟨w.heap.size, 0, none⟩ cap s.data.toList.reverse Tryd.underlying52 Tryd.underlying5 Tryd.underlying9 (fun j hj => by
    have hj2 : j < s.data.size := by simpa using hj
    have h1 := (hc j hj2).1
    rw [add_none, Nat.zero_add, h1]
    congr 2
    have hlt : s.size - 1 - j < s.data.size := by have : s.size = s.data.size := rfl; omega
    show byteF s (s.size - 1 - j) = _
    rw [byteF_of hlt, List.getElem_reverse]
    simp only [Array.getElem_toList, Array.length_toList]
    rfl)
  rw [List.length_reverse, show s.data.toList.length = s.size from rfl] at hback
  have HS : Hid (revBA s = ⟨s.data.toList.reverse.toArray⟩) := rfl
  clear hc hg hconv
  generalize (⟨s.data.toList.reverse.toArray⟩ : ByteArray) = r at *
  go_wp2
  go_ret
  exact Ret.mk (by rw [HS.out]; rfl) hB
end Go.Proofs.YtbcnkcndhgihaaaDoor

namespace Go.Proofs.YtbcnkcndhgihaaaDoor
open Go.RowKit
set_option linter.unusedSimpArgs false

theorem ba_toList (a b : ByteArray) : (a.toList == b.toList) = decide (a = b) := by
  rw [ByteArray.toList_eq, ByteArray.toList_eq, Bool.eq_iff_iff, beq_iff_eq, decide_eq_true_eq]
  constructor
  · intro h
    have := Array.toList_inj.1 h
    cases a; cases b
    simpa using this
  · intro h; rw [h]
def strAt (x : List ByteArray) (j : Nat) : ByteArray := (x[j]?).getD ⟨#[]⟩
def eqfB (x y : List ByteArray) : Bool := decide (x.length = y.length) && (List.range x.length).all fun j => decide (strAt x j = revBA (strAt y j))
set_option maxRecDepth 100000 in
set_option maxHeartbeats 1000000 in
theorem match1_any (a b : ByteArray) (w : World) (hs : b.size ≤ 1000000) : Calls Tryd.prog 70 #[.string a, .string b] w (Ret (.bool (decide (a = revBA b))) w) := by
  have HB := Lib.hid (fun W => backwards_any b W hs)
  generalize revBA b = r at *
  go_enter Tryd.func70, Tryd.ntmps70
  go_wp2_with fail
  refine (HB.out _).mono ?_
  rintro e w2 ⟨rfl, hb2⟩
  go_wp2
  go_ret
  exact Ret.mk (by rw [← ba_toList]; rfl) hb2
set_option maxRecDepth 100000 in
set_option maxHeartbeats 4000000 in
theorem EqualFunc_any (A A' : Option Addr) (c c' : Nat) (x y : List ByteArray) (w : World) (hx : RdST w w.heap.size A x) (hy : RdST w w.heap.size A' y) (hm : x.length ≤ 1000000) (hs : ∀ s ∈ y, s.size ≤ 1000000) :
    Calls Tryd.prog 69 #[.slice A x.length c, .slice A' y.length c', .func (.func 70) #[] #[]] w (Ret (.bool (eqfB x y)) w) := by
  have HX := Lib.hid hx; have HY := Lib.hid hy; have HSZ := Lib.hid hs
  clear hx hy hs
  have hea : ∀ args W, (callFunc 70 args).run Tryd.prog W = .ok (.enter 70 args) W := enters_of Tryd.func70 (by kernel_rfl) rfl
  by_cases hl : x.length = y.length
  · have HL := Lib.hid hl
    have HS : Hid (eqfB x y = (List.range x.length).all fun j => decide (strAt x j = revBA (strAt y j))) := by show _ = _; unfold eqfB; rw [decide_eq_true hl, Bool.true_and]
    obtain ⟨n, hn⟩ : ∃ n, x.length = n := ⟨_, rfl⟩
    have hn2 : y.length = n := hl.symm.trans hn
    rw [hn, hn2]
    rw [hn] at HS hm
    have HN1 := Lib.hid hn; have HN2 := Lib.hid hn2
    clear hl hn hn2
    go_enter Tryd.func69, Tryd.ntmps69
    go_wp2
    go_loopw [17] (fun i wr => ∃ k : Nat, k ≤ n ∧ i = .int .i64 k ∧ (∀ j, j < k → strAt x j = revBA (strAt y j)) ∧ Below w.heap.size w wr) (fun i _ => n - (intOf i).toNat)
    case atStart => exact ⟨0, Nat.zero_le _, rfl, fun j hj => by omega, Below.refl _ _⟩
    case round =>
      obtain ⟨k, hk, rfl, hno, hB⟩ := hrel
      have HNO := Lib.hid hno
      clear hno
      by_cases hlt : k < n
      · obtain ⟨a, ha⟩ := getElem?_of_lt (show k < x.length by rw [HN1.out]; exact hlt)
        obtain ⟨b, hb⟩ := getElem?_of_lt (show k < y.length by rw [HN2.out]; exact hlt)
        obtain ⟨b1, o1, hA1, hb1, c1⟩ := HX.out k a ha
        obtain ⟨b2, o2, hA2, hb2, c2⟩ := HY.out k b hb
        have d1 := (hB.cell (p := ⟨b1, o1 + k, none⟩) hb1).trans c1
        have d2 := (hB.cell (p := ⟨b2, o2 + k, none⟩) hb2).trans c2
        have HC := Lib.hid (fun W => match1_any a b W (HSZ.out b (List.mem_of_getElem? hb)))
        have HAT : Hid (strAt x k = a ∧ strAt y k = b) := ⟨by unfold strAt; rw [ha]; rfl, by unfold strAt; rw [hb]; rfl⟩
        subst hA1 hA2
        clear ha hb c1 c2
        by_cases hab : a = revBA b
        · have HNX : Hid (∀ j, j < k + 1 → strAt x j = revBA (strAt y j)) := fun j hj => by
            rcases Nat.lt_succ_iff_lt_or_eq.1 hj with h | rfl
            · exact HNO.out j h
            · rw [HAT.out.1, HAT.out.2]; exact hab
          rw [decide_eq_true hab] at HC
          clear hab
          go_wp2_with fail
          refine (HC.out _).mono ?_
          rintro e w2 ⟨rfl, hb2⟩
          have hB2 := hB.trans (hb2.mono hB.size)
          clear d1 d2
          go_wp2
          go_roundw
          case rel => exact ⟨k + 1, by omega, by go_num, HNX.out, hB2⟩
          case measure => simp [intOf]; omega
        · have HF : Hid (eqfB x y = false) := by
            show _ = _
            rw [HS.out, List.all_eq_false]
            exact ⟨k, List.mem_range.2 hlt, by rw [HAT.out.1, HAT.out.2]; simp [hab]⟩
          rw [decide_eq_false hab] at HC
          clear hab
          go_wp2_with fail
          refine (HC.out _).mono ?_
          rintro e w2 ⟨rfl, hb2⟩
          have hB2 := hB.trans (hb2.mono hB.size)
          clear d1 d2
          go_wp2
          go_ret
          exact Ret.mk (by rw [HF.out]; rfl) hB2
      · have HT : Hid (eqfB x y = true) := by
          show _ = _
          rw [HS.out, List.all_eq_true]
          intro j hj
          exact decide_eq_true (HNO.out j (by have := List.mem_range.1 hj; omega))
        go_wp2
        go_ret
        exact Ret.mk (by rw [HT.out]; rfl) hB
  · have HF : Hid (eqfB x y = false) := by show _ = _; unfold eqfB; rw [decide_eq_false hl, Bool.false_and]
    have d1 : ((x.length : Int) != (y.length : Int)) = true := by simp; omega
    clear hl
    go_enter Tryd.func69, Tryd.ntmps69
    go_wp2
    go_ret
    exact Ret.mk (by rw [HF.out]; rfl) (Below.refl _ _)
end Go.Proofs.YtbcnkcndhgihaaaDoor

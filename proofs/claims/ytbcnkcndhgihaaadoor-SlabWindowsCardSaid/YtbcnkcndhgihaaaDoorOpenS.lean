/- Arguments opened: numbers, lists of numbers, recipes of blocks; what the rows of the blocks list. -/
import Derived.Test.YtbcnkcndhgihaaaDoorRows
import Derived.Test.YtbcnkcndhgihaaaDoorTie
import Derived.ProofKit
import Derived.Deep.Slices
import Derived.Deep.Fields
import Derived.ChangeSame
import Derived.SizedLaws
import Derived.Lib.RowBridge
import Derived.Carry
import Derived.OpenShut
import Derived.LaidMore
import Derived.Lay
import Derived.SevenTiedAt
import Derived.Stop.Joined
import Derived.Test.YtbcnkcndhgihaaaDoorSO0
import Derived.Test.YtbcnkcndhgihaaaDoorS1
namespace Go.Proofs.YtbcnkcndhgihaaaDoor
open Go.ChangeShapes Go.WideShapes Go.ChangeAt Go.RowKit Go.Deep

theorem Tryd.own : ownKnob Tryd.prog.godebug = none := by kernel_rfl
theorem Tryd.laidOut : laidOutB Tryd.prog = true := by kernel_rfl
def laid8 : List (String × DataW Unit) := [("math/bits.deBruijn32tab", Rows.laid_math_bits_deBruijn32tab), ("math/bits.deBruijn64tab", Rows.laid_math_bits_deBruijn64tab), ("internal/strconv.uint64pow10", Rows.laid_internal_strconv_uint64pow10), ("unicode/utf8.acceptRanges", Rows.laid_unicode_utf8_acceptRanges), ("strconv.ErrRange", Rows.laid_strconv_ErrRange), ("strconv.ErrSyntax", Rows.laid_strconv_ErrSyntax), ("unicode/utf8.first", Rows.laid_unicode_utf8_first)]

section
variable {H : Type} {enc : TypeId × Value → H} {w : World} {base : Nat} {spare : Nat → Bool} {held : Bool}
theorem wf_i64' {n : Int} (h : (Lit.int .i64 n).wf = true) : -9223372036854775808 ≤ n ∧ n ≤ 9223372036854775807 := by
  simp [Lit.wf, IntKind.min, IntKind.max, IntKind.signed, IntKind.bits] at h; omega
theorem wf_u8' {n : Int} (h : (Lit.int .u8 n).wf = true) : 0 ≤ n ∧ n ≤ 255 := by
  simp [Lit.wf, IntKind.min, IntKind.max, IntKind.signed, IntKind.bits] at h; omega
set_option maxRecDepth 100000 in
/-- A slice of numbers that came in, as a list. -/
theorem open_is {fuel : Nat} {v : Value} {x : DataW H × List MemPlace} {r : Reach} {b0 : Nat} (hv : Value.okWide Tryd.prog w r b0 60 v) (h : DataW.trod enc Tryd.prog w base spare held fuel 60 v.cells.toList = some x) :
    ∃ (A : Option Addr) (l : List Int) (c : Nat), v = .slice A l.length c ∧ RdI w w.heap.size A l ∧ l.length ≤ c ∧ l.length ≤ maxLen ∧ ∀ n ∈ l, -9223372036854775808 ≤ n ∧ n ≤ 9223372036854775807 := by
  obtain ⟨a0, len, cap, rfl⟩ := okWide_slice Tryd.underlying60 hv
  rcases open_ints Tryd.underlying60 Tryd.underlying3 (by kernel_rfl) h with ⟨h0, _⟩ | ⟨a, len', cap', zs, hcs, hb, hl, hm, hz, hx, hi, hw⟩
  · simp [Value.cells] at h0
    obtain ⟨rfl, rfl, rfl⟩ := h0
    exact ⟨none, [], 0, rfl, fun i p hp => by simp at hp, Nat.le_refl _, Nat.zero_le _, fun n hn => by simp at hn⟩
  · simp [Value.cells] at hcs
    obtain ⟨rfl, rfl, rfl⟩ := hcs
    have hlz : len ≤ zs.length := by rw [hz]; split <;> omega
    have hlen : (zs.take len).length = len := by rw [List.length_take]; omega
    refine ⟨some a, zs.take len, cap, by rw [hlen], ?_, by omega, by omega, fun n hn => wf_i64' (hw n (List.mem_of_mem_take hn))⟩
    intro i p hp
    have hlt : i < len := by
      have := (List.getElem?_eq_some_iff.1 hp).1; omega
    have hp2 : zs[i]? = some p := by
      rw [List.getElem?_take] at hp
      rw [if_pos hlt] at hp
      exact hp
    obtain ⟨b, off, sp⟩ := a
    have h1 := hi i (by omega)
    have hsp : sp = none := by
      have h0 := hi 0 (by omega)
      cases sp with
      | none => rfl
      | some q => simp [Addr.add, World.cell?] at h0; split at h0 <;> simp at h0
    subst hsp
    have hadd : (⟨b, off, none⟩ : Addr).add i = ⟨b, off + i, none⟩ := by
      unfold Addr.add; split <;> simp_all
    rw [hadd, List.getD, hp2] at h1
    exact ⟨b, off, rfl, World.block_lt_of_cell? w _ h1, h1⟩
theorem okWide_array8 {P : Program} {w : World} {r : Reach} {base : Nat} {t : TypeId} {v : Value} {n : Nat} {e : TypeId} (ht : P.underlying t = some (.array n e)) (h : Value.okWide P w r base t v) : ∃ cs, v = .agg cs ∧ cs.size = P.cellsOf t := by
  simp only [Value.okWide, ht] at h
  obtain ⟨cs, h1, h2, _⟩ := h
  exact ⟨cs, h1, h2⟩
set_option maxRecDepth 100000 in
theorem open_pair8 {v : Value} {d : DataW H} {ps : List MemPlace} {r : Reach} {b0 : Nat} (hv : Value.okWide Tryd.prog w r b0 64 v) (h : DataW.Trod enc Tryd.prog w base spare held 64 v d ps) :
    ∃ a b : Int, v = .agg #[.int .i64 a, .int .i64 b] := by
  obtain ⟨cs, rfl, hcs⟩ := okWide_array8 Tryd.underlying64 hv
  have h2 : Tryd.prog.cellsOf 64 = 2 := by kernel_rfl
  rw [h2] at hcs
  obtain ⟨fuel, htr⟩ := h
  obtain ⟨cl⟩ := cs
  match cl, hcs with
  | [u0, u1], _ =>
    obtain ⟨xs, m, _, _, _, hl, hf⟩ := DataW.trod_array Tryd.underlying64 htr
    have c1 : Tryd.prog.cellsOf 3 = 1 := by kernel_rfl
    have f0 := (hf 0 (by omega)).trans (List.getElem?_eq_getElem (by omega))
    have f1 := (hf 1 (by omega)).trans (List.getElem?_eq_getElem (by omega))
    rw [c1] at f0 f1
    obtain ⟨x0, e0, _, _⟩ := DataW.trod_int Tryd.underlying3 f0
    obtain ⟨x1, e1, _, _⟩ := DataW.trod_int Tryd.underlying3 f1
    simp [Value.cells] at e0 e1
    subst e0 e1
    exact ⟨x0, x1, rfl⟩
set_option maxRecDepth 100000 in
theorem open_cell {v : Value} {d : DataW H} {ps : List MemPlace} {r : Reach} {b0 : Nat} (hv : Value.okWide Tryd.prog w r b0 22 v) (h : DataW.Trod enc Tryd.prog w base spare held 22 v d ps) :
    ∃ a b c : Int, v = .agg #[.int .i64 a, .int .i64 b, .int .i64 c] ∧ -9223372036854775808 ≤ a ∧ a ≤ 9223372036854775807 := by
  obtain ⟨cs, rfl, hcs⟩ := okWide_array8 Tryd.underlying22 hv
  have h2 : Tryd.prog.cellsOf 22 = 3 := by kernel_rfl
  rw [h2] at hcs
  obtain ⟨fuel, htr⟩ := h
  obtain ⟨cl⟩ := cs
  match cl, hcs with
  | [u0, u1, u2], _ =>
    obtain ⟨xs, m, _, _, _, hl, hf⟩ := DataW.trod_array Tryd.underlying22 htr
    have c1 : Tryd.prog.cellsOf 3 = 1 := by kernel_rfl
    have f0 := (hf 0 (by omega)).trans (List.getElem?_eq_getElem (by omega))
    have f1 := (hf 1 (by omega)).trans (List.getElem?_eq_getElem (by omega))
    have f2 := (hf 2 (by omega)).trans (List.getElem?_eq_getElem (by omega))
    rw [c1] at f0 f1 f2
    obtain ⟨x0, e0, _, w0⟩ := DataW.trod_int Tryd.underlying3 f0
    obtain ⟨x1, e1, _, _⟩ := DataW.trod_int Tryd.underlying3 f1
    obtain ⟨x2, e2, _, _⟩ := DataW.trod_int Tryd.underlying3 f2
    simp [Value.cells] at e0 e1 e2
    subst e0 e1 e2
    exact ⟨x0, x1, x2, rfl, wf_i64' w0⟩
set_option maxRecDepth 100000 in
theorem open_at3 {v : Value} {d : DataW H} {ps : List MemPlace} {r : Reach} {b0 : Nat} (hv : Value.okWide Tryd.prog w r b0 51 v) (h : DataW.Trod enc Tryd.prog w base spare held 51 v d ps) :
    ∃ a b c : Int, v = .agg #[.int .u8 a, .int .u8 b, .int .u8 c] ∧ (0 ≤ a ∧ a ≤ 255) ∧ (0 ≤ b ∧ b ≤ 255) ∧ (0 ≤ c ∧ c ≤ 255) := by
  obtain ⟨cs, rfl, hcs⟩ := okWide_array8 Tryd.underlying51 hv
  have h2 : Tryd.prog.cellsOf 51 = 3 := by kernel_rfl
  rw [h2] at hcs
  obtain ⟨fuel, htr⟩ := h
  obtain ⟨cl⟩ := cs
  match cl, hcs with
  | [u0, u1, u2], _ =>
    obtain ⟨xs, m, _, _, _, hl, hf⟩ := DataW.trod_array Tryd.underlying51 htr
    have c1 : Tryd.prog.cellsOf 5 = 1 := by kernel_rfl
    have f0 := (hf 0 (by omega)).trans (List.getElem?_eq_getElem (by omega))
    have f1 := (hf 1 (by omega)).trans (List.getElem?_eq_getElem (by omega))
    have f2 := (hf 2 (by omega)).trans (List.getElem?_eq_getElem (by omega))
    rw [c1] at f0 f1 f2
    obtain ⟨x0, e0, _, w0⟩ := DataW.trod_int Tryd.underlying5 f0
    obtain ⟨x1, e1, _, w1⟩ := DataW.trod_int Tryd.underlying5 f1
    obtain ⟨x2, e2, _, w2⟩ := DataW.trod_int Tryd.underlying5 f2
    simp [Value.cells] at e0 e1 e2
    subst e0 e1 e2
    exact ⟨x0, x1, x2, rfl, wf_u8' w0, wf_u8' w1, wf_u8' w2⟩
set_option maxRecDepth 100000 in
theorem open_rect {v : Value} {d : DataW H} {ps : List MemPlace} {r : Reach} {b0 : Nat} (hv : Value.okWide Tryd.prog w r b0 56 v) (h : DataW.Trod enc Tryd.prog w base spare held 56 v d ps) :
    ∃ q : R4, v = valR q ∧ (-9223372036854775808 ≤ q.x ∧ q.x ≤ 9223372036854775807) ∧ (-9223372036854775808 ≤ q.y ∧ q.y ≤ 9223372036854775807) ∧ (-9223372036854775808 ≤ q.w ∧ q.w ≤ 9223372036854775807) ∧ (-9223372036854775808 ≤ q.h ∧ q.h ≤ 9223372036854775807) := by
  obtain ⟨cs, rfl, hcs⟩ := okWide_struct Tryd.underlying56 hv
  have h2 : Tryd.prog.cellsOf 56 = 4 := by kernel_rfl
  rw [h2] at hcs
  obtain ⟨fuel, htr⟩ := h
  obtain ⟨cl⟩ := cs
  match cl, hcs with
  | [u0, u1, u2, u3], _ =>
    obtain ⟨ys, n, hfu, _, _, hyl, hf⟩ := DataW.trod_struct Tryd.underlying56 htr
    have hyl2 : ys.length = 4 := hyl
    have ci : Tryd.prog.cellsOf 3 = 1 := by kernel_rfl
    have f0 := (hf 0 _ rfl).trans (List.getElem?_eq_getElem (by omega))
    have f1 := (hf 1 _ rfl).trans (List.getElem?_eq_getElem (by omega))
    have f2 := (hf 2 _ rfl).trans (List.getElem?_eq_getElem (by omega))
    have f3 := (hf 3 _ rfl).trans (List.getElem?_eq_getElem (by omega))
    simp only [List.getElem_toArray, List.getElem_cons_zero, List.getElem_cons_succ, ci] at f0 f1 f2 f3
    obtain ⟨x0, e0, _, w0⟩ := DataW.trod_int Tryd.underlying3 f0
    obtain ⟨x1, e1, _, w1⟩ := DataW.trod_int Tryd.underlying3 f1
    obtain ⟨x2, e2, _, w2⟩ := DataW.trod_int Tryd.underlying3 f2
    obtain ⟨x3, e3, _, w3⟩ := DataW.trod_int Tryd.underlying3 f3
    simp [Value.cells] at e0 e1 e2 e3
    subst e0 e1 e2 e3
    exact ⟨⟨x0, x1, x2, x3⟩, rfl, wf_i64' w0, wf_i64' w1, wf_i64' w2, wf_i64' w3⟩
end
theorem choose_lt9 {α : Type} (d : α) {n : Nat} {p : Nat → α → Prop} (h : ∀ i, i < n → ∃ x, p i x) : ∃ f : Nat → α, ∀ i, i < n → p i (f i) := by
  have H : ∀ i : Nat, ∃ x, i < n → p i x := fun i => by
    by_cases hi : i < n
    · obtain ⟨x, hx⟩ := h i hi
      exact ⟨x, fun _ => hx⟩
    · exact ⟨d, fun h => absurd h hi⟩
  obtain ⟨f, hf⟩ := Classical.axiomOfChoice H
  exact ⟨f, fun i hi => hf i hi⟩
theorem plain_cell9 {w : World} {a : Addr} {v : Value} (h : w.cell? (a.add 0) = some v) : ∃ b off, a = ⟨b, off, none⟩ := by
  obtain ⟨b, off, sp⟩ := a
  cases sp with
  | none => exact ⟨b, off, rfl⟩
  | some q => simp [Addr.add, World.cell?] at h; split at h <;> simp at h

section
variable {H : Type} {enc : TypeId × Value → H} {w : World} {base : Nat} {spare : Nat → Bool} {held : Bool}
set_option maxRecDepth 100000 in
set_option maxHeartbeats 1000000 in
theorem one_block : ∀ (fuel : Nat) (cs : List Value) (x : DataW H × List MemPlace), cs.length = 7 → DataW.trod enc Tryd.prog w base spare held fuel 25 cs = some x → ∃ b : BT, cs = b.cl ∧ OkB w w.heap.size b := by
  intro fuel
  induction fuel using Nat.strongRecOn with
  | ind fuel ih =>
    intro cs x hl htr
    match cs, hl with
    | [u0, u1, u2, u3, u4, u5, u6], _ =>
      obtain ⟨ys, n, hfu, _, _, hyl, hf⟩ := DataW.trod_struct Tryd.underlying25 htr
      have hyl2 : ys.length = 5 := hyl
      have ci : Tryd.prog.cellsOf 3 = 1 := by kernel_rfl
      have cu : Tryd.prog.cellsOf 5 = 1 := by kernel_rfl
      have ca : Tryd.prog.cellsOf 22 = 3 := by kernel_rfl
      have cp : Tryd.prog.cellsOf 23 = 1 := by kernel_rfl
      have cb : Tryd.prog.cellsOf 25 = 7 := by kernel_rfl
      have f0 := (hf 0 _ rfl).trans (List.getElem?_eq_getElem (by omega))
      have f1 := (hf 1 _ rfl).trans (List.getElem?_eq_getElem (by omega))
      have f2 := (hf 2 _ rfl).trans (List.getElem?_eq_getElem (by omega))
      have f3 := (hf 3 _ rfl).trans (List.getElem?_eq_getElem (by omega))
      have f4 := (hf 4 _ rfl).trans (List.getElem?_eq_getElem (by omega))
      simp only [List.getElem_toArray, List.getElem_cons_zero, List.getElem_cons_succ, ci, cu, ca, cp] at f0 f1 f2 f3 f4
      obtain ⟨x0, e0, _, wf0⟩ := DataW.trod_int Tryd.underlying3 f0
      obtain ⟨x1, e1, _, wf1⟩ := DataW.trod_int Tryd.underlying3 f1
      obtain ⟨x2, e2, _, wf2⟩ := DataW.trod_int Tryd.underlying5 f2
      obtain ⟨xs, m, _, _, _, hxl, hg⟩ := DataW.trod_array Tryd.underlying22 f3
      have g0 := (hg 0 (by omega)).trans (List.getElem?_eq_getElem (by omega))
      have g1 := (hg 1 (by omega)).trans (List.getElem?_eq_getElem (by omega))
      have g2 := (hg 2 (by omega)).trans (List.getElem?_eq_getElem (by omega))
      rw [ci] at g0 g1 g2
      obtain ⟨y0, k0, _, wg0⟩ := DataW.trod_int Tryd.underlying3 g0
      obtain ⟨y1, k1, _, wg1⟩ := DataW.trod_int Tryd.underlying3 g1
      obtain ⟨y2, k2, _, wg2⟩ := DataW.trod_int Tryd.underlying3 g2
      simp at e0 e1 e2 k0 k1 k2
      subst e0 e1 e2 k0 k1 k2
      have bds := And.intro (wf_i64' wf0) (And.intro (wf_i64' wf1) (And.intro (wf_u8' wf2) (And.intro (wf_i64' wg0) (And.intro (wf_i64' wg1) (wf_i64' wg2)))))
      obtain ⟨d0, d1, d2, d3, d4, d5⟩ := bds
      rcases DataW.trod_slice Tryd.underlying23 f4 with ⟨hs, _⟩ | ⟨a, len, cap, elems, rest, n2, hn2, hs, _, hb, hlc, hcm, hel, hall, _, _⟩
      · simp at hs
        subst hs
        exact ⟨.mk x0 x1 x2 y0 y1 y2 none 0 [], rfl, .mk _ (fun i p hp => by simp [BT.ps] at hp) (fun p hp => by simp [BT.ps] at hp) (Nat.le_refl _) (Nat.zero_le _) (fun _ => rfl) d0 d1 d2 d3 d4 d5⟩
      · simp at hs
        subst hs
        obtain ⟨f, hf⟩ := choose_lt9 (α := BT) (.mk 0 0 0 0 0 0 none 0 []) (n := len) (p := fun i p => OkB w w.heap.size p ∧ ∀ j v, p.cl[j]? = some v → w.cell? (a.add (i * 7 + j)) = some v) (fun i hlt => by
          have h1 := (hall i hlt).trans (List.getElem?_eq_getElem (by omega))
          obtain ⟨cs', hcells, htr⟩ := Option.bind_eq_some_iff.1 h1
          rw [cb] at hcells
          obtain ⟨_, hlen, hat⟩ := World.cells?_some hcells
          obtain ⟨p, rfl, hQ⟩ := ih n2 (by omega) cs' _ hlen htr
          refine ⟨p, hQ, fun j v hj => ?_⟩
          have hjl : j < p.cl.length := (List.getElem?_eq_some_iff.1 hj).1
          have := hat j (by rw [hlen] at hjl; exact hjl)
          rw [add_add, hj] at this
          exact this)
        refine ⟨.mk x0 x1 x2 y0 y1 y2 (some a) cap ((List.range len).map f), by simp [BT.cl, BT.op, BT.ax, BT.co, BT.n0, BT.n1, BT.n2, BT.A, BT.cp, BT.ps], ?_⟩
        have hget : ∀ i p, ((List.range len).map f)[i]? = some p → i < len ∧ f i = p := by
          intro i p hp
          have hlt : i < len := by have := (List.getElem?_eq_some_iff.1 hp).1; simpa using this
          exact ⟨hlt, by simpa [hlt] using hp⟩
        refine .mk _ ?_ ?_ (by simpa [BT.ps, BT.cp] using hlc) hcm (fun h => by cases h) d0 d1 d2 d3 d4 d5
        · intro i p hp
          obtain ⟨hlt, rfl⟩ := hget i p hp
          have h0 := (hf 0 (by omega)).2 0 _ rfl
          obtain ⟨b, off, rfl⟩ := plain_cell9 (by rwa [Nat.zero_mul] at h0)
          refine ⟨b, off, rfl, ?_, fun j v hj => ?_⟩
          · rw [add_none] at h0
            exact World.block_lt_of_cell? w _ h0
          · have := (hf i hlt).2 j v hj
            rw [add_none, ← Nat.add_assoc] at this
            exact this
        · intro p hp
          obtain ⟨i, hi⟩ := List.getElem?_of_mem (show p ∈ (List.range len).map f from hp)
          obtain ⟨hlt, rfl⟩ := hget i p hi
          exact (hf i hlt).1
set_option maxRecDepth 100000 in
theorem open_block {v : Value} {d : DataW H} {ps : List MemPlace} {r : Reach} {b0 : Nat} (hv : Value.okWide Tryd.prog w r b0 25 v) (h : DataW.Trod enc Tryd.prog w base spare held 25 v d ps) : ∃ b : BT, v = valB b ∧ OkB w w.heap.size b := by
  obtain ⟨cs, rfl, hcs⟩ := okWide_struct Tryd.underlying25 hv
  have h2 : Tryd.prog.cellsOf 25 = 7 := by kernel_rfl
  rw [h2] at hcs
  obtain ⟨fuel, htr⟩ := h
  obtain ⟨cl⟩ := cs
  obtain ⟨b, hb, hO⟩ := one_block fuel cl _ (by simpa using hcs) htr
  exact ⟨b, by rw [hb]; rfl, hO⟩
end
end Go.Proofs.YtbcnkcndhgihaaaDoor

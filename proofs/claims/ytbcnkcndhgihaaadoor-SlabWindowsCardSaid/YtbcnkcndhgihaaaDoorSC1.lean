/- Blocks: the law's size and Bushy, the reference's Level, numbers, formed, allFormed: the walks. -/
import Derived.Test.YtbcnkcndhgihaaaDoorSW3
import Derived.Test.YtbcnkcndhgihaaaDoorMathBC
import Derived.Test.YtbcnkcndhgihaaaDoorRoundX
namespace Go.Proofs.YtbcnkcndhgihaaaDoor
open Go.RowKit
set_option linter.unusedSimpArgs false

theorem foldl_take_succ {β : Type} {g : β → BT → β} {a : β} {l : List BT} {k : Nat} {q : BT} (hq : l[k]? = some q) : (l.take (k + 1)).foldl g a = g ((l.take k).foldl g a) q := by
  rw [List.take_add_one, hq, List.foldl_append]; rfl
abbrev sizeG (n : Int) (f : Nat) : Int → BT → Int := fun k p => if k ≤ n then k + sizeS n f p else k
theorem size_stay (n : Int) (f : Nat) : ∀ (l : List BT) (k : Int), n < k → l.foldl (sizeG n f) k = k
  | [], _, _ => rfl
  | p :: l, k, h => by
    rw [List.foldl_cons]
    show l.foldl (sizeG n f) (if k ≤ n then k + sizeS n f p else k) = k
    rw [if_neg (by omega)]
    exact size_stay n f l k h
theorem size_rest (n : Int) (f : Nat) (l : List BT) (j : Nat) (h : n < (l.take j).foldl (sizeG n f) 1) : l.foldl (sizeG n f) 1 = (l.take j).foldl (sizeG n f) 1 := by
  have e := List.take_append_drop j l
  rw [← e, List.foldl_append, e]
  exact size_stay n f _ _ h
theorem size_bd {n : Int} (hn : 0 ≤ n) : ∀ (f : Nat) (b : BT), 1 ≤ sizeS n f b ∧ sizeS n f b ≤ ((f : Int) + 1) * (n + 1)
  | 0, b => by
    have : ((0 : Nat) : Int) + 1 = 1 := rfl
    rw [this, Int.one_mul]
    unfold sizeS
    omega
  | f + 1, b => by
    have ih := size_bd hn f
    have e : (((f + 1 : Nat) : Int) + 1) * (n + 1) = ((f : Int) + 1) * (n + 1) + (n + 1) := by
      rw [show (((f + 1 : Nat) : Int) + 1) = ((f : Int) + 1) + 1 by omega, Int.add_mul, Int.one_mul]
    have hp : 0 ≤ ((f : Int) + 1) * (n + 1) := Int.mul_nonneg (by omega) (by omega)
    rw [e]
    generalize ((f : Int) + 1) * (n + 1) = M at ih hp ⊢
    have hl : ∀ (l : List BT) (k : Int), 1 ≤ k → k ≤ M + (n + 1) → 1 ≤ l.foldl (sizeG n f) k ∧ l.foldl (sizeG n f) k ≤ M + (n + 1) := by
      intro l
      induction l with
      | nil => intro k h1 h2; exact ⟨h1, h2⟩
      | cons p l ihl =>
        intro k h1 h2
        rw [List.foldl_cons]
        have hp2 := ih p
        by_cases hk : k ≤ n
        · show 1 ≤ l.foldl (sizeG n f) (if k ≤ n then k + sizeS n f p else k) ∧ l.foldl (sizeG n f) (if k ≤ n then k + sizeS n f p else k) ≤ _
          rw [if_pos hk]
          exact ihl _ (by omega) (by omega)
        · show 1 ≤ l.foldl (sizeG n f) (if k ≤ n then k + sizeS n f p else k) ∧ l.foldl (sizeG n f) (if k ≤ n then k + sizeS n f p else k) ≤ _
          rw [if_neg hk]
          exact ihl _ h1 h2
    unfold sizeS
    split
    · omega
    · exact hl b.ps 1 (by omega) (by omega)
theorem size_part {n : Int} (hn : 0 ≤ n) (f : Nat) (l : List BT) (j : Nat) (hf : f ≤ 41) (h60 : n ≤ 60) : 1 ≤ (l.take j).foldl (sizeG n f) 1 ∧ (l.take j).foldl (sizeG n f) 1 ≤ 100000 := by
  have hM : ((f : Int) + 1) * (n + 1) ≤ 42 * 61 := Int.mul_le_mul (by omega) (by omega) (by omega) (by omega)
  have hl : ∀ (l : List BT) (k : Int), 1 ≤ k → k ≤ 10000 → 1 ≤ l.foldl (sizeG n f) k ∧ l.foldl (sizeG n f) k ≤ 100000 := by
    intro l
    induction l with
    | nil => intro k h1 h2; exact ⟨h1, by show k ≤ _; omega⟩
    | cons p l ihl =>
      intro k h1 h2
      rw [List.foldl_cons]
      have hp2 := size_bd hn f p
      by_cases hk : k ≤ n
      · show 1 ≤ l.foldl (sizeG n f) (if k ≤ n then k + sizeS n f p else k) ∧ l.foldl (sizeG n f) (if k ≤ n then k + sizeS n f p else k) ≤ _
        rw [if_pos hk]
        exact ihl _ (by omega) (by omega)
      · show 1 ≤ l.foldl (sizeG n f) (if k ≤ n then k + sizeS n f p else k) ∧ l.foldl (sizeG n f) (if k ≤ n then k + sizeS n f p else k) ≤ _
        rw [if_neg hk]
        exact ihl _ h1 h2
  exact hl _ 1 (by omega) (by omega)
set_option maxRecDepth 100000 in
set_option maxHeartbeats 1000000 in
theorem size_any (n : Int) (hn : 0 ≤ n ∧ n ≤ 60) : ∀ (f : Nat) (z : Int) (b : BT) (w : World), z = 41 - (f : Int) → f ≤ 41 → OkB w w.heap.size b → Calls Tryd.prog 51 #[valB b, .int .i64 n, .int .i64 z] w (Ret (.int .i64 (sizeS n f b)) w)
  | 0, z, b, w, hz, _, _ => by
    have hz1 : (40 : Int) < z := by omega
    clear hz
    go_enter Tryd.func51, Tryd.ntmps51
    go_wp2
    go_ret
    exact Ret.mk rfl (by (repeat (first | exact Below.refl _ _ | assumption | refine Below.alloc ?_ (by first | exact Nat.le_refl _ | exact Below.size (by assumption) | omega | (simp <;> omega)) _ | refine Below.setCell ?_ (by first | exact Nat.le_refl _ | exact Below.size (by assumption) | omega | (simp <;> omega)) _ | refine below_drewN ?_ _ | refine Below.drew ?_)))
  | f + 1, z, b, w, hz, hf, hb => by
    have IH := Lib.hid (size_any n hn f)
    have HB := Lib.hid hb; clear hb
    have HBX := Lib.hid (BxB.new w b 25)
    have hz1 : 0 ≤ z ∧ z ≤ 40 := by omega
    have hlen := HB.out.len
    have hlm : b.ps.length ≤ 9223372036854775807 := by unfold maxLen at hlen; omega
    clear hlen
    by_cases h3 : 3 < b.ps.length
    · have HS : Hid (sizeS n (f + 1) b = n + 1) := by show _ = _; unfold sizeS; rw [if_pos h3]
      have hI : (3 : Int) < (b.ps.length : Int) := by omega
      obtain ⟨f0, f1, f2, f3, f4, f5, f6⟩ := HBX.out
      clear h3 IH hz
      go_enter Tryd.func51, Tryd.ntmps51
      go_wp2
      go_ret
      exact Ret.mk (by rw [HS.out]; rfl) (by (repeat (first | exact Below.refl _ _ | assumption | refine Below.alloc ?_ (by first | exact Nat.le_refl _ | exact Below.size (by assumption) | omega | (simp <;> omega)) _ | refine Below.setCell ?_ (by first | exact Nat.le_refl _ | exact Below.size (by assumption) | omega | (simp <;> omega)) _ | refine below_drewN ?_ _ | refine Below.drew ?_)))
    · have HS : Hid (sizeS n (f + 1) b = b.ps.foldl (sizeG n f) 1) := by show _ = _; unfold sizeS; rw [if_neg h3]
      have hI : ¬ (3 : Int) < (b.ps.length : Int) := by omega
      have HZ : Hid (z + 1 = 41 - (f : Int)) := show z + 1 = 41 - (f : Int) by omega
      have HF := Lib.hid hf
      clear h3 hf hz
      obtain ⟨wa, hwa⟩ : ∃ wa, w.alloc (.cells #[.int .i64 b.op, .int .i64 b.ax, .int .u8 b.co, .int .i64 b.n0, .int .i64 b.n1, .int .i64 b.n2, .slice b.A b.ps.length b.cp] 25) = wa := ⟨_, rfl⟩
      have hBa : Below w.heap.size w wa := by rw [← hwa]; (repeat (first | exact Below.refl _ _ | assumption | refine Below.alloc ?_ (by first | exact Nat.le_refl _ | exact Below.size (by assumption) | omega | (simp <;> omega)) _ | refine Below.setCell ?_ (by first | exact Nat.le_refl _ | exact Below.size (by assumption) | omega | (simp <;> omega)) _ | refine below_drewN ?_ _ | refine Below.drew ?_))
      have hza : w.heap.size < wa.heap.size := by rw [← hwa]; simp
      have HXA : Hid (∀ W, Below wa.heap.size wa W → BxB W w.heap.size b) := by
        intro W hW
        have := HBX.out
        rw [hwa] at this
        exact this.under hW hza
      obtain ⟨f0, f1, f2, f3, f4, f5, f6⟩ := HXA.out wa (Below.refl _ _)
      have HWA := Lib.hid hwa
      clear hwa
      go_enter Tryd.func51, Tryd.ntmps51
      go_wp2
      clear f0 f1 f2 f3 f4 f5 f6
      go_loopw [7, 8] (fun x i wr => ∃ j : Nat, j ≤ b.ps.length ∧ i = .int .i64 j ∧ x = .int .i64 ((b.ps.take j).foldl (sizeG n f) 1) ∧ Below wa.heap.size wa wr) (fun _ i _ => b.ps.length - (intOf i).toNat)
      case atStart => exact ⟨0, Nat.zero_le _, rfl, rfl, by rw [HWA.out]; exact Below.refl _ _⟩
      case round =>
        obtain ⟨j, hj, rfl, rfl, hB⟩ := hrel
        obtain ⟨f0, f1, f2, f3, f4, f5, f6⟩ := HXA.out wr hB
        have hBw := hBa.trans (hB.mono hBa.size)
        have hpb := size_part hn.1 f b.ps j (by have := HF.out; omega) hn.2
        by_cases hlt : j < b.ps.length
        · obtain ⟨q, hq⟩ := getElem?_of_lt hlt
          have hk1 := HB.out.now hBw
          obtain ⟨bb, off, hA, hbb, c0, c1, c2, c3, c4, c5, c6⟩ := hk1.rd.at hq
          have HK := Lib.hid (hk1.kid (List.mem_of_getElem? hq)); clear hk1
          have HT := Lib.hid (foldl_take_succ (g := sizeG n f) (a := 1) hq)
          clear hq
          rw [hA] at f6 ⊢
          have hsq := size_bd hn.1 f q
          have hM : ((f : Int) + 1) * (n + 1) ≤ 42 * 61 := Int.mul_le_mul (by have := HF.out; omega) (by omega) (by omega) (by omega)
          have HR := Lib.hid (size_rest n f b.ps j)
          obtain ⟨x, hx⟩ : ∃ x, (b.ps.take j).foldl (sizeG n f) 1 = x := ⟨_, rfl⟩
          rw [hx] at HT hpb HR ⊢
          clear hx
          have hsq2 : 1 ≤ sizeS n f q ∧ sizeS n f q ≤ 10000 := by omega
          clear hsq hM
          by_cases hxn : x ≤ n
          · have HT2 : Hid ((b.ps.take (j + 1)).foldl (sizeG n f) 1 = x + sizeS n f q) := by show _ = _; rw [HT.out]; show (if x ≤ n then x + sizeS n f q else x) = _; rw [if_pos hxn]
            have hks : wrap64 (z + 1) = z + 1 := by unfold wrap64; omega
            go_wp2_with fail
            refine (IH.out _ q _ HZ.out (by have := HF.out; omega) (HK.out.now (by (repeat (first | exact Below.refl _ _ | assumption | refine Below.alloc ?_ (by first | exact Nat.le_refl _ | exact Below.size (by assumption) | omega | (simp <;> omega)) _ | refine Below.setCell ?_ (by first | exact Nat.le_refl _ | exact Below.size (by assumption) | omega | (simp <;> omega)) _ | refine below_drewN ?_ _ | refine Below.drew ?_))))).mono ?_
            rintro e w2 ⟨rfl, hb2⟩
            have hB2 : Below wa.heap.size wa w2 := hB.trans (hb2.mono hB.size)
            clear c0 c1 c2 c3 c4 c5 c6 f0 f1 f2 f3 f4 f5 f6
            generalize sizeS n f q = y at hsq2 HT2 ⊢
            go_wp2
            go_roundw
            case rel => exact ⟨j + 1, by omega, by go_num, by rw [HT2.out], hB2⟩
            case measure => simp [intOf]; omega
          · have HS2 : Hid (sizeS n (f + 1) b = x) := by show _ = _; rw [HS.out]; exact HR.out (by omega)
            go_wp2
            go_ret
            exact Ret.mk (by rw [HS2.out]; rfl) hBw
        · obtain rfl : j = b.ps.length := by omega
          rw [List.take_length] at hpb ⊢
          go_wp2
          go_ret
          exact Ret.mk (by rw [HS.out]; rfl) hBw
theorem Bushy_any (n : Int) (hn : 0 ≤ n ∧ n ≤ 60) (b : BT) (w : World) (hb : OkB w w.heap.size b) : Calls Tryd.prog 13 #[valB b, .int .i64 n] w (Ret (.bool (bushyS b n)) w) := by
  have HK := Lib.hid (size_any n hn 41 0 b _ (by omega) (by omega) (hb.now (w' := w.alloc (.cells #[.int .i64 b.op, .int .i64 b.ax, .int .u8 b.co, .int .i64 b.n0, .int .i64 b.n1, .int .i64 b.n2, .slice b.A b.ps.length b.cp] 25)) (by (repeat (first | exact Below.refl _ _ | assumption | refine Below.alloc ?_ (by first | exact Nat.le_refl _ | exact Below.size (by assumption) | omega | (simp <;> omega)) _ | refine Below.setCell ?_ (by first | exact Nat.le_refl _ | exact Below.size (by assumption) | omega | (simp <;> omega)) _ | refine below_drewN ?_ _ | refine Below.drew ?_)))))
  have hE : bushyS b n = decide (n < sizeS n 41 b) := rfl
  rw [hE]
  generalize sizeS n 41 b = y at HK ⊢
  clear hE hb
  go_enter Tryd.func13, Tryd.ntmps13
  go_wp2_with fail
  refine HK.out.mono ?_
  rintro e w2 ⟨rfl, hb2⟩
  have hB2 : Below w.heap.size w w2 := below_next (by (repeat (first | exact Below.refl _ _ | assumption | refine Below.alloc ?_ (by first | exact Nat.le_refl _ | exact Below.size (by assumption) | omega | (simp <;> omega)) _ | refine Below.setCell ?_ (by first | exact Nat.le_refl _ | exact Below.size (by assumption) | omega | (simp <;> omega)) _ | refine below_drewN ?_ _ | refine Below.drew ?_))) hb2
  go_wp2
  go_ret
  exact Ret.mk rfl hB2
set_option maxRecDepth 100000 in
set_option maxHeartbeats 1000000 in
theorem level_any : ∀ (k : Nat) (z : Int) (b : BT) (w : World), z = (k : Int) → k ≤ 1000 → OkB w w.heap.size b → Calls Tryd.prog 64 #[valB b, .int .i64 z] w (Ret (.int .i64 (levelS k b)) w)
  | 0, z, b, w, hz, _, _ => by
    subst hz
    go_enter Tryd.func64, Tryd.ntmps64
    go_wp2
    go_ret
    exact Ret.mk rfl (by (repeat (first | exact Below.refl _ _ | assumption | refine Below.alloc ?_ (by first | exact Nat.le_refl _ | exact Below.size (by assumption) | omega | (simp <;> omega)) _ | refine Below.setCell ?_ (by first | exact Nat.le_refl _ | exact Below.size (by assumption) | omega | (simp <;> omega)) _ | refine below_drewN ?_ _ | refine Below.drew ?_)))
  | 1, z, b, w, hz, _, _ => by
    subst hz
    go_enter Tryd.func64, Tryd.ntmps64
    go_wp2
    go_ret
    exact Ret.mk rfl (by (repeat (first | exact Below.refl _ _ | assumption | refine Below.alloc ?_ (by first | exact Nat.le_refl _ | exact Below.size (by assumption) | omega | (simp <;> omega)) _ | refine Below.setCell ?_ (by first | exact Nat.le_refl _ | exact Below.size (by assumption) | omega | (simp <;> omega)) _ | refine below_drewN ?_ _ | refine Below.drew ?_)))
  | k + 2, z, b, w, hz, hk, hb => by
    have IH := Lib.hid (level_any (k + 1))
    have HB := Lib.hid hb; clear hb
    have HBX := Lib.hid (BxB.new w b 25)
    have hz1 : 2 ≤ z ∧ z ≤ 1000 := by omega
    have HZ : Hid (z - 1 = ((k + 1 : Nat) : Int)) := show z - 1 = ((k + 1 : Nat) : Int) by omega
    have HKK := Lib.hid hk
    have hlen := HB.out.len
    have hlm : b.ps.length ≤ 9223372036854775807 := by unfold maxLen at hlen; omega
    have HS : Hid (levelS (k + 2) b = b.ps.foldl (fun n p => max n (levelS (k + 1) p)) 0 + 1) := rfl
    have HBD := Lib.hid (level_bd (k + 1))
    clear hlen hk hz
    obtain ⟨wa, hwa⟩ : ∃ wa, w.alloc (.cells #[.int .i64 b.op, .int .i64 b.ax, .int .u8 b.co, .int .i64 b.n0, .int .i64 b.n1, .int .i64 b.n2, .slice b.A b.ps.length b.cp] 25) = wa := ⟨_, rfl⟩
    have hBa : Below w.heap.size w wa := by rw [← hwa]; (repeat (first | exact Below.refl _ _ | assumption | refine Below.alloc ?_ (by first | exact Nat.le_refl _ | exact Below.size (by assumption) | omega | (simp <;> omega)) _ | refine Below.setCell ?_ (by first | exact Nat.le_refl _ | exact Below.size (by assumption) | omega | (simp <;> omega)) _ | refine below_drewN ?_ _ | refine Below.drew ?_))
    have hza : w.heap.size < wa.heap.size := by rw [← hwa]; simp
    have HXA : Hid (∀ W, Below wa.heap.size wa W → BxB W w.heap.size b) := by
      intro W hW
      have := HBX.out
      rw [hwa] at this
      exact this.under hW hza
    have HWA := Lib.hid hwa
    clear hwa
    go_enter Tryd.func64, Tryd.ntmps64
    go_wp2
    go_loopw [5, 6] (fun x i wr => ∃ (j : Nat) (y : Int), j ≤ b.ps.length ∧ i = .int .i64 j ∧ x = .int .i64 y ∧ y = (b.ps.take j).foldl (fun n p => max n (levelS (k + 1) p)) 0 ∧ (0 ≤ y ∧ y ≤ 1000) ∧ Below wa.heap.size wa wr) (fun _ i _ => b.ps.length - (intOf i).toNat)
    case atStart => exact ⟨0, 0, Nat.zero_le _, rfl, rfl, rfl, by omega, by rw [HWA.out]; exact Below.refl _ _⟩
    case round =>
      obtain ⟨j, y, hj, rfl, rfl, hy, hyb, hB⟩ := hrel
      have HY := Lib.hid hy; clear hy
      obtain ⟨f0, f1, f2, f3, f4, f5, f6⟩ := HXA.out wr hB
      have hBw := hBa.trans (hB.mono hBa.size)
      by_cases hlt : j < b.ps.length
      · obtain ⟨q, hq⟩ := getElem?_of_lt hlt
        have hk1 := HB.out.now hBw
        obtain ⟨bb, off, hA, hbb, c0, c1, c2, c3, c4, c5, c6⟩ := hk1.rd.at hq
        have HK := Lib.hid (hk1.kid (List.mem_of_getElem? hq)); clear hk1
        have HT := Lib.hid (foldl_take_succ (g := fun n p => max n (levelS (k + 1) p)) (a := (0 : Int)) hq)
        clear hq
        rw [hA] at f6
        have hv := HBD.out q
        have hkk := HKK.out
        have HT2 : Hid ((b.ps.take (j + 1)).foldl (fun n p => max n (levelS (k + 1) p)) 0 = max y (levelS (k + 1) q)) := by show _ = _; rw [HT.out, HY.out]
        have hvb : 0 ≤ levelS (k + 1) q ∧ levelS (k + 1) q ≤ 1000 := by omega
        clear hv hkk
        go_wp2_with fail
        refine (IH.out _ q _ HZ.out (by have := HKK.out; omega) (HK.out.now (by (repeat (first | exact Below.refl _ _ | assumption | refine Below.alloc ?_ (by first | exact Nat.le_refl _ | exact Below.size (by assumption) | omega | (simp <;> omega)) _ | refine Below.setCell ?_ (by first | exact Nat.le_refl _ | exact Below.size (by assumption) | omega | (simp <;> omega)) _ | refine below_drewN ?_ _ | refine Below.drew ?_))))).mono ?_
        rintro e w2 ⟨rfl, hb2⟩
        have hB2 : Below wa.heap.size wa w2 := hB.trans (hb2.mono hB.size)
        clear c0 c1 c2 c3 c4 c5 c6 f0 f1 f2 f3 f4 f5 f6
        generalize levelS (k + 1) q = v at hvb HT2 ⊢
        have hmax : max y v = if y < v then v else y := by split <;> omega
        rw [hmax] at HT2
        have hyv : 0 ≤ (if y < v then v else y) ∧ (if y < v then v else y) ≤ 1000 := by split <;> omega
        have HYV := Lib.hid hyv
        clear hyv hmax
        go_wp2
        go_roundw
        case rel => exact ⟨j + 1, _, by omega, by go_num, rfl, HT2.out.symm, HYV.out, hB2⟩
        case measure => simp [intOf]; omega
      · obtain rfl : j = b.ps.length := by omega
        rw [List.take_length] at HY
        have HS2 : Hid (levelS (k + 2) b = y + 1) := by show _ = _; rw [HS.out, HY.out]
        go_wp2
        go_ret
        exact Ret.mk (by rw [HS2.out]; rfl) hBw
theorem Level_any (b : BT) (w : World) (hb : OkB w w.heap.size b) : Calls Tryd.prog 34 #[valB b] w (Ret (.int .i64 (levelS 17 b)) w) := by
  have HK := Lib.hid (level_any 17 17 b _ rfl (by omega) (hb.now (w' := w.alloc (.cells #[.int .i64 b.op, .int .i64 b.ax, .int .u8 b.co, .int .i64 b.n0, .int .i64 b.n1, .int .i64 b.n2, .slice b.A b.ps.length b.cp] 25)) (by (repeat (first | exact Below.refl _ _ | assumption | refine Below.alloc ?_ (by first | exact Nat.le_refl _ | exact Below.size (by assumption) | omega | (simp <;> omega)) _ | refine Below.setCell ?_ (by first | exact Nat.le_refl _ | exact Below.size (by assumption) | omega | (simp <;> omega)) _ | refine below_drewN ?_ _ | refine Below.drew ?_)))))
  generalize levelS 17 b = y at HK ⊢
  clear hb
  go_enter Tryd.func34, Tryd.ntmps34
  go_wp2_with fail
  refine HK.out.mono ?_
  rintro e w2 ⟨rfl, hb2⟩
  have hB2 : Below w.heap.size w w2 := below_next (by (repeat (first | exact Below.refl _ _ | assumption | refine Below.alloc ?_ (by first | exact Nat.le_refl _ | exact Below.size (by assumption) | omega | (simp <;> omega)) _ | refine Below.setCell ?_ (by first | exact Nat.le_refl _ | exact Below.size (by assumption) | omega | (simp <;> omega)) _ | refine below_drewN ?_ _ | refine Below.drew ?_))) hb2
  go_wp2
  go_ret
  exact Ret.mk rfl hB2
end Go.Proofs.YtbcnkcndhgihaaaDoor

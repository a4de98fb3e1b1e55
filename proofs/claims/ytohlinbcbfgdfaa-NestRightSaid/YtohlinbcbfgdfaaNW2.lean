/- span, split, the iterator over directions, in the program: the walks. -/
import Derived.Test.YtohlinbcbfgdfaaNW1
import Derived.Test.YtohlinbcbfgdfaaW9n
import Derived.Test.YtohlinbcbfgdfaaWG
namespace Go.Proofs.Ytohlinbcbfgdfaa
open Go.RowKit Go.Shelf

theorem nearTo_succ {u v : Int} {l : List XY} {k : Nat} {q : XY} (h : l[k]? = some q) : nearTo u v l (k + 1) = if dotW u v q < nearTo u v l k then dotW u v q else nearTo u v l k := by
  unfold nearTo
  rw [take_succ_of h, List.foldl_append]
  simp only [List.foldl_cons, List.foldl_nil]
  split <;> omega

set_option maxRecDepth 100000 in
set_option maxHeartbeats 400000 in
theorem span_any (u v : Int) (A : Option Addr) (c : Nat) (l : List XY) (w : World) (h0 : 0 < l.length) (hm : l.length ≤ 1000000) (hl : Rd w w.heap.size A l) :
    Calls Try.prog 63 #[.slice A l.length c, .int .i64 u, .int .i64 v] w (Ret (.tuple #[.int .i64 (nearW u v l), .int .i64 (farW u v l)]) w) := by
  obtain ⟨p, hp⟩ := getElem?_of_lt h0
  obtain ⟨b, off, hA, hb, hx, hy⟩ := hl 0 p hp
  simp only [Nat.zero_mul, Nat.add_zero] at hx hy
  subst hA
  have HP := Lib.hid hp; clear hp
  have HL := Lib.hid hl; clear hl
  go_enter Try.func63, Try.ntmps63
  go_wp2
  go_quiet (fail)
  go_wp2
  obtain ⟨w1, hw1⟩ : ∃ w1 : World, w.drewN nq = w1 := ⟨_, rfl⟩
  have hB0 : Below w.heap.size w w1 := hw1 ▸ below_drewN (Below.refl _ _) nq
  rw [hw1]
  clear hw1
  go_loopw [6, 7, 9, 10, 27] (fun n m _ _ i wr => ∃ k : Nat, k ≤ l.length ∧ i = .int .i64 k ∧ n = .int .i64 (nearTo u v l k) ∧ m = .int .i64 (farTo u v l k) ∧ Below w.heap.size w wr) (fun _ _ _ _ i _ => l.length - (intOf i).toNat)
  case atStart => exact ⟨0, Nat.zero_le _, rfl, by rw [← hd_of HP.out]; rfl, by rw [← hd_of HP.out]; rfl, hB0⟩
  case round =>
    obtain ⟨k, hk, rfl, rfl, rfl, hB⟩ := hrel
    by_cases hlt : k < l.length
    · obtain ⟨q, hq⟩ := getElem?_of_lt hlt
      obtain ⟨b1, off1, hA, hb1, hcx, hcy⟩ := (HL.out.below hB) k q hq
      obtain ⟨rfl, rfl⟩ : b = b1 ∧ off = off1 := by simpa using hA
      clear hA
      have HQ := Lib.hid (farTo_succ (u := u) (v := v) hq)
      have HR := Lib.hid (nearTo_succ (u := u) (v := v) hq); clear hq
      go_wp2
      go_roundw
      case rel => exact ⟨k + 1, by omega, by go_num, by rw [HR.out]; rfl, by rw [HQ.out]; rfl, by (repeat (first | exact Below.refl _ _ | assumption | refine Below.alloc ?_ (by first | exact Nat.le_refl _ | exact Below.size (by assumption) | omega | (simp <;> omega)) _ | refine Below.setCell ?_ (by first | exact Nat.le_refl _ | exact Below.size (by assumption) | omega | (simp <;> omega)) _ | refine below_drewN ?_ _ | refine Below.drew ?_))⟩
      case measure => simp [intOf]; omega
    · obtain rfl : k = l.length := by omega
      go_wp2
      go_ret2
      exact Ret.mk rfl (by (repeat (first | exact Below.refl _ _ | assumption | refine Below.alloc ?_ (by first | exact Nat.le_refl _ | exact Below.size (by assumption) | omega | (simp <;> omega)) _ | refine Below.setCell ?_ (by first | exact Nat.le_refl _ | exact Below.size (by assumption) | omega | (simp <;> omega)) _ | refine below_drewN ?_ _ | refine Below.drew ?_)))

set_option maxRecDepth 100000 in
set_option maxHeartbeats 1000000 in
theorem split_any (u v gap : Int) (A A2 : Option Addr) (c c2 : Nat) (o p : List XY) (w : World) (h0 : 0 < o.length) (h02 : 0 < p.length) (hm : o.length ≤ 1000000) (hm2 : p.length ≤ 1000000) (hl : Rd w w.heap.size A o) (hl2 : Rd w w.heap.size A2 p) :
    Calls Try.prog 78 #[.slice A o.length c, .slice A2 p.length c2, .int .i64 u, .int .i64 v, .int .i64 gap] w (Ret (.bool (splitB o p u v gap)) w) := by
  have HL := Lib.hid hl; clear hl
  have HL2 := Lib.hid hl2; clear hl2
  have hs : splitB o p u v gap = gapB (max (wrap64 (nearW u v p - farW u v o)) (wrap64 (nearW u v o - farW u v p))) gap (sqW u v) := rfl
  have hsp1 : ∀ W, Rd W W.heap.size A o → Calls Try.prog 63 #[.slice A o.length c, .int .i64 u, .int .i64 v] W (Ret (.tuple #[.int .i64 (nearW u v o), .int .i64 (farW u v o)]) W) := fun W h => span_any u v A c o W h0 hm h
  have hsp2 : ∀ W, Rd W W.heap.size A2 p → Calls Try.prog 63 #[.slice A2 p.length c2, .int .i64 u, .int .i64 v] W (Ret (.tuple #[.int .i64 (nearW u v p), .int .i64 (farW u v p)]) W) := fun W h => span_any u v A2 c2 p W h02 hm2 h
  generalize nearW u v o = no at *
  generalize farW u v o = fo at *
  generalize nearW u v p = np at *
  generalize farW u v p = fp at *
  obtain ⟨x, hx⟩ : ∃ x, wrap64 (np - fo) = x := ⟨_, rfl⟩
  obtain ⟨y, hy⟩ : ∃ y, wrap64 (no - fp) = y := ⟨_, rfl⟩
  rw [hx, hy] at hs
  have HX := Lib.hid hx; clear hx
  have HY := Lib.hid hy; clear hy
  have HS := Lib.hid hs; clear hs
  have H1 := Lib.hid hsp1; clear hsp1
  have H2 := Lib.hid hsp2; clear hsp2
  go_enter Try.func78, Try.ntmps78
  go_wp2_with fail
  refine (H1.out _ HL.out).mono ?_
  rintro e w1 ⟨rfl, hb1⟩
  go_wp2_with fail
  refine (H2.out _ (HL2.out.now hb1)).mono ?_
  rintro e w2 ⟨rfl, hb2⟩
  have hB2 := hb1.trans (hb2.mono hb1.size)
  go_upto_region 4 with fail
  rw [HX.out, HY.out]
  have hmx : max x y = if x < y then y else x := by split <;> omega
  have hs2 := HS.out
  rw [hmx] at hs2
  clear hmx HS HX HY
  generalize (if x < y then y else x) = f at hs2 ⊢
  have HS := Lib.hid hs2; clear hs2
  by_cases h1 : f < 0
  · have e : Hid (gapB f gap (sqW u v) = false) := by unfold Hid gapB; simp; omega
    go_wp2
    go_ret
    exact Ret.mk (by rw [HS.out, e.out]; rfl) hB2
  · have h1' : 0 ≤ f := by omega
    by_cases h2 : gap = 0
    · subst h2
      have e : Hid (gapB f 0 (sqW u v) = true) := by unfold Hid gapB; simp; omega
      go_wp2
      go_ret
      exact Ret.mk (by rw [HS.out, e.out]; rfl) hB2
    · by_cases h3 : 2147483648 ≤ f
      · have e : Hid (gapB f gap (sqW u v) = true) := by unfold Hid gapB; simp; omega
        go_wp2
        go_ret
        exact Ret.mk (by rw [HS.out, e.out]; rfl) hB2
      · have e : Hid (gapB f gap (sqW u v) = (gap == 0 || decide (wrap64 (wrap64 (gap * gap) * wrap64 (wrap64 (u * u) + wrap64 (v * v))) ≤ wrap64 (f * f)))) := by unfold Hid gapB sqW; simp [h1', h2, h3]
        go_wp2
        go_ret
        exact Ret.mk (by rw [HS.out, e.out]; rfl) hB2
end Go.Proofs.Ytohlinbcbfgdfaa

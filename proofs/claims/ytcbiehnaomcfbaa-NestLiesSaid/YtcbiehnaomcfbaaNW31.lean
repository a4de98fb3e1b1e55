/- slices.Grow and slices.Concat at corners: the walks. -/
import Derived.Test.YtcbiehnaomcfbaaWH
import Derived.Lib.AppendZeros
namespace Go.Proofs.Ytcbiehnaomcfbaa
open Go.RowKit Go.Shelf

set_option maxRecDepth 100000 in
set_option maxHeartbeats 1000000 in
theorem Grow_any (n : Nat) (w : World) (hn : n ≤ 100000) : Calls Try.prog 108 #[.slice none 0 0, .int .i64 (n : Int)] w (RetO [] w) := by
  rcases Nat.eq_zero_or_pos n with h0 | h0
  · subst h0
    go_enter Try.func108, Try.ntmps108
    go_wp2
    go_ret
    exact ⟨_, rfl, World.ownsRow_nil _ _ _ _, Below.refl _ _⟩
  · obtain ⟨i0, hi, hz0, hz1, hz2⟩ := info_parts Try.infoXY
    have hrun := Lib.run_append_nil_zeros (P := Try.prog) w 22 3 22 76 i0 (.agg #[.int .i64 0, .int .i64 0]) .i64 .i64 Try.underlying22 Try.underlying3 hi hz0 n h0 (by omega) (by omega) (by rw [hz2]; omega)
    have hge := grownCap_ge w n 0 76
    have hle := grownCap_le_maxLen w n 0 76 (by unfold Go.maxLen; omega)
    generalize grownCap w n 0 76 = cp at hrun hge hle
    obtain ⟨cur, hcur⟩ : ∃ cur, Builtin.zeroCells (Value.agg #[.int .i64 0, .int .i64 0]).cells n ++ Builtin.zeroCells (Value.agg #[.int .i64 0, .int .i64 0]).cells (cp - n) = cur := ⟨_, rfl⟩
    have hcs : cur.size = cp * 2 := by
      rw [← hcur, Array.size_append, size_zeroCells, size_zeroCells]
      show n * 2 + (cp - n) * 2 = cp * 2
      omega
    rw [hcur] at hrun
    have HRUN := Lib.hid hrun; clear hrun hcur
    have hI : 0 < (n : Int) := by omega
    have hI2 : ¬ (n : Int) < 0 := by omega
    go_enter Try.func108, Try.ntmps108
    go_wp2_with (at_builtin; refine Lib.wpList_append_run _ rfl _ _ _ _ rfl _ _ rfl rfl _ _ HRUN.out ?_)
    go_wp2
    go_ret
    refine ⟨_, rfl, ⟨by simp [flat], .inr ⟨w.heap.size, cp, cur, rfl, Nat.le_refl _, ?_, Nat.zero_le _, hle, hcs, by simp [flat]⟩⟩, by (repeat (first | exact Below.refl _ _ | assumption | refine Below.alloc ?_ (by first | exact Nat.le_refl _ | exact Below.size (by assumption) | omega | (simp <;> omega)) _ | refine Below.setCell ?_ (by first | exact Nat.le_refl _ | exact Below.size (by assumption) | omega | (simp <;> omega)) _ | refine below_drewN ?_ _ | refine Below.drew ?_))⟩
    exact heap_alloc_new w.drew _

def sumLen (sl : List SL) (k : Nat) : Nat := ((sl.take k).map (fun s => s.l.length)).sum
theorem sumLen_succ {sl : List SL} {k : Nat} {s : SL} (h : sl[k]? = some s) : sumLen sl (k + 1) = sumLen sl k + s.l.length := by unfold sumLen; rw [take_succ_of h]; simp
theorem sumLen_le {sl : List SL} (h : ∀ s ∈ sl, s.l.length ≤ 64) : ∀ k, sumLen sl k ≤ 64 * k
  | 0 => by unfold sumLen; simp
  | k + 1 => by
    by_cases hlt : k < sl.length
    · obtain ⟨s, hs⟩ := getElem?_of_lt hlt
      rw [sumLen_succ hs]
      have := sumLen_le h k
      have := h s (List.mem_of_getElem? hs)
      omega
    · have e : sumLen sl (k + 1) = sumLen sl k := by unfold sumLen; rw [List.take_of_length_le (by omega), List.take_of_length_le (by omega)]
      have := sumLen_le h k
      omega
def catL (sl : List SL) (k : Nat) : List XY := (sl.take k).flatMap (·.l)
theorem catL_succ {sl : List SL} {k : Nat} {s : SL} (h : sl[k]? = some s) : catL sl (k + 1) = catL sl k ++ s.l := by unfold catL; rw [take_succ_of h]; simp
theorem catL_len (sl : List SL) (k : Nat) : (catL sl k).length = sumLen sl k := by unfold catL sumLen; rw [List.length_flatMap]

set_option maxRecDepth 100000 in
set_option maxHeartbeats 2000000 in
theorem Concat_any (A : Option Addr) (c : Nat) (sl : List SL) (w : World) (hm : sl.length ≤ 200) (hlen : ∀ s ∈ sl, 3 ≤ s.l.length ∧ s.l.length ≤ 64) (hS : RdS w w.heap.size A sl) (hD : ∀ s ∈ sl, Rd w w.heap.size s.A s.l) :
    Calls Try.prog 72 #[.slice A sl.length c] w (RetO (catL sl sl.length) w) := by
  have HS := Lib.hid hS; clear hS
  have HD := Lib.hid hD; clear hD
  have HSL := Lib.hid (fun k => sumLen_le (sl := sl) (fun s hs => (hlen s hs).2) k)
  have HLEN := Lib.hid hlen; clear hlen
  obtain ⟨i0, hi, hz0, hz1, hz2⟩ := info_parts Try.infoXY
  have HJ := Lib.hid hi; clear hi
  go_enter Try.func72, Try.ntmps72
  go_wp2
  go_loopw [3, 5, 11] (fun n _ i wr => ∃ k : Nat, k ≤ sl.length ∧ i = .int .i64 k ∧ n = .int .i64 (sumLen sl k : Nat) ∧ wr = w) (fun _ _ i _ => sl.length - (intOf i).toNat)
  case atStart => exact ⟨0, Nat.zero_le _, rfl, rfl, rfl⟩
  case round =>
    obtain ⟨k, hk, rfl, rfl, rfl⟩ := hrel
    have hsl := HSL.out k
    have hsl1 := HSL.out (k + 1)
    by_cases hlt : k < sl.length
    · obtain ⟨s, hs⟩ := getElem?_of_lt hlt
      obtain ⟨bb, off, hA, hbb, d0⟩ := HS.out k s hs
      subst hA
      rw [sumLen_succ hs] at hsl1
      have HSU := Lib.hid (sumLen_succ hs); clear hs
      obtain ⟨n, hn⟩ : ∃ n, sumLen sl k = n := ⟨_, rfl⟩
      rw [hn] at hsl hsl1 ⊢
      have HN := Lib.hid hn; clear hn
      obtain ⟨sn, hsn⟩ : ∃ sn, s.l.length = sn := ⟨_, rfl⟩
      rw [hsn] at hsl1 d0
      have HSN := Lib.hid hsn; clear hsn
      have g1 : ¬ ((n : Int) + (sn : Int)) < 0 := by omega
      have g2 : 0 ≤ (n : Int) + (sn : Int) := by omega
      go_wp2
      go_roundw
      case rel => exact ⟨k + 1, by omega, by go_num, by rw [HSU.out, HN.out, HSN.out]; simp, trivial⟩
      case measure => simp [intOf]; omega
    · obtain rfl : k = sl.length := by omega
      obtain ⟨n, hn⟩ : ∃ n, sumLen sl sl.length = n := ⟨_, rfl⟩
      rw [hn] at hsl ⊢
      clear hsl1 hn
      go_wp2_with fail
      refine (Grow_any n _ (by omega)).mono ?_
      rintro e w2 ⟨v2, rfl, hown2, hb2⟩
      have HO2 := Lib.hid hown2; clear hown2 hlt hk
      clear hsl
      obtain ⟨wx, rfl⟩ : ∃ wx : World, wx = wr := ⟨_, rfl⟩
      go_wp2
      go_loopw [6, 8, 27] (fun v _ i ww => ∃ (k : Nat) (u : Value), u = v ∧ k ≤ sl.length ∧ i = .int .i64 k ∧ OwnL ww wx.heap.size u (catL sl k) ∧ Below wx.heap.size wx ww) (fun _ _ i _ => sl.length - (intOf i).toNat)
      case atStart => exact ⟨0, _, rfl, Nat.zero_le _, rfl, HO2.out, hb2⟩
      case round =>
        obtain ⟨k, v, rfl, hk, rfl, hown, hB⟩ := hrel
        have HO := Lib.hid hown; clear hown
        have hsz := hB.size
        by_cases hlt : k < sl.length
        · obtain ⟨s, hs⟩ := getElem?_of_lt hlt
          obtain ⟨bb, off, hA, hbb, d0⟩ := (HS.out.below hB) k s hs
          subst hA
          have hls := HLEN.out s (List.mem_of_getElem? hs)
          have hrs := (HD.out s (List.mem_of_getElem? hs)).now hB
          have hcl := catL_len sl k
          have hsl := HSL.out k
          have HCA := Lib.hid (catL_succ hs); clear hs
          obtain ⟨bs, offs, hAs⟩ : ∃ bs offs, s.A = some ⟨bs, offs, none⟩ := by
            obtain ⟨q, hq⟩ := getElem?_of_lt (show 0 < s.l.length by omega)
            obtain ⟨b, o, h, _⟩ := hrs 0 q hq
            exact ⟨b, o, h⟩
          rw [hAs] at hrs d0
          have hcells := rd_cells hrs
          have hbb2 : bb < wr.heap.size := by omega
          have HCE := Lib.hid hcells; clear hcells hrs hAs
          go_wp2_with (at_builtin; refine wpList_append_own _ rfl _ _ 22 rfl wx.heap.size 76 i0 (.agg #[.int .i64 0, .int .i64 0]) 2 16 Try.underlying22 HJ.out hz0 hz1 hz2 rfl (by decide) _ _ _ rfl HO.out ⟨bs, offs, none⟩ s.l.length s.c (flat s.l) rfl (flat_length _) HCE.out (fun u hu => flat_one hu) (by unfold Go.maxLen; omega) (by omega) (by omega) ?_; intro v' w3 hown' hgrow _; have hB3 := below_grown hB hgrow (fun j hj => (HO.out.lt j hj).1) (by omega); have HO3 := Lib.hid hown'; clear hown' hgrow)
          go_wp2
          go_roundw
          case rel =>
            refine ⟨k + 1, _, rfl, by omega, by go_num, ?_, hB3⟩
            rw [HCA.out]
            have e := HO3.out
            unfold OwnL
            rw [flat_append, List.length_append]
            exact e
          case measure => simp [intOf]; omega
        · obtain rfl : k = sl.length := by omega
          go_wp2
          go_ret
          exact ⟨_, rfl, HO.out, hB⟩
end Go.Proofs.Ytcbiehnaomcfbaa

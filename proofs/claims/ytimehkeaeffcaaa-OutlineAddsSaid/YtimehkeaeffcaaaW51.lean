/- The reference's Sum: the walk. -/
import Derived.Test.YtimehkeaeffcaaaW50
import Derived.Test.YtimehkeaeffcaaaWD
import Derived.Test.YtimehkeaeffcaaaWC
import Derived.Test.YtimehkeaeffcaaaMathS6
namespace Go.Proofs.Ytimehkeaeffcaaa
open Go.RowKit

def sum2Res (out : List XY) : List XY × Int := if out.all rangedB = false ∨ 64 < out.length then ([], 4) else (out, 0)

theorem sumsL_succ {o p : List XY} {k : Nat} {q : XY} (h : o[k]? = some q) : sumsL (o.take (k + 1)) p = sumsL (o.take k) p ++ p.map (fShift q.X q.Y) := by
  rw [take_succ_of h]; unfold sumsL; rw [List.flatMap_append]; simp
theorem sumsL_length (o p : List XY) : (sumsL o p).length = o.length * p.length := by
  induction o with
  | nil => simp [sumsL]
  | cons a o ih =>
    have e : sumsL (a :: o) p = p.map (fShift a.X a.Y) ++ sumsL o p := rfl
    rw [e, List.length_append, ih, List.length_map, List.length_cons, Nat.add_mul]; omega

theorem Sum2_no (A A2 : Option Addr) (c c2 : Nat) (l l2 : List XY) (w : World) (hv : (validRB l && validRB l2) = false) (hl : Rd w w.heap.size A l) (hl2 : Rd w w.heap.size A2 l2) :
    Calls Try.prog 37 #[.slice A l.length c, .slice A2 l2.length c2] w (RetO2 [] 10 w) := by
  have HL := Lib.hid hl; clear hl
  have HL2 := Lib.hid hl2; clear hl2
  cases hv1 : validRB l
  · have HV := Lib.hid hv1; clear hv1 hv
    go_enter Try.func37, Try.ntmps37
    go_wp2_with fail
    refine (validR_any A c l _ HL.out).mono ?_
    rintro e w1 ⟨rfl, hb1⟩
    rw [HV.out]
    go_wp2
    go_ret2
    exact ⟨_, rfl, World.ownsRow_nil _ _ _ _, hb1⟩
  · have hv2 : validRB l2 = false := by simpa [hv1] using hv
    have HV := Lib.hid hv1; clear hv1 hv
    have HV2 := Lib.hid hv2; clear hv2
    go_enter Try.func37, Try.ntmps37
    go_wp2_with fail
    refine (validR_any A c l _ HL.out).mono ?_
    rintro e w1 ⟨rfl, hb1⟩
    rw [HV.out]
    go_wp2_with fail
    refine (validR_any A2 c2 l2 _ (HL2.out.now hb1)).mono ?_
    rintro e w2 ⟨rfl, hb2⟩
    rw [HV2.out]
    go_wp2
    go_ret2
    exact ⟨_, rfl, World.ownsRow_nil _ _ _ _, hb1.trans (hb2.mono hb1.size)⟩

set_option maxRecDepth 100000 in
set_option maxHeartbeats 4000000 in
theorem Sum2_yes (A A2 : Option Addr) (c c2 : Nat) (l l2 out : List XY) (w : World) (hv1 : validRB l = true) (hv2 : validRB l2 = true) (hW : Wraps (sumsL l l2) out) (hom : out.length ≤ 128)
    (hl : Rd w w.heap.size A l) (hl2 : Rd w w.heap.size A2 l2) :
    Calls Try.prog 37 #[.slice A l.length c, .slice A2 l2.length c2] w (RetO2 (sum2Res out).1 (sum2Res out).2 w) := by
  have HL := Lib.hid hl; clear hl
  have HL2 := Lib.hid hl2; clear hl2
  have lo := validRB_len hv1
  have lo2 := validRB_len hv2
  have HV := Lib.hid hv1; clear hv1
  have HV2 := Lib.hid hv2; clear hv2
  have HW := Lib.hid hW; clear hW
  obtain ⟨i0, hi, hz0, hz1, hz2⟩ := info_parts Try.infoXY
  have HJ := Lib.hid hi; clear hi
  have hsl := sumsL_length l l2
  have hsb : l.length * l2.length ≤ 4096 := Nat.mul_le_mul lo.2 lo2.2
  have hs0 : 0 < l.length * l2.length := Nat.mul_pos (by omega) (by omega)
  have HSL := Lib.hid hsl; clear hsl
  have HSB := Lib.hid (And.intro hsb hs0); clear hsb hs0
  go_enter Try.func37, Try.ntmps37
  go_wp2_with fail
  refine (validR_any A c l _ HL.out).mono ?_
  rintro e w1 ⟨rfl, hb1⟩
  rw [HV.out]
  go_wp2_with fail
  refine (validR_any A2 c2 l2 _ (HL2.out.now hb1)).mono ?_
  rintro e w2 ⟨rfl, hb2⟩
  rw [HV2.out]
  have hB2 := hb1.trans (hb2.mono hb1.size)
  clear hb1 hb2
  go_wp2
  go_loopw [6, 8, 22] (fun v _ i wr => ∃ k : Nat, k ≤ l.length ∧ i = .int .i64 k ∧ OwnL wr w.heap.size v (sumsL (l.take k) l2) ∧ Below w.heap.size w wr) (fun _ _ i _ => l.length - (intOf i).toNat)
  case atStart => exact ⟨0, Nat.zero_le _, rfl, World.ownsRow_nil _ _ _ _, hB2⟩
  case round =>
    obtain ⟨k, hk, rfl, hown, hB⟩ := hrel
    have HO := Lib.hid hown; clear hown
    by_cases hlt : k < l.length
    · obtain ⟨q, hq⟩ := getElem?_of_lt hlt
      obtain ⟨b, off, hA, hb, hcx, hcy⟩ := (HL.out.below hB) k q hq
      subst hA
      have hss := sumsL_succ (p := l2) hq
      have HSS := Lib.hid hss; clear hss hq
      have hkl : (sumsL (l.take k) l2).length = k * l2.length := by rw [sumsL_length, List.length_take, Nat.min_eq_left hk]
      have hkb : k * l2.length ≤ 4096 := Nat.mul_le_mul (show k ≤ 64 by omega) lo2.2
      have HKL := Lib.hid (And.intro hkl hkb); clear hkl hkb
      have hsB := hB.size
      have hBa : Below w.heap.size w (wr.alloc (.cells #[.int .i64 q.X, .int .i64 q.Y] 37)) := hB.alloc hsB _
      go_wp2_with fail
      refine (Shifted_any q.X q.Y A2 c2 l2 _ (by omega) (HL2.out.now hBa)).mono ?_
      rintro e w3 ⟨v3, rfl, hown3, hb3⟩
      have hB3 := hBa.trans (hb3.mono hBa.size)
      obtain ⟨A3, c3, rfl, hr3⟩ := own_rd hown3
      obtain ⟨q3, hq3⟩ := getElem?_of_lt (show 0 < (l2.map (fShift q.X q.Y)).length by simp; omega)
      obtain ⟨b3, off3, hA3, _, _, _⟩ := hr3 0 q3 hq3
      subst hA3
      clear hq3
      have hO3 := Lib.hid (own_below (HO.out.alloc (.cells #[.int .i64 q.X, .int .i64 q.Y] 37)) hb3)
      have hs3 := hB3.size
      have hk2 := HKL.out
      have hH3 := Lib.hid hr3
      have hBB := Lib.hid hB3
      go_wp2_with (at_builtin; refine wpList_append_own _ rfl _ _ 22 rfl w.heap.size 37 i0 (.agg #[.int .i64 0, .int .i64 0]) 2 16 Try.underlying22 HJ.out hz0 hz1 hz2 rfl (by decide) _ _ _ rfl hO3.out ⟨b3, off3, none⟩ l2.length c3 (flat (l2.map (fShift q.X q.Y))) rfl (by rw [flat_length, List.length_map]) (rd_cells hH3.out) (fun u hu => flat_one hu) (by rw [hk2.1]; unfold maxLen; omega) (by rw [hk2.1]; omega) hs3 ?_; intro v' w5 hown' hgrow _)
      have own5 : OwnL w5 w.heap.size v' (sumsL (l.take (k + 1)) l2) := by
        have e := hown'
        unfold OwnL
        rw [HSS.out, flat_append, List.length_append, List.length_map]
        exact e
      go_wp2
      go_roundw
      case rel => exact ⟨k + 1, by omega, by go_num, own5, below_grown hBB.out hgrow (fun j hj => (hO3.out.lt j hj).1) hs3⟩
      case measure => simp [intOf]; omega
    · obtain rfl : k = l.length := by omega
      have hown := HO.out
      rw [List.take_length] at hown
      obtain ⟨A6, c6, rfl, hr6⟩ := own_rd hown
      clear HO hown
      have hwr := Wrap_any A6 c6 (sumsL l l2) out wr HW.out (by have := HSL.out; have := HSB.out; omega) (by have := HSL.out; have := HSB.out; omega) (by omega) hr6
      have HWR := Lib.hid hwr; clear hwr hr6
      go_wp2_with fail
      refine HWR.out.mono ?_
      rintro e w6 ⟨v6, rfl, hown6, hb6⟩
      have hB6 := hB.trans (hb6.mono hB.size)
      have hO6 := Lib.hid (own_base hown6 hB.size); clear hown6 hb6
      have hO6' := hO6.out
      obtain ⟨A7, c7, rfl, hr7⟩ := own_rd hO6'
      clear hO6'
      have HR7 := Lib.hid hr7; clear hr7
      obtain ⟨wv, rfl⟩ : ∃ wv : World, wv = w6 := ⟨_, rfl⟩
      go_wp2
      go_loopw [11, 39] (fun _ i wr => ∃ k : Nat, k ≤ out.length ∧ i = .int .i64 k ∧ (∀ i q, i < k → out[i]? = some q → rangedB q = true) ∧ Below wv.heap.size wv wr) (fun _ i _ => out.length - (intOf i).toNat)
      case atStart => exact ⟨0, Nat.zero_le _, rfl, fun i q h => by omega, by (repeat (first | exact Below.refl _ _ | assumption | refine Below.alloc ?_ (by first | exact Nat.le_refl _ | exact Below.size (by assumption) | omega | (simp <;> omega)) _ | refine Below.setCell ?_ (by first | exact Nat.le_refl _ | exact Below.size (by assumption) | omega | (simp <;> omega)) _ | refine below_drewN ?_ _ | refine Below.drew ?_))⟩
      case round =>
        obtain ⟨k, hk, rfl, hall, hBk⟩ := hrel
        have HA := Lib.hid hall; clear hall
        have hBz := hB6.trans (hBk.mono hB6.size)
        by_cases hlt : k < out.length
        · obtain ⟨q, hq⟩ := getElem?_of_lt hlt
          obtain ⟨b, off, hA, hb, hcx, hcy⟩ := (HR7.out.below hBk) k q hq
          subst hA
          have HQ := Lib.hid hq; clear hq
          have hsz := hBk.size
          go_wp2_with fail
          refine (in_any q _).mono ?_
          rintro e w8 ⟨rfl, hb8⟩
          have hB8 := (hBk.alloc hsz (.cells #[.int .i64 q.X, .int .i64 q.Y] 37)).trans (hb8.mono (by simp; omega))
          have hz8 := hB8.size
          cases hr : rangedB q
          · have HS2 : Hid (sum2Res out = ([], 4)) := by
              have e : out.all rangedB = false := List.all_eq_false.2 ⟨q, List.mem_of_getElem? HQ.out, by simp [hr]⟩
              unfold Hid sum2Res
              rw [if_pos (.inl e)]
            have HRr := Lib.hid hr; clear hr
            go_wp2
            go_ret2
            rw [HS2.out]
            exact ⟨_, rfl, World.ownsRow_nil _ _ _ _, hB6.trans (hB8.mono hB6.size)⟩
          · have HRr := Lib.hid hr; clear hr
            go_wp2
            go_roundw
            case rel =>
              refine ⟨k + 1, by omega, by go_num, fun i x hi hx => ?_, hB8⟩
              rcases Nat.lt_or_ge i k with h | h
              · exact HA.out i x h hx
              · obtain rfl : i = k := by omega
                have e := HQ.out
                rw [hx] at e
                cases e
                exact HRr.out
            case measure => simp [intOf]; omega
        · obtain rfl : k = out.length := by omega
          have hall : out.all rangedB = true := by
            rw [List.all_eq_true]
            intro x hx
            obtain ⟨i, hi, rfl⟩ := List.mem_iff_getElem.1 hx
            exact HA.out i _ hi (List.getElem?_eq_getElem hi)
          have HAL := Lib.hid hall; clear hall
          by_cases h64 : 64 < out.length
          · have HS2 : Hid (sum2Res out = ([], 4)) := by unfold Hid sum2Res; rw [if_pos (.inr h64)]
            go_wp2
            go_ret2
            rw [HS2.out]
            exact ⟨_, rfl, World.ownsRow_nil _ _ _ _, hBz⟩
          · have HS2 : Hid (sum2Res out = (out, 0)) := by unfold Hid sum2Res; rw [if_neg (by simp [HAL.out, h64])]
            go_wp2
            go_ret2
            rw [HS2.out]
            exact ⟨_, rfl, own_below hO6.out hBk, hBz⟩
end Go.Proofs.Ytimehkeaeffcaaa

/- Shifted, Centred, Turned, Moved, in the reference: the walks. -/
import Derived.Test.YtimehkeaeffcaaaW36
import Derived.Test.YtimehkeaeffcaaaW24
import Derived.Test.YtimehkeaeffcaaaW32
import Derived.StillTailTactics
import Derived.Test.YtimehkeaeffcaaaRound
namespace Go.Proofs.Ytimehkeaeffcaaa
open Go.RowKit

def fShift (dx dy : Int) (p : XY) : XY := ⟨wrap64 (p.X + dx), wrap64 (p.Y + dy)⟩

set_option maxRecDepth 100000 in
set_option maxHeartbeats 1000000 in
theorem Shifted_any (dx dy : Int) (A : Option Addr) (c : Nat) (l : List XY) (w : World) (hm : l.length ≤ 1000000) (hl : Rd w w.heap.size A l) :
    Calls Try.prog 73 #[.slice A l.length c, .int .i64 dx, .int .i64 dy] w (RetO (l.map (fShift dx dy)) w) := by
  have HL := Lib.hid hl; clear hl
  obtain ⟨i0, hi, hz0, hz1, hz2⟩ := info_parts Try.infoXY
  have HJ := Lib.hid hi; clear hi
  go_enter Try.func73, Try.ntmps73
  go_wp2
  go_loopw [7, 9, 12] (fun v _ i wr => ∃ k : Nat, k ≤ l.length ∧ i = .int .i64 k ∧ OwnL wr w.heap.size v ((l.take k).map (fShift dx dy)) ∧ Below w.heap.size w wr) (fun _ _ i _ => l.length - (intOf i).toNat)
  case atStart => exact ⟨0, Nat.zero_le _, rfl, World.ownsRow_nil _ _ _ _, by (repeat (first | exact Below.refl _ _ | assumption | refine Below.alloc ?_ (by first | exact Nat.le_refl _ | exact Below.size (by assumption) | omega | (simp <;> omega)) _ | refine Below.setCell ?_ (by first | exact Nat.le_refl _ | exact Below.size (by assumption) | omega | (simp <;> omega)) _ | refine below_drewN ?_ _ | refine Below.drew ?_))⟩
  case round =>
    obtain ⟨k, hk, rfl, hown, hB⟩ := hrel
    have HO := Lib.hid hown; clear hown
    by_cases hlt : k < l.length
    · obtain ⟨q, hq⟩ := getElem?_of_lt hlt
      obtain ⟨b, off, hA, hb, hcx, hcy⟩ := (HL.out.below hB) k q hq
      subst hA
      have HQ := Lib.hid (take_map_succ (fShift dx dy) hq); clear hq
      have hsB := hB.size
      have hlen : ((l.take k).map (fShift dx dy)).length = k := by simp; omega
      have hO2 := HO.out.alloc (.cells #[.int .i64 q.X, .int .i64 q.Y] 37)
      have HO2 := Lib.hid hO2; clear hO2
      go_wp2_with (at_builtin; refine wpList_append_own _ rfl _ _ 22 rfl w.heap.size 37 i0 (.agg #[.int .i64 0, .int .i64 0]) 2 16 Try.underlying22 HJ.out hz0 hz1 hz2 rfl (by decide) _ _ _ rfl (HO2.out.alloc _) ⟨wr.heap.size + 1, 0, none⟩ 1 1 [.int .i64 (wrap64 (q.X + dx)), .int .i64 (wrap64 (q.Y + dy))] rfl rfl (by intro j u hj; match j, hj with | 0, hj => (simp at hj; subst hj; simp [Addr.add]) | 1, hj => (simp at hj; subst hj; simp [Addr.add]) | j + 2, hj => simp at hj) (by intro u hu; simp at hu; rcases hu with rfl | rfl <;> rfl) (by rw [hlen]; unfold maxLen; omega) (by rw [hlen]; omega) (by simp; omega) ?_; intro v' w3 hown' hgrow _)
      go_wp2
      go_roundw
      case rel =>
        refine ⟨k + 1, by omega, by go_num, ?_, below_grown (w1 := (wr.alloc (.cells #[.int .i64 q.X, .int .i64 q.Y] 37)).alloc (.cells #[.int .i64 (wrap64 (q.X + dx)), .int .i64 (wrap64 (q.Y + dy))] 37)) (by (repeat (first | exact Below.refl _ _ | assumption | refine Below.alloc ?_ (by first | exact Nat.le_refl _ | exact Below.size (by assumption) | omega | (simp <;> omega)) _ | refine Below.setCell ?_ (by first | exact Nat.le_refl _ | exact Below.size (by assumption) | omega | (simp <;> omega)) _ | refine below_drewN ?_ _ | refine Below.drew ?_))) hgrow (fun j hj => (HO2.out.lt j hj).1) (by simp; omega)⟩
        rw [HQ.out]
        have e := hown'
        unfold OwnL
        rw [flat_append]
        simpa [flat_cons, flat_nil, fShift] using e
      case measure => simp [intOf]; omega
    · obtain rfl : k = l.length := by omega
      have hown := HO.out
      rw [List.take_length] at hown
      go_wp2
      go_ret
      exact ⟨_, rfl, hown, hB⟩

/-- Half of a number, rounded down. -/
theorem half2_any (n : Int) (w : World) (h1 : -1000000 ≤ n) (h2 : n ≤ 1000000) : Calls Try.prog 78 #[.int .i64 n] w (fun e w' => e = .returned (.int .i64 (n / 2)) ∧ w' = w) := by
  by_cases hn : n < 0
  · have e2 : -((1 - n) / 2) = n / 2 := by omega
    have HE := Lib.hid e2; clear e2
    go_enter Try.func78, Try.ntmps78
    go_wp2
    go_ret
    exact ⟨by rw [← HE.out]; rfl, rfl⟩
  · go_enter Try.func78, Try.ntmps78
    go_wp2
    go_ret
    exact ⟨rfl, rfl⟩

/-- Centred of the reference: moved by half the sum of the ends. -/
def hx2 (l : List XY) : Int := wrap64 (-(wrap64 ((lowTo l l.length).X + (highTo l l.length).X) / 2))
def hy2 (l : List XY) : Int := wrap64 (-(wrap64 ((lowTo l l.length).Y + (highTo l l.length).Y) / 2))
def centred2S (l : List XY) : List XY × Int := if validRB l then (turnL (l.map (fShift (hx2 l) (hy2 l))), 0) else ([], 10)

set_option maxHeartbeats 1000000 in
theorem Centred2_any (A : Option Addr) (c : Nat) (l : List XY) (w : World) (hl : Rd w w.heap.size A l) (hbx0 : validRB l = true → ∀ k, Bd 5000 (lowTo l k) ∧ Bd 5000 (highTo l k)) :
    Calls Try.prog 41 #[.slice A l.length c] w (RetO2 (centred2S l).1 (centred2S l).2 w) := by
  have HL := Lib.hid hl; clear hl
  cases hv : validRB l
  · have HS : Hid (centred2S l = ([], 10)) := by simp [Hid, centred2S, hv]
    have HV := Lib.hid hv; clear hv
    go_enter Try.func41, Try.ntmps41
    go_wp2_with fail
    refine (validR_any A c l _ HL.out).mono ?_
    rintro e w1 ⟨rfl, hb1⟩
    rw [HV.out]
    go_wp2
    go_ret2
    rw [HS.out]
    exact ⟨_, rfl, World.ownsRow_nil _ _ _ _, hb1⟩
  · have hs : centred2S l = (turnL (l.map (fShift (hx2 l) (hy2 l))), 0) := by simp [centred2S, hv]
    have hlen := validRB_len hv
    have hbx := hbx0 hv
    clear hbx0
    have HV := Lib.hid hv; clear hv
    obtain ⟨⟨lx1, lx2, ly1, ly2⟩, ⟨gx1, gx2, gy1, gy2⟩⟩ := hbx l.length
    clear hbx
    have hdx : wrap64 (-(wrap64 ((lowTo l l.length).X + (highTo l l.length).X) / 2)) = hx2 l := rfl
    have hdy : wrap64 (-(wrap64 ((lowTo l l.length).Y + (highTo l l.length).Y) / 2)) = hy2 l := rfl
    obtain ⟨ax, hax⟩ : ∃ ax, wrap64 ((lowTo l l.length).X + (highTo l l.length).X) = ax := ⟨_, rfl⟩
    obtain ⟨ay, hay⟩ : ∃ ay, wrap64 ((lowTo l l.length).Y + (highTo l l.length).Y) = ay := ⟨_, rfl⟩
    have hbx : -1000000 ≤ ax ∧ ax ≤ 1000000 := by rw [← hax, w64_id (by omega) (by omega)]; omega
    have hby : -1000000 ≤ ay ∧ ay ≤ 1000000 := by rw [← hay, w64_id (by omega) (by omega)]; omega
    rw [hax] at hdx
    rw [hay] at hdy
    generalize hx2 l = dx at hdx hs
    generalize hy2 l = dy at hdy hs
    have HS := Lib.hid hs; clear hs
    have HDX := Lib.hid hdx; clear hdx
    have HDY := Lib.hid hdy; clear hdy
    have hends : ∀ W : World, Rd W W.heap.size A l → Calls Try.prog 75 #[.slice A l.length c] W (Ret (.tuple #[xyv (lowTo l l.length), xyv (highTo l l.length)]) W) := fun W h => Ends_any A c l W (by omega) (by omega) h
    clear lx1 lx2 ly1 ly2 gx1 gx2 gy1 gy2
    generalize lowTo l l.length = lo at hax hay hends
    generalize highTo l l.length = hi at hax hay hends
    have HEN := Lib.hid hends; clear hends
    have HAX := Lib.hid hax; clear hax
    have HAY := Lib.hid hay; clear hay
    have hmx : Try.prog.follows .mixedOrders = true := by kernel_rfl
    go_enter Try.func41, Try.ntmps41
    go_wp2_with fail
    refine (validR_any A c l _ HL.out).mono ?_
    rintro e w1 ⟨rfl, hb1⟩
    rw [HV.out]
    go_wp2_with fail
    refine (HEN.out _ (HL.out.now hb1)).mono ?_
    rintro e w2 ⟨rfl, hb2⟩
    have hB2 := hb1.trans (hb2.mono hb1.size)
    go_wp2
    obtain ⟨wa, hwa⟩ : ∃ wa, (w2.alloc (.cells #[.int .i64 lo.X, .int .i64 lo.Y] 37)).alloc (.cells #[.int .i64 hi.X, .int .i64 hi.Y] 37) = wa := ⟨_, rfl⟩
    have hBa : Below w.heap.size w wa := by rw [← hwa]; have hsB := hB2.size; (repeat (first | exact Below.refl _ _ | assumption | refine Below.alloc ?_ (by first | exact Nat.le_refl _ | exact Below.size (by assumption) | omega | (simp <;> omega)) _ | refine Below.setCell ?_ (by first | exact Nat.le_refl _ | exact Below.size (by assumption) | omega | (simp <;> omega)) _ | refine below_drewN ?_ _ | refine Below.drew ?_))
    have c1 : wa.cell? ⟨w2.heap.size, 0, none⟩ = some (.int .i64 lo.X) := by rw [← hwa]; simp
    have c2 : wa.cell? ⟨w2.heap.size, 1, none⟩ = some (.int .i64 lo.Y) := by rw [← hwa]; simp
    have c3 : wa.cell? ⟨w2.heap.size + 1, 0, none⟩ = some (.int .i64 hi.X) := by rw [← hwa]; simp
    have c4 : wa.cell? ⟨w2.heap.size + 1, 1, none⟩ = some (.int .i64 hi.Y) := by rw [← hwa]; simp
    rw [hwa]
    clear hwa
    go_still_tail 15, (by kernel_rfl)
    still_call (half2_any (IntKind.i64.wrap (lo.X + hi.X)) _ (by rw [w64_eq, HAX.out]; exact hbx.1) (by rw [w64_eq, HAX.out]; exact hbx.2))
    repeat still_step
    still_call (half2_any (IntKind.i64.wrap (lo.Y + hi.Y)) _ (by rw [w64_eq, HAY.out]; exact hby.1) (by rw [w64_eq, HAY.out]; exact hby.2))
    repeat still_step
    refine wpStill_nil ?_
    change wpList _ _ _ _ _ wa.drew
    simp only [w64_eq, HAX.out, HAY.out]
    go_wp2_with fail
    rw [HDX.out, HDY.out]
    refine (Shifted_any dx dy A c l wa.drew (by omega) (HL.out.now (Below.drew hBa))).mono ?_
    rintro e w3 ⟨v3, rfl, hown3, hb3⟩
    have hB3 := hBa.trans ((below_of_drew hb3).mono hBa.size)
    obtain ⟨A3, c3, rfl, hr3⟩ := own_rd hown3
    have hcall := Turn_any A3 c3 (l.map (fShift dx dy)) w3 (by simp; omega) (by simp; omega) hr3
    rw [List.length_map] at hcall
    have HCL := Lib.hid hcall; clear hcall hr3 hown3
    go_wp2_with fail
    refine HCL.out.mono ?_
    rintro e w4 ⟨v4, rfl, hown4, hb4⟩
    go_wp2
    go_ret2
    rw [HS.out]
    exact ⟨v4, rfl, own_base hown4 hB3.size, hB3.trans (hb4.mono hB3.size)⟩
end Go.Proofs.Ytimehkeaeffcaaa

/- slices.SortFunc of corners: what it does, by the contract of the shelf. -/
import Derived.Test.YtcbphodkaiknmaaSort
import Derived.Test.YtcbphodkaiknmaaHW1
namespace Go.Proofs.Ytcbphodkaiknmaa
open Go.RowKit Go.Lib Go.Sort Go.Shelf

abbrev BXY := {p : XY // Bd 5000 p}
instance : Inhabited BXY := ⟨⟨⟨0, 0⟩, by unfold Bd; simp⟩⟩
def encB (x : BXY) : List Value := [.int .i64 x.1.X, .int .i64 x.1.Y]
def cfB (x y : BXY) : Int := lowerW x.1 y.1
theorem ltB (x y : BXY) : ltOf cfB x y = true ↔ lx x.1 y.1 := by
  obtain ⟨⟨a, b⟩, ha⟩ := x
  obtain ⟨⟨c, d⟩, hc⟩ := y
  unfold Bd at ha hc
  simp only at ha hc
  unfold ltOf cfB lowerW lx
  simp only [decide_eq_true_eq]
  by_cases h : b = d
  · rw [if_neg (by simp [h]), w64_id (by omega) (by omega)]; omega
  · rw [if_pos h, w64_id (by omega) (by omega)]; omega
theorem ltB_false (x y : BXY) : ltOf cfB x y = false ↔ ¬ lx x.1 y.1 := by rw [← ltB]; simp
theorem swoB : SWO (ltOf cfB) where
  irrefl x := by rw [ltB_false]; exact lx_irr _
  trans x y z h1 h2 := by rw [ltB] at *; exact lx_trans h1 h2
  ntrans x y z h1 h2 := by rw [ltB_false] at *; unfold lx at *; omega
theorem totB (x y : BXY) (h1 : ltOf cfB x y = false) (h2 : ltOf cfB y x = false) : x = y := by
  rw [ltB_false] at h1 h2
  apply Subtype.ext
  obtain ⟨⟨a, b⟩, _⟩ := x
  obtain ⟨⟨c, d⟩, _⟩ := y
  unfold lx at h1 h2
  simp only at h1 h2
  show (⟨a, b⟩ : XY) = ⟨c, d⟩
  congr 1 <;> omega
set_option maxRecDepth 100000 in
set_option maxHeartbeats 1000000 in
theorem lower_grow (a b : XY) (W : World) : Calls Try.prog 14 #[.agg #[.int .i64 a.X, .int .i64 a.Y], .agg #[.int .i64 b.X, .int .i64 b.Y]] W fun e w' => e = .returned (.int .i64 (lowerW a b)) ∧ ∃ q os', w' = grow (W.drewN q) os' := by
  by_cases h : a.Y = b.Y
  · have hs : lowerW a b = wrap64 (a.X - b.X) := by unfold lowerW; rw [if_neg (by simp [h])]
    have hb : (a.Y != b.Y) = false := by simp [h]
    have HS := Lib.hid hs; clear hs h
    go_enter Try.func14, Try.ntmps14
    go_wp2
    go_ret
    rw [HS.out]
    exact ⟨rfl, 0, _, by rw [alloc_eq_grow, alloc_eq_grow, grow_grow]; rfl⟩
  · have hs : lowerW a b = wrap64 (a.Y - b.Y) := by unfold lowerW; rw [if_pos h]
    have hb : (a.Y != b.Y) = true := by simpa using h
    have HS := Lib.hid hs; clear hs h
    go_enter Try.func14, Try.ntmps14
    go_wp2
    go_ret
    rw [HS.out]
    exact ⟨rfl, 0, _, by rw [alloc_eq_grow, alloc_eq_grow, grow_grow]; rfl⟩
theorem flatK_B (d : Array BXY) : (flatK encB 2 d).toList = flat (d.toList.map (·.1)) := by
  apply List.ext_getElem?
  intro i
  by_cases h : i < d.size * 2
  · have hq : i / 2 < d.size := by omega
    have h1 : (flatK encB 2 d).toList[i]? = some ((encB d[i / 2]!)[i % 2]!) := by
      rw [Array.getElem?_toList]
      unfold flatK
      simp [h]
    obtain ⟨p, hp⟩ : ∃ p, d[i / 2]! = p := ⟨_, rfl⟩
    have hdp : d.toList[i / 2]? = some p := by rw [Array.getElem?_toList, Array.getElem?_eq_getElem hq, ← hp, getElem!_pos d (i / 2) hq]
    have hm : (d.toList.map (·.1))[i / 2]? = some p.1 := by rw [List.getElem?_map, hdp]; rfl
    rw [h1, hp]
    have hmod := Nat.mod_lt i (show 0 < 2 by omega)
    have hdm := Nat.div_add_mod i 2
    rcases (show i % 2 = 0 ∨ i % 2 = 1 by omega) with e | e
    · have := flat_x hm
      rw [show i / 2 * 2 = i by omega] at this
      rw [this, e]; rfl
    · have := flat_y hm
      rw [show i / 2 * 2 + 1 = i by omega] at this
      rw [this, e]; rfl
  · rw [List.getElem?_eq_none (by simp; omega), List.getElem?_eq_none (by rw [flat_length]; simp; omega)]
end Go.Proofs.Ytcbphodkaiknmaa

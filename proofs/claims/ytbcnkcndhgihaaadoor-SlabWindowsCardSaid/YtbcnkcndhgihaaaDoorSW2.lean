/- Blocks: fits, extents, the colours of shapes: the walks. -/
import Derived.Test.YtbcnkcndhgihaaaDoorSW1
namespace Go.Proofs.YtbcnkcndhgihaaaDoor
open Go.RowKit
set_option linter.unusedSimpArgs false

theorem w64b {n : Int} (h1 : -9223372036854775808 ≤ n) (h2 : n ≤ 9223372036854775807) : wrap64 n = n := by unfold wrap64; omega
/-- A shape as a value. -/
def Sh.val : Sh → Value
  | solid n c => .iface 117 (.agg #[.int .i64 n.x, .int .i64 n.y, .int .i64 n.z, .int .u8 c])
  | stack n a f b => .iface 120 (.agg #[.int .i64 n.x, .int .i64 n.y, .int .i64 n.z, .int .i64 a, f.val, b.val])
  | turn n a p => .iface 121 (.agg #[.int .i64 n.x, .int .i64 n.y, .int .i64 n.z, .int .i64 a, p.val])
  | slice n a o p => .iface 123 (.agg #[.int .i64 n.x, .int .i64 n.y, .int .i64 n.z, .int .i64 a, .int .i64 o, p.val])
  | flip n a p => .iface 84 (.agg #[.int .i64 n.x, .int .i64 n.y, .int .i64 n.z, .int .i64 a, p.val])
  | rep n a p => .iface 124 (.agg #[.int .i64 n.x, .int .i64 n.y, .int .i64 n.z, .int .i64 a, p.val])
theorem ix0 (x y z : Int) : ∀ w : World, (Instr.index 22 (.agg #[.int .i64 x, .int .i64 y, .int .i64 z]) (.int .i64 0)).run Tryd.prog w = .ok (.int .i64 x) w := fun _ => by kernel_rfl
theorem ix1 (x y z : Int) : ∀ w : World, (Instr.index 22 (.agg #[.int .i64 x, .int .i64 y, .int .i64 z]) (.int .i64 1)).run Tryd.prog w = .ok (.int .i64 y) w := fun _ => by kernel_rfl
theorem ix2 (x y z : Int) : ∀ w : World, (Instr.index 22 (.agg #[.int .i64 x, .int .i64 y, .int .i64 z]) (.int .i64 2)).run Tryd.prog w = .ok (.int .i64 z) w := fun _ => by kernel_rfl
set_option maxRecDepth 100000 in
set_option maxHeartbeats 1000000 in
theorem fits_any (n : T3) (w : World) (h1 : 0 ≤ n.x ∧ n.x ≤ 1000000) (h2 : 0 ≤ n.y ∧ n.y ≤ 1000000) (h3 : 0 ≤ n.z ∧ n.z ≤ 1000000) : Calls Tryd.prog 96 #[val3 n] w (Ret (.int .i64 (fitsS n)) w) := by
  have hbig : Hid (200 < n.x ∨ 200 < n.y ∨ 200 < n.z → fitsS n = 4) := fun h => by unfold fitsS; rw [if_pos h]
  have hsm : Hid (¬ (200 < n.x ∨ 200 < n.y ∨ 200 < n.z) → fitsS n = if 8000 < n.x * n.y * n.z then 4 else 0) := fun h => by unfold fitsS; rw [if_neg h]
  obtain ⟨x, y, z⟩ := n
  dsimp only at h1 h2 h3 hbig hsm ⊢
  have i0 := ix0 x y z
  have i1 := ix1 x y z
  have i2 := ix2 x y z
  go_enter Tryd.func96, Tryd.ntmps96
  go_wp2
  go_loopw [4, 6] (fun _ i wr => ∃ k : Nat, i = .int .i64 k ∧ ((k = 0) ∨ (k = 1 ∧ x ≤ 200) ∨ (k = 2 ∧ x ≤ 200 ∧ y ≤ 200) ∨ (k = 3 ∧ x ≤ 200 ∧ y ≤ 200 ∧ z ≤ 200)) ∧ wr = w.alloc (.cells #[.int .i64 x, .int .i64 y, .int .i64 z] 22)) (fun _ i _ => 3 - (intOf i).toNat)
  case atStart => exact ⟨0, rfl, .inl rfl, rfl⟩
  case round =>
    obtain ⟨k, rfl, hk, rfl⟩ := hrel
    rcases hk with rfl | ⟨rfl, b1⟩ | ⟨rfl, b1, b2⟩ | ⟨rfl, b1, b2, b3⟩
    · by_cases hx : 200 < x
      · have e := Lib.hid (hbig.out (.inl hx))
        go_wp2
        go_ret
        exact Ret.mk (by rw [e.out]; rfl) (by (repeat (first | exact Below.refl _ _ | assumption | refine Below.alloc ?_ (by first | exact Nat.le_refl _ | exact Below.size (by assumption) | omega | (simp <;> omega)) _ | refine Below.setCell ?_ (by first | exact Nat.le_refl _ | exact Below.size (by assumption) | omega | (simp <;> omega)) _ | refine below_drewN ?_ _ | refine Below.drew ?_)))
      · go_wp2
        go_roundw
        case rel => exact ⟨1, rfl, .inr (.inl ⟨rfl, by omega⟩), trivial⟩
        case measure => simp [intOf]
    · by_cases hx : 200 < y
      · have e := Lib.hid (hbig.out (.inr (.inl hx)))
        go_wp2
        go_ret
        exact Ret.mk (by rw [e.out]; rfl) (by (repeat (first | exact Below.refl _ _ | assumption | refine Below.alloc ?_ (by first | exact Nat.le_refl _ | exact Below.size (by assumption) | omega | (simp <;> omega)) _ | refine Below.setCell ?_ (by first | exact Nat.le_refl _ | exact Below.size (by assumption) | omega | (simp <;> omega)) _ | refine below_drewN ?_ _ | refine Below.drew ?_)))
      · go_wp2
        go_roundw
        case rel => exact ⟨2, rfl, .inr (.inr (.inl ⟨rfl, by omega, by omega⟩)), trivial⟩
        case measure => simp [intOf]
    · by_cases hx : 200 < z
      · have e := Lib.hid (hbig.out (.inr (.inr hx)))
        go_wp2
        go_ret
        exact Ret.mk (by rw [e.out]; rfl) (by (repeat (first | exact Below.refl _ _ | assumption | refine Below.alloc ?_ (by first | exact Nat.le_refl _ | exact Below.size (by assumption) | omega | (simp <;> omega)) _ | refine Below.setCell ?_ (by first | exact Nat.le_refl _ | exact Below.size (by assumption) | omega | (simp <;> omega)) _ | refine below_drewN ?_ _ | refine Below.drew ?_)))
      · go_wp2
        go_roundw
        case rel => exact ⟨3, rfl, .inr (.inr (.inr ⟨rfl, by omega, by omega, by omega⟩)), trivial⟩
        case measure => simp [intOf]
    · have e := Lib.hid (hsm.out (by omega))
      have p1 : 0 ≤ x * y := Int.mul_nonneg (by omega) (by omega)
      have p2 : x * y ≤ 200 * 200 := Int.mul_le_mul b1 b2 (by omega) (by omega)
      have p3 : 0 ≤ x * y * z := Int.mul_nonneg p1 (by omega)
      have p4 : x * y * z ≤ 40000 * 200 := Int.mul_le_mul p2 b3 (by omega) (by omega)
      have w1 : wrap64 (x * y) = x * y := w64b (by omega) (by omega)
      have w2 : wrap64 (x * y * z) = x * y * z := w64b (by omega) (by omega)
      clear p1 p2 p3 p4
      by_cases h8 : 8000 < x * y * z
      · rw [if_pos h8] at e
        go_wp2
        go_ret
        exact Ret.mk (by rw [e.out]; rfl) (by (repeat (first | exact Below.refl _ _ | assumption | refine Below.alloc ?_ (by first | exact Nat.le_refl _ | exact Below.size (by assumption) | omega | (simp <;> omega)) _ | refine Below.setCell ?_ (by first | exact Nat.le_refl _ | exact Below.size (by assumption) | omega | (simp <;> omega)) _ | refine below_drewN ?_ _ | refine Below.drew ?_)))
      · rw [if_neg h8] at e
        go_wp2
        go_ret
        exact Ret.mk (by rw [e.out]; rfl) (by (repeat (first | exact Below.refl _ _ | assumption | refine Below.alloc ?_ (by first | exact Nat.le_refl _ | exact Below.size (by assumption) | omega | (simp <;> omega)) _ | refine Below.setCell ?_ (by first | exact Nat.le_refl _ | exact Below.size (by assumption) | omega | (simp <;> omega)) _ | refine below_drewN ?_ _ | refine Below.drew ?_)))
theorem extents_any (n : T3) (w : World) : Calls Tryd.prog 161 #[val3 n] w fun e w' => e = .returned (val3 n) ∧ w' = (w.alloc (.cells #[.int .i64 n.x, .int .i64 n.y, .int .i64 n.z] 82)).alloc (.cells #[.int .i64 n.x, .int .i64 n.y, .int .i64 n.z] 22) := by
  go_enter Tryd.func161, Tryd.ntmps161
  go_wp2
  refine bodyPost_ret (v := val3 n) (by simp [results, Tryd.results161, go_sem]) rfl ⟨rfl, rfl⟩
def Sh.ty : Sh → TypeId
  | solid _ _ => 117
  | stack _ _ _ _ => 120
  | turn _ _ _ => 121
  | slice _ _ _ _ => 123
  | flip _ _ _ => 84
  | rep _ _ _ => 124
def Sh.ag : Sh → Array Value
  | solid n c => #[.int .i64 n.x, .int .i64 n.y, .int .i64 n.z, .int .u8 c]
  | stack n a f b => #[.int .i64 n.x, .int .i64 n.y, .int .i64 n.z, .int .i64 a, f.val, b.val]
  | turn n a p => #[.int .i64 n.x, .int .i64 n.y, .int .i64 n.z, .int .i64 a, p.val]
  | slice n a o p => #[.int .i64 n.x, .int .i64 n.y, .int .i64 n.z, .int .i64 a, .int .i64 o, p.val]
  | flip n a p => #[.int .i64 n.x, .int .i64 n.y, .int .i64 n.z, .int .i64 a, p.val]
  | rep n a p => #[.int .i64 n.x, .int .i64 n.y, .int .i64 n.z, .int .i64 a, p.val]
def Sh.fa : Sh → FuncId
  | solid _ _ => 163
  | stack _ _ _ _ => 164
  | turn _ _ _ => 165
  | slice _ _ _ _ => 166
  | flip _ _ _ => 162
  | rep _ _ _ => 167
theorem Sh.val_eq (s : Sh) : s.val = .iface s.ty (.agg s.ag) := by cases s <;> rfl
theorem Sh.me (s : Sh) : ∀ w, (method 302 s.ty (.agg s.ag) "pantoscope/slab.extents").run Tryd.prog w = .ok (161, val3 s.ext) w := by
  cases s <;> (intro w; unfold Sh.ty Sh.ag Sh.ext; dsimp only; kernel_rfl)
theorem Sh.ma (s : Sh) : ∀ w, (method 302 s.ty (.agg s.ag) "pantoscope/slab.at").run Tryd.prog w = .ok (s.fa, .agg s.ag) w := by
  cases s <;> (intro w; unfold Sh.ty Sh.ag Sh.fa; dsimp only; kernel_rfl)
theorem Sh.ea (s : Sh) : ∀ args w, (callFunc s.fa args).run Tryd.prog w = .ok (.enter s.fa args) w := by
  cases s <;> (intro args w; unfold Sh.fa; dsimp only; kernel_rfl)
end Go.Proofs.YtbcnkcndhgihaaaDoor

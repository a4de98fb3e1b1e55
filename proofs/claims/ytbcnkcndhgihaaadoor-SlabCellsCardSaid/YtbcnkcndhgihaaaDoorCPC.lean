/- Blocks: the reference's Layer, the law of the cells: the walks. -/
import Derived.Test.YtbcnkcndhgihaaaDoorCPB
import Derived.Test.YtbcnkcndhgihaaaDoorSane
namespace Go.Proofs.YtbcnkcndhgihaaaDoor
open Go.RowKit
set_option linter.unusedSimpArgs false

theorem retT_TE {l : List ByteArray} {w w' : World} {A : Option Addr} {c : Nat} (hr : RdST w' w'.heap.size A l) (hc : l.length ≤ c) (hb : Below w.heap.size w w') : RetTE l 0 w (.returned (.tuple #[.slice A l.length c, .int .i64 0])) w' := ⟨A, c, rfl, hr, hc, hb⟩
set_option maxRecDepth 100000 in
set_option maxHeartbeats 4000000 in
theorem refLayer_any (b : BT) (a n : Int) (w : World) (hb : OkB w w.heap.size b) : Calls Tryd.prog 23 #[valB b, .int .i64 a, .int .i64 n] w (RetTE (layerB b a n).1 (layerB b a n).2 w) := by
  have hmx : Tryd.prog.follows .mixedOrders = true := by kernel_rfl
  obtain ⟨wa, hwa⟩ : ∃ wa, w.alloc (.cells #[.int .i64 b.op, .int .i64 b.ax, .int .u8 b.co, .int .i64 b.n0, .int .i64 b.n1, .int .i64 b.n2, .slice b.A b.ps.length b.cp] 25) = wa := ⟨_, rfl⟩
  have hBa : Below w.heap.size w wa := by rw [← hwa]; (repeat (first | exact Below.refl _ _ | assumption | refine Below.alloc ?_ (by first | exact Nat.le_refl _ | exact Below.size (by assumption) | omega | (simp <;> omega)) _ | refine Below.setCell ?_ (by first | exact Nat.le_refl _ | exact Below.size (by assumption) | omega | (simp <;> omega)) _ | refine below_drewN ?_ _ | refine Below.drew ?_))
  have hza : wa.heap.size = w.heap.size + 1 := by rw [← hwa]; simp
  have HXA : Hid (∀ W, Below wa.heap.size wa W → BxB W w.heap.size b) := by
    intro W hW
    have h1 := BxB.new w b 25
    rw [hwa] at h1
    exact h1.under hW (by omega)
  have HE := Lib.hid (refExtent_any b wa (hb.now hBa))
  have HOK := Lib.hid (fun W (hB : Below w.heap.size w W) => hb.now hB)
  clear hb
  have HWA := Lib.hid hwa
  clear hwa
  obtain ⟨f0, f1, f2, f3, f4, f5, f6⟩ := HXA.out wa (Below.refl _ _)
  rw [← HWA.out] at f0 f1 f2 f3 f4 f5 f6
  have hlt0 : w.heap.size < wa.heap.size := by omega
  cases hf : formS b with
  | error er =>
    have hx := form_err hf
    have hE : extB b = (⟨0, 0, 0⟩, er) := by unfold extB; rw [hf]
    have HS : Hid (layerB b a n = ([], er)) := by show _ = _; unfold layerB; rw [hf]
    rw [hE] at HE
    dsimp only at HE
    have hne : (er != 0) = true := by simp; omega
    clear hE hf hx
    go_enter Tryd.func23, Tryd.ntmps23
    go_wp2_with fail
    rw [HWA.out]
    refine HE.out.mono ?_
    rintro e w2 ⟨rfl, hb2⟩
    have hB2 := hBa.trans (hb2.mono hBa.size)
    have hs2 := hB2.size
    clear f0 f1 f2 f3 f4 f5 f6
    go_wp2
    go_ret2
    rw [HS.out]
    exact retTE_nil rfl (by (repeat (first | exact Below.refl _ _ | assumption | refine Below.alloc ?_ (by first | exact Nat.le_refl _ | exact Below.size (by assumption) | omega | (simp <;> omega)) _ | refine Below.setCell ?_ (by first | exact Nat.le_refl _ | exact Below.size (by assumption) | omega | (simp <;> omega)) _ | refine below_drewN ?_ _ | refine Below.drew ?_)))
  | ok S =>
    have hE : extB b = (S.ext, 0) := by unfold extB; rw [hf]
    have HSP : Hid (layerB b a n = if 0 ≤ a ∧ a ≤ 2 ∧ 0 ≤ n ∧ n < S.ext.get a then (layerS S a n, 0) else ([], 2)) := by show _ = _; unfold layerB; rw [hf]
    have HPL := Lib.hid (plane_layer S a n)
    have hbd := (form_ok hf).ext
    rw [hE] at HE
    dsimp only at HE
    obtain ⟨t, ht⟩ : ∃ t, S.ext = t := ⟨_, rfl⟩
    rw [ht] at HE HSP hbd HPL
    have HT := Lib.hid ht
    obtain ⟨t1, t2, t3⟩ := t
    unfold ExtOk at hbd
    dsimp only at hbd
    obtain ⟨m1, hm1⟩ : ∃ m1 : Nat, t1 = (m1 : Int) := ⟨t1.toNat, by omega⟩
    obtain ⟨m2, hm2⟩ : ∃ m2 : Nat, t2 = (m2 : Int) := ⟨t2.toNat, by omega⟩
    obtain ⟨m3, hm3⟩ : ∃ m3 : Nat, t3 = (m3 : Int) := ⟨t3.toNat, by omega⟩
    subst hm1 hm2 hm3
    have HF := Lib.hid hf
    clear hE hf ht
    by_cases ha : 0 ≤ a ∧ a ≤ 2
    · have ha3 : a = 0 ∨ a = 1 ∨ a = 2 := by omega
      clear ha
      rcases ha3 with rfl | rfl | rfl
      · by_cases hn : 0 ≤ n ∧ n < (m1 : Int)
        · have HS := Lib.hid (HSP.out.trans (if_pos ⟨by omega, by omega, hn.1, hn.2⟩))
          have hpl : planeS S 0 n 0 0 m2 m3 = layerS S 0 n := HPL.out
          have HK := Lib.hid (fun W (hB : Below w.heap.size w W) => plane0_any b S HF.out n 0 0 m2 m3 (by omega) (by omega) (by omega) (by omega) (fun r m h1 h2 => by
            rw [HT.out]
            unfold InE
            refine ⟨⟨?_, ?_⟩, ⟨?_, ?_⟩, ?_, ?_⟩ <;> (dsimp only; omega)) W (HOK.out W hB))
          rw [hpl] at HK
          obtain ⟨hn1, hn2⟩ := hn
          clear hpl
          go_enter Tryd.func23, Tryd.ntmps23
          go_wp2_with fail
          rw [HWA.out]
          refine HE.out.mono ?_
          rintro e w2 ⟨rfl, hb2⟩
          have hB2 := hBa.trans (hb2.mono hBa.size)
          have hs2 := hb2.size
          clear f0 f1 f2 f3 f4 f5 f6
          have HZ : Hid (∀ W, Below (w2.alloc (.cells #[.int .i64 (m1 : Int), .int .i64 (m2 : Int), .int .i64 (m3 : Int)] 22)).heap.size (w2.alloc (.cells #[.int .i64 (m1 : Int), .int .i64 (m2 : Int), .int .i64 (m3 : Int)] 22)) W → BxB W w.heap.size b ∧ CX W w2.heap.size ⟨(m1 : Int), (m2 : Int), (m3 : Int)⟩ ∧ Below w.heap.size w W) := by
            intro W h
            have h4 : Below w2.heap.size w2 W := below_next (by (repeat (first | exact Below.refl _ _ | assumption | refine Below.alloc ?_ (by first | exact Nat.le_refl _ | exact Below.size (by assumption) | omega | (simp <;> omega)) _ | refine Below.setCell ?_ (by first | exact Nat.le_refl _ | exact Below.size (by assumption) | omega | (simp <;> omega)) _ | refine below_drewN ?_ _ | refine Below.drew ?_))) h
            have h5 := hb2.trans (h4.mono hs2)
            exact ⟨HXA.out W h5, (CX.new w2 ⟨(m1 : Int), (m2 : Int), (m3 : Int)⟩).below h (by simp), hBa.trans (h5.mono hBa.size)⟩
          go_wp2
          obtain ⟨W8, hW8⟩ : ∃ W8, w2.alloc (.cells #[.int .i64 (m1 : Int), .int .i64 (m2 : Int), .int .i64 (m3 : Int)] 22) = W8 := ⟨_, rfl⟩
          rw [hW8] at HZ ⊢
          clear hW8
          obtain ⟨⟨f0, f1, f2, f3, f4, f5, f6⟩, hX, hBW⟩ := HZ.out W8.drew (by (repeat (first | exact Below.refl _ _ | assumption | refine Below.alloc ?_ (by first | exact Nat.le_refl _ | exact Below.size (by assumption) | omega | (simp <;> omega)) _ | refine Below.setCell ?_ (by first | exact Nat.le_refl _ | exact Below.size (by assumption) | omega | (simp <;> omega)) _ | refine below_drewN ?_ _ | refine Below.drew ?_)))
          obtain ⟨x0, x1, x2, _⟩ := hX.c
          have HK2 := Lib.hid (HK.out W8.drew hBW)
          clear hX
          go_region_with (refine HK2.out.mono ?_; rintro e w5 ⟨A9, c9, rfl, hr9, hc9, hb9⟩; have HR9 := Lib.hid hr9; have HC9 := Lib.hid hc9; clear hr9 hc9)
          all_goals
            go_wp2
            go_ret2
            rw [HS.out]
            exact retT_TE HR9.out HC9.out (hBW.trans (hb9.mono hBW.size))
        · have HS := Lib.hid (HSP.out.trans (if_neg (fun h => hn ⟨h.2.2.1, h.2.2.2⟩)))
          rcases (show n < 0 ∨ (¬ n < 0 ∧ (m1 : Int) ≤ n) by omega) with h | ⟨h, h2⟩
          all_goals
            clear hn
            go_enter Tryd.func23, Tryd.ntmps23
            go_wp2_with fail
            rw [HWA.out]
            refine HE.out.mono ?_
            rintro e w2 ⟨rfl, hb2⟩
            have hB2 := hBa.trans (hb2.mono hBa.size)
            have hs2 := hB2.size
            clear f0 f1 f2 f3 f4 f5 f6
            go_wp2
            go_ret2
            rw [HS.out]
            exact retTE_nil rfl (by (repeat (first | exact Below.refl _ _ | assumption | refine Below.alloc ?_ (by first | exact Nat.le_refl _ | exact Below.size (by assumption) | omega | (simp <;> omega)) _ | refine Below.setCell ?_ (by first | exact Nat.le_refl _ | exact Below.size (by assumption) | omega | (simp <;> omega)) _ | refine below_drewN ?_ _ | refine Below.drew ?_)))
      · by_cases hn : 0 ≤ n ∧ n < (m2 : Int)
        · have HS := Lib.hid (HSP.out.trans (if_pos ⟨by omega, by omega, hn.1, hn.2⟩))
          have hpl : planeS S 1 n 0 0 m1 m3 = layerS S 1 n := HPL.out
          have HK := Lib.hid (fun W (hB : Below w.heap.size w W) => plane1_any b S HF.out n 0 0 m1 m3 (by omega) (by omega) (by omega) (by omega) (fun r m h1 h2 => by
            rw [HT.out]
            unfold InE
            refine ⟨⟨?_, ?_⟩, ⟨?_, ?_⟩, ?_, ?_⟩ <;> (dsimp only; omega)) W (HOK.out W hB))
          rw [hpl] at HK
          obtain ⟨hn1, hn2⟩ := hn
          clear hpl
          go_enter Tryd.func23, Tryd.ntmps23
          go_wp2_with fail
          rw [HWA.out]
          refine HE.out.mono ?_
          rintro e w2 ⟨rfl, hb2⟩
          have hB2 := hBa.trans (hb2.mono hBa.size)
          have hs2 := hb2.size
          clear f0 f1 f2 f3 f4 f5 f6
          have HZ : Hid (∀ W, Below (w2.alloc (.cells #[.int .i64 (m1 : Int), .int .i64 (m2 : Int), .int .i64 (m3 : Int)] 22)).heap.size (w2.alloc (.cells #[.int .i64 (m1 : Int), .int .i64 (m2 : Int), .int .i64 (m3 : Int)] 22)) W → BxB W w.heap.size b ∧ CX W w2.heap.size ⟨(m1 : Int), (m2 : Int), (m3 : Int)⟩ ∧ Below w.heap.size w W) := by
            intro W h
            have h4 : Below w2.heap.size w2 W := below_next (by (repeat (first | exact Below.refl _ _ | assumption | refine Below.alloc ?_ (by first | exact Nat.le_refl _ | exact Below.size (by assumption) | omega | (simp <;> omega)) _ | refine Below.setCell ?_ (by first | exact Nat.le_refl _ | exact Below.size (by assumption) | omega | (simp <;> omega)) _ | refine below_drewN ?_ _ | refine Below.drew ?_))) h
            have h5 := hb2.trans (h4.mono hs2)
            exact ⟨HXA.out W h5, (CX.new w2 ⟨(m1 : Int), (m2 : Int), (m3 : Int)⟩).below h (by simp), hBa.trans (h5.mono hBa.size)⟩
          go_wp2
          obtain ⟨W8, hW8⟩ : ∃ W8, w2.alloc (.cells #[.int .i64 (m1 : Int), .int .i64 (m2 : Int), .int .i64 (m3 : Int)] 22) = W8 := ⟨_, rfl⟩
          rw [hW8] at HZ ⊢
          clear hW8
          obtain ⟨⟨f0, f1, f2, f3, f4, f5, f6⟩, hX, hBW⟩ := HZ.out W8.drew (by (repeat (first | exact Below.refl _ _ | assumption | refine Below.alloc ?_ (by first | exact Nat.le_refl _ | exact Below.size (by assumption) | omega | (simp <;> omega)) _ | refine Below.setCell ?_ (by first | exact Nat.le_refl _ | exact Below.size (by assumption) | omega | (simp <;> omega)) _ | refine below_drewN ?_ _ | refine Below.drew ?_)))
          obtain ⟨x0, x1, x2, _⟩ := hX.c
          have HK2 := Lib.hid (HK.out W8.drew hBW)
          clear hX
          go_region_with (refine HK2.out.mono ?_; rintro e w5 ⟨A9, c9, rfl, hr9, hc9, hb9⟩; have HR9 := Lib.hid hr9; have HC9 := Lib.hid hc9; clear hr9 hc9)
          all_goals
            go_wp2
            go_ret2
            rw [HS.out]
            exact retT_TE HR9.out HC9.out (hBW.trans (hb9.mono hBW.size))
        · have HS := Lib.hid (HSP.out.trans (if_neg (fun h => hn ⟨h.2.2.1, h.2.2.2⟩)))
          rcases (show n < 0 ∨ (¬ n < 0 ∧ (m2 : Int) ≤ n) by omega) with h | ⟨h, h2⟩
          all_goals
            clear hn
            go_enter Tryd.func23, Tryd.ntmps23
            go_wp2_with fail
            rw [HWA.out]
            refine HE.out.mono ?_
            rintro e w2 ⟨rfl, hb2⟩
            have hB2 := hBa.trans (hb2.mono hBa.size)
            have hs2 := hB2.size
            clear f0 f1 f2 f3 f4 f5 f6
            go_wp2
            go_ret2
            rw [HS.out]
            exact retTE_nil rfl (by (repeat (first | exact Below.refl _ _ | assumption | refine Below.alloc ?_ (by first | exact Nat.le_refl _ | exact Below.size (by assumption) | omega | (simp <;> omega)) _ | refine Below.setCell ?_ (by first | exact Nat.le_refl _ | exact Below.size (by assumption) | omega | (simp <;> omega)) _ | refine below_drewN ?_ _ | refine Below.drew ?_)))
      · by_cases hn : 0 ≤ n ∧ n < (m3 : Int)
        · have HS := Lib.hid (HSP.out.trans (if_pos ⟨by omega, by omega, hn.1, hn.2⟩))
          have hpl : planeS S 2 n 0 0 m1 m2 = layerS S 2 n := HPL.out
          have HK := Lib.hid (fun W (hB : Below w.heap.size w W) => plane2_any b S HF.out n 0 0 m1 m2 (by omega) (by omega) (by omega) (by omega) (fun r m h1 h2 => by
            rw [HT.out]
            unfold InE
            refine ⟨⟨?_, ?_⟩, ⟨?_, ?_⟩, ?_, ?_⟩ <;> (dsimp only; omega)) W (HOK.out W hB))
          rw [hpl] at HK
          obtain ⟨hn1, hn2⟩ := hn
          clear hpl
          go_enter Tryd.func23, Tryd.ntmps23
          go_wp2_with fail
          rw [HWA.out]
          refine HE.out.mono ?_
          rintro e w2 ⟨rfl, hb2⟩
          have hB2 := hBa.trans (hb2.mono hBa.size)
          have hs2 := hb2.size
          clear f0 f1 f2 f3 f4 f5 f6
          have HZ : Hid (∀ W, Below (w2.alloc (.cells #[.int .i64 (m1 : Int), .int .i64 (m2 : Int), .int .i64 (m3 : Int)] 22)).heap.size (w2.alloc (.cells #[.int .i64 (m1 : Int), .int .i64 (m2 : Int), .int .i64 (m3 : Int)] 22)) W → BxB W w.heap.size b ∧ CX W w2.heap.size ⟨(m1 : Int), (m2 : Int), (m3 : Int)⟩ ∧ Below w.heap.size w W) := by
            intro W h
            have h4 : Below w2.heap.size w2 W := below_next (by (repeat (first | exact Below.refl _ _ | assumption | refine Below.alloc ?_ (by first | exact Nat.le_refl _ | exact Below.size (by assumption) | omega | (simp <;> omega)) _ | refine Below.setCell ?_ (by first | exact Nat.le_refl _ | exact Below.size (by assumption) | omega | (simp <;> omega)) _ | refine below_drewN ?_ _ | refine Below.drew ?_))) h
            have h5 := hb2.trans (h4.mono hs2)
            exact ⟨HXA.out W h5, (CX.new w2 ⟨(m1 : Int), (m2 : Int), (m3 : Int)⟩).below h (by simp), hBa.trans (h5.mono hBa.size)⟩
          go_wp2
          obtain ⟨W8, hW8⟩ : ∃ W8, w2.alloc (.cells #[.int .i64 (m1 : Int), .int .i64 (m2 : Int), .int .i64 (m3 : Int)] 22) = W8 := ⟨_, rfl⟩
          rw [hW8] at HZ ⊢
          clear hW8
          obtain ⟨⟨f0, f1, f2, f3, f4, f5, f6⟩, hX, hBW⟩ := HZ.out W8.drew (by (repeat (first | exact Below.refl _ _ | assumption | refine Below.alloc ?_ (by first | exact Nat.le_refl _ | exact Below.size (by assumption) | omega | (simp <;> omega)) _ | refine Below.setCell ?_ (by first | exact Nat.le_refl _ | exact Below.size (by assumption) | omega | (simp <;> omega)) _ | refine below_drewN ?_ _ | refine Below.drew ?_)))
          obtain ⟨x0, x1, x2, _⟩ := hX.c
          have HK2 := Lib.hid (HK.out W8.drew hBW)
          clear hX
          go_region_with (refine HK2.out.mono ?_; rintro e w5 ⟨A9, c9, rfl, hr9, hc9, hb9⟩; have HR9 := Lib.hid hr9; have HC9 := Lib.hid hc9; clear hr9 hc9)
          all_goals
            go_wp2
            go_ret2
            rw [HS.out]
            exact retT_TE HR9.out HC9.out (hBW.trans (hb9.mono hBW.size))
        · have HS := Lib.hid (HSP.out.trans (if_neg (fun h => hn ⟨h.2.2.1, h.2.2.2⟩)))
          rcases (show n < 0 ∨ (¬ n < 0 ∧ (m3 : Int) ≤ n) by omega) with h | ⟨h, h2⟩
          all_goals
            clear hn
            go_enter Tryd.func23, Tryd.ntmps23
            go_wp2_with fail
            rw [HWA.out]
            refine HE.out.mono ?_
            rintro e w2 ⟨rfl, hb2⟩
            have hB2 := hBa.trans (hb2.mono hBa.size)
            have hs2 := hB2.size
            clear f0 f1 f2 f3 f4 f5 f6
            go_wp2
            go_ret2
            rw [HS.out]
            exact retTE_nil rfl (by (repeat (first | exact Below.refl _ _ | assumption | refine Below.alloc ?_ (by first | exact Nat.le_refl _ | exact Below.size (by assumption) | omega | (simp <;> omega)) _ | refine Below.setCell ?_ (by first | exact Nat.le_refl _ | exact Below.size (by assumption) | omega | (simp <;> omega)) _ | refine below_drewN ?_ _ | refine Below.drew ?_)))
    · have HS := Lib.hid (HSP.out.trans (if_neg (by omega)))
      rcases (show a < 0 ∨ (¬ a < 0 ∧ 2 < a) by omega) with h | ⟨h, h2⟩
      all_goals
        clear ha
        go_enter Tryd.func23, Tryd.ntmps23
        go_wp2_with fail
        rw [HWA.out]
        refine HE.out.mono ?_
        rintro e w2 ⟨rfl, hb2⟩
        have hB2 := hBa.trans (hb2.mono hBa.size)
        have hs2 := hB2.size
        clear f0 f1 f2 f3 f4 f5 f6
        go_wp2
        go_ret2
        rw [HS.out]
        exact retTE_nil rfl (by (repeat (first | exact Below.refl _ _ | assumption | refine Below.alloc ?_ (by first | exact Nat.le_refl _ | exact Below.size (by assumption) | omega | (simp <;> omega)) _ | refine Below.setCell ?_ (by first | exact Nat.le_refl _ | exact Below.size (by assumption) | omega | (simp <;> omega)) _ | refine below_drewN ?_ _ | refine Below.drew ?_)))
end Go.Proofs.YtbcnkcndhgihaaaDoor

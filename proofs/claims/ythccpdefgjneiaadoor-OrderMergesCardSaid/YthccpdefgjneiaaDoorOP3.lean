/- Valid prices of the program: the walks. Printed by genop3.py. -/
import Derived.Test.YthccpdefgjneiaaDoorOM3
import Derived.Test.YthccpdefgjneiaaDoorOP1
import Derived.Test.YthccpdefgjneiaaDoorOP2
namespace Go.Proofs.YthccpdefgjneiaaDoor
open Go.RowKit Go.Shelf Go.Maps

def priceB (r : QT) : Bool := wordB r.m && (dayB r.d && stepsB r.st)
def validPS (l : List QT) : Bool := decide (l.length ≤ 60) && (decide (l.map keyQ).Nodup && l.all priceB)
/-- What an argument's strings, numbers and steps are. -/
def OkQ (w : World) (l : List QT) : Prop := ∀ p ∈ l, OkK (keyQ p) ∧ RdT2 w w.heap.size p.A p.st ∧ p.st.length ≤ maxLen
theorem OkQ.now {w w' : World} {l : List QT} (h : OkQ w l) (hb : Below w.heap.size w w') : OkQ w' l := fun p hp => ⟨(h p hp).1, (h p hp).2.1.now hb, (h p hp).2.2⟩
theorem okQ_size {w : World} {l : List QT} (h : OkQ w l) {p : QT} (hp : p ∈ l) : p.m.size ≤ 9223372036854775807 := by have := (h p hp).1.1; unfold maxLen at this; exact this

set_option maxRecDepth 100000 in
set_option maxHeartbeats 1000000 in
theorem vp1_any (r : QT) (w : World) (hs : r.m.size ≤ 9223372036854775807) (hr : RdT2 w w.heap.size r.A r.st) (hl : r.st.length ≤ maxLen) : Calls Tryd.prog 61 #[valQ r] w (Ret (.bool (!priceB r)) w) := by
  obtain ⟨wz, hwz⟩ : ∃ wz, w.alloc (.cells #[.string r.m, .int .i64 r.d, .slice r.A r.st.length r.cp] 54) = wz := ⟨_, rfl⟩
  have hbz : Below w.heap.size w wz := by rw [← hwz]; (repeat (first | exact Below.refl _ _ | assumption | refine Below.alloc ?_ (by first | exact Nat.le_refl _ | exact Below.size (by assumption) | omega | (simp <;> omega)) _ | refine Below.setCell ?_ (by first | exact Nat.le_refl _ | exact Below.size (by assumption) | omega | (simp <;> omega)) _ | refine below_drewN ?_ _ | refine Below.drew ?_))
  have hsz : wz.heap.size = w.heap.size + 1 := by rw [← hwz]; simp
  have HR := Lib.hid (hr.now hbz); clear hr
  have HLL := Lib.hid hl; clear hl
  have HZ := Lib.hid (show AtQ wz w.heap.size r by rw [← hwz]; exact AtQ.new w r)
  obtain ⟨x0, x1, x2⟩ := HZ.out
  have hb2' : ∀ w2, Below wz.heap.size wz w2 → AtQ w2 w.heap.size r := fun w2 h => HZ.out.below h (by omega)
  have HB2 := Lib.hid hb2'; clear hb2'
  cases h0 : wordB r.m
  · have HS := Lib.hid (show priceB r = false by unfold priceB; simp [h0])
    have H0 := Lib.hid h0; clear h0
    go_enter Tryd.func61, Tryd.ntmps61
    go_wp2_with fail
    refine (word_any r.m _ hs).mono ?_
    rintro e w2 ⟨rfl, hb2⟩
    rw [H0.out]
    clear x0 x1 x2
    obtain ⟨x0, x1, x2⟩ := HB2.out w2 hb2
    have hz2 : w.heap.size < w2.heap.size := by have := hb2.size; omega
    have hB := hbz.trans (hb2.mono hbz.size)
    go_wp2_with fail
    go_ret
    exact Ret.mk (by rw [HS.out] <;> rfl) hB
  have H0 := Lib.hid h0
  cases h1 : dayB r.d
  · have HS := Lib.hid (show priceB r = false by unfold priceB; simp [h0, h1])
    have H1 := Lib.hid h1; clear h1
    clear h0
    go_enter Tryd.func61, Tryd.ntmps61
    go_wp2_with fail
    refine (word_any r.m _ hs).mono ?_
    rintro e w2 ⟨rfl, hb2⟩
    rw [H0.out]
    clear x0 x1 x2
    obtain ⟨x0, x1, x2⟩ := HB2.out w2 hb2
    have hz2 : w.heap.size < w2.heap.size := by have := hb2.size; omega
    have hB := hbz.trans (hb2.mono hbz.size)
    go_wp2_with fail
    refine (day_any r.d _).mono ?_
    rintro e w3 ⟨rfl, rfl⟩
    rw [H1.out]
    go_wp2_with fail
    go_ret
    exact Ret.mk (by rw [HS.out] <;> rfl) hB
  have H1 := Lib.hid h1
  cases h2 : stepsB r.st
  · have HS := Lib.hid (show priceB r = false by unfold priceB; simp [h0, h1, h2])
    have H2 := Lib.hid h2; clear h2
    clear h0 h1
    go_enter Tryd.func61, Tryd.ntmps61
    go_wp2_with fail
    refine (word_any r.m _ hs).mono ?_
    rintro e w2 ⟨rfl, hb2⟩
    rw [H0.out]
    clear x0 x1 x2
    obtain ⟨x0, x1, x2⟩ := HB2.out w2 hb2
    have hz2 : w.heap.size < w2.heap.size := by have := hb2.size; omega
    have hB := hbz.trans (hb2.mono hbz.size)
    go_wp2_with fail
    refine (day_any r.d _).mono ?_
    rintro e w3 ⟨rfl, rfl⟩
    rw [H1.out]
    go_wp2_with fail
    refine (steps_any r.A r.cp r.st _ (HR.out.now hb2) HLL.out).mono ?_
    rintro e w4 ⟨rfl, hb4⟩
    rw [H2.out]
    have hB := hB.trans (hb4.mono hB.size)
    go_wp2_with fail
    go_ret
    exact Ret.mk (by rw [HS.out] <;> rfl) hB
  have H2 := Lib.hid h2
  have HS := Lib.hid (show priceB r = true by unfold priceB; simp [h0, h1, h2])
  clear h0 h1 h2
  go_enter Tryd.func61, Tryd.ntmps61
  go_wp2_with fail
  refine (word_any r.m _ hs).mono ?_
  rintro e w2 ⟨rfl, hb2⟩
  rw [H0.out]
  clear x0 x1 x2
  obtain ⟨x0, x1, x2⟩ := HB2.out w2 hb2
  have hz2 : w.heap.size < w2.heap.size := by have := hb2.size; omega
  have hB := hbz.trans (hb2.mono hbz.size)
  go_wp2_with fail
  refine (day_any r.d _).mono ?_
  rintro e w3 ⟨rfl, rfl⟩
  rw [H1.out]
  go_wp2_with fail
  refine (steps_any r.A r.cp r.st _ (HR.out.now hb2) HLL.out).mono ?_
  rintro e w4 ⟨rfl, hb4⟩
  rw [H2.out]
  have hB := hB.trans (hb4.mono hB.size)
  go_wp2_with fail
  go_ret
  exact Ret.mk (by rw [HS.out] <;> rfl) hB

set_option maxRecDepth 100000 in
set_option maxHeartbeats 1000000 in
theorem validP_any (A : Option Addr) (c : Nat) (l : List QT) (w : World) (ho : OkQ w l) (hl : RdQ w w.heap.size A l) : Calls Tryd.prog 25 #[.slice A l.length c] w (Ret (.bool (validPS l)) w) := by
  have HL := Lib.hid hl; clear hl
  have hk : ∀ p ∈ l.map keyQ, OkK p := fun p hp => by obtain ⟨r, hr, rfl⟩ := List.mem_map.1 hp; exact (ho r hr).1
  by_cases h60 : 60 < l.length
  · have HS := Lib.hid (show validPS l = false by unfold validPS; rw [decide_eq_false (by omega)]; rfl)
    have h60I : (60 : Int) < (l.length : Int) := by omega
    go_enter Tryd.func25, Tryd.ntmps25
    go_wp2
    go_ret
    exact Ret.mk (by rw [HS.out] <;> rfl) (Below.refl _ _)
  have h60I : ¬ (60 : Int) < (l.length : Int) := by omega
  have HON := Lib.hid (onceQ_any A c l w (by omega) hk HL.out)
  cases hn : decide (l.map keyQ).Nodup
  · have HS := Lib.hid (show validPS l = false by unfold validPS; rw [hn]; simp)
    have HN := Lib.hid hn; clear hn
    go_enter Tryd.func25, Tryd.ntmps25
    go_wp2_with fail
    refine HON.out.mono ?_
    rintro e w2 ⟨rfl, hb2⟩
    rw [HN.out]
    go_wp2
    go_ret
    exact Ret.mk (by rw [HS.out] <;> rfl) hb2
  have HS := Lib.hid (show validPS l = !(l.any fun r => !priceB r) by unfold validPS; rw [hn, decide_eq_true (by omega), Bool.true_and, Bool.true_and]; simp [List.all_eq_not_any_not])
  have HN := Lib.hid hn; clear hn
  have hmx : l.length ≤ 1000000 := by omega
  have hte : ∀ W, Below w.heap.size w W → TellsQ 61 #[] (fun r => !priceB r) l W := fun W hW => ⟨enters_of Tryd.func61 (by kernel_rfl) rfl, fun W' p hp hW' => vp1_any p W' (okQ_size ho hp) ((ho p hp).2.1.now (hW.trans (hW'.mono hW.size))) (ho p hp).2.2⟩
  have HT := Lib.hid hte; clear hte
  go_enter Tryd.func25, Tryd.ntmps25
  go_wp2_with fail
  refine HON.out.mono ?_
  rintro e w2 ⟨rfl, hb2⟩
  rw [HN.out]
  go_wp2_with fail
  refine (containsFuncQ_any 61 #[] (fun r => !priceB r) A c l _ (HT.out _ hb2) hmx (HL.out.now hb2)).mono ?_
  rintro e w3 ⟨rfl, hb3⟩
  go_wp2
  go_ret
  exact Ret.mk (by rw [HS.out] <;> rfl) (hb2.trans (hb3.mono hb2.size))
end Go.Proofs.YthccpdefgjneiaaDoor

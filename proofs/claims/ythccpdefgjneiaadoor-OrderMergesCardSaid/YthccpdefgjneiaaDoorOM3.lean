/- Valid rates of both: the walks. Printed by genom3.py. -/
import Derived.Test.YthccpdefgjneiaaDoorOM2
import Derived.Test.YthccpdefgjneiaaDoorOW3
import Derived.Test.YthccpdefgjneiaaDoorRound
namespace Go.Proofs.YthccpdefgjneiaaDoor
open Go.RowKit Go.Shelf Go.Maps

def isEur (s : ByteArray) : Bool := s.toList == [69, 85, 82]
def rateB (r : RT) : Bool := curB r.c && (!isEur r.c && (dayB r.d && (bet 1 r.n 1000000 && bet 1 r.m 1000000)))
def validRS (l : List RT) : Bool := decide (l.length ≤ 60) && (decide (l.map keyT).Nodup && l.all rateB)
/-- What an argument's strings and numbers are. -/
def OkT (l : List RT) : Prop := ∀ r ∈ l, OkK (keyT r)


set_option maxRecDepth 100000 in
set_option maxHeartbeats 1000000 in
theorem vr1_any (r : RT) (w : World) (hs : r.c.size ≤ 9223372036854775807) : Calls Tryd.prog 68 #[valT r] w (Ret (.bool (!rateB r)) w) := by
  obtain ⟨wz, hwz⟩ : ∃ wz, w.alloc (.cells #[.string r.c, .int .i64 r.d, .int .i64 r.n, .int .i64 r.m] 70) = wz := ⟨_, rfl⟩
  have hbz : Below w.heap.size w wz := by rw [← hwz]; (repeat (first | exact Below.refl _ _ | assumption | refine Below.alloc ?_ (by first | exact Nat.le_refl _ | exact Below.size (by assumption) | omega | (simp <;> omega)) _ | refine Below.setCell ?_ (by first | exact Nat.le_refl _ | exact Below.size (by assumption) | omega | (simp <;> omega)) _ | refine below_drewN ?_ _ | refine Below.drew ?_))
  have hsz : wz.heap.size = w.heap.size + 1 := by rw [← hwz]; simp
  have HZ := Lib.hid (show AtT wz w.heap.size r by rw [← hwz]; exact AtT.new w r)
  obtain ⟨x0, x1, x2, x3⟩ := HZ.out
  have hb2' : ∀ w2, Below wz.heap.size wz w2 → AtT w2 w.heap.size r := fun w2 h => HZ.out.below h (by omega)
  have HB2 := Lib.hid hb2'; clear hb2'
  cases h0 : curB r.c
  · have HS := Lib.hid (show rateB r = false by unfold rateB; simp [h0])
    have H0 := Lib.hid h0; clear h0
    go_enter Tryd.func68, Tryd.ntmps68
    go_wp2_with fail
    refine (currency_any r.c _ hs).mono ?_
    rintro e w2 ⟨rfl, hb2⟩
    rw [H0.out]
    clear x0 x1 x2 x3
    obtain ⟨x0, x1, x2, x3⟩ := HB2.out w2 hb2
    have hz2 : w.heap.size < w2.heap.size := by have := hb2.size; omega
    go_wp2_with fail
    go_ret
    exact Ret.mk (by rw [HS.out] <;> rfl) (hbz.trans (hb2.mono hbz.size))
  have H0 := Lib.hid h0
  cases h1 : isEur r.c
  rotate_left
  · have HS := Lib.hid (show rateB r = false by unfold rateB; simp [h0, h1])
    have he : (r.c.toList == [69, 85, 82]) = true := h1
    clear h1
    clear h0
    go_enter Tryd.func68, Tryd.ntmps68
    go_wp2_with fail
    refine (currency_any r.c _ hs).mono ?_
    rintro e w2 ⟨rfl, hb2⟩
    rw [H0.out]
    clear x0 x1 x2 x3
    obtain ⟨x0, x1, x2, x3⟩ := HB2.out w2 hb2
    have hz2 : w.heap.size < w2.heap.size := by have := hb2.size; omega
    go_wp2_with fail
    go_ret
    exact Ret.mk (by rw [HS.out] <;> rfl) (hbz.trans (hb2.mono hbz.size))
  have he : (r.c.toList == [69, 85, 82]) = false := h1
  cases h2 : dayB r.d
  · have HS := Lib.hid (show rateB r = false by unfold rateB; simp [h0, h1, h2])
    have H2 := Lib.hid h2; clear h2
    clear h0 h1
    go_enter Tryd.func68, Tryd.ntmps68
    go_wp2_with fail
    refine (currency_any r.c _ hs).mono ?_
    rintro e w2 ⟨rfl, hb2⟩
    rw [H0.out]
    clear x0 x1 x2 x3
    obtain ⟨x0, x1, x2, x3⟩ := HB2.out w2 hb2
    have hz2 : w.heap.size < w2.heap.size := by have := hb2.size; omega
    go_wp2_with fail
    refine (day_any r.d _).mono ?_
    rintro e w3 ⟨rfl, rfl⟩
    rw [H2.out]
    go_wp2_with fail
    go_ret
    exact Ret.mk (by rw [HS.out] <;> rfl) (hbz.trans (hb2.mono hbz.size))
  have H2 := Lib.hid h2
  cases h3 : bet 1 r.n 1000000
  · have HS := Lib.hid (show rateB r = false by unfold rateB; simp [h0, h1, h2, h3])
    have H3 := Lib.hid h3; clear h3
    clear h0 h1 h2
    go_enter Tryd.func68, Tryd.ntmps68
    go_wp2_with fail
    refine (currency_any r.c _ hs).mono ?_
    rintro e w2 ⟨rfl, hb2⟩
    rw [H0.out]
    clear x0 x1 x2 x3
    obtain ⟨x0, x1, x2, x3⟩ := HB2.out w2 hb2
    have hz2 : w.heap.size < w2.heap.size := by have := hb2.size; omega
    go_wp2_with fail
    refine (day_any r.d _).mono ?_
    rintro e w3 ⟨rfl, rfl⟩
    rw [H2.out]
    go_wp2_with fail
    refine (bet_any 1 r.n 1000000 _).mono ?_
    rintro e w4 ⟨rfl, rfl⟩
    rw [H3.out]
    go_wp2_with fail
    go_ret
    exact Ret.mk (by rw [HS.out] <;> rfl) (hbz.trans (hb2.mono hbz.size))
  have H3 := Lib.hid h3
  cases h4 : bet 1 r.m 1000000
  · have HS := Lib.hid (show rateB r = false by unfold rateB; simp [h0, h1, h2, h3, h4])
    have H4 := Lib.hid h4; clear h4
    clear h0 h1 h2 h3
    go_enter Tryd.func68, Tryd.ntmps68
    go_wp2_with fail
    refine (currency_any r.c _ hs).mono ?_
    rintro e w2 ⟨rfl, hb2⟩
    rw [H0.out]
    clear x0 x1 x2 x3
    obtain ⟨x0, x1, x2, x3⟩ := HB2.out w2 hb2
    have hz2 : w.heap.size < w2.heap.size := by have := hb2.size; omega
    go_wp2_with fail
    refine (day_any r.d _).mono ?_
    rintro e w3 ⟨rfl, rfl⟩
    rw [H2.out]
    go_wp2_with fail
    refine (bet_any 1 r.n 1000000 _).mono ?_
    rintro e w4 ⟨rfl, rfl⟩
    rw [H3.out]
    go_wp2_with fail
    refine (bet_any 1 r.m 1000000 _).mono ?_
    rintro e w5 ⟨rfl, rfl⟩
    rw [H4.out]
    go_wp2_with fail
    go_ret
    exact Ret.mk (by rw [HS.out] <;> rfl) (hbz.trans (hb2.mono hbz.size))
  have H4 := Lib.hid h4
  have HS := Lib.hid (show rateB r = true by unfold rateB; simp [h0, h1, h2, h3, h4])
  clear h0 h1 h2 h3 h4
  go_enter Tryd.func68, Tryd.ntmps68
  go_wp2_with fail
  refine (currency_any r.c _ hs).mono ?_
  rintro e w2 ⟨rfl, hb2⟩
  rw [H0.out]
  clear x0 x1 x2 x3
  obtain ⟨x0, x1, x2, x3⟩ := HB2.out w2 hb2
  have hz2 : w.heap.size < w2.heap.size := by have := hb2.size; omega
  go_wp2_with fail
  refine (day_any r.d _).mono ?_
  rintro e w3 ⟨rfl, rfl⟩
  rw [H2.out]
  go_wp2_with fail
  refine (bet_any 1 r.n 1000000 _).mono ?_
  rintro e w4 ⟨rfl, rfl⟩
  rw [H3.out]
  go_wp2_with fail
  refine (bet_any 1 r.m 1000000 _).mono ?_
  rintro e w5 ⟨rfl, rfl⟩
  rw [H4.out]
  go_wp2_with fail
  go_ret
  exact Ret.mk (by rw [HS.out] <;> rfl) (hbz.trans (hb2.mono hbz.size))

theorem validR_any (A : Option Addr) (c : Nat) (l : List RT) (w : World) (ho : OkT l) (hl : RdT w w.heap.size A l) : Calls Tryd.prog 27 #[.slice A l.length c] w (Ret (.bool (validRS l)) w) := by
  have HL := Lib.hid hl; clear hl
  have hk : ∀ p ∈ l.map keyT, OkK p := fun p hp => by obtain ⟨r, hr, rfl⟩ := List.mem_map.1 hp; exact ho r hr
  by_cases h60 : 60 < l.length
  · have HS := Lib.hid (show validRS l = false by unfold validRS; rw [decide_eq_false (by omega)]; rfl)
    have h60I : (60 : Int) < (l.length : Int) := by omega
    go_enter Tryd.func27, Tryd.ntmps27
    go_wp2
    go_ret
    exact Ret.mk (by rw [HS.out] <;> rfl) (Below.refl _ _)
  have h60I : ¬ (60 : Int) < (l.length : Int) := by omega
  have HON := Lib.hid (onceT_any A c l w (by omega) hk HL.out)
  cases hn : decide (l.map keyT).Nodup
  · have HS := Lib.hid (show validRS l = false by unfold validRS; rw [hn]; simp)
    have HN := Lib.hid hn; clear hn
    go_enter Tryd.func27, Tryd.ntmps27
    go_wp2_with fail
    refine HON.out.mono ?_
    rintro e w2 ⟨rfl, hb2⟩
    rw [HN.out]
    go_wp2
    go_ret
    exact Ret.mk (by rw [HS.out] <;> rfl) hb2
  have HS := Lib.hid (show validRS l = !(l.any fun r => !rateB r) by unfold validRS; rw [hn, decide_eq_true (by omega), Bool.true_and, Bool.true_and]; simp [List.all_eq_not_any_not])
  have HN := Lib.hid hn; clear hn
  have hmx : l.length ≤ 1000000 := by omega
  have hte : ∀ W, TellsT 68 #[] (fun r => !rateB r) l W := fun W => ⟨enters_of Tryd.func68 (by kernel_rfl) rfl, fun W' p hp _ => vr1_any p W' (by have := (ho p hp).1; unfold maxLen at this; exact this)⟩
  have HT := Lib.hid hte; clear hte
  go_enter Tryd.func27, Tryd.ntmps27
  go_wp2_with fail
  refine HON.out.mono ?_
  rintro e w2 ⟨rfl, hb2⟩
  rw [HN.out]
  go_wp2_with fail
  refine (containsFuncT_any 68 #[] (fun r => !rateB r) A c l _ (HT.out _) hmx (HL.out.now hb2)).mono ?_
  rintro e w3 ⟨rfl, hb3⟩
  go_wp2
  go_ret
  exact Ret.mk (by rw [HS.out] <;> rfl) (hb2.trans (hb3.mono hb2.size))
end Go.Proofs.YthccpdefgjneiaaDoor

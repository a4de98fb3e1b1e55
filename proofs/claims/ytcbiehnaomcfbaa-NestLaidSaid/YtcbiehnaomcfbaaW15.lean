/- Area2, Diameter and the sanity check of the laws, in the program: the walks. -/
import Derived.Test.YtcbiehnaomcfbaaWB
import Derived.Test.YtcbiehnaomcfbaaW8
import Derived.Test.YtcbiehnaomcfbaaWG
import Derived.Test.YtcbiehnaomcfbaaMathA
namespace Go.Proofs.Ytcbiehnaomcfbaa
open Go.RowKit Go.Shelf

set_option maxRecDepth 100000 in
set_option maxHeartbeats 400000 in
theorem Area2_any (A : Option Addr) (c : Nat) (l : List XY) (w : World) (hl : Rd w w.heap.size A l) :
    Calls Try.prog 64 #[.slice A l.length c] w (Ret (.tuple #[.int .i64 (area2S l).1, .int .i64 (area2S l).2]) w) := by
  have HL := Lib.hid hl; clear hl
  cases hv : validB l
  · have HS : Hid (area2S l = (0, 10)) := by simp [Hid, area2S, hv]
    have HV := Lib.hid hv; clear hv
    go_enter Try.func64, Try.ntmps64
    go_wp2_with fail
    refine (valid_any A c l _ HL.out).mono ?_
    rintro e w1 ⟨rfl, hb1⟩
    rw [HV.out]
    go_wp2
    go_ret2
    exact Ret.mk (by rw [HS.out]; rfl) hb1
  · have HS : Hid (area2S l = (areaW l, 0)) := by simp [Hid, area2S, hv]
    have hlen := (validB_len' hv).2
    have HV := Lib.hid hv; clear hv
    go_enter Try.func64, Try.ntmps64
    go_wp2_with fail
    refine (valid_any A c l _ HL.out).mono ?_
    rintro e w1 ⟨rfl, hb1⟩
    rw [HV.out]
    go_wp2_with fail
    refine (area2_any A c l _ (by omega) (HL.out.now hb1)).mono ?_
    rintro e w2 ⟨rfl, hb2⟩
    go_wp2
    go_ret2
    exact Ret.mk (by rw [HS.out]; rfl) (hb1.trans (hb2.mono hb1.size))

theorem mostTo_succ {l : List XY} {k : Nat} {q : XY} (h : l[k]? = some q) : mostTo l (k + 1) = if mostTo l k < fourW q then fourW q else mostTo l k := by
  unfold mostTo
  rw [take_succ_of h, List.foldl_append]
  simp only [List.foldl_cons, List.foldl_nil]
  split <;> omega

/-- The square of the sanity check. -/
def square : List XY := [⟨-2, -1⟩, ⟨2, -1⟩, ⟨2, 1⟩, ⟨-2, 1⟩]
theorem square_area : area2S square = (16, 0) := by decide +kernel
theorem square_dia : diameterS square = (5, 0) := by decide +kernel

theorem rd_square (w : World) : Rd (w.alloc (.cells #[.int .i64 (-2), .int .i64 (-1), .int .i64 2, .int .i64 (-1), .int .i64 2, .int .i64 1, .int .i64 (-2), .int .i64 1] 76)) (w.heap.size + 1) (some ⟨w.heap.size, 0, none⟩) square := by
  intro i p hp
  match i, hp with
  | 0, hp => obtain rfl : ⟨-2, -1⟩ = p := by simpa [square] using hp
             exact ⟨_, 0, rfl, by omega, by simp, by simp⟩
  | 1, hp => obtain rfl : ⟨2, -1⟩ = p := by simpa [square] using hp
             exact ⟨_, 0, rfl, by omega, by simp, by simp⟩
  | 2, hp => obtain rfl : ⟨2, 1⟩ = p := by simpa [square] using hp
             exact ⟨_, 0, rfl, by omega, by simp, by simp⟩
  | 3, hp => obtain rfl : ⟨-2, 1⟩ = p := by simpa [square] using hp
             exact ⟨_, 0, rfl, by omega, by simp, by simp⟩
  | i + 4, hp => simp [square] at hp

end Go.Proofs.Ytcbiehnaomcfbaa

/- Ovens: the law of the seasons: the walk. -/
import Derived.Test.YtbcnkcndhgihaaaDoorSO2
import Derived.Test.YtbcnkcndhgihaaaDoorSO4
import Derived.Test.YtbcnkcndhgihaaaDoorSane
namespace Go.Proofs.YtbcnkcndhgihaaaDoor
open Go.RowKit Go.Shelf
set_option linter.unusedSimpArgs false

set_option maxRecDepth 100000 in
set_option maxHeartbeats 1000000 in
theorem seasons_any (A : Option Addr) (c : Nat) (n : Int) (l : List Int) (d : Int) (w : World) (hl : RdI w w.heap.size A l) (hm : l.length ≤ maxLen) (hc : l.length ≤ c) : Calls Tryd.prog 11 #[.int .i64 n, .slice A l.length c, .int .i64 d] w (Ret (.bool true) w) := by
  have hlm : l.length ≤ 9223372036854775807 := by unfold maxLen at hm; omega
  by_cases h70 : (70 : Int) < (l.length : Int)
  · clear hl hm hc
    go_enter Tryd.func11, Tryd.ntmps11
    go_wp2_with fail
    refine (sane_any w).mono ?_
    rintro e w2 ⟨rfl, hb2⟩
    go_wp2
    go_ret
    exact Ret.mk rfl hb2
  · have H1 := Lib.hid (fun W (hB : Below w.heap.size w W) => Season_any A c n l d W (hl.now hB) hm hc)
    have H2 := Lib.hid (fun W (hB : Below w.heap.size w W) => refSeason_any A c n l d W (hl.now hB) hm)
    have H3 := Lib.hid (fun W (hB : Below w.heap.size w W) => Ready_any A c n l d W (hl.now hB) hm hc)
    have H4 := Lib.hid (fun W (hB : Below w.heap.size w W) => refReady_any A c n l d W (hl.now hB) hm)
    have H5 := Lib.hid (fun W (hB : Below w.heap.size w W) => Allow_any A c n l d W (hl.now hB) hm hc)
    have H6 := Lib.hid (fun W (hB : Below w.heap.size w W) => refAllow_any A c n l d W (hl.now hB) hm)
    clear hl hm hc
    generalize seasonB n l d = x at H1 H2
    generalize readyB n l d = y at H3 H4
    generalize allowB n l d = z at H5 H6
    obtain ⟨x1, x2⟩ := x
    obtain ⟨y1, y2⟩ := y
    obtain ⟨z1, z2⟩ := z
    go_enter Tryd.func11, Tryd.ntmps11
    go_wp2_with fail
    refine (H1.out w (Below.refl _ _)).mono ?_
    rintro e w2 ⟨rfl, hb2⟩
    go_wp2_with fail
    refine (H2.out w2 hb2).mono ?_
    rintro e w9 ⟨rfl, rfl⟩
    go_wp2_with fail
    refine (H3.out _ hb2).mono ?_
    rintro e w3 ⟨rfl, hb3⟩
    have hB3 := hb2.trans (hb3.mono hb2.size)
    go_wp2_with fail
    refine (H4.out _ hB3).mono ?_
    rintro e w9 ⟨rfl, rfl⟩
    go_wp2_with fail
    refine (H5.out _ hB3).mono ?_
    rintro e w4 ⟨rfl, hb4⟩
    have hB4 := hB3.trans (hb4.mono hB3.size)
    go_wp2_with fail
    refine (H6.out _ hB4).mono ?_
    rintro e w9 ⟨rfl, rfl⟩
    go_wp2_with fail
    refine (sane_any _).mono ?_
    rintro e w5 ⟨rfl, hb5⟩
    have hB5 := hB4.trans (hb5.mono hB4.size)
    go_wp2
    go_ret
    exact Ret.mk rfl hB5
end Go.Proofs.YtbcnkcndhgihaaaDoor

/- The law OutlineSeats: the walk. -/
import Derived.Test.YtimehkeaeffcaaaW14
import Derived.Test.YtimehkeaeffcaaaW15
import Derived.Test.YtimehkeaeffcaaaW16
namespace Go.Proofs.Ytimehkeaeffcaaa
open Go.RowKit Go.Shelf

set_option maxHeartbeats 400000 in
theorem lawSeats_any (A A2 : Option Addr) (c c2 : Nat) (lens groove : List XY) (play : Int) (w : World) (hl : Rd w w.heap.size A lens) (hl2 : Rd w w.heap.size A2 groove) (he : seatS lens groove play = seat2S lens groove play) :
    Calls Try.prog 3 #[.slice A lens.length c, .slice A2 groove.length c2, .int .i64 play] w (Ret (.bool true) w) := by
  have HL := Lib.hid hl; clear hl
  have HL2 := Lib.hid hl2; clear hl2
  have HE := Lib.hid he; clear he
  go_enter Try.func3, Try.ntmps3
  go_wp2_with fail
  refine (seat_any A A2 c c2 lens groove play _ HL.out HL2.out).mono ?_
  rintro e w1 ⟨rfl, hb1⟩
  obtain ⟨⟨b, z⟩, hr⟩ : ∃ r, seat2S lens groove play = r := ⟨_, rfl⟩
  have HR := Lib.hid hr; clear hr
  rw [HE.out, HR.out]
  go_wp2_with fail
  refine (seat2_any A A2 c c2 lens groove play _ (HL.out.now hb1) (HL2.out.now hb1)).mono ?_
  rintro e w2 ⟨rfl, hb2⟩
  rw [HR.out]
  have hB2 := hb1.trans (hb2.mono hb1.size)
  clear hb1 hb2
  go_wp2_with fail
  refine (awake_any _).mono ?_
  rintro e w3 ⟨rfl, hb3⟩
  go_wp2
  go_ret
  exact Ret.mk rfl (hB2.trans (hb3.mono hB2.size))
end Go.Proofs.Ytimehkeaeffcaaa

/- The law OutlineCentres: the walk. -/
import Derived.Test.YtimehkeaeffcaaaW15
import Derived.Test.YtimehkeaeffcaaaW18
import Derived.Test.YtimehkeaeffcaaaW33
import Derived.Test.YtimehkeaeffcaaaMathE
namespace Go.Proofs.Ytimehkeaeffcaaa
open Go.RowKit Go.Shelf

set_option maxHeartbeats 2000000 in
theorem lawCentres_any (A : Option Addr) (c : Nat) (o : List XY) (w : World) (hl : Rd w w.heap.size A o) :
    Calls Try.prog 12 #[.slice A o.length c] w (Ret (.bool true) w) := by
  have HL := Lib.hid hl; clear hl
  cases hv : validB o
  · have HS : Hid (centredS o = ([], 10)) := by simp [Hid, centredS, hv]
    clear hv
    go_enter Try.func12, Try.ntmps12
    go_wp2_with fail
    refine (Centred_any A c o _ HL.out).mono ?_
    rintro e w1 ⟨v1, rfl, hown1, hb1⟩
    obtain ⟨A1, c1, rfl, hr1⟩ := own_rd hown1
    rw [HS.out] at hr1 ⊢
    dsimp only [List.length_nil]
    clear hown1
    go_wp2_with fail
    refine (awake_any _).mono ?_
    rintro e w2 ⟨rfl, hb2⟩
    go_wp2
    go_ret
    exact Ret.mk rfl (hb1.trans (hb2.mono hb1.size))
  · obtain ⟨l, hS, hvc, hS2, a, b, hbox, ha0, ha1, hb0, hb1', hr, ht, hda, hdb⟩ := centred_facts hv
    have hlen := validB_len' hvc
    have hdd : diameterS l = (diaW l, 0) := by simp [diameterS, hvc]
    have o1 : ¬ offUV 1 0 := by unfold offUV; omega
    have o2 : ¬ offUV 0 1 := by unfold offUV; omega
    have hr1 : reachS validB l 1 0 = (a - a / 2, 0) := by simp [reachS, hvc, o1, hr]
    have hr2 : reachS validB l 0 1 = (b - b / 2, 0) := by simp [reachS, hvc, o2, ht]
    clear hr ht o1 o2 hv hvc
    have HS := Lib.hid hS; clear hS
    have HS2 := Lib.hid hS2; clear hS2
    have HBX := Lib.hid hbox; clear hbox
    have HDD := Lib.hid hdd; clear hdd
    have HR1 := Lib.hid hr1; clear hr1
    have HR2 := Lib.hid hr2; clear hr2
    obtain ⟨d, hd⟩ : ∃ d, diaW l = d := ⟨_, rfl⟩
    rw [hd] at hda hdb HDD
    clear hd
    go_enter Try.func12, Try.ntmps12
    go_wp2_with fail
    refine (Centred_any A c o _ HL.out).mono ?_
    rintro e w1 ⟨v1, rfl, hown1, hb1⟩
    obtain ⟨A1, c1, rfl, hr1⟩ := own_rd hown1
    rw [HS.out] at hr1 ⊢
    clear hown1
    dsimp only at hr1
    have HC := Lib.hid hr1; clear hr1
    go_wp2_with fail
    refine (Centred_any A1 c1 l _ HC.out).mono ?_
    rintro e w2 ⟨v2, rfl, hown2, hb2⟩
    obtain ⟨A2, c2, rfl, hr2⟩ := own_rd hown2
    rw [HS2.out] at hr2 ⊢
    clear hown2
    dsimp only at hr2
    have HC2 := Lib.hid hr2; clear hr2
    go_wp2_with fail
    refine (Box_any A1 c1 l _ (HC.out.now hb2)).mono ?_
    rintro e w3 ⟨rfl, hb3⟩
    rw [HBX.out]
    have hB3 : Below w1.heap.size w1 w3 := hb2.trans (hb3.mono hb2.size)
    go_wp2_with fail
    refine (Diameter_any A1 c1 l _ (HC.out.now hB3)).mono ?_
    rintro e w4 ⟨rfl, hb4⟩
    rw [HDD.out]
    have hB4 := hB3.trans (hb4.mono hB3.size)
    go_wp2_with fail
    refine (same_any A2 A1 c2 c1 l l _ (by omega) (HC2.out.now (hb3.trans (hb4.mono hb3.size))) (HC.out.now hB4)).mono ?_
    rintro e w5 ⟨rfl, hb5⟩
    have hB5 := hB4.trans (hb5.mono hB4.size)
    clear hb2 hb3 hb4 hb5 hB3 hB4
    go_wp2_with fail
    refine (Reach_any 1 0 A1 c1 l _ (HC.out.now hB5)).mono ?_
    rintro e w6 ⟨rfl, hb6⟩
    rw [HR1.out]
    have hB6 := hB5.trans (hb6.mono hB5.size)
    go_wp2_with fail
    refine (Reach_any 0 1 A1 c1 l _ (HC.out.now hB6)).mono ?_
    rintro e w7 ⟨rfl, hb7⟩
    rw [HR2.out]
    have hB7 := hb1.trans ((hB6.trans (hb7.mono hB6.size)).mono hb1.size)
    clear hb6 hb7 hB5 hB6 hb1
    have e1 : IntKind.i64.wrap (a - a / 2) = a - a / 2 := IntWalk.i64_in _ (by omega)
    have e2 : IntKind.i64.wrap (b - b / 2) = b - b / 2 := IntWalk.i64_in _ (by omega)
    have e3 : a.tdiv 2 = a / 2 := Int.tdiv_eq_ediv_of_nonneg ha0
    have e4 : b.tdiv 2 = b / 2 := Int.tdiv_eq_ediv_of_nonneg hb0
    have e5 : a.tmod 2 = a % 2 := Int.tmod_eq_emod_of_nonneg ha0
    have e6 : b.tmod 2 = b % 2 := Int.tmod_eq_emod_of_nonneg hb0
    go_wp2_with fail
    all_goals
      refine (awake_any _).mono ?_
      rintro e w8 ⟨rfl, hb8⟩
      go_wp2
      go_ret
      exact Ret.mk rfl (hB7.trans (hb8.mono hB7.size))
end Go.Proofs.Ytimehkeaeffcaaa

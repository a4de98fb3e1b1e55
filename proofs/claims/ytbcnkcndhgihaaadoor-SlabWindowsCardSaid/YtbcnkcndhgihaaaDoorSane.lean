/- Blocks: the law's own check of sanity: the walk. -/
import Derived.Test.YtbcnkcndhgihaaaDoorSR8
import Derived.Test.YtbcnkcndhgihaaaDoorSL2
namespace Go.Proofs.YtbcnkcndhgihaaaDoor
open Go.RowKit Go.Shelf
set_option linter.unusedSimpArgs false

theorem sane_parse : parseS saneL = .ok saneB := by
  unfold parseS
  rw [if_neg (by decide), show saneL.length + 1 = 27 from rfl, sane_rec]
  simp only [sane_form]
theorem sane_layer {b : BT} (h : strip b = saneB) : layerB b 2 0 = ([⟨#[97, 97, 98]⟩], 0) := by
  unfold layerB
  rw [← form_strip, h, sane_form]
  rfl
set_option maxRecDepth 100000 in
set_option maxHeartbeats 2000000 in
theorem sane_any (w : World) : Calls Tryd.prog 14 #[] w (Ret (.bool true) w) := by
  have hmx : Tryd.prog.follows .mixedOrders = true := by kernel_rfl
  go_enter Tryd.func14, Tryd.ntmps14
  go_wp2_with fail
  refine (Parse_any saneL _ (by decide)).mono ?_
  rintro e w2 ⟨hb2, hm⟩
  rw [sane_parse] at hm
  obtain ⟨b, hst, rfl, hok⟩ := hm
  have HL := Lib.hid (sane_layer hst)
  have HOK := Lib.hid (hok.keep (I' := fun k => k < w2.heap.size) (w' := w2) (fun i h => h.2) fun _ _ _ _ hc => hc)
  clear hst hok
  go_wp2_with fail
  refine (Layer_any b 2 0 (by omega) _ (HOK.out.now (by (repeat (first | exact Below.refl _ _ | assumption | refine Below.alloc ?_ (by first | exact Nat.le_refl _ | exact Below.size (by assumption) | omega | (simp <;> omega)) _ | refine Below.setCell ?_ (by first | exact Nat.le_refl _ | exact Below.size (by assumption) | omega | (simp <;> omega)) _ | refine below_drewN ?_ _ | refine Below.drew ?_))))).mono ?_
  rintro e w3 ⟨A, c, rfl, hr, hc, hb3⟩
  rw [HL.out] at hr hc ⊢
  obtain ⟨bb, off, rfl, hbb, hcell⟩ := hr 0 _ rfl
  rw [Nat.add_zero] at hcell
  have hB3 : Below w.heap.size w w3 := below_next (by (repeat (first | exact Below.refl _ _ | assumption | refine Below.alloc ?_ (by first | exact Nat.le_refl _ | exact Below.size (by assumption) | omega | (simp <;> omega)) _ | refine Below.setCell ?_ (by first | exact Nat.le_refl _ | exact Below.size (by assumption) | omega | (simp <;> omega)) _ | refine below_drewN ?_ _ | refine Below.drew ?_))) hb3
  clear hr HL HOK
  go_wp2
  go_ret
  exact Ret.mk rfl hB3
end Go.Proofs.YtbcnkcndhgihaaaDoor

/- Blocks: the reader: number: the walk. -/
import Derived.Test.YtbcnkcndhgihaaaDoorSR1
import Derived.Lib.BufferOwn
import Derived.Lib.AtoiErrMem
namespace Go.Proofs.YtbcnkcndhgihaaaDoor
open Go.RowKit Go.Shelf
set_option linter.unusedSimpArgs false

theorem info116 : (Tryd.prog.info? (Tryd.lays161_ren.t 116)).map (fun i => (i.zero, i.size)) = some (some (.agg (Array.replicate 256 (.bool false))), 256) := by kernel_rfl
theorem trimL_any (r : Bs) (w : World) : Calls Tryd.prog 100 #[.string ⟨r.toArray⟩, .string ⟨#[48, 49, 50, 51, 52, 53, 54, 55, 56, 57]⟩] w (Ret (.string ⟨(r.drop (digitsS r).length).toArray⟩) w) := by
  have hcon := Any.strings_TrimLeft_laid Tryd.lays161 info116 ⟨r.toArray⟩ ⟨#[48, 49, 50, 51, 52, 53, 54, 55, 56, 57]⟩ w (by decide) (ascii_of_all (by decide))
  change Calls Tryd.prog 100 _ _ (fun e w' => e = .returned (.string ⟨(Lib.trimLeftS r digL).toArray⟩) ∧ Below w.heap.size w w') at hcon
  rw [trim_dig] at hcon
  exact hcon
theorem ext_list (l : Bs) (i j : Nat) : (⟨l.toArray⟩ : ByteArray).extract i j = ⟨((l.drop i).take (j - i)).toArray⟩ := by
  rw [ByteArray.ext_iff, ByteArray.data_extract]
  simp [List.extract_eq_take_drop]
/-- What number returns. -/
def NumR (k : Nat) (r : Bs) (w : World) (e : Ending) (w' : World) : Prop := w.grownBy w' (some k) ∧ match numS r with
  | none => (∃ v q, e = .returned (.tuple #[.int .i64 v, .bool false]) ∧ RdrX w' k q)
  | some (n, q) => e = .returned (.tuple #[.int .i64 n, .bool true]) ∧ RdrX w' k q
set_option maxRecDepth 100000 in
set_option maxHeartbeats 2000000 in
theorem number_any (k : Nat) (r : Bs) (w : World) (h : RdrX w k r) (hl : r.length ≤ 100000) : Calls Tryd.prog 92 #[.pointer (some ⟨k, 0, none⟩)] w (NumR k r w) := by
  have hmx : Tryd.prog.follows .mixedOrders = true := by kernel_rfl
  have HT := Lib.hid (take_any k r [32] w h)
  have HSET := Lib.hid (h.set (tkS [32] r))
  have hg := Lib.grownBy_setCell w k 0 (.string ⟨(tkS [32] r).toArray⟩)
  have HG := Lib.hid hg; clear hg
  cases hp : preB r [32]
  · have HN : Hid (numS r = none) := by show _ = _; unfold numS takeS; rw [hp]; rfl
    rw [hp] at HT
    clear hp
    go_enter Tryd.func92, Tryd.ntmps92
    go_wp2_with fail
    refine HT.out.mono ?_
    rintro e w2 ⟨rfl, rfl⟩
    go_wp2
    go_ret2
    refine ⟨HG.out, ?_⟩
    rw [HN.out]
    exact ⟨_, _, rfl, HSET.out⟩
  · have hr1 : tkS [32] r = r.drop 1 := by unfold tkS; rw [hp]; rfl
    have HN : Hid (numS r = num1S (r.drop 1)) := by show _ = _; unfold numS takeS; rw [hp]; rfl
    obtain ⟨r1, hr⟩ : ∃ r1, r.drop 1 = r1 := ⟨_, rfl⟩
    have hl1 : r1.length ≤ 100000 := by rw [← hr, List.length_drop]; omega
    rw [hr] at hr1 HN
    rw [hr1] at HSET HG HT
    rw [hp] at HT
    clear hr hp hr1
    obtain ⟨w1, hw1⟩ : ∃ w1, w.setCell ⟨k, 0, none⟩ (.string ⟨r1.toArray⟩) = w1 := ⟨_, rfl⟩
    rw [hw1] at HSET HG HT
    clear hw1
    have hkl := HSET.out.lt
    have HX : Hid (∀ w', Below w1.heap.size w1 w' → RdrX w' k r1) := fun w' h => HSET.out.below h hkl
    have htl := trimL_any r1
    have hdl := dig_len r1
    have hdt := dig_take r1
    have HDA := Lib.hid (dig_all r1)
    have hn1 : num1S r1 = if (digitsS r1).length < 1 ∨ 3 < (digitsS r1).length ∨ (1 < (digitsS r1).length ∧ (digitsS r1).head? = some 48) then none else some (valD (digitsS r1), r1.drop (digitsS r1).length) := rfl
    obtain ⟨D, hD⟩ : ∃ D, digitsS r1 = D := ⟨_, rfl⟩
    rw [hD] at htl hdl hdt HDA hn1
    clear hD
    obtain ⟨d, hd⟩ : ∃ d, D.length = d := ⟨_, rfl⟩
    rw [hd] at htl hdl hdt hn1
    have HTL := Lib.hid htl
    have hsub : r1.length - (r1.length - d) = d := by omega
    have hx1 : (⟨r1.toArray⟩ : ByteArray).extract 0 d = ⟨D.toArray⟩ := by rw [ext_list, List.drop_zero, Nat.sub_zero, hdt]
    have hx2 : (⟨r1.toArray⟩ : ByteArray).extract d r1.length = ⟨(r1.drop d).toArray⟩ := by rw [ext_list, List.take_of_length_le (by rw [List.length_drop]; omega)]
    have HDD := Lib.hid hd
    have HN1 := Lib.hid (HN.out.trans hn1)
    clear hdt htl hn1 HN hd
    go_enter Tryd.func92, Tryd.ntmps92
    go_wp2_with fail
    refine HT.out.mono ?_
    rintro e w2 ⟨rfl, rfl⟩
    go_wp2
    refine region_qw (fun w' => Below w2.heap.size w2 w') hmx (by kernel_rfl) (by (repeat (first | exact Below.refl _ _ | assumption | refine Below.alloc ?_ (by first | exact Nat.le_refl _ | exact Below.size (by assumption) | omega | (simp <;> omega)) _ | refine Below.setCell ?_ (by first | exact Nat.le_refl _ | exact Below.size (by assumption) | omega | (simp <;> omega)) _ | refine below_drewN ?_ _ | refine Below.drew ?_))) ?_
    repeat (first | (refine qw_read rfl (fun w' hC => by obtain ⟨c0, c1⟩ := (HX.out w' hC).c; clear hC; go_simp; rfl) ?_; simp only [Act.put, List.setIfInBounds_toArray, List.set_cons_succ, List.set_cons_zero]) | (refine qw_pass (by first | (simp [Region.wanted, yielded]; done) | (simp [Region.wanted, yielded]; intro h; cases h)) ?_; simp only [Act.put, List.setIfInBounds_toArray, List.set_cons_succ, List.set_cons_zero]))
    (refine qw_call rfl (fun w' hC => by (go_simp; try rfl)) (fun w' hC => (HTL.out w').mono (fun e w2 hr => ⟨hr.1, hC.trans (hr.2.mono hC.size)⟩)) ?_; simp only [Act.put, List.setIfInBounds_toArray, List.set_cons_succ, List.set_cons_zero])
    repeat (first | (refine qw_read rfl (fun w' hC => by obtain ⟨c0, c1⟩ := (HX.out w' hC).c; clear hC; go_simp; rfl) ?_; simp only [Act.put, List.setIfInBounds_toArray, List.set_cons_succ, List.set_cons_zero]) | (refine qw_pass (by first | (simp [Region.wanted, yielded]; done) | (simp [Region.wanted, yielded]; intro h; cases h)) ?_; simp only [Act.put, List.setIfInBounds_toArray, List.set_cons_succ, List.set_cons_zero]))
    refine qw_nil ?_
    intro w3 hb3
    obtain ⟨c0, c1⟩ := (HX.out w3 hb3).c
    have HG3 := Lib.hid (Lib.grownBy_below HG.out hb3)
    by_cases hA : d < 1
    · have HN2 := Lib.hid (HN1.out.trans (if_pos (.inl hA)))
      go_wp2
      go_ret2
      refine ⟨HG3.out, ?_⟩
      rw [HN2.out]
      exact ⟨_, _, rfl, HX.out w3 hb3⟩
    by_cases hB : 3 < d
    · have HN2 := Lib.hid (HN1.out.trans (if_pos (.inr (.inl hB))))
      go_wp2
      go_ret2
      refine ⟨HG3.out, ?_⟩
      rw [HN2.out]
      exact ⟨_, _, rfl, HX.out w3 hb3⟩
    obtain ⟨c, D2, hcD⟩ : ∃ c D2, D = c :: D2 := by
      cases D with
      | nil => have := HDD.out; simp at this; omega
      | cons c D2 => exact ⟨c, D2, rfl⟩
    subst hcD
    have hidx : ∀ h, (⟨(c :: D2).toArray⟩ : ByteArray)[0]'h = c := fun h => rfl
    by_cases hC : 1 < d ∧ c = 48
    · have HN2 := Lib.hid (HN1.out.trans (if_pos (.inr (.inr ⟨hC.1, by rw [hC.2]; rfl⟩))))
      obtain ⟨hC1, rfl⟩ := hC
      go_wp2
      go_ret2
      refine ⟨HG3.out, ?_⟩
      rw [HN2.out]
      exact ⟨_, _, rfl, HX.out w3 hb3⟩
    · have HN2 := Lib.hid (HN1.out.trans (if_neg (by
        rintro (h | h | ⟨h, h2⟩)
        · exact hA h
        · exact hB h
        · exact hC ⟨h, by simpa using h2⟩)))
      have hat := fun w => Any.strconv_Atoi Tryd.lays172 ⟨(c :: D2).toArray⟩ (valD (c :: D2)) (by have := HDD.out; show (c :: D2).length ≤ 18; omega) (atoi_dig HDA.out (by simp)) w
      change ∀ w, Calls Tryd.prog 101 _ _ (fun e w' => e = .returned (.tuple #[.int .i64 (valD (c :: D2)), .nilIface]) ∧ ∃ t, w' = _) at hat
      have HAT := Lib.hid hat
      have HR3 := Lib.hid ((HX.out w3 hb3).set (r1.drop d))
      have HG4 := Lib.hid (Lib.grownBy_setB HG3.out 0 (.string ⟨(r1.drop d).toArray⟩))
      have hkl3 : k < w3.heap.size := (HX.out w3 hb3).lt
      clear hat
      by_cases hd1 : 1 < d
      · have hc48 : ((c.toNat : Int) == 48) = false := by
          rw [beq_eq_false_iff_ne]
          intro h
          exact hC ⟨hd1, UInt8.toNat_inj.1 (by have : c.toNat = 48 := by omega
                                               exact this)⟩
        go_wp2_with fail
        refine (HAT.out _).mono ?_
        rintro e w5 ⟨rfl, t, hw5⟩
        have hb5 : Below (w3.setCell ⟨k, 0, none⟩ (.string ⟨(r1.drop d).toArray⟩)).heap.size (w3.setCell ⟨k, 0, none⟩ (.string ⟨(r1.drop d).toArray⟩)) w5 := by rw [hw5]; exact Lib.bytesWorld_below _ _ _
        have HB5 := Lib.hid hb5
        clear hw5 hb5
        go_wp2
        go_region
        go_wp2
        go_ret2
        refine ⟨Lib.grownBy_below HG4.out (Below.drew HB5.out), ?_⟩
        rw [HN2.out]
        exact ⟨rfl, HR3.out.below (Below.drew HB5.out) HR3.out.lt⟩
      · go_wp2_with fail
        refine (HAT.out _).mono ?_
        rintro e w5 ⟨rfl, t, hw5⟩
        have hb5 : Below (w3.setCell ⟨k, 0, none⟩ (.string ⟨(r1.drop d).toArray⟩)).heap.size (w3.setCell ⟨k, 0, none⟩ (.string ⟨(r1.drop d).toArray⟩)) w5 := by rw [hw5]; exact Lib.bytesWorld_below _ _ _
        have HB5 := Lib.hid hb5
        clear hw5 hb5
        go_wp2
        go_region
        go_wp2
        go_ret2
        refine ⟨Lib.grownBy_below HG4.out (Below.drew HB5.out), ?_⟩
        rw [HN2.out]
        exact ⟨rfl, HR3.out.below (Below.drew HB5.out) HR3.out.lt⟩
end Go.Proofs.YtbcnkcndhgihaaaDoor

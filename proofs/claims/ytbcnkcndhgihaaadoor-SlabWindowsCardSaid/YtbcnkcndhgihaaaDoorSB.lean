/- Blocks: built, form, Check, Extent of the program. -/
import Derived.Test.YtbcnkcndhgihaaaDoorSB1
import Derived.Test.YtbcnkcndhgihaaaDoorSB2
import Derived.Test.YtbcnkcndhgihaaaDoorSB3
import Derived.Test.YtbcnkcndhgihaaaDoorSB4
import Derived.Test.YtbcnkcndhgihaaaDoorSB5
import Derived.Test.YtbcnkcndhgihaaaDoorSB6
namespace Go.Proofs.YtbcnkcndhgihaaaDoor
open Go.RowKit
set_option linter.unusedSimpArgs false

theorem builtL_good : ∀ (l : List BT) (m : List Sh), builtL l = .ok m → (∀ p ∈ l, wholeS p = true) → ∀ s ∈ m, s.Ok
  | [], m, h, _, s, hs => by injection h with h; subst h; simp at hs
  | p :: l, m, h, hw, s, hs => by
    rw [builtL_cons] at h
    cases hq : builtS p with
    | error e => rw [hq] at h; cases h
    | ok t =>
      rw [hq] at h
      cases hl : builtL l with
      | error e => rw [hl] at h; cases h
      | ok k =>
        rw [hl] at h
        injection h with h
        subst h
        rcases List.mem_cons.1 hs with rfl | hs
        · exact built_ok p (hw p (by simp)) _ hq
        · exact builtL_good l k hl (fun q hq => hw q (by simp [hq])) s hs
theorem built_any : ∀ (b : BT) (w : World), wholeS b = true → OkB w w.heap.size b → Calls Tryd.prog 83 #[valB b] w (BuiltR b w) := by
  refine BT.ind (P := fun b => ∀ (w : World), wholeS b = true → OkB w w.heap.size b → Calls Tryd.prog 83 #[valB b] w (BuiltR b w)) ?_
  intro b ih w hw hb
  obtain ⟨h1, hps⟩ := whole_parts hw
  have ih2 : ∀ p ∈ b.ps, ∀ w, OkB w w.heap.size p → Calls Tryd.prog 83 #[valB p] w (BuiltR p w) := fun p hp w h => ih p hp w (hps p hp) h
  have her : ∀ p ∈ b.ps, ∀ x, builtS p = .error x → x = 4 ∨ x = 21 := fun p hp x h => built_err p (hps p hp) x h
  have h1s : Hid (∀ s, builtL b.ps = .ok [s] → ExtOk s.ext) := fun s h => (builtL_good _ _ h hps s (by simp)).ext
  have h2s : Hid (∀ s t, builtL b.ps = .ok [s, t] → ExtOk s.ext ∧ ExtOk t.ext) := fun s t h => ⟨(builtL_good _ _ h hps s (by simp)).ext, (builtL_good _ _ h hps t (by simp)).ext⟩
  rcases one_facts h1 with ⟨o, hp, a, c, n0, n1, n2⟩ | ⟨ha, _, hn2, ⟨o, hpq, hn⟩ | ⟨p, hp, h⟩⟩
  · exact built_solid b w hb (by rw [hp]; simp) (Lib.hid o) (Lib.hid ⟨n0, n1, n2⟩) ih2 her
  · obtain ⟨p, q, hp⟩ := hpq
    rcases ha with ha | ha | ha
    · exact built_stack0 b w hb (by rw [hp]; simp) (Lib.hid o) (Lib.hid ha) (Lib.hid ⟨p, q, hp⟩) h2s ih2 her
    · exact built_stack1 b w hb (by rw [hp]; simp) (Lib.hid o) (Lib.hid ha) (Lib.hid ⟨p, q, hp⟩) h2s ih2 her
    · exact built_stack2 b w hb (by rw [hp]; simp) (Lib.hid o) (Lib.hid ha) (Lib.hid ⟨p, q, hp⟩) h2s ih2 her
  · rcases h with ⟨o, _⟩ | ⟨o, k1, k2⟩ | ⟨o, _⟩ | ⟨o, k1, _⟩
    · rcases ha with ha | ha | ha
      · exact built_turn0 b w hb (by rw [hp]; simp) (Lib.hid o) (Lib.hid ha) (Lib.hid ⟨p, hp⟩) h1s ih2 her
      · exact built_turn1 b w hb (by rw [hp]; simp) (Lib.hid o) (Lib.hid ha) (Lib.hid ⟨p, hp⟩) h1s ih2 her
      · exact built_turn2 b w hb (by rw [hp]; simp) (Lib.hid o) (Lib.hid ha) (Lib.hid ⟨p, hp⟩) h1s ih2 her
    · rcases ha with ha | ha | ha
      · exact built_slice0 b w hb (by rw [hp]; simp) (Lib.hid o) (Lib.hid ha) (Lib.hid ⟨p, hp⟩) h1s (Lib.hid ⟨k1, k2⟩) ih2 her
      · exact built_slice1 b w hb (by rw [hp]; simp) (Lib.hid o) (Lib.hid ha) (Lib.hid ⟨p, hp⟩) h1s (Lib.hid ⟨k1, k2⟩) ih2 her
      · exact built_slice2 b w hb (by rw [hp]; simp) (Lib.hid o) (Lib.hid ha) (Lib.hid ⟨p, hp⟩) h1s (Lib.hid ⟨k1, k2⟩) ih2 her
    · rcases ha with ha | ha | ha
      · exact built_flip0 b w hb (by rw [hp]; simp) (Lib.hid o) (Lib.hid ha) (Lib.hid ⟨p, hp⟩) h1s ih2 her
      · exact built_flip1 b w hb (by rw [hp]; simp) (Lib.hid o) (Lib.hid ha) (Lib.hid ⟨p, hp⟩) h1s ih2 her
      · exact built_flip2 b w hb (by rw [hp]; simp) (Lib.hid o) (Lib.hid ha) (Lib.hid ⟨p, hp⟩) h1s ih2 her
    · rcases ha with ha | ha | ha
      · exact built_rep0 b w hb (by rw [hp]; simp) (Lib.hid o) (Lib.hid ha) (Lib.hid ⟨p, hp⟩) h1s (Lib.hid k1) ih2 her
      · exact built_rep1 b w hb (by rw [hp]; simp) (Lib.hid o) (Lib.hid ha) (Lib.hid ⟨p, hp⟩) h1s (Lib.hid k1) ih2 her
      · exact built_rep2 b w hb (by rw [hp]; simp) (Lib.hid o) (Lib.hid ha) (Lib.hid ⟨p, hp⟩) h1s (Lib.hid k1) ih2 her
theorem form_err {b : BT} {x : Int} (h : formS b = .error x) : x = 4 ∨ x = 20 ∨ x = 21 := by
  unfold formS at h
  split at h
  · injection h with h; omega
  · split at h
    · injection h with h; omega
    · rename_i hw
      have := built_err b (by simpa using hw) x h
      omega
theorem form_ok {b : BT} {s : Sh} (h : formS b = .ok s) : s.Ok := by
  unfold formS at h
  split at h
  · cases h
  · split at h
    · cases h
    · rename_i hw
      exact built_ok b (by simpa using hw) s h
theorem form_whole {b : BT} {s : Sh} (h : formS b = .ok s) : wholeS b = true ∧ builtS b = .ok s := by
  unfold formS at h
  split at h
  · cases h
  · split at h
    · cases h
    · rename_i hw
      exact ⟨by simpa using hw, h⟩
/-- What form returns. -/
def FormR (b : BT) (w : World) (e : Ending) (w' : World) : Prop := Below w.heap.size w w' ∧ ∃ v er, e = .returned (.tuple #[v, .int .i64 er]) ∧ (∀ s, formS b = .ok s → v = .iface s.ty (.agg s.ag) ∧ er = 0) ∧ (∀ x, formS b = .error x → er = x)
theorem form_er1 {b : BT} {v : Value} {er : Int} (h : formS b = .error er) : (∀ s, formS b = .ok s → v = .iface s.ty (.agg s.ag) ∧ er = 0) ∧ (∀ x, formS b = .error x → er = x) := by
  refine ⟨fun s hs => ?_, fun x hx => ?_⟩
  · rw [h] at hs; cases hs
  · rw [h] at hx; injection hx
theorem form_ok1 {b : BT} {S : Sh} (h : formS b = .ok S) : (∀ s, formS b = .ok s → Value.iface S.ty (.agg S.ag) = .iface s.ty (.agg s.ag) ∧ (0 : Int) = 0) ∧ (∀ x, formS b = .error x → (0 : Int) = x) := by
  refine ⟨fun s hs => ?_, fun x hx => ?_⟩
  · rw [h] at hs; injection hs with hs; rw [hs]; exact ⟨rfl, rfl⟩
  · rw [h] at hx; cases hx
set_option maxRecDepth 100000 in
set_option maxHeartbeats 2000000 in
theorem form_any (b : BT) (w : World) (hb : OkB w w.heap.size b) : Calls Tryd.prog 53 #[valB b] w (FormR b w) := by
  have HB := Lib.hid hb
  have HD := Lib.hid (fun w h => deep_any 16 16 b w rfl (by omega) h)
  have HW := Lib.hid (whole_any b)
  have HU := Lib.hid (fun w h => built_any b w h)
  clear hb
  cases hd : deepS 16 b
  case true =>
    have HS : Hid (formS b = .error 4) := by show _ = _; unfold formS; rw [if_pos hd]
    go_enter Tryd.func53, Tryd.ntmps53
    go_wp2_with fail
    refine (HD.out _ (HB.out.now (by (repeat (first | exact Below.refl _ _ | assumption | refine Below.alloc ?_ (by first | exact Nat.le_refl _ | exact Below.size (by assumption) | omega | (simp <;> omega)) _ | refine Below.setCell ?_ (by first | exact Nat.le_refl _ | exact Below.size (by assumption) | omega | (simp <;> omega)) _ | refine below_drewN ?_ _ | refine Below.drew ?_))))).mono ?_
    rintro e w2 ⟨rfl, hb2⟩
    rw [hd]
    have hB2 : Below w.heap.size w w2 := below_next (by (repeat (first | exact Below.refl _ _ | assumption | refine Below.alloc ?_ (by first | exact Nat.le_refl _ | exact Below.size (by assumption) | omega | (simp <;> omega)) _ | refine Below.setCell ?_ (by first | exact Nat.le_refl _ | exact Below.size (by assumption) | omega | (simp <;> omega)) _ | refine below_drewN ?_ _ | refine Below.drew ?_))) hb2
    go_wp2
    go_ret2
    exact ⟨hB2, _, _, rfl, form_er1 HS.out⟩
  have HD0 := Lib.hid hd
  clear hd
  go_enter Tryd.func53, Tryd.ntmps53
  go_wp2_with fail
  refine (HD.out _ (HB.out.now (by (repeat (first | exact Below.refl _ _ | assumption | refine Below.alloc ?_ (by first | exact Nat.le_refl _ | exact Below.size (by assumption) | omega | (simp <;> omega)) _ | refine Below.setCell ?_ (by first | exact Nat.le_refl _ | exact Below.size (by assumption) | omega | (simp <;> omega)) _ | refine below_drewN ?_ _ | refine Below.drew ?_))))).mono ?_
  rintro e w2 ⟨rfl, hb2⟩
  have hB2 : Below w.heap.size w w2 := below_next (by (repeat (first | exact Below.refl _ _ | assumption | refine Below.alloc ?_ (by first | exact Nat.le_refl _ | exact Below.size (by assumption) | omega | (simp <;> omega)) _ | refine Below.setCell ?_ (by first | exact Nat.le_refl _ | exact Below.size (by assumption) | omega | (simp <;> omega)) _ | refine below_drewN ?_ _ | refine Below.drew ?_))) hb2
  have hX2 : BxB w2 w.heap.size b := (BxB.new w b 25).under hb2 (by simp)
  have hz2 : w.heap.size < w2.heap.size := by have := hb2.size; simp at this; omega
  rw [HD0.out]
  obtain ⟨f0, f1, f2, f3, f4, f5, f6⟩ := id hX2
  go_wp2_with fail
  clear f0 f1 f2 f3 f4 f5 f6
  refine (HW.out _ (HB.out.now (by (repeat (first | exact Below.refl _ _ | assumption | refine Below.alloc ?_ (by first | exact Nat.le_refl _ | exact Below.size (by assumption) | omega | (simp <;> omega)) _ | refine Below.setCell ?_ (by first | exact Nat.le_refl _ | exact Below.size (by assumption) | omega | (simp <;> omega)) _ | refine below_drewN ?_ _ | refine Below.drew ?_))))).mono ?_
  rintro e w3 ⟨rfl, hb3⟩
  have hX3 : BxB w3 w.heap.size b := hX2.under hb3 (by omega)
  have hB3 := below_next hB2 (hb3.mono (Nat.le_refl _))
  clear hb2 hb3 hX2
  cases hw : wholeS b
  · have HS : Hid (formS b = .error 20) := by show _ = _; unfold formS; rw [HD0.out, if_neg (by simp), hw]; rfl
    go_wp2
    go_ret2
    exact ⟨hB3, _, _, rfl, form_er1 HS.out⟩
  have HS : Hid (formS b = builtS b) := by show _ = _; unfold formS; rw [HD0.out, if_neg (by simp), hw]; rfl
  have HW2 := Lib.hid hw
  clear hw
  obtain ⟨f0, f1, f2, f3, f4, f5, f6⟩ := id hX3
  go_wp2_with fail
  clear f0 f1 f2 f3 f4 f5 f6
  refine (HU.out _ HW2.out (HB.out.now (by (repeat (first | exact Below.refl _ _ | assumption | refine Below.alloc ?_ (by first | exact Nat.le_refl _ | exact Below.size (by assumption) | omega | (simp <;> omega)) _ | refine Below.setCell ?_ (by first | exact Nat.le_refl _ | exact Below.size (by assumption) | omega | (simp <;> omega)) _ | refine below_drewN ?_ _ | refine Below.drew ?_))))).mono ?_
  rintro e w4 ⟨hb4, v, er, rfl, hok, her⟩
  have hB4 := below_next hB3 hb4
  cases hd : builtS b with
  | error x =>
    have hx := built_err b HW2.out x hd
    obtain rfl := her x hd
    have HE := Lib.hid (HS.out.trans hd)
    have hne : (er != 0) = true := by simp; omega
    clear hd hok her hx hX3 hb4
    go_wp2
    go_ret2
    exact ⟨hB4, _, _, rfl, form_er1 HE.out⟩
  | ok s =>
    obtain ⟨rfl, rfl⟩ := hok s hd
    have HE := Lib.hid (HS.out.trans hd)
    clear hd hok her hX3 hb4
    rw [s.val_eq]
    go_wp2
    go_ret2
    exact ⟨hB4, _, _, rfl, form_ok1 HE.out⟩
/-- What Check returns. -/
def checkB (b : BT) : Int := match formS b with
  | .error x => x
  | .ok _ => 0
set_option maxRecDepth 100000 in
theorem Check_any (b : BT) (w : World) (hb : OkB w w.heap.size b) : Calls Tryd.prog 17 #[valB b] w (Ret (.int .i64 (checkB b)) w) := by
  have HB := Lib.hid hb
  clear hb
  go_enter Tryd.func17, Tryd.ntmps17
  go_wp2_with fail
  refine (form_any b _ (HB.out.now (by (repeat (first | exact Below.refl _ _ | assumption | refine Below.alloc ?_ (by first | exact Nat.le_refl _ | exact Below.size (by assumption) | omega | (simp <;> omega)) _ | refine Below.setCell ?_ (by first | exact Nat.le_refl _ | exact Below.size (by assumption) | omega | (simp <;> omega)) _ | refine below_drewN ?_ _ | refine Below.drew ?_))))).mono ?_
  rintro e w2 ⟨hb2, v, er, rfl, hok, her⟩
  have hB2 : Below w.heap.size w w2 := below_next (by (repeat (first | exact Below.refl _ _ | assumption | refine Below.alloc ?_ (by first | exact Nat.le_refl _ | exact Below.size (by assumption) | omega | (simp <;> omega)) _ | refine Below.setCell ?_ (by first | exact Nat.le_refl _ | exact Below.size (by assumption) | omega | (simp <;> omega)) _ | refine below_drewN ?_ _ | refine Below.drew ?_))) hb2
  have HE : Hid (er = checkB b) := by
    show _ = _
    unfold checkB
    cases hf : formS b with
    | error x => exact her x hf
    | ok s => exact (hok s hf).2
  clear hok her
  go_wp2
  go_ret
  exact Ret.mk (by rw [← HE.out]; rfl) hB2
theorem CX.put {w : World} {k : Nat} {t : T3} (h : CX w k t) (n : T3) : CX (((w.setCell ⟨k, 0, none⟩ (.int .i64 n.x)).setCell ⟨k, 1, none⟩ (.int .i64 n.y)).setCell ⟨k, 2, none⟩ (.int .i64 n.z)) k n := ((h.set0 n.x).set1 n.y).set2 n.z
/-- What Extent returns. -/
def extB (b : BT) : T3 × Int := match formS b with
  | .error x => (⟨0, 0, 0⟩, x)
  | .ok s => (s.ext, 0)
set_option maxRecDepth 100000 in
theorem Extent_any (b : BT) (w : World) (hb : OkB w w.heap.size b) : Calls Tryd.prog 15 #[valB b] w (Ret (.tuple #[val3 (extB b).1, .int .i64 (extB b).2]) w) := by
  have HB := Lib.hid hb
  clear hb
  go_enter Tryd.func15, Tryd.ntmps15
  go_wp2_with fail
  refine (form_any b _ (HB.out.now (by (repeat (first | exact Below.refl _ _ | assumption | refine Below.alloc ?_ (by first | exact Nat.le_refl _ | exact Below.size (by assumption) | omega | (simp <;> omega)) _ | refine Below.setCell ?_ (by first | exact Nat.le_refl _ | exact Below.size (by assumption) | omega | (simp <;> omega)) _ | refine below_drewN ?_ _ | refine Below.drew ?_))))).mono ?_
  rintro e w2 ⟨hb2, v, er, rfl, hok, her⟩
  have hB2 : Below w.heap.size w w2 := below_next (by (repeat (first | exact Below.refl _ _ | assumption | refine Below.alloc ?_ (by first | exact Nat.le_refl _ | exact Below.size (by assumption) | omega | (simp <;> omega)) _ | refine Below.setCell ?_ (by first | exact Nat.le_refl _ | exact Below.size (by assumption) | omega | (simp <;> omega)) _ | refine below_drewN ?_ _ | refine Below.drew ?_))) hb2
  have hX : CX w2 (w.heap.size + 1) ⟨0, 0, 0⟩ := by
    have := (CX.new (w.alloc (.cells #[.int .i64 b.op, .int .i64 b.ax, .int .u8 b.co, .int .i64 b.n0, .int .i64 b.n1, .int .i64 b.n2, .slice b.A b.ps.length b.cp] 25)) ⟨0, 0, 0⟩).below hb2 (by simp)
    simpa using this
  obtain ⟨x0, x1, x2, x3, x4, x5⟩ := hX.c
  have hs2 : w.heap.size + 1 < w2.heap.size := World.block_lt_of_cell? w2 _ x0
  cases hf : formS b with
  | error x =>
    obtain rfl := her x hf
    have hx := form_err hf
    have hne : (er != 0) = true := by simp; omega
    have HS : Hid (extB b = (⟨0, 0, 0⟩, er)) := by show _ = _; unfold extB; rw [hf]
    have hP := hX.put ⟨0, 0, 0⟩
    obtain ⟨y0, y1, y2, _⟩ := hP.c
    clear hok her hf hx
    go_wp2
    refine bodyPost_ret (v := .tuple #[val3 ⟨0, 0, 0⟩, .int .i64 er]) (by simp [results, Tryd.results15, go_sem, y0, y1, y2]) rfl ?_
    exact Ret.mk (by rw [HS.out]) (by (repeat (first | exact Below.refl _ _ | assumption | refine Below.alloc ?_ (by first | exact Nat.le_refl _ | exact Below.size (by assumption) | omega | (simp <;> omega)) _ | refine Below.setCell ?_ (by first | exact Nat.le_refl _ | exact Below.size (by assumption) | omega | (simp <;> omega)) _ | refine below_drewN ?_ _ | refine Below.drew ?_)))
  | ok s =>
    obtain ⟨rfl, rfl⟩ := hok s hf
    have HS : Hid (extB b = (s.ext, 0)) := by show _ = _; unfold extB; rw [hf]
    clear hok her hf
    obtain ⟨T, hT⟩ : ∃ T, s.ext = T := ⟨_, rfl⟩
    have hx := s.me
    rw [hT] at hx HS
    clear x0 x1 x2 x3 x4 x5
    go_wp2_with fail
    refine (ext_ret T _).mono ?_
    rintro e w3 ⟨rfl, hb3⟩
    have hX3 := hX.below hb3 hs2
    have hs3 := hb3.size
    obtain ⟨x0, x1, x2, x3, x4, x5⟩ := hX3.c
    have hP := hX3.put T
    obtain ⟨y0, y1, y2, _⟩ := hP.c
    have hB3 := below_next hB2 hb3
    go_wp2
    refine bodyPost_ret (v := .tuple #[val3 T, .int .i64 0]) (by simp [results, Tryd.results15, go_sem, y0, y1, y2]) rfl ?_
    exact Ret.mk (by rw [HS.out]) (by (repeat (first | exact Below.refl _ _ | assumption | refine Below.alloc ?_ (by first | exact Nat.le_refl _ | exact Below.size (by assumption) | omega | (simp <;> omega)) _ | refine Below.setCell ?_ (by first | exact Nat.le_refl _ | exact Below.size (by assumption) | omega | (simp <;> omega)) _ | refine below_drewN ?_ _ | refine Below.drew ?_)))
end Go.Proofs.YtbcnkcndhgihaaaDoor

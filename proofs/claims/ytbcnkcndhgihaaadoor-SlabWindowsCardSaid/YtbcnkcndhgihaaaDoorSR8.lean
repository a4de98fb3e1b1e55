/- Blocks: the reader: recipe and Parse: the walks. -/
import Derived.Test.YtbcnkcndhgihaaaDoorSR7
import Derived.Test.YtbcnkcndhgihaaaDoorSL2
namespace Go.Proofs.YtbcnkcndhgihaaaDoor
open Go.RowKit Go.Shelf
set_option linter.unusedSimpArgs false

theorem rec_any : ∀ (f : Nat) (k : Nat) (r : Bs) (w : World), RdrX w k r → r.length < f → r.length ≤ 100000 → Calls Tryd.prog 80 #[.pointer (some ⟨k, 0, none⟩)] w (RecR k f r w)
  | 0, _, _, _, _, h, _ => absurd h (Nat.not_lt_zero _)
  | f + 1, k, r, w, h, hl, hm => rec_step f (rec_any f) k r w h hl hm
/-- What Parse returns. -/
def ParseR (s : Bs) (w : World) (e : Ending) (w' : World) : Prop := Below w.heap.size w w' ∧ match parseS s with
  | .error x => e = .returned (.tuple #[valB zeroB, .int .i64 x])
  | .ok t => ∃ b, strip b = t ∧ e = .returned (.tuple #[valB b, .int .i64 0]) ∧ OkI w' (fun i => w.heap.size ≤ i ∧ i < w'.heap.size) b
theorem below_of_grown {a c : World} {B k : Nat} (h : a.grownBy c (some k)) (hk : B ≤ k) (hB : B ≤ a.heap.size) : Below B a c :=
  ⟨h.os, h.tape, h.output, h.size, fun i hi => h.block i (Nat.lt_of_lt_of_le hi hB) (fun e => by injection e with e; omega)⟩
set_option maxRecDepth 100000 in
set_option maxHeartbeats 8000000 in
theorem Parse_any (s : Bs) (w : World) (hs : s.length ≤ 9223372036854775807) : Calls Tryd.prog 52 #[.string ⟨s.toArray⟩] w (ParseR s w) := by
  by_cases hl : 1000 < s.length
  · have HP : Hid (parseS s = .error 4) := by show _ = _; unfold parseS; rw [if_pos hl]
    have hB : BX (w.alloc (.cells #[.int .i64 0, .int .i64 0, .int .u8 0, .int .i64 0, .int .i64 0, .int .i64 0, .slice none 0 0] 25)) w.heap.size zeroB := BX.new w zeroB
    have HBX := Lib.hid hB
    have hlI : (1000 : Int) < s.length := by omega
    clear hB hl
    go_enter Tryd.func52, Tryd.ntmps52
    go_wp2_with ((with_reducible refine at_store7 ?_); refine wpList_store7 zeroB _ _ HBX.out rfl rfl rfl rfl ?_)
    obtain ⟨y0, y1, y2, y3, y4, y5, y6⟩ := (BX.put HBX.out zeroB).c
    refine bodyPost_ret (v := .tuple #[valB zeroB, .int .i64 4]) (by simp [results, Tryd.results52, go_sem, y0, y1, y2, y3, y4, y5, y6]) rfl ?_
    refine ⟨(Below.trans (by (repeat (first | exact Below.refl _ _ | assumption | refine Below.alloc ?_ (by first | exact Nat.le_refl _ | exact Below.size (by assumption) | omega | (simp <;> omega)) _ | refine Below.setCell ?_ (by first | exact Nat.le_refl _ | exact Below.size (by assumption) | omega | (simp <;> omega)) _ | refine below_drewN ?_ _ | refine Below.drew ?_))) (below_of_grown (putB_grown _ w.heap.size _) (Nat.le_refl _) (by simp; try omega))), ?_⟩
    rw [HP.out]
  · have HL := Lib.hid hl
    have hlI : ¬ (1000 : Int) < s.length := by omega
    have HP : Hid (parseS s = match recS (s.length + 1) s with
      | some (b, []) => match formS b with
        | .error e => .error e
        | .ok _ => .ok b
      | _ => .error 3) := by show _ = _; unfold parseS; rw [if_neg hl]; rfl
    have hR0 : BX (w.alloc (.cells #[.int .i64 0, .int .i64 0, .int .u8 0, .int .i64 0, .int .i64 0, .int .i64 0, .slice none 0 0] 25)) w.heap.size zeroB := BX.new w zeroB
    obtain ⟨wa, hwa⟩ : ∃ wa, (w.alloc (.cells #[.int .i64 0, .int .i64 0, .int .u8 0, .int .i64 0, .int .i64 0, .int .i64 0, .slice none 0 0] 25)).alloc (.cells #[.string ⟨s.toArray⟩] 102) = wa := ⟨_, rfl⟩
    have hBa : Below w.heap.size w wa := by rw [← hwa]; (repeat (first | exact Below.refl _ _ | assumption | refine Below.alloc ?_ (by first | exact Nat.le_refl _ | exact Below.size (by assumption) | omega | (simp <;> omega)) _ | refine Below.setCell ?_ (by first | exact Nat.le_refl _ | exact Below.size (by assumption) | omega | (simp <;> omega)) _ | refine below_drewN ?_ _ | refine Below.drew ?_))
    have hRa : BX wa w.heap.size zeroB := by rw [← hwa]; exact hR0.below (by (repeat (first | exact Below.refl _ _ | assumption | refine Below.alloc ?_ (by first | exact Nat.le_refl _ | exact Below.size (by assumption) | omega | (simp <;> omega)) _ | refine Below.setCell ?_ (by first | exact Nat.le_refl _ | exact Below.size (by assumption) | omega | (simp <;> omega)) _ | refine below_drewN ?_ _ | refine Below.drew ?_))) hR0.lt
    have hka : RdrX wa (w.heap.size + 1) s := by
      rw [← hwa]
      have : RdrX ((w.alloc (.cells #[.int .i64 0, .int .i64 0, .int .u8 0, .int .i64 0, .int .i64 0, .int .i64 0, .slice none 0 0] 25)).alloc (.cells #[.string ⟨s.toArray⟩] 102)) (w.alloc (.cells #[.int .i64 0, .int .i64 0, .int .u8 0, .int .i64 0, .int .i64 0, .int .i64 0, .slice none 0 0] 25)).heap.size s := heap_alloc_new _ _
      simpa using this
    have HWA := Lib.hid hwa
    have HREC := Lib.hid (rec_any (s.length + 1) (w.heap.size + 1) s wa hka (Nat.lt_succ_self _) (by omega))
    have hza : w.heap.size + 1 < wa.heap.size := by rw [← hwa]; simp
    clear hwa hR0 hl hka
    go_enter Tryd.func52, Tryd.ntmps52
    go_wp2_with fail
    rw [HWA.out]
    refine HREC.out.mono ?_
    rintro e w2 ⟨hg, hm⟩
    have hR2 := hRa.grown hg (by omega)
    have hB2 : Below w.heap.size w w2 := hBa.trans (below_of_grown hg (by omega) (by have := hBa.size; omega))
    have hs2 := hg.size
    have hsa := hBa.size
    clear hg hRa
    cases hrc : recS (s.length + 1) s with
    | none =>
      rw [hrc] at hm
      obtain ⟨v, q, rfl, hq⟩ := hm
      have HP2 : Hid (parseS s = .error 3) := by show _ = _; rw [HP.out, hrc]
      obtain ⟨wv, hwv⟩ : ∃ wv, w2.alloc (.cells #[.int .i64 v.op, .int .i64 v.ax, .int .u8 v.co, .int .i64 v.n0, .int .i64 v.n1, .int .i64 v.n2, .slice v.A v.ps.length v.cp] 25) = wv := ⟨_, rfl⟩
      have hbv : Below w2.heap.size w2 wv := by rw [← hwv]; (repeat (first | exact Below.refl _ _ | assumption | refine Below.alloc ?_ (by first | exact Nat.le_refl _ | exact Below.size (by assumption) | omega | (simp <;> omega)) _ | refine Below.setCell ?_ (by first | exact Nat.le_refl _ | exact Below.size (by assumption) | omega | (simp <;> omega)) _ | refine below_drewN ?_ _ | refine Below.drew ?_))
      have HRV := Lib.hid (hR2.below hbv hR2.lt)
      have HBV := Lib.hid (hB2.trans (hbv.mono hB2.size))
      rw [← hwv] at HRV HBV
      clear hwv hbv hrc hq hR2
      go_wp2_with ((with_reducible refine at_store7 ?_); refine wpList_store7 zeroB _ _ HRV.out rfl rfl rfl rfl ?_)
      obtain ⟨y0, y1, y2, y3, y4, y5, y6⟩ := (BX.put HRV.out zeroB).c
      refine bodyPost_ret (v := .tuple #[valB zeroB, .int .i64 3]) (by simp [results, Tryd.results52, go_sem, y0, y1, y2, y3, y4, y5, y6]) rfl ?_
      refine ⟨HBV.out.trans (below_of_grown (putB_grown _ w.heap.size _) (Nat.le_refl _) (by simp; try omega)), ?_⟩
      rw [HP2.out]
    | some x =>
      obtain ⟨t, q⟩ := x
      rw [hrc] at hm
      obtain ⟨b, hst, rfl, hq, hok⟩ := hm
      have hfs : formS b = formS t := by rw [← hst, form_strip]
      obtain ⟨wb, hwb⟩ : ∃ wb, w2.alloc (.cells #[.int .i64 b.op, .int .i64 b.ax, .int .u8 b.co, .int .i64 b.n0, .int .i64 b.n1, .int .i64 b.n2, .slice b.A b.ps.length b.cp] 25) = wb := ⟨_, rfl⟩
      have hbb : Below w2.heap.size w2 wb := by rw [← hwb]; (repeat (first | exact Below.refl _ _ | assumption | refine Below.alloc ?_ (by first | exact Nat.le_refl _ | exact Below.size (by assumption) | omega | (simp <;> omega)) _ | refine Below.setCell ?_ (by first | exact Nat.le_refl _ | exact Below.size (by assumption) | omega | (simp <;> omega)) _ | refine below_drewN ?_ _ | refine Below.drew ?_))
      have hBb := hB2.trans (hbb.mono hB2.size)
      have hRb := hR2.below hbb hR2.lt
      have hqb := hq.below hbb hq.lt
      have hXb : BX wb w2.heap.size b := by rw [← hwb]; exact BX.new w2 b
      have hokb : OkI wb (fun i => w.heap.size + 1 ≤ i ∧ i < w2.heap.size) b := hok.keep (fun i h => ⟨by omega, h.2⟩) fun b off v hi hc => (hbb.cell hi.2).trans hc
      have HWB := Lib.hid hwb
      have HR2 := Lib.hid (And.intro hRb (And.intro hBb (And.intro hXb hokb)))
      obtain ⟨c0, c1⟩ := hq.c
      have hkq : w.heap.size + 1 < w2.heap.size := hq.lt
      have hsb := hbb.size
      clear hwb hbb hBb hRb hXb hokb hR2 hok
      cases q with
      | cons c l =>
        have HP2 : Hid (parseS s = .error 3) := by show _ = _; rw [HP.out, hrc]
        have hneq : ∀ w, (binOp .neq 9 (.string ⟨(c :: l).toArray⟩) (.string ⟨#[]⟩)).run Tryd.prog w = .ok (.bool true) w := ne_empty (by simp)
        clear hrc
        have HRZ : Hid (BX (w2.alloc (.cells #[.int .i64 b.op, .int .i64 b.ax, .int .u8 b.co, .int .i64 b.n0, .int .i64 b.n1, .int .i64 b.n2, .slice b.A b.ps.length b.cp] 25)) w.heap.size zeroB) := by show BX _ _ _; rw [HWB.out]; exact HR2.out.1
        go_wp2_with ((with_reducible refine at_store7 ?_); refine wpList_store7 zeroB _ _ HRZ.out rfl rfl rfl rfl ?_)
        obtain ⟨y0, y1, y2, y3, y4, y5, y6⟩ := (BX.put HRZ.out zeroB).c
        refine bodyPost_ret (v := .tuple #[valB zeroB, .int .i64 3]) (by simp [results, Tryd.results52, go_sem, y0, y1, y2, y3, y4, y5, y6]) rfl ?_
        rw [HWB.out]
        refine ⟨HR2.out.2.1.trans (below_of_grown (putB_grown _ w.heap.size _) (Nat.le_refl _) (by have := HR2.out.2.1.size; omega)), ?_⟩
        rw [HP2.out]
      | nil =>
        have hneq : ∀ w, (binOp .neq 9 (.string ⟨([] : Bs).toArray⟩) (.string ⟨#[]⟩)).run Tryd.prog w = .ok (.bool false) w := fun w => by
          have u3 := Tryd.underlying9
          go_simp
        have HP2 : Hid (parseS s = match formS b with
          | .error e => .error e
          | .ok _ => .ok t) := by show _ = _; rw [HP.out, hrc, hfs]
        have HST := Lib.hid hst
        clear hrc hfs hst
        go_wp2_with fail
        rw [HWB.out]
        refine (Check_any b wb (HR2.out.2.2.2.keep (fun i h => by omega) fun _ _ _ _ hc => hc)).mono ?_
        rintro e w3 ⟨rfl, hb3⟩
        have hs3 := hb3.size
        have HR3 := Lib.hid (And.intro (HR2.out.1.below hb3 HR2.out.1.lt) (And.intro (HR2.out.2.1.trans (hb3.mono HR2.out.2.1.size)) (And.intro (HR2.out.2.2.1.below hb3 HR2.out.2.2.1.lt) (HR2.out.2.2.2.keep (I' := fun i => w.heap.size + 1 ≤ i ∧ i < w3.heap.size) (w' := w3) (fun i h => ⟨h.1, by omega⟩) fun b off v hi hc => (hb3.cell (show b < wb.heap.size by have := hi.2; omega)).trans hc))))
        clear hneq c0 c1
        cases hf : formS b with
        | error x =>
          have hx := form_err hf
          have hce : checkB b = x := by unfold checkB; rw [hf]
          have HP3 : Hid (parseS s = .error x) := by show _ = _; rw [HP2.out, hf]
          have hne : (x != 0) = true := by simp; omega
          rw [hce]
          clear hf hce hx
          go_wp2_with ((with_reducible refine at_store7 ?_); refine wpList_store7 zeroB _ _ HR3.out.1 rfl rfl rfl rfl ?_)
          obtain ⟨y0, y1, y2, y3, y4, y5, y6⟩ := (BX.put HR3.out.1 zeroB).c
          refine bodyPost_ret (v := .tuple #[valB zeroB, .int .i64 x]) (by simp [results, Tryd.results52, go_sem, y0, y1, y2, y3, y4, y5, y6]) rfl ?_
          refine ⟨HR3.out.2.1.trans (below_of_grown (putB_grown _ w.heap.size _) (Nat.le_refl _) (by have := HR3.out.2.1.size; omega)), ?_⟩
          rw [HP3.out]
        | ok S =>
          have hce : checkB b = 0 := by unfold checkB; rw [hf]
          have HP3 : Hid (parseS s = .ok t) := by show _ = _; rw [HP2.out, hf]
          rw [hce]
          clear hf hce
          obtain ⟨f0, f1, f2, f3, f4, f5, f6⟩ := HR3.out.2.2.1.c
          go_wp2_with ((with_reducible refine at_store7 ?_); refine wpList_store7 b _ _ HR3.out.1 rfl rfl rfl rfl ?_)
          obtain ⟨y0, y1, y2, y3, y4, y5, y6⟩ := (BX.put HR3.out.1 b).c
          refine bodyPost_ret (v := .tuple #[valB b, .int .i64 0]) (by simp [results, Tryd.results52, go_sem, y0, y1, y2, y3, y4, y5, y6]) rfl ?_
          refine ⟨HR3.out.2.1.trans (below_of_grown (putB_grown _ w.heap.size _) (Nat.le_refl _) (by have := HR3.out.2.1.size; omega)), ?_⟩
          rw [HP3.out]
          refine ⟨b, HST.out, rfl, HR3.out.2.2.2.grown (putB_grown w3 w.heap.size b) (fun i h => ⟨by omega, by have := (putB_grown w3 w.heap.size b).size; omega⟩) (fun i h e => by injection e with e; omega)⟩
end Go.Proofs.YtbcnkcndhgihaaaDoor

/- checked, ofModel and Line of both: the walks. -/
import Derived.Test.YthccpdefgjneiaaDoorOP10
import Derived.Test.YthccpdefgjneiaaDoorOP6
import Derived.Test.YthccpdefgjneiaaDoorOM8
namespace Go.Proofs.YthccpdefgjneiaaDoor
open Go.RowKit Go.Shelf Go.Maps
set_option linter.unusedSimpArgs false

/-- A form in a block. -/
structure AtF (w : World) (B : Nat) (f : FT) : Prop where
  c0 : w.cell? ⟨B, 0, none⟩ = some (.string f.cu)
  c1 : w.cell? ⟨B, 1, none⟩ = some (.int .i64 f.d)
  c2 : w.cell? ⟨B, 2, none⟩ = some (.string f.cr)
  c3 : w.cell? ⟨B, 3, none⟩ = some (.slice f.A f.ls.length f.cp)
theorem AtF.new (w : World) (f : FT) : AtF (w.alloc (.cells #[.string f.cu, .int .i64 f.d, .string f.cr, .slice f.A f.ls.length f.cp] 30)) w.heap.size f := ⟨by simp, by simp, by simp, by simp⟩
theorem AtF.below {w w' : World} {B C : Nat} {f : FT} (h : AtF w B f) (hb : Below C w w') (hB : B < C) : AtF w' B f := ⟨(hb.cell (p := ⟨B, 0, none⟩) hB).trans h.c0, (hb.cell (p := ⟨B, 1, none⟩) hB).trans h.c1, (hb.cell (p := ⟨B, 2, none⟩) hB).trans h.c2, (hb.cell (p := ⟨B, 3, none⟩) hB).trans h.c3⟩
def checkE (lp : List QT) (lr : List RT) (f : FT) : Int := if validPS lp then (if validRS lr then (if validFS f then 0 else 3) else 81) else 80
/-- What a price list, rates and a form are as arguments. -/
structure OkA (w : World) (A1 A2 : Option Addr) (lp : List QT) (lr : List RT) (f : FT) : Prop where
  q : OkQ w lp
  t : OkT lr
  p : RdQ w w.heap.size A1 lp
  r : RdT w w.heap.size A2 lr
  f : OkF w f
theorem OkA.now {w w' : World} {A1 A2 : Option Addr} {lp : List QT} {lr : List RT} {f : FT} (h : OkA w A1 A2 lp lr f) (hb : Below w.heap.size w w') : OkA w' A1 A2 lp lr f := ⟨h.q.now hb, h.t, h.p.now hb, h.r.now hb, h.f.now hb⟩
set_option maxRecDepth 100000 in
set_option maxHeartbeats 1000000 in
theorem checked_any (A1 A2 : Option Addr) (c1 c2 : Nat) (lp : List QT) (lr : List RT) (f : FT) (w : World) (h : OkA w A1 A2 lp lr f) :
    Calls Tryd.prog 73 #[.slice A1 lp.length c1, .slice A2 lr.length c2, valF f] w (Ret (.int .i64 (checkE lp lr f)) w) := by
  have HA := Lib.hid h; clear h
  obtain ⟨w0, hw0⟩ : ∃ w0, w.alloc (.cells #[.string f.cu, .int .i64 f.d, .string f.cr, .slice f.A f.ls.length f.cp] 30) = w0 := ⟨_, rfl⟩
  have hB0 : Below w.heap.size w w0 := by rw [← hw0]; (repeat (first | exact Below.refl _ _ | assumption | refine Below.alloc ?_ (by first | exact Nat.le_refl _ | exact Below.size (by assumption) | omega | (simp <;> omega)) _ | refine Below.setCell ?_ (by first | exact Nat.le_refl _ | exact Below.size (by assumption) | omega | (simp <;> omega)) _ | refine below_drewN ?_ _ | refine Below.drew ?_))
  have hz0 : w.heap.size < w0.heap.size := by rw [← hw0]; simp
  have HF := Lib.hid (show AtF w0 w.heap.size f by rw [← hw0]; exact AtF.new w f)
  cases h1 : validPS lp
  · have HS := Lib.hid (show checkE lp lr f = 80 by unfold checkE; rw [h1]; rfl)
    have H1 := Lib.hid h1; clear h1
    go_enter Tryd.func73, Tryd.ntmps73
    go_wp2_with fail
    clear hw0
    refine (validP_any A1 c1 lp _ (HA.out.q.now hB0) (HA.out.p.now hB0)).mono ?_
    rintro e w2 ⟨rfl, hb2⟩
    rw [H1.out]
    go_wp2
    go_ret
    exact Ret.mk (by rw [HS.out] <;> rfl) (hB0.trans (hb2.mono hB0.size))
  have H1 := Lib.hid h1; clear h1
  cases h2 : validRS lr
  · have HS := Lib.hid (show checkE lp lr f = 81 by unfold checkE; rw [H1.out, h2]; rfl)
    have H2 := Lib.hid h2; clear h2
    go_enter Tryd.func73, Tryd.ntmps73
    go_wp2_with fail
    clear hw0
    refine (validP_any A1 c1 lp _ (HA.out.q.now hB0) (HA.out.p.now hB0)).mono ?_
    rintro e w2 ⟨rfl, hb2⟩
    rw [H1.out]
    have hB2 := hB0.trans (hb2.mono hB0.size)
    go_wp2_with fail
    refine (validR_any A2 c2 lr _ HA.out.t (HA.out.r.now hB2)).mono ?_
    rintro e w3 ⟨rfl, hb3⟩
    rw [H2.out]
    go_wp2
    go_ret
    exact Ret.mk (by rw [HS.out] <;> rfl) (hB2.trans (hb3.mono hB2.size))
  have H2 := Lib.hid h2; clear h2
  obtain ⟨v, hv⟩ : ∃ v, validFS f = v := ⟨_, rfl⟩
  have HS := Lib.hid (show checkE lp lr f = if v then 0 else 3 by unfold checkE; rw [H1.out, H2.out, hv]; rfl)
  have HV := Lib.hid hv; clear hv
  go_enter Tryd.func73, Tryd.ntmps73
  go_wp2_with fail
  clear hw0
  refine (validP_any A1 c1 lp _ (HA.out.q.now hB0) (HA.out.p.now hB0)).mono ?_
  rintro e w2 ⟨rfl, hb2⟩
  rw [H1.out]
  have hB2 := hB0.trans (hb2.mono hB0.size)
  go_wp2_with fail
  refine (validR_any A2 c2 lr _ HA.out.t (HA.out.r.now hB2)).mono ?_
  rintro e w3 ⟨rfl, hb3⟩
  rw [H2.out]
  have hb23 := hb2.trans (hb3.mono hb2.size)
  have hB3 := hB0.trans (hb23.mono hB0.size)
  obtain ⟨f0, f1, f2, f3⟩ := HF.out.below hb23 hz0
  go_wp2_with fail
  refine (validF_any f _ (HA.out.f.now hB3)).mono ?_
  rintro e w4 ⟨rfl, hb4⟩
  rw [HV.out]
  cases v
  · go_wp2
    go_ret
    exact Ret.mk (by rw [HS.out] <;> rfl) (hB3.trans (hb4.mono hB3.size))
  · go_wp2
    go_ret
    exact Ret.mk (by rw [HS.out] <;> rfl) (hB3.trans (hb4.mono hB3.size))
def ofM (l : List GT) (m : ByteArray) : Int := l.foldl (fun s g => if g.m = m then wrap64 (s + g.n) else s) 0
theorem ofM_snoc {l : List GT} {k : Nat} {g : GT} (h : l[k]? = some g) (m : ByteArray) : ofM (l.take (k + 1)) m = if g.m = m then wrap64 (ofM (l.take k) m + g.n) else ofM (l.take k) m := by
  unfold ofM; rw [take_succ_of h, List.foldl_append]; rfl
set_option maxRecDepth 100000 in
set_option maxHeartbeats 1000000 in
theorem ofModel_any (f : FT) (m : ByteArray) (w : World) (h : OkF w f) : Calls Tryd.prog 74 #[valF f, .string m] w (Ret (.int .i64 (ofM f.ls m)) w) := by
  have HO := Lib.hid h; clear h
  have hlm : (f.ls.length : Int) ≤ 9223372036854775807 := by have := HO.out.len; unfold maxLen at this; omega
  obtain ⟨w0, hw0⟩ : ∃ w0, w.alloc (.cells #[.string f.cu, .int .i64 f.d, .string f.cr, .slice f.A f.ls.length f.cp] 30) = w0 := ⟨_, rfl⟩
  have hB0 : Below w.heap.size w w0 := by rw [← hw0]; (repeat (first | exact Below.refl _ _ | assumption | refine Below.alloc ?_ (by first | exact Nat.le_refl _ | exact Below.size (by assumption) | omega | (simp <;> omega)) _ | refine Below.setCell ?_ (by first | exact Nat.le_refl _ | exact Below.size (by assumption) | omega | (simp <;> omega)) _ | refine below_drewN ?_ _ | refine Below.drew ?_))
  have k3 : w0.cell? ⟨w.heap.size, 3, none⟩ = some (.slice f.A f.ls.length f.cp) := by rw [← hw0]; simp
  go_enter Tryd.func74, Tryd.ntmps74
  go_wp2
  clear hw0
  go_loopw [5, 6] (fun c i wr => ∃ k : Nat, k ≤ f.ls.length ∧ i = .int .i64 k ∧ c = .int .i64 (ofM (f.ls.take k) m) ∧ wr = w0) (fun _ i _ => f.ls.length - (intOf i).toNat)
  case atStart => exact ⟨0, Nat.zero_le _, rfl, rfl, rfl⟩
  case round =>
    obtain ⟨k, hk, rfl, rfl, rfl⟩ := hrel
    by_cases hlt : k < f.ls.length
    · obtain ⟨g, hg⟩ := getElem?_of_lt hlt
      obtain ⟨b, off, hA, hb, d0, d1, d2, d3⟩ := (HO.out.rd.now hB0) k g hg
      have HSN := Lib.hid (ofM_snoc hg m)
      clear hg d1 d2
      rw [hA] at k3; clear hA
      have hstr := str_eq g.m m
      by_cases hn : g.m = m
      · rw [decide_eq_true hn] at hstr
        have HE := Lib.hid (HSN.out.trans (if_pos hn))
        clear hn
        go_wp2
        go_roundw
        case rel => exact ⟨k + 1, by omega, by go_num, by rw [HE.out], trivial⟩
        case measure => simp [intOf]; omega
      · rw [decide_eq_false hn] at hstr
        have HE := Lib.hid (HSN.out.trans (if_neg hn))
        clear hn
        go_wp2
        go_roundw
        case rel => exact ⟨k + 1, by omega, by go_num, by rw [HE.out], trivial⟩
        case measure => simp [intOf]; omega
    · obtain rfl : k = f.ls.length := by omega
      rw [List.take_length]
      go_wp2
      go_ret
      exact Ret.mk rfl hB0
def lineG (lp : List QT) (lr : List RT) (f : FT) (x : GT) : Int × Int :=
  if (priceV lp x.m f.d (ofM f.ls x.m)).2 = 0 then convS lr f.cr f.d (wrap64 ((priceV lp x.m f.d (ofM f.ls x.m)).1 * x.n)) else (0, (priceV lp x.m f.d (ofM f.ls x.m)).2)
def lineV (lp : List QT) (lr : List RT) (f : FT) (i : Int) : Int × Int :=
  if checkE lp lr f = 0 then (if 0 ≤ i then (match f.ls[i.toNat]? with | none => (0, 2) | some x => lineG lp lr f x) else (0, 2)) else (0, checkE lp lr f)
theorem lineV_get {lp : List QT} {lr : List RT} {f : FT} {k : Nat} {x : GT} (hc : checkE lp lr f = 0) (h : f.ls[k]? = some x) : lineV lp lr f (k : Int) = lineG lp lr f x := by
  unfold lineV
  rw [if_pos hc, if_pos (by omega), Int.toNat_natCast, h]
theorem lineV_out {lp : List QT} {lr : List RT} {f : FT} {i : Int} (hc : checkE lp lr f = 0) (h : ¬ (0 ≤ i ∧ i < (f.ls.length : Int))) : lineV lp lr f i = (0, 2) := by
  unfold lineV
  rw [if_pos hc]
  split
  · rw [List.getElem?_eq_none (by omega)]
  · rfl
theorem check_form {lp : List QT} {lr : List RT} {f : FT} (h : checkE lp lr f = 0) : validPS lp = true ∧ validRS lr = true ∧ validFS f = true := by
  unfold checkE at h
  split at h
  · next h1 =>
    split at h
    · next h2 =>
      split at h
      · next h3 => exact ⟨h1, h2, h3⟩
      · simp at h
    · simp at h
  · simp at h
end Go.Proofs.YthccpdefgjneiaaDoor

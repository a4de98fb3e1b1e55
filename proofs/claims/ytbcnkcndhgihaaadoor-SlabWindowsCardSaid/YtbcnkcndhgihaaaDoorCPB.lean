/- Blocks: the program's Depth: the walk. Blocks: the reference's Depth: the walk. Blocks: the reference's plane: the walks. Printed by gencp6.py. -/
import Derived.Test.YtbcnkcndhgihaaaDoorCPA
namespace Go.Proofs.YtbcnkcndhgihaaaDoor
open Go.RowKit
set_option linter.unusedSimpArgs false

def depS (s : Sh) (x y : Int) (k : Nat) : List Int := (List.range k).map fun (i : Nat) => s.at ⟨x, y, i⟩
theorem dep_succ (s : Sh) (x y : Int) (k : Nat) : depS s x y (k + 1) = depS s x y k ++ [s.at ⟨x, y, k⟩] := by
  unfold depS; rw [List.range_succ, List.map_append]; rfl
theorem dep_len (s : Sh) (x y : Int) (k : Nat) : (depS s x y k).length = k := by unfold depS; simp
def depthB (b : BT) (x y : Int) : ByteArray × Int := match formS b with
  | .error e => (⟨#[]⟩, e)
  | .ok s => if (0 ≤ x ∧ x < s.ext.x) ∧ 0 ≤ y ∧ y < s.ext.y then (strB (depS s x y s.ext.z.toNat), 0) else (⟨#[]⟩, 2)
theorem dep_col {s : Sh} (hok : s.Ok) {x y : Int} (hx : 0 ≤ x ∧ x < s.ext.x) (hy : 0 ≤ y ∧ y < s.ext.y) : ∀ c ∈ depS s x y s.ext.z.toNat, 0 ≤ c ∧ c ≤ 255 := by
  intro c hc
  unfold depS at hc
  obtain ⟨i, hi, rfl⟩ := List.mem_map.1 hc
  have h := List.mem_range.1 hi
  have := at_col s hok ⟨x, y, (i : Int)⟩ ⟨hx, hy, by dsimp only; omega, by dsimp only; omega⟩
  omega
set_option maxRecDepth 100000 in
set_option maxHeartbeats 4000000 in
theorem Depth_any (b : BT) (x y : Int) (w : World) (hb : OkB w w.heap.size b) : Calls Tryd.prog 24 #[valB b, .int .i64 x, .int .i64 y] w (Ret (.tuple #[.string (depthB b x y).1, .int .i64 (depthB b x y).2]) w) := by
  have HFORM := Lib.hid (form_any b _ (hb.now (w' := w.alloc (.cells #[.int .i64 b.op, .int .i64 b.ax, .int .u8 b.co, .int .i64 b.n0, .int .i64 b.n1, .int .i64 b.n2, .slice b.A b.ps.length b.cp] 25)) (by (repeat (first | exact Below.refl _ _ | assumption | refine Below.alloc ?_ (by first | exact Nat.le_refl _ | exact Below.size (by assumption) | omega | (simp <;> omega)) _ | refine Below.setCell ?_ (by first | exact Nat.le_refl _ | exact Below.size (by assumption) | omega | (simp <;> omega)) _ | refine below_drewN ?_ _ | refine Below.drew ?_)))))
  clear hb
  obtain ⟨i1, hj1, hy0, hy1, hy2⟩ := infoS_partsY Tryd.infoSY
  have HJY := Lib.hid hj1; clear hj1
  go_enter Tryd.func24, Tryd.ntmps24
  go_wp2_with fail
  refine HFORM.out.mono ?_
  rintro e w2 ⟨hb2, v, er, rfl, hok, her⟩
  have hB2 : Below w.heap.size w w2 := below_next (by (repeat (first | exact Below.refl _ _ | assumption | refine Below.alloc ?_ (by first | exact Nat.le_refl _ | exact Below.size (by assumption) | omega | (simp <;> omega)) _ | refine Below.setCell ?_ (by first | exact Nat.le_refl _ | exact Below.size (by assumption) | omega | (simp <;> omega)) _ | refine below_drewN ?_ _ | refine Below.drew ?_))) hb2
  clear hb2
  cases hf : formS b with
  | error er2 =>
    obtain rfl := her er2 hf
    have hx := form_err hf
    have HS : Hid (depthB b x y = (⟨#[]⟩, er)) := by show _ = _; unfold depthB; rw [hf]
    have hne : (er != 0) = true := by simp; omega
    clear hf hx hok her
    go_wp2
    go_ret2
    exact Ret.mk (by rw [HS.out]; rfl) hB2
  | ok S =>
    obtain ⟨rfl, rfl⟩ := hok S hf
    have hSok := form_ok hf
    have HSP : Hid (depthB b x y = if (0 ≤ x ∧ x < S.ext.x) ∧ 0 ≤ y ∧ y < S.ext.y then (strB (depS S x y S.ext.z.toNat), 0) else (⟨#[]⟩, 2)) := by show _ = _; unfold depthB; rw [hf]
    have HAT := Lib.hid (fun c W => at_any S hSok c W)
    have HCO := Lib.hid (fun (hx : 0 ≤ x ∧ x < S.ext.x) (hy : 0 ≤ y ∧ y < S.ext.y) => dep_col hSok hx hy)
    have hbd := hSok.ext
    have hm := S.ma
    have hea := S.ea
    obtain ⟨t, ht⟩ : ∃ t, S.ext = t := ⟨_, rfl⟩
    have hx := S.me
    rw [ht] at HAT HSP hbd hx HCO
    obtain ⟨t1, t2, t3⟩ := t
    unfold ExtOk at hbd
    dsimp only at hbd HSP HCO
    obtain ⟨nz, hnz⟩ : ∃ nz : Nat, t3 = (nz : Int) := ⟨t3.toNat, by omega⟩
    have hnz2 : t3.toNat = nz := by omega
    rw [hnz2] at HSP HCO
    subst hnz
    have hw1 : wrap64 (t1 - 1) = t1 - 1 := w64b (by omega) (by omega)
    have hw2 : wrap64 (t2 - 1) = t2 - 1 := w64b (by omega) (by omega)
    clear hf ht hok her hSok hnz2
    go_wp2_with fail
    refine (ext_ret ⟨t1, t2, (nz : Int)⟩ _).mono ?_
    rintro e w3 ⟨rfl, hb3⟩
    have hB3 := hB2.trans (hb3.mono hB2.size)
    by_cases hx1 : 0 ≤ x ∧ x < t1
    · have hbt : btw 0 x (t1 - 1) = true := by unfold btw; simp; omega
      go_wp2_with fail
      refine (between_any _ _ _ _).mono ?_
      rintro e w9 ⟨rfl, hw9⟩
      subst hw9
      rw [hbt]
      by_cases hy1' : 0 ≤ y ∧ y < t2
      · have hbt2 : btw 0 y (t2 - 1) = true := by unfold btw; simp; omega
        have HS := Lib.hid (HSP.out.trans (if_pos ⟨hx1, hy1'⟩))
        have HCOL := Lib.hid (HCO.out hx1 hy1')
        go_wp2_with fail
        refine (between_any _ _ _ _).mono ?_
        rintro e w9 ⟨rfl, hw9⟩
        subst hw9
        rw [hbt2]
        go_wp2
        obtain ⟨wx, hwx⟩ : ∃ wx, w3.alloc (.cells #[.int .i64 t1, .int .i64 t2, .int .i64 (nz : Int)] 22) = wx := ⟨_, rfl⟩
        have hbx : Below w.heap.size w wx := by rw [← hwx]; (repeat (first | exact Below.refl _ _ | assumption | refine Below.alloc ?_ (by first | exact Nat.le_refl _ | exact Below.size (by assumption) | omega | (simp <;> omega)) _ | refine Below.setCell ?_ (by first | exact Nat.le_refl _ | exact Below.size (by assumption) | omega | (simp <;> omega)) _ | refine below_drewN ?_ _ | refine Below.drew ?_))
        rw [hwx]
        clear hwx
        go_loopw [11, 12, 39] (fun l _ i wr => ∃ (r : Nat) (v : Value), v = l ∧ r ≤ nz ∧ i = .int .i64 r ∧ OwnSY wr wx.heap.size v (depS S x y r) ∧ Below wx.heap.size wx wr) (fun _ _ i _ => nz - (intOf i).toNat)
        case atStart => exact ⟨0, _, rfl, Nat.zero_le _, rfl, World.ownsRow_nil _ _ _ _, Below.refl _ _⟩
        case round =>
          obtain ⟨r, u, rfl, hr, rfl, hown, hB⟩ := hrel
          have HO := Lib.hid hown; clear hown
          have hsB := hB.size
          by_cases hlt : r < nz
          · have hin : InE ⟨t1, t2, (nz : Int)⟩ ⟨x, y, (r : Int)⟩ := ⟨hx1, hy1', by dsimp only; omega, by dsimp only; omega⟩
            have HC := Lib.hid (fun W => HAT.out ⟨x, y, (r : Int)⟩ W hin)
            have HLN := Lib.hid (dep_len S x y r)
            have hls : depS S x y (r + 1) = depS S x y r ++ [S.at ⟨x, y, (r : Int)⟩] := dep_succ S x y r
            have HSL := Lib.hid hls; clear hls hin
            go_wp2_with fail
            refine (HC.out _).mono ?_
            rintro e w4 ⟨rfl, hb4⟩
            have hB4 : Below wx.heap.size wx w4 := hB.trans (hb4.mono hsB)
            have HO4 : Hid (OwnSY w4 wx.heap.size u (depS S x y r)) := own_belowS HO.out hb4
            have hs4 := hB4.size
            clear hb4
            obtain ⟨cl, hcl⟩ : ∃ cl, S.at ⟨x, y, (r : Int)⟩ = cl := ⟨_, rfl⟩
            rw [hcl] at HSL ⊢
            clear hcl
            go_wp2_with (at_builtin; refine wpList_append_own _ rfl _ _ 52 rfl wx.heap.size 5 i1 (.int .u8 0) 1 1 Tryd.underlying52 HJY.out hy0 hy1 hy2 rfl (by decide) _ _ _ rfl (World.ownsRow.alloc HO4.out _) ⟨w4.heap.size, 0, none⟩ 1 1 [.int .u8 cl] rfl rfl (by intro j u hj; match j, hj with | 0, hj => (simp at hj; subst hj; simp [Addr.add]) | j + 1, hj => simp at hj) (by intro u hu; simp at hu; subst hu; rfl) (by have := HLN.out; unfold maxLen; omega) (by have := HLN.out; omega) (by simp; omega) ?_; intro v' w5 hown' hgrow _; have hB5 := below_grown (w1 := w4.alloc (.cells #[.int .u8 cl] 5)) (hB4.alloc (by omega) _) hgrow (fun j hj => (HO4.out.lt j hj).1) (by simp; omega); have own5 := ownSY_snoc hown' HSL.out; have HOW5 := Lib.hid own5; clear own5 hown' hgrow)
            go_wp2
            go_roundw
            case rel => exact ⟨r + 1, _, rfl, by omega, by go_num, HOW5.out, hB5⟩
            case measure => simp [intOf]; omega
          · obtain rfl : r = nz := by omega
            have hcv := run_str HO.out HCOL.out (Below.refl _ _)
            obtain ⟨st, hst⟩ : ∃ st, strB (depS S x y r) = st := ⟨_, rfl⟩
            rw [hst] at hcv HS
            clear hst
            have hBf := hbx.trans (hB.mono hbx.size)
            go_wp2
            go_ret2
            exact Ret.mk (by rw [HS.out]; rfl) hBf
      · have hbt2 : btw 0 y (t2 - 1) = false := by unfold btw; simp; omega
        have HS := Lib.hid (HSP.out.trans (if_neg (fun h => hy1' h.2)))
        clear hy1'
        go_wp2_with fail
        refine (between_any _ _ _ _).mono ?_
        rintro e w9 ⟨rfl, hw9⟩
        subst hw9
        rw [hbt2]
        go_wp2
        go_ret2
        exact Ret.mk (by rw [HS.out]; rfl) (by (repeat (first | exact Below.refl _ _ | assumption | refine Below.alloc ?_ (by first | exact Nat.le_refl _ | exact Below.size (by assumption) | omega | (simp <;> omega)) _ | refine Below.setCell ?_ (by first | exact Nat.le_refl _ | exact Below.size (by assumption) | omega | (simp <;> omega)) _ | refine below_drewN ?_ _ | refine Below.drew ?_)))
    · have hbt : btw 0 x (t1 - 1) = false := by unfold btw; simp; omega
      have HS := Lib.hid (HSP.out.trans (if_neg (fun h => hx1 h.1)))
      clear hx1
      go_wp2_with fail
      refine (between_any _ _ _ _).mono ?_
      rintro e w9 ⟨rfl, hw9⟩
      subst hw9
      rw [hbt]
      go_wp2
      go_ret2
      exact Ret.mk (by rw [HS.out]; rfl) (by (repeat (first | exact Below.refl _ _ | assumption | refine Below.alloc ?_ (by first | exact Nat.le_refl _ | exact Below.size (by assumption) | omega | (simp <;> omega)) _ | refine Below.setCell ?_ (by first | exact Nat.le_refl _ | exact Below.size (by assumption) | omega | (simp <;> omega)) _ | refine below_drewN ?_ _ | refine Below.drew ?_)))
end Go.Proofs.YtbcnkcndhgihaaaDoor

namespace Go.Proofs.YtbcnkcndhgihaaaDoor
open Go.RowKit
set_option linter.unusedSimpArgs false

set_option maxRecDepth 100000 in
set_option maxHeartbeats 4000000 in
theorem refDepth_any (b : BT) (x y : Int) (w : World) (hb : OkB w w.heap.size b) : Calls Tryd.prog 25 #[valB b, .int .i64 x, .int .i64 y] w (Ret (.tuple #[.string (depthB b x y).1, .int .i64 (depthB b x y).2]) w) := by
  obtain ⟨wa, hwa⟩ : ∃ wa, w.alloc (.cells #[.int .i64 b.op, .int .i64 b.ax, .int .u8 b.co, .int .i64 b.n0, .int .i64 b.n1, .int .i64 b.n2, .slice b.A b.ps.length b.cp] 25) = wa := ⟨_, rfl⟩
  have hBa : Below w.heap.size w wa := by rw [← hwa]; (repeat (first | exact Below.refl _ _ | assumption | refine Below.alloc ?_ (by first | exact Nat.le_refl _ | exact Below.size (by assumption) | omega | (simp <;> omega)) _ | refine Below.setCell ?_ (by first | exact Nat.le_refl _ | exact Below.size (by assumption) | omega | (simp <;> omega)) _ | refine below_drewN ?_ _ | refine Below.drew ?_))
  have hza : wa.heap.size = w.heap.size + 1 := by rw [← hwa]; simp
  have HXA : Hid (∀ W, Below wa.heap.size wa W → BxB W w.heap.size b) := by
    intro W hW
    have h1 := BxB.new w b 25
    rw [hwa] at h1
    exact h1.under hW (by omega)
  have HE := Lib.hid (refExtent_any b wa (hb.now hBa))
  have HCOL := Lib.hid (fun S (h : formS b = .ok S) c (hi : InE S.ext c) W (hB : Below w.heap.size w W) => col_any b S (form_whole h).2 (form_whole h).1 c W hi (hb.now hB))
  clear hb
  have HWA := Lib.hid hwa
  clear hwa
  obtain ⟨i1, hj1, hy0, hy1, hy2⟩ := infoS_partsY Tryd.infoSY
  have HJY := Lib.hid hj1; clear hj1
  obtain ⟨f0, f1, f2, f3, f4, f5, f6⟩ := HXA.out wa (Below.refl _ _)
  rw [← HWA.out] at f0 f1 f2 f3 f4 f5 f6
  have hlt0 : w.heap.size < wa.heap.size := by omega
  cases hf : formS b with
  | error er =>
    have hx := form_err hf
    have hE : extB b = (⟨0, 0, 0⟩, er) := by unfold extB; rw [hf]
    have HS : Hid (depthB b x y = (⟨#[]⟩, er)) := by show _ = _; unfold depthB; rw [hf]
    rw [hE] at HE
    dsimp only at HE
    have hne : (er != 0) = true := by simp; omega
    clear hE hf hx
    go_enter Tryd.func25, Tryd.ntmps25
    go_wp2_with fail
    rw [HWA.out]
    refine HE.out.mono ?_
    rintro e w2 ⟨rfl, hb2⟩
    have hB2 := hBa.trans (hb2.mono hBa.size)
    have hs2 := hB2.size
    clear f0 f1 f2 f3 f4 f5 f6
    go_wp2
    go_ret2
    exact Ret.mk (by rw [HS.out]; rfl) (by (repeat (first | exact Below.refl _ _ | assumption | refine Below.alloc ?_ (by first | exact Nat.le_refl _ | exact Below.size (by assumption) | omega | (simp <;> omega)) _ | refine Below.setCell ?_ (by first | exact Nat.le_refl _ | exact Below.size (by assumption) | omega | (simp <;> omega)) _ | refine below_drewN ?_ _ | refine Below.drew ?_)))
  | ok S =>
    have hE : extB b = (S.ext, 0) := by unfold extB; rw [hf]
    have HSP : Hid (depthB b x y = if (0 ≤ x ∧ x < S.ext.x) ∧ 0 ≤ y ∧ y < S.ext.y then (strB (depS S x y S.ext.z.toNat), 0) else (⟨#[]⟩, 2)) := by show _ = _; unfold depthB; rw [hf]
    have hSok := form_ok hf
    have HCO := Lib.hid (fun (hx : 0 ≤ x ∧ x < S.ext.x) (hy : 0 ≤ y ∧ y < S.ext.y) => dep_col hSok hx hy)
    rw [hE] at HE
    dsimp only at HE
    have HC := Lib.hid (HCOL.out S hf)
    have HI := Lib.hid (fun W => inside_any S.ext ⟨x, y, 0⟩ W)
    have HIN := Lib.hid (ins_iff (e := S.ext) (c := ⟨x, y, 0⟩))
    have hbd := hSok.ext
    obtain ⟨t, ht⟩ : ∃ t, S.ext = t := ⟨_, rfl⟩
    rw [ht] at HE HC HI HIN HSP HCO hbd
    obtain ⟨t1, t2, t3⟩ := t
    unfold ExtOk at hbd
    dsimp only at hbd HSP HCO
    obtain ⟨nz, hnz⟩ : ∃ nz : Nat, t3 = (nz : Int) := ⟨t3.toNat, by omega⟩
    have hnz2 : t3.toNat = nz := by omega
    rw [hnz2] at HSP HCO
    subst hnz
    clear hE hf ht HCOL hSok hnz2
    cases hi : insB ⟨t1, t2, (nz : Int)⟩ ⟨x, y, 0⟩
    · rw [hi] at HI
      have HS : Hid (depthB b x y = (⟨#[]⟩, 2)) := HSP.out.trans (if_neg (fun h => by
        have : InE ⟨t1, t2, (nz : Int)⟩ ⟨x, y, 0⟩ := ⟨h.1, h.2, by dsimp only; omega, by dsimp only; omega⟩
        rw [HIN.out.2 this] at hi
        cases hi))
      clear hi
      go_enter Tryd.func25, Tryd.ntmps25
      go_wp2_with fail
      rw [HWA.out]
      refine HE.out.mono ?_
      rintro e w2 ⟨rfl, hb2⟩
      have hB2 := hBa.trans (hb2.mono hBa.size)
      have hs2 := hb2.size
      clear f0 f1 f2 f3 f4 f5 f6
      go_wp2_with fail
      refine (HI.out _).mono ?_
      rintro e w3 ⟨rfl, hb3⟩
      have hB3 : Below w.heap.size w w3 := Below.trans (b := w2.alloc (.cells #[.int .i64 t1, .int .i64 t2, .int .i64 (nz : Int)] 22)) (by (repeat (first | exact Below.refl _ _ | assumption | refine Below.alloc ?_ (by first | exact Nat.le_refl _ | exact Below.size (by assumption) | omega | (simp <;> omega)) _ | refine Below.setCell ?_ (by first | exact Nat.le_refl _ | exact Below.size (by assumption) | omega | (simp <;> omega)) _ | refine below_drewN ?_ _ | refine Below.drew ?_))) (hb3.mono (by have := hB2.size; simp; omega))
      go_wp2
      go_ret2
      exact Ret.mk (by rw [HS.out]; rfl) hB3
    · have hin := HIN.out.1 hi
      rw [hi] at HI
      have hx1 : 0 ≤ x ∧ x < t1 := hin.1
      have hy1' : 0 ≤ y ∧ y < t2 := hin.2.1
      have HS := Lib.hid (HSP.out.trans (if_pos ⟨hx1, hy1'⟩))
      have HCOL := Lib.hid (HCO.out hx1 hy1')
      clear hi hin
      go_enter Tryd.func25, Tryd.ntmps25
      go_wp2_with fail
      rw [HWA.out]
      refine HE.out.mono ?_
      rintro e w2 ⟨rfl, hb2⟩
      have hB2 := hBa.trans (hb2.mono hBa.size)
      have hs2 := hb2.size
      clear f0 f1 f2 f3 f4 f5 f6
      go_wp2_with fail
      refine (HI.out _).mono ?_
      rintro e wx ⟨rfl, hb3⟩
      have hbax : Below wa.heap.size wa wx := Below.trans (b := w2.alloc (.cells #[.int .i64 t1, .int .i64 t2, .int .i64 (nz : Int)] 22)) (by (repeat (first | exact Below.refl _ _ | assumption | refine Below.alloc ?_ (by first | exact Nat.le_refl _ | exact Below.size (by assumption) | omega | (simp <;> omega)) _ | refine Below.setCell ?_ (by first | exact Nat.le_refl _ | exact Below.size (by assumption) | omega | (simp <;> omega)) _ | refine below_drewN ?_ _ | refine Below.drew ?_))) (hb3.mono (by simp; omega))
      have hcx : CX wx w2.heap.size ⟨t1, t2, (nz : Int)⟩ := (CX.new w2 ⟨t1, t2, (nz : Int)⟩).below hb3 (by simp)
      have hbx := hBa.trans (hbax.mono hBa.size)
      have hs3 := hb3.size
      simp at hs3
      have HZ : Hid (∀ W, Below wx.heap.size wx W → BxB W w.heap.size b ∧ CX W w2.heap.size ⟨t1, t2, (nz : Int)⟩ ∧ Below w.heap.size w W) := fun W h => ⟨HXA.out W (hbax.trans (h.mono hbax.size)), hcx.below h hcx.lt, hbx.trans (h.mono hbx.size)⟩
      clear hcx hb3
      go_wp2
      go_loopw [10, 11] (fun l i wr => ∃ (r : Nat) (v : Value), v = l ∧ r ≤ nz ∧ i = .int .i64 r ∧ OwnSY wr wx.heap.size v (depS S x y r) ∧ Below wx.heap.size wx wr) (fun _ i _ => nz - (intOf i).toNat)
      case atStart => exact ⟨0, _, rfl, Nat.zero_le _, rfl, World.ownsRow_nil _ _ _ _, Below.refl _ _⟩
      case round =>
        obtain ⟨r, u, rfl, hr, rfl, hown, hB⟩ := hrel
        have HO := Lib.hid hown; clear hown
        have hsB := hB.size
        obtain ⟨⟨f0, f1, f2, f3, f4, f5, f6⟩, hX, hBW⟩ := HZ.out wr hB
        obtain ⟨x0, x1, x2, _⟩ := hX.c
        clear hX
        by_cases hlt : r < nz
        · have hin : InE ⟨t1, t2, (nz : Int)⟩ ⟨x, y, (r : Int)⟩ := ⟨hx1, hy1', by dsimp only; omega, by dsimp only; omega⟩
          have HC2 := Lib.hid (HC.out ⟨x, y, (r : Int)⟩ hin wr hBW)
          have HLN := Lib.hid (dep_len S x y r)
          have hls : depS S x y (r + 1) = depS S x y r ++ [S.at ⟨x, y, (r : Int)⟩] := dep_succ S x y r
          have HSL := Lib.hid hls; clear hls hin
          go_wp2_with fail
          refine HC2.out.mono ?_
          rintro e w4 ⟨rfl, hb4⟩
          have hB4 : Below wx.heap.size wx w4 := hB.trans (hb4.mono hsB)
          have HO4 : Hid (OwnSY w4 wx.heap.size u (depS S x y r)) := own_belowS HO.out hb4
          have hs4 := hB4.size
          clear hb4 f0 f1 f2 f3 f4 f5 f6 x0 x1 x2
          obtain ⟨cl, hcl⟩ : ∃ cl, S.at ⟨x, y, (r : Int)⟩ = cl := ⟨_, rfl⟩
          rw [hcl] at HSL ⊢
          clear hcl
          go_wp2_with (at_builtin; refine wpList_append_own _ rfl _ _ 52 rfl wx.heap.size 5 i1 (.int .u8 0) 1 1 Tryd.underlying52 HJY.out hy0 hy1 hy2 rfl (by decide) _ _ _ rfl (World.ownsRow.alloc HO4.out _) ⟨w4.heap.size, 0, none⟩ 1 1 [.int .u8 cl] rfl rfl (by intro j u hj; match j, hj with | 0, hj => (simp at hj; subst hj; simp [Addr.add]) | j + 1, hj => simp at hj) (by intro u hu; simp at hu; subst hu; rfl) (by have := HLN.out; unfold maxLen; omega) (by have := HLN.out; omega) (by simp; omega) ?_; intro v' w5 hown' hgrow _; have hB5 := below_grown (w1 := w4.alloc (.cells #[.int .u8 cl] 5)) (hB4.alloc (by omega) _) hgrow (fun j hj => (HO4.out.lt j hj).1) (by simp; omega); have own5 := ownSY_snoc hown' HSL.out; have HOW5 := Lib.hid own5; clear own5 hown' hgrow)
          go_wp2
          go_roundw
          case rel => exact ⟨r + 1, _, rfl, by omega, by go_num, HOW5.out, hB5⟩
          case measure => simp [intOf]; omega
        · obtain rfl : r = nz := by omega
          have hcv := run_str HO.out HCOL.out (Below.refl _ _)
          obtain ⟨st, hst⟩ : ∃ st, strB (depS S x y r) = st := ⟨_, rfl⟩
          rw [hst] at hcv HS
          clear hst
          go_wp2
          go_ret2
          exact Ret.mk (by rw [HS.out]; rfl) hBW
end Go.Proofs.YtbcnkcndhgihaaaDoor

namespace Go.Proofs.YtbcnkcndhgihaaaDoor
open Go.RowKit
set_option linter.unusedSimpArgs false

def plineS (s : Sh) (a n u y : Int) (k : Nat) : List Int := (List.range k).map fun (i : Nat) => s.at (cellA a n (u + i) y)
theorem pline_succ (s : Sh) (a n u y : Int) (k : Nat) : plineS s a n u y (k + 1) = plineS s a n u y k ++ [s.at (cellA a n (u + k) y)] := by
  unfold plineS; rw [List.range_succ, List.map_append]; rfl
theorem pline_len (s : Sh) (a n u y : Int) (k : Nat) : (plineS s a n u y k).length = k := by unfold plineS; simp
def planeS (s : Sh) (a n u v : Int) (cw k : Nat) : List ByteArray := (List.range k).map fun (j : Nat) => strB (plineS s a n u (v + j) cw)
theorem plane_succ (s : Sh) (a n u v : Int) (cw k : Nat) : planeS s a n u v cw (k + 1) = planeS s a n u v cw k ++ [strB (plineS s a n u (v + k) cw)] := by
  unfold planeS; rw [List.range_succ, List.map_append]; rfl
theorem plane_len (s : Sh) (a n u v : Int) (cw k : Nat) : (planeS s a n u v cw k).length = k := by unfold planeS; simp
theorem plane_layer (s : Sh) (a n : Int) : planeS s a n 0 0 (s.ext.get (axP a)).toNat (s.ext.get (axQ a)).toNat = layerS s a n := by
  unfold planeS layerS layS plineS lineS
  simp only [Int.zero_add]

set_option maxRecDepth 100000 in
set_option maxHeartbeats 8000000 in
theorem plane0_any (b : BT) (S : Sh) (hf : formS b = .ok S) (n u v : Int) (nw nh : Nat) (hw : nw ≤ 200) (hh : nh ≤ 200) (hu : 0 ≤ u ∧ u ≤ 1000) (hv : 0 ≤ v ∧ v ≤ 1000) (hin : ∀ r m : Nat, r < nw → m < nh → InE S.ext ⟨n, u + (r : Int), v + (m : Int)⟩) (w : World) (hb : OkB w w.heap.size b) :
    Calls Tryd.prog 60 #[valB b, .int .i64 0, .int .i64 n, .agg #[.int .i64 u, .int .i64 v], .agg #[.int .i64 nw, .int .i64 nh]] w (RetT (planeS S 0 n u v nw nh) w) := by
  have hmx : Tryd.prog.follows .mixedOrders = true := by kernel_rfl
  have hSok := form_ok hf
  have HIN := Lib.hid hin
  have HCOL := Lib.hid (fun c (hi : InE S.ext c) W (hB : Below w.heap.size w W) => col_any b S (form_whole hf).2 (form_whole hf).1 c W hi (hb.now hB))
  have HCO : Hid (∀ m : Nat, m < nh → ∀ c ∈ plineS S 0 n u (v + m) nw, 0 ≤ c ∧ c ≤ 255) := by
    intro m hm c hc
    unfold plineS at hc
    obtain ⟨i, hi, rfl⟩ := List.mem_map.1 hc
    have h := List.mem_range.1 hi
    have := at_col S hSok _ (hin i m h hm)
    have e : S.at (cellA 0 n (u + (i : Int)) (v + (m : Int))) = S.at ⟨n, u + (i : Int), v + (m : Int)⟩ := rfl
    rw [e]
    omega
  clear hin hSok hf
  obtain ⟨wa, hwa⟩ : ∃ wa, ((w.alloc (.cells #[.int .i64 b.op, .int .i64 b.ax, .int .u8 b.co, .int .i64 b.n0, .int .i64 b.n1, .int .i64 b.n2, .slice b.A b.ps.length b.cp] 25)).alloc (.cells #[.int .i64 u, .int .i64 v] 64)).alloc (.cells #[.int .i64 (nw : Int), .int .i64 (nh : Int)] 64) = wa := ⟨_, rfl⟩
  have hBa : Below w.heap.size w wa := by rw [← hwa]; (repeat (first | exact Below.refl _ _ | assumption | refine Below.alloc ?_ (by first | exact Nat.le_refl _ | exact Below.size (by assumption) | omega | (simp <;> omega)) _ | refine Below.setCell ?_ (by first | exact Nat.le_refl _ | exact Below.size (by assumption) | omega | (simp <;> omega)) _ | refine below_drewN ?_ _ | refine Below.drew ?_))
  have hza : wa.heap.size = w.heap.size + 3 := by rw [← hwa]; simp
  have HZ : Hid (∀ W, Below wa.heap.size wa W → BxB W w.heap.size b ∧ (W.cell? ⟨w.heap.size + 1, 0, none⟩ = some (.int .i64 u) ∧ W.cell? ⟨w.heap.size + 1, 1, none⟩ = some (.int .i64 v)) ∧ (W.cell? ⟨w.heap.size + 2, 0, none⟩ = some (.int .i64 (nw : Int)) ∧ W.cell? ⟨w.heap.size + 2, 1, none⟩ = some (.int .i64 (nh : Int))) ∧ Below w.heap.size w W) := by
    intro W hW
    have g0 : (w.alloc (.cells #[.int .i64 b.op, .int .i64 b.ax, .int .u8 b.co, .int .i64 b.n0, .int .i64 b.n1, .int .i64 b.n2, .slice b.A b.ps.length b.cp] 25)).heap.size = w.heap.size + 1 := World.size_alloc _ _
    have g1 : ((w.alloc (.cells #[.int .i64 b.op, .int .i64 b.ax, .int .u8 b.co, .int .i64 b.n0, .int .i64 b.n1, .int .i64 b.n2, .slice b.A b.ps.length b.cp] 25)).alloc (.cells #[.int .i64 u, .int .i64 v] 64)).heap.size = w.heap.size + 2 := by rw [World.size_alloc, g0]
    have hb1 : Below (w.alloc (.cells #[.int .i64 b.op, .int .i64 b.ax, .int .u8 b.co, .int .i64 b.n0, .int .i64 b.n1, .int .i64 b.n2, .slice b.A b.ps.length b.cp] 25)).heap.size (w.alloc (.cells #[.int .i64 b.op, .int .i64 b.ax, .int .u8 b.co, .int .i64 b.n0, .int .i64 b.n1, .int .i64 b.n2, .slice b.A b.ps.length b.cp] 25)) wa := by rw [← hwa]; (repeat (first | exact Below.refl _ _ | assumption | refine Below.alloc ?_ (by first | exact Nat.le_refl _ | exact Below.size (by assumption) | omega | (simp <;> omega)) _ | refine Below.setCell ?_ (by first | exact Nat.le_refl _ | exact Below.size (by assumption) | omega | (simp <;> omega)) _ | refine below_drewN ?_ _ | refine Below.drew ?_))
    have hb2 : Below ((w.alloc (.cells #[.int .i64 b.op, .int .i64 b.ax, .int .u8 b.co, .int .i64 b.n0, .int .i64 b.n1, .int .i64 b.n2, .slice b.A b.ps.length b.cp] 25)).alloc (.cells #[.int .i64 u, .int .i64 v] 64)).heap.size ((w.alloc (.cells #[.int .i64 b.op, .int .i64 b.ax, .int .u8 b.co, .int .i64 b.n0, .int .i64 b.n1, .int .i64 b.n2, .slice b.A b.ps.length b.cp] 25)).alloc (.cells #[.int .i64 u, .int .i64 v] 64)) wa := by rw [← hwa]; (repeat (first | exact Below.refl _ _ | assumption | refine Below.alloc ?_ (by first | exact Nat.le_refl _ | exact Below.size (by assumption) | omega | (simp <;> omega)) _ | refine Below.setCell ?_ (by first | exact Nat.le_refl _ | exact Below.size (by assumption) | omega | (simp <;> omega)) _ | refine below_drewN ?_ _ | refine Below.drew ?_))
    have q1 := heap_alloc_new (w.alloc (.cells #[.int .i64 b.op, .int .i64 b.ax, .int .u8 b.co, .int .i64 b.n0, .int .i64 b.n1, .int .i64 b.n2, .slice b.A b.ps.length b.cp] 25)) (.cells #[.int .i64 u, .int .i64 v] 64)
    have q2 := heap_alloc_new ((w.alloc (.cells #[.int .i64 b.op, .int .i64 b.ax, .int .u8 b.co, .int .i64 b.n0, .int .i64 b.n1, .int .i64 b.n2, .slice b.A b.ps.length b.cp] 25)).alloc (.cells #[.int .i64 u, .int .i64 v] 64)) (.cells #[.int .i64 (nw : Int), .int .i64 (nh : Int)] 64)
    rw [g0] at q1
    rw [g1, hwa] at q2
    have q1' := (hW.block (w.heap.size + 1) (by omega)).trans ((hb2.block (w.heap.size + 1) (by omega)).trans q1)
    have q2' := (hW.block (w.heap.size + 2) (by omega)).trans q2
    exact ⟨((BxB.new w b 25).under hb1 (by omega)).under hW (by omega), ⟨by simp [World.cell?, q1'], by simp [World.cell?, q1']⟩, ⟨by simp [World.cell?, q2'], by simp [World.cell?, q2']⟩, hBa.trans (hW.mono hBa.size)⟩
  clear hb
  have HWA := Lib.hid hwa
  clear hwa
  obtain ⟨i1, hj1, hy0, hy1, hy2⟩ := infoS_partsY Tryd.infoSY
  have HJY := Lib.hid hj1; clear hj1
  obtain ⟨i2, hj2, hx0, hx1, hx2⟩ := infoS_partsT Tryd.infoST
  have HJT := Lib.hid hj2; clear hj2
  have HLS := Lib.hid (fun m => plane_succ S 0 n u v nw m)
  go_enter Tryd.func60, Tryd.ntmps60
  go_wp2
  go_loopw [13, 14] (fun l i wq => ∃ (m : Nat) (t : Value), t = l ∧ m ≤ nh ∧ i = .int .i64 m ∧ OwnST wq wa.heap.size t (planeS S 0 n u v nw m) ∧ Below wa.heap.size wa wq) (fun _ i _ => nh - (intOf i).toNat)
  case atStart => exact ⟨0, _, rfl, Nat.zero_le _, rfl, World.ownsRow_nil _ _ _ _, by rw [HWA.out]; exact Below.refl _ _⟩
  case round =>
    obtain ⟨m, t, rfl, hmq, rfl, hown2, hB2⟩ := hrel
    have HO2 := Lib.hid hown2; clear hown2
    have hsB2 := hB2.size
    obtain ⟨wo, hwo⟩ : ∃ wo, wo = wr := ⟨_, rfl⟩
    subst hwo
    obtain ⟨⟨f0, f1, f2, f3, f4, f5, f6⟩, ⟨u0, u1⟩, ⟨v0, v1⟩, hBo⟩ := HZ.out wo hB2
    by_cases hlt2 : m < nh
    · go_wp2
      clear f0 f1 f2 f3 f4 f5 f6 u0 u1 v0 v1
      go_loopw [15, 16] (fun l i wq => ∃ (r : Nat) (t' : Value), t' = l ∧ r ≤ nw ∧ i = .int .i64 r ∧ OwnSY wq wo.heap.size t' (plineS S 0 n u (v + m) r) ∧ Below wo.heap.size wo wq) (fun _ i _ => nw - (intOf i).toNat)
      case atStart => exact ⟨0, _, rfl, Nat.zero_le _, rfl, World.ownsRow_nil _ _ _ _, Below.refl _ _⟩
      case round =>
        obtain ⟨r, ul, rfl, hrp, rfl, hown3, hB3⟩ := hrel
        have HO3 := Lib.hid hown3; clear hown3
        have hsB3 := hB3.size
        have hBX3 : Below wa.heap.size wa wr := hB2.trans (hB3.mono hsB2)
        by_cases hlt3 : r < nw
        · have HI3 := Lib.hid (HIN.out r m hlt3 hlt2)
          have HLN := Lib.hid (pline_len S 0 n u (v + m) r)
          have hls : plineS S 0 n u (v + m) (r + 1) = plineS S 0 n u (v + m) r ++ [S.at ⟨n, u + (r : Int), v + (m : Int)⟩] := pline_succ S 0 n u (v + m) r
          have HSL := Lib.hid hls; clear hls
          have hwa1 : wrap64 (u + (r : Int)) = u + (r : Int) := w64b (by omega) (by omega)
          have hwa2 : wrap64 (v + (m : Int)) = v + (m : Int) := w64b (by omega) (by omega)
          have hwb1 : IntKind.i64.wrap (u + (r : Int)) = u + (r : Int) := IntWalk.i64_in _ (by omega)
          have hwb2 : IntKind.i64.wrap (v + (m : Int)) = v + (m : Int) := IntWalk.i64_in _ (by omega)
          obtain ⟨_, _, ⟨z0, z1⟩, _⟩ := HZ.out wr hBX3
          have HO1 := Lib.hid (fun o => HZ.out (wr.alloc o) (hBX3.alloc hBX3.size o))
          have u0 : ∀ o, (wr.alloc o).cell? ⟨w.heap.size + 1, 0, none⟩ = some (.int .i64 u) := fun o => (HO1.out o).2.1.1
          have u1 : ∀ o, (wr.alloc o).cell? ⟨w.heap.size + 1, 1, none⟩ = some (.int .i64 v) := fun o => (HO1.out o).2.1.2
          have f0 : ∀ o, (wr.alloc o).cell? ⟨w.heap.size, 0, none⟩ = some (.int .i64 b.op) := fun o => (HO1.out o).1.1
          have f1 : ∀ o, (wr.alloc o).cell? ⟨w.heap.size, 1, none⟩ = some (.int .i64 b.ax) := fun o => (HO1.out o).1.2.1
          have f2 : ∀ o, (wr.alloc o).cell? ⟨w.heap.size, 2, none⟩ = some (.int .u8 b.co) := fun o => (HO1.out o).1.2.2.1
          have f3 : ∀ o, (wr.alloc o).cell? ⟨w.heap.size, 3, none⟩ = some (.int .i64 b.n0) := fun o => (HO1.out o).1.2.2.2.1
          have f4 : ∀ o, (wr.alloc o).cell? ⟨w.heap.size, 4, none⟩ = some (.int .i64 b.n1) := fun o => (HO1.out o).1.2.2.2.2.1
          have f5 : ∀ o, (wr.alloc o).cell? ⟨w.heap.size, 5, none⟩ = some (.int .i64 b.n2) := fun o => (HO1.out o).1.2.2.2.2.2.1
          have f6 : ∀ o, (wr.alloc o).cell? ⟨w.heap.size, 6, none⟩ = some (.slice b.A b.ps.length b.cp) := fun o => (HO1.out o).1.2.2.2.2.2.2
          have hlo : w.heap.size + 2 < wr.heap.size := by omega
          go_wp2
          go_region
          clear u0 u1 z0 z1
          have hBWr : Below w.heap.size w wr := hBa.trans (hBX3.mono hBa.size)
          go_wp2_with fail
          refine (HCOL.out ⟨n, u + (r : Int), v + (m : Int)⟩ HI3.out _ (by (repeat (first | exact Below.refl _ _ | assumption | refine Below.alloc ?_ (by first | exact Nat.le_refl _ | exact Below.size (by assumption) | omega | (simp <;> omega)) _ | refine Below.setCell ?_ (by first | exact Nat.le_refl _ | exact Below.size (by assumption) | omega | (simp <;> omega)) _ | refine below_drewN ?_ _ | refine Below.drew ?_)))).mono ?_
          rintro e w4 ⟨rfl, hb4⟩
          have hB4 : Below wo.heap.size wo w4 := hB3.trans (below_next (w := wr) (by (repeat (first | exact Below.refl _ _ | assumption | refine Below.alloc ?_ (by first | exact Nat.le_refl _ | exact Below.size (by assumption) | omega | (simp <;> omega)) _ | refine Below.setCell ?_ (by first | exact Nat.le_refl _ | exact Below.size (by assumption) | omega | (simp <;> omega)) _ | refine below_drewN ?_ _ | refine Below.drew ?_))) hb4 |>.mono hsB3)
          have HO4 : Hid (OwnSY w4 wo.heap.size ul (plineS S 0 n u (v + m) r)) := own_belowS HO3.out (below_next (w := wr) (by (repeat (first | exact Below.refl _ _ | assumption | refine Below.alloc ?_ (by first | exact Nat.le_refl _ | exact Below.size (by assumption) | omega | (simp <;> omega)) _ | refine Below.setCell ?_ (by first | exact Nat.le_refl _ | exact Below.size (by assumption) | omega | (simp <;> omega)) _ | refine below_drewN ?_ _ | refine Below.drew ?_))) hb4)
          have hs4 := hB4.size
          clear hb4 f0 f1 f2 f3 f4 f5 f6
          obtain ⟨cl, hcl⟩ : ∃ cl, S.at ⟨n, u + (r : Int), v + (m : Int)⟩ = cl := ⟨_, rfl⟩
          rw [hcl] at HSL ⊢
          clear hcl
          go_wp2_with (at_builtin; refine wpList_append_own _ rfl _ _ 52 rfl wo.heap.size 5 i1 (.int .u8 0) 1 1 Tryd.underlying52 HJY.out hy0 hy1 hy2 rfl (by decide) _ _ _ rfl (World.ownsRow.alloc HO4.out _) ⟨w4.heap.size, 0, none⟩ 1 1 [.int .u8 cl] rfl rfl (by intro j u hj; match j, hj with | 0, hj => (simp at hj; subst hj; simp [Addr.add]) | j + 1, hj => simp at hj) (by intro u hu; simp at hu; subst hu; rfl) (by have := HLN.out; unfold maxLen; omega) (by have := HLN.out; omega) (by simp; omega) ?_; intro v' w5 hown' hgrow _; have hB5 := below_grown (w1 := w4.alloc (.cells #[.int .u8 cl] 5)) (hB4.alloc (by omega) _) hgrow (fun j hj => (HO4.out.lt j hj).1) (by simp; omega); have own5 := ownSY_snoc hown' HSL.out; have HOW5 := Lib.hid own5; clear own5 hown' hgrow)
          go_wp2
          go_roundw
          case rel => exact ⟨r + 1, _, rfl, by omega, by go_num, HOW5.out, hB5⟩
          case measure => simp [intOf]; omega
        · obtain rfl : r = nw := by omega
          obtain ⟨_, _, ⟨z0, z1⟩, _⟩ := HZ.out wr hBX3
          have HO6 : Hid (OwnST wr wa.heap.size t (planeS S 0 n u v r m)) := own_belowS HO2.out hB3
          have hcv := run_str HO3.out (HCO.out m hlt2) (Below.refl _ _)
          have HLN := Lib.hid (plane_len S 0 n u v r m)
          obtain ⟨st, hst⟩ : ∃ st, strB (plineS S 0 n u (v + m) r) = st := ⟨_, rfl⟩
          have hls := HLS.out m
          rw [hst] at hcv hls
          have HSL := Lib.hid hls; clear hls hst
          go_wp2_with (at_builtin; refine wpList_append_own _ rfl _ _ 35 rfl wa.heap.size 9 i2 (.string ⟨#[]⟩) 1 16 Tryd.underlying35 HJT.out hx0 hx1 hx2 rfl (by decide) _ _ _ rfl (World.ownsRow.alloc HO6.out _) ⟨wr.heap.size, 0, none⟩ 1 1 [.string st] rfl rfl (by intro j u hj; match j, hj with | 0, hj => (simp at hj; subst hj; simp [Addr.add]) | j + 1, hj => simp at hj) (by intro u hu; simp at hu; subst hu; rfl) (by have := HLN.out; unfold maxLen; omega) (by have := HLN.out; omega) (by simp; omega) ?_; intro v' w5 hown' hgrow _; have hB5 := below_grown (w1 := wr.alloc (.cells #[.string st] 9)) (hBX3.alloc (by omega) _) hgrow (fun j hj => (HO6.out.lt j hj).1) (by simp; omega); have own5 := ownST_snoc hown' HSL.out; have HOW5 := Lib.hid own5; clear own5 hown' hgrow hcv)
          go_wp2
          go_roundw
          case rel => exact ⟨m + 1, _, rfl, by omega, by go_num, HOW5.out, hB5⟩
          case measure => simp [intOf]; omega
    · obtain rfl : m = nh := by omega
      have hown := HO2.out
      obtain ⟨A9, c9, rfl, hr9, hc9, _⟩ := own_rdST hown
      have HR9 := Lib.hid hr9
      have HC9 := Lib.hid hc9
      clear hown hr9 hc9
      go_wp2
      go_ret
      exact ⟨A9, c9, rfl, HR9.out, HC9.out, hBo⟩

set_option maxRecDepth 100000 in
set_option maxHeartbeats 8000000 in
theorem plane1_any (b : BT) (S : Sh) (hf : formS b = .ok S) (n u v : Int) (nw nh : Nat) (hw : nw ≤ 200) (hh : nh ≤ 200) (hu : 0 ≤ u ∧ u ≤ 1000) (hv : 0 ≤ v ∧ v ≤ 1000) (hin : ∀ r m : Nat, r < nw → m < nh → InE S.ext ⟨u + (r : Int), n, v + (m : Int)⟩) (w : World) (hb : OkB w w.heap.size b) :
    Calls Tryd.prog 60 #[valB b, .int .i64 1, .int .i64 n, .agg #[.int .i64 u, .int .i64 v], .agg #[.int .i64 nw, .int .i64 nh]] w (RetT (planeS S 1 n u v nw nh) w) := by
  have hmx : Tryd.prog.follows .mixedOrders = true := by kernel_rfl
  have hSok := form_ok hf
  have HIN := Lib.hid hin
  have HCOL := Lib.hid (fun c (hi : InE S.ext c) W (hB : Below w.heap.size w W) => col_any b S (form_whole hf).2 (form_whole hf).1 c W hi (hb.now hB))
  have HCO : Hid (∀ m : Nat, m < nh → ∀ c ∈ plineS S 1 n u (v + m) nw, 0 ≤ c ∧ c ≤ 255) := by
    intro m hm c hc
    unfold plineS at hc
    obtain ⟨i, hi, rfl⟩ := List.mem_map.1 hc
    have h := List.mem_range.1 hi
    have := at_col S hSok _ (hin i m h hm)
    have e : S.at (cellA 1 n (u + (i : Int)) (v + (m : Int))) = S.at ⟨u + (i : Int), n, v + (m : Int)⟩ := rfl
    rw [e]
    omega
  clear hin hSok hf
  obtain ⟨wa, hwa⟩ : ∃ wa, ((w.alloc (.cells #[.int .i64 b.op, .int .i64 b.ax, .int .u8 b.co, .int .i64 b.n0, .int .i64 b.n1, .int .i64 b.n2, .slice b.A b.ps.length b.cp] 25)).alloc (.cells #[.int .i64 u, .int .i64 v] 64)).alloc (.cells #[.int .i64 (nw : Int), .int .i64 (nh : Int)] 64) = wa := ⟨_, rfl⟩
  have hBa : Below w.heap.size w wa := by rw [← hwa]; (repeat (first | exact Below.refl _ _ | assumption | refine Below.alloc ?_ (by first | exact Nat.le_refl _ | exact Below.size (by assumption) | omega | (simp <;> omega)) _ | refine Below.setCell ?_ (by first | exact Nat.le_refl _ | exact Below.size (by assumption) | omega | (simp <;> omega)) _ | refine below_drewN ?_ _ | refine Below.drew ?_))
  have hza : wa.heap.size = w.heap.size + 3 := by rw [← hwa]; simp
  have HZ : Hid (∀ W, Below wa.heap.size wa W → BxB W w.heap.size b ∧ (W.cell? ⟨w.heap.size + 1, 0, none⟩ = some (.int .i64 u) ∧ W.cell? ⟨w.heap.size + 1, 1, none⟩ = some (.int .i64 v)) ∧ (W.cell? ⟨w.heap.size + 2, 0, none⟩ = some (.int .i64 (nw : Int)) ∧ W.cell? ⟨w.heap.size + 2, 1, none⟩ = some (.int .i64 (nh : Int))) ∧ Below w.heap.size w W) := by
    intro W hW
    have g0 : (w.alloc (.cells #[.int .i64 b.op, .int .i64 b.ax, .int .u8 b.co, .int .i64 b.n0, .int .i64 b.n1, .int .i64 b.n2, .slice b.A b.ps.length b.cp] 25)).heap.size = w.heap.size + 1 := World.size_alloc _ _
    have g1 : ((w.alloc (.cells #[.int .i64 b.op, .int .i64 b.ax, .int .u8 b.co, .int .i64 b.n0, .int .i64 b.n1, .int .i64 b.n2, .slice b.A b.ps.length b.cp] 25)).alloc (.cells #[.int .i64 u, .int .i64 v] 64)).heap.size = w.heap.size + 2 := by rw [World.size_alloc, g0]
    have hb1 : Below (w.alloc (.cells #[.int .i64 b.op, .int .i64 b.ax, .int .u8 b.co, .int .i64 b.n0, .int .i64 b.n1, .int .i64 b.n2, .slice b.A b.ps.length b.cp] 25)).heap.size (w.alloc (.cells #[.int .i64 b.op, .int .i64 b.ax, .int .u8 b.co, .int .i64 b.n0, .int .i64 b.n1, .int .i64 b.n2, .slice b.A b.ps.length b.cp] 25)) wa := by rw [← hwa]; (repeat (first | exact Below.refl _ _ | assumption | refine Below.alloc ?_ (by first | exact Nat.le_refl _ | exact Below.size (by assumption) | omega | (simp <;> omega)) _ | refine Below.setCell ?_ (by first | exact Nat.le_refl _ | exact Below.size (by assumption) | omega | (simp <;> omega)) _ | refine below_drewN ?_ _ | refine Below.drew ?_))
    have hb2 : Below ((w.alloc (.cells #[.int .i64 b.op, .int .i64 b.ax, .int .u8 b.co, .int .i64 b.n0, .int .i64 b.n1, .int .i64 b.n2, .slice b.A b.ps.length b.cp] 25)).alloc (.cells #[.int .i64 u, .int .i64 v] 64)).heap.size ((w.alloc (.cells #[.int .i64 b.op, .int .i64 b.ax, .int .u8 b.co, .int .i64 b.n0, .int .i64 b.n1, .int .i64 b.n2, .slice b.A b.ps.length b.cp] 25)).alloc (.cells #[.int .i64 u, .int .i64 v] 64)) wa := by rw [← hwa]; (repeat (first | exact Below.refl _ _ | assumption | refine Below.alloc ?_ (by first | exact Nat.le_refl _ | exact Below.size (by assumption) | omega | (simp <;> omega)) _ | refine Below.setCell ?_ (by first | exact Nat.le_refl _ | exact Below.size (by assumption) | omega | (simp <;> omega)) _ | refine below_drewN ?_ _ | refine Below.drew ?_))
    have q1 := heap_alloc_new (w.alloc (.cells #[.int .i64 b.op, .int .i64 b.ax, .int .u8 b.co, .int .i64 b.n0, .int .i64 b.n1, .int .i64 b.n2, .slice b.A b.ps.length b.cp] 25)) (.cells #[.int .i64 u, .int .i64 v] 64)
    have q2 := heap_alloc_new ((w.alloc (.cells #[.int .i64 b.op, .int .i64 b.ax, .int .u8 b.co, .int .i64 b.n0, .int .i64 b.n1, .int .i64 b.n2, .slice b.A b.ps.length b.cp] 25)).alloc (.cells #[.int .i64 u, .int .i64 v] 64)) (.cells #[.int .i64 (nw : Int), .int .i64 (nh : Int)] 64)
    rw [g0] at q1
    rw [g1, hwa] at q2
    have q1' := (hW.block (w.heap.size + 1) (by omega)).trans ((hb2.block (w.heap.size + 1) (by omega)).trans q1)
    have q2' := (hW.block (w.heap.size + 2) (by omega)).trans q2
    exact ⟨((BxB.new w b 25).under hb1 (by omega)).under hW (by omega), ⟨by simp [World.cell?, q1'], by simp [World.cell?, q1']⟩, ⟨by simp [World.cell?, q2'], by simp [World.cell?, q2']⟩, hBa.trans (hW.mono hBa.size)⟩
  clear hb
  have HWA := Lib.hid hwa
  clear hwa
  obtain ⟨i1, hj1, hy0, hy1, hy2⟩ := infoS_partsY Tryd.infoSY
  have HJY := Lib.hid hj1; clear hj1
  obtain ⟨i2, hj2, hx0, hx1, hx2⟩ := infoS_partsT Tryd.infoST
  have HJT := Lib.hid hj2; clear hj2
  have HLS := Lib.hid (fun m => plane_succ S 1 n u v nw m)
  go_enter Tryd.func60, Tryd.ntmps60
  go_wp2
  go_loopw [13, 14] (fun l i wq => ∃ (m : Nat) (t : Value), t = l ∧ m ≤ nh ∧ i = .int .i64 m ∧ OwnST wq wa.heap.size t (planeS S 1 n u v nw m) ∧ Below wa.heap.size wa wq) (fun _ i _ => nh - (intOf i).toNat)
  case atStart => exact ⟨0, _, rfl, Nat.zero_le _, rfl, World.ownsRow_nil _ _ _ _, by rw [HWA.out]; exact Below.refl _ _⟩
  case round =>
    obtain ⟨m, t, rfl, hmq, rfl, hown2, hB2⟩ := hrel
    have HO2 := Lib.hid hown2; clear hown2
    have hsB2 := hB2.size
    obtain ⟨wo, hwo⟩ : ∃ wo, wo = wr := ⟨_, rfl⟩
    subst hwo
    obtain ⟨⟨f0, f1, f2, f3, f4, f5, f6⟩, ⟨u0, u1⟩, ⟨v0, v1⟩, hBo⟩ := HZ.out wo hB2
    by_cases hlt2 : m < nh
    · go_wp2
      clear f0 f1 f2 f3 f4 f5 f6 u0 u1 v0 v1
      go_loopw [15, 16] (fun l i wq => ∃ (r : Nat) (t' : Value), t' = l ∧ r ≤ nw ∧ i = .int .i64 r ∧ OwnSY wq wo.heap.size t' (plineS S 1 n u (v + m) r) ∧ Below wo.heap.size wo wq) (fun _ i _ => nw - (intOf i).toNat)
      case atStart => exact ⟨0, _, rfl, Nat.zero_le _, rfl, World.ownsRow_nil _ _ _ _, Below.refl _ _⟩
      case round =>
        obtain ⟨r, ul, rfl, hrp, rfl, hown3, hB3⟩ := hrel
        have HO3 := Lib.hid hown3; clear hown3
        have hsB3 := hB3.size
        have hBX3 : Below wa.heap.size wa wr := hB2.trans (hB3.mono hsB2)
        by_cases hlt3 : r < nw
        · have HI3 := Lib.hid (HIN.out r m hlt3 hlt2)
          have HLN := Lib.hid (pline_len S 1 n u (v + m) r)
          have hls : plineS S 1 n u (v + m) (r + 1) = plineS S 1 n u (v + m) r ++ [S.at ⟨u + (r : Int), n, v + (m : Int)⟩] := pline_succ S 1 n u (v + m) r
          have HSL := Lib.hid hls; clear hls
          have hwa1 : wrap64 (u + (r : Int)) = u + (r : Int) := w64b (by omega) (by omega)
          have hwa2 : wrap64 (v + (m : Int)) = v + (m : Int) := w64b (by omega) (by omega)
          have hwb1 : IntKind.i64.wrap (u + (r : Int)) = u + (r : Int) := IntWalk.i64_in _ (by omega)
          have hwb2 : IntKind.i64.wrap (v + (m : Int)) = v + (m : Int) := IntWalk.i64_in _ (by omega)
          obtain ⟨_, _, ⟨z0, z1⟩, _⟩ := HZ.out wr hBX3
          have HO1 := Lib.hid (fun o => HZ.out (wr.alloc o) (hBX3.alloc hBX3.size o))
          have u0 : ∀ o, (wr.alloc o).cell? ⟨w.heap.size + 1, 0, none⟩ = some (.int .i64 u) := fun o => (HO1.out o).2.1.1
          have u1 : ∀ o, (wr.alloc o).cell? ⟨w.heap.size + 1, 1, none⟩ = some (.int .i64 v) := fun o => (HO1.out o).2.1.2
          have f0 : ∀ o, (wr.alloc o).cell? ⟨w.heap.size, 0, none⟩ = some (.int .i64 b.op) := fun o => (HO1.out o).1.1
          have f1 : ∀ o, (wr.alloc o).cell? ⟨w.heap.size, 1, none⟩ = some (.int .i64 b.ax) := fun o => (HO1.out o).1.2.1
          have f2 : ∀ o, (wr.alloc o).cell? ⟨w.heap.size, 2, none⟩ = some (.int .u8 b.co) := fun o => (HO1.out o).1.2.2.1
          have f3 : ∀ o, (wr.alloc o).cell? ⟨w.heap.size, 3, none⟩ = some (.int .i64 b.n0) := fun o => (HO1.out o).1.2.2.2.1
          have f4 : ∀ o, (wr.alloc o).cell? ⟨w.heap.size, 4, none⟩ = some (.int .i64 b.n1) := fun o => (HO1.out o).1.2.2.2.2.1
          have f5 : ∀ o, (wr.alloc o).cell? ⟨w.heap.size, 5, none⟩ = some (.int .i64 b.n2) := fun o => (HO1.out o).1.2.2.2.2.2.1
          have f6 : ∀ o, (wr.alloc o).cell? ⟨w.heap.size, 6, none⟩ = some (.slice b.A b.ps.length b.cp) := fun o => (HO1.out o).1.2.2.2.2.2.2
          have hlo : w.heap.size + 2 < wr.heap.size := by omega
          go_wp2
          go_region
          clear u0 u1 z0 z1
          have hBWr : Below w.heap.size w wr := hBa.trans (hBX3.mono hBa.size)
          go_wp2_with fail
          refine (HCOL.out ⟨u + (r : Int), n, v + (m : Int)⟩ HI3.out _ (by (repeat (first | exact Below.refl _ _ | assumption | refine Below.alloc ?_ (by first | exact Nat.le_refl _ | exact Below.size (by assumption) | omega | (simp <;> omega)) _ | refine Below.setCell ?_ (by first | exact Nat.le_refl _ | exact Below.size (by assumption) | omega | (simp <;> omega)) _ | refine below_drewN ?_ _ | refine Below.drew ?_)))).mono ?_
          rintro e w4 ⟨rfl, hb4⟩
          have hB4 : Below wo.heap.size wo w4 := hB3.trans (below_next (w := wr) (by (repeat (first | exact Below.refl _ _ | assumption | refine Below.alloc ?_ (by first | exact Nat.le_refl _ | exact Below.size (by assumption) | omega | (simp <;> omega)) _ | refine Below.setCell ?_ (by first | exact Nat.le_refl _ | exact Below.size (by assumption) | omega | (simp <;> omega)) _ | refine below_drewN ?_ _ | refine Below.drew ?_))) hb4 |>.mono hsB3)
          have HO4 : Hid (OwnSY w4 wo.heap.size ul (plineS S 1 n u (v + m) r)) := own_belowS HO3.out (below_next (w := wr) (by (repeat (first | exact Below.refl _ _ | assumption | refine Below.alloc ?_ (by first | exact Nat.le_refl _ | exact Below.size (by assumption) | omega | (simp <;> omega)) _ | refine Below.setCell ?_ (by first | exact Nat.le_refl _ | exact Below.size (by assumption) | omega | (simp <;> omega)) _ | refine below_drewN ?_ _ | refine Below.drew ?_))) hb4)
          have hs4 := hB4.size
          clear hb4 f0 f1 f2 f3 f4 f5 f6
          obtain ⟨cl, hcl⟩ : ∃ cl, S.at ⟨u + (r : Int), n, v + (m : Int)⟩ = cl := ⟨_, rfl⟩
          rw [hcl] at HSL ⊢
          clear hcl
          go_wp2_with (at_builtin; refine wpList_append_own _ rfl _ _ 52 rfl wo.heap.size 5 i1 (.int .u8 0) 1 1 Tryd.underlying52 HJY.out hy0 hy1 hy2 rfl (by decide) _ _ _ rfl (World.ownsRow.alloc HO4.out _) ⟨w4.heap.size, 0, none⟩ 1 1 [.int .u8 cl] rfl rfl (by intro j u hj; match j, hj with | 0, hj => (simp at hj; subst hj; simp [Addr.add]) | j + 1, hj => simp at hj) (by intro u hu; simp at hu; subst hu; rfl) (by have := HLN.out; unfold maxLen; omega) (by have := HLN.out; omega) (by simp; omega) ?_; intro v' w5 hown' hgrow _; have hB5 := below_grown (w1 := w4.alloc (.cells #[.int .u8 cl] 5)) (hB4.alloc (by omega) _) hgrow (fun j hj => (HO4.out.lt j hj).1) (by simp; omega); have own5 := ownSY_snoc hown' HSL.out; have HOW5 := Lib.hid own5; clear own5 hown' hgrow)
          go_wp2
          go_roundw
          case rel => exact ⟨r + 1, _, rfl, by omega, by go_num, HOW5.out, hB5⟩
          case measure => simp [intOf]; omega
        · obtain rfl : r = nw := by omega
          obtain ⟨_, _, ⟨z0, z1⟩, _⟩ := HZ.out wr hBX3
          have HO6 : Hid (OwnST wr wa.heap.size t (planeS S 1 n u v r m)) := own_belowS HO2.out hB3
          have hcv := run_str HO3.out (HCO.out m hlt2) (Below.refl _ _)
          have HLN := Lib.hid (plane_len S 1 n u v r m)
          obtain ⟨st, hst⟩ : ∃ st, strB (plineS S 1 n u (v + m) r) = st := ⟨_, rfl⟩
          have hls := HLS.out m
          rw [hst] at hcv hls
          have HSL := Lib.hid hls; clear hls hst
          go_wp2_with (at_builtin; refine wpList_append_own _ rfl _ _ 35 rfl wa.heap.size 9 i2 (.string ⟨#[]⟩) 1 16 Tryd.underlying35 HJT.out hx0 hx1 hx2 rfl (by decide) _ _ _ rfl (World.ownsRow.alloc HO6.out _) ⟨wr.heap.size, 0, none⟩ 1 1 [.string st] rfl rfl (by intro j u hj; match j, hj with | 0, hj => (simp at hj; subst hj; simp [Addr.add]) | j + 1, hj => simp at hj) (by intro u hu; simp at hu; subst hu; rfl) (by have := HLN.out; unfold maxLen; omega) (by have := HLN.out; omega) (by simp; omega) ?_; intro v' w5 hown' hgrow _; have hB5 := below_grown (w1 := wr.alloc (.cells #[.string st] 9)) (hBX3.alloc (by omega) _) hgrow (fun j hj => (HO6.out.lt j hj).1) (by simp; omega); have own5 := ownST_snoc hown' HSL.out; have HOW5 := Lib.hid own5; clear own5 hown' hgrow hcv)
          go_wp2
          go_roundw
          case rel => exact ⟨m + 1, _, rfl, by omega, by go_num, HOW5.out, hB5⟩
          case measure => simp [intOf]; omega
    · obtain rfl : m = nh := by omega
      have hown := HO2.out
      obtain ⟨A9, c9, rfl, hr9, hc9, _⟩ := own_rdST hown
      have HR9 := Lib.hid hr9
      have HC9 := Lib.hid hc9
      clear hown hr9 hc9
      go_wp2
      go_ret
      exact ⟨A9, c9, rfl, HR9.out, HC9.out, hBo⟩

set_option maxRecDepth 100000 in
set_option maxHeartbeats 8000000 in
theorem plane2_any (b : BT) (S : Sh) (hf : formS b = .ok S) (n u v : Int) (nw nh : Nat) (hw : nw ≤ 200) (hh : nh ≤ 200) (hu : 0 ≤ u ∧ u ≤ 1000) (hv : 0 ≤ v ∧ v ≤ 1000) (hin : ∀ r m : Nat, r < nw → m < nh → InE S.ext ⟨u + (r : Int), v + (m : Int), n⟩) (w : World) (hb : OkB w w.heap.size b) :
    Calls Tryd.prog 60 #[valB b, .int .i64 2, .int .i64 n, .agg #[.int .i64 u, .int .i64 v], .agg #[.int .i64 nw, .int .i64 nh]] w (RetT (planeS S 2 n u v nw nh) w) := by
  have hmx : Tryd.prog.follows .mixedOrders = true := by kernel_rfl
  have hSok := form_ok hf
  have HIN := Lib.hid hin
  have HCOL := Lib.hid (fun c (hi : InE S.ext c) W (hB : Below w.heap.size w W) => col_any b S (form_whole hf).2 (form_whole hf).1 c W hi (hb.now hB))
  have HCO : Hid (∀ m : Nat, m < nh → ∀ c ∈ plineS S 2 n u (v + m) nw, 0 ≤ c ∧ c ≤ 255) := by
    intro m hm c hc
    unfold plineS at hc
    obtain ⟨i, hi, rfl⟩ := List.mem_map.1 hc
    have h := List.mem_range.1 hi
    have := at_col S hSok _ (hin i m h hm)
    have e : S.at (cellA 2 n (u + (i : Int)) (v + (m : Int))) = S.at ⟨u + (i : Int), v + (m : Int), n⟩ := rfl
    rw [e]
    omega
  clear hin hSok hf
  obtain ⟨wa, hwa⟩ : ∃ wa, ((w.alloc (.cells #[.int .i64 b.op, .int .i64 b.ax, .int .u8 b.co, .int .i64 b.n0, .int .i64 b.n1, .int .i64 b.n2, .slice b.A b.ps.length b.cp] 25)).alloc (.cells #[.int .i64 u, .int .i64 v] 64)).alloc (.cells #[.int .i64 (nw : Int), .int .i64 (nh : Int)] 64) = wa := ⟨_, rfl⟩
  have hBa : Below w.heap.size w wa := by rw [← hwa]; (repeat (first | exact Below.refl _ _ | assumption | refine Below.alloc ?_ (by first | exact Nat.le_refl _ | exact Below.size (by assumption) | omega | (simp <;> omega)) _ | refine Below.setCell ?_ (by first | exact Nat.le_refl _ | exact Below.size (by assumption) | omega | (simp <;> omega)) _ | refine below_drewN ?_ _ | refine Below.drew ?_))
  have hza : wa.heap.size = w.heap.size + 3 := by rw [← hwa]; simp
  have HZ : Hid (∀ W, Below wa.heap.size wa W → BxB W w.heap.size b ∧ (W.cell? ⟨w.heap.size + 1, 0, none⟩ = some (.int .i64 u) ∧ W.cell? ⟨w.heap.size + 1, 1, none⟩ = some (.int .i64 v)) ∧ (W.cell? ⟨w.heap.size + 2, 0, none⟩ = some (.int .i64 (nw : Int)) ∧ W.cell? ⟨w.heap.size + 2, 1, none⟩ = some (.int .i64 (nh : Int))) ∧ Below w.heap.size w W) := by
    intro W hW
    have g0 : (w.alloc (.cells #[.int .i64 b.op, .int .i64 b.ax, .int .u8 b.co, .int .i64 b.n0, .int .i64 b.n1, .int .i64 b.n2, .slice b.A b.ps.length b.cp] 25)).heap.size = w.heap.size + 1 := World.size_alloc _ _
    have g1 : ((w.alloc (.cells #[.int .i64 b.op, .int .i64 b.ax, .int .u8 b.co, .int .i64 b.n0, .int .i64 b.n1, .int .i64 b.n2, .slice b.A b.ps.length b.cp] 25)).alloc (.cells #[.int .i64 u, .int .i64 v] 64)).heap.size = w.heap.size + 2 := by rw [World.size_alloc, g0]
    have hb1 : Below (w.alloc (.cells #[.int .i64 b.op, .int .i64 b.ax, .int .u8 b.co, .int .i64 b.n0, .int .i64 b.n1, .int .i64 b.n2, .slice b.A b.ps.length b.cp] 25)).heap.size (w.alloc (.cells #[.int .i64 b.op, .int .i64 b.ax, .int .u8 b.co, .int .i64 b.n0, .int .i64 b.n1, .int .i64 b.n2, .slice b.A b.ps.length b.cp] 25)) wa := by rw [← hwa]; (repeat (first | exact Below.refl _ _ | assumption | refine Below.alloc ?_ (by first | exact Nat.le_refl _ | exact Below.size (by assumption) | omega | (simp <;> omega)) _ | refine Below.setCell ?_ (by first | exact Nat.le_refl _ | exact Below.size (by assumption) | omega | (simp <;> omega)) _ | refine below_drewN ?_ _ | refine Below.drew ?_))
    have hb2 : Below ((w.alloc (.cells #[.int .i64 b.op, .int .i64 b.ax, .int .u8 b.co, .int .i64 b.n0, .int .i64 b.n1, .int .i64 b.n2, .slice b.A b.ps.length b.cp] 25)).alloc (.cells #[.int .i64 u, .int .i64 v] 64)).heap.size ((w.alloc (.cells #[.int .i64 b.op, .int .i64 b.ax, .int .u8 b.co, .int .i64 b.n0, .int .i64 b.n1, .int .i64 b.n2, .slice b.A b.ps.length b.cp] 25)).alloc (.cells #[.int .i64 u, .int .i64 v] 64)) wa := by rw [← hwa]; (repeat (first | exact Below.refl _ _ | assumption | refine Below.alloc ?_ (by first | exact Nat.le_refl _ | exact Below.size (by assumption) | omega | (simp <;> omega)) _ | refine Below.setCell ?_ (by first | exact Nat.le_refl _ | exact Below.size (by assumption) | omega | (simp <;> omega)) _ | refine below_drewN ?_ _ | refine Below.drew ?_))
    have q1 := heap_alloc_new (w.alloc (.cells #[.int .i64 b.op, .int .i64 b.ax, .int .u8 b.co, .int .i64 b.n0, .int .i64 b.n1, .int .i64 b.n2, .slice b.A b.ps.length b.cp] 25)) (.cells #[.int .i64 u, .int .i64 v] 64)
    have q2 := heap_alloc_new ((w.alloc (.cells #[.int .i64 b.op, .int .i64 b.ax, .int .u8 b.co, .int .i64 b.n0, .int .i64 b.n1, .int .i64 b.n2, .slice b.A b.ps.length b.cp] 25)).alloc (.cells #[.int .i64 u, .int .i64 v] 64)) (.cells #[.int .i64 (nw : Int), .int .i64 (nh : Int)] 64)
    rw [g0] at q1
    rw [g1, hwa] at q2
    have q1' := (hW.block (w.heap.size + 1) (by omega)).trans ((hb2.block (w.heap.size + 1) (by omega)).trans q1)
    have q2' := (hW.block (w.heap.size + 2) (by omega)).trans q2
    exact ⟨((BxB.new w b 25).under hb1 (by omega)).under hW (by omega), ⟨by simp [World.cell?, q1'], by simp [World.cell?, q1']⟩, ⟨by simp [World.cell?, q2'], by simp [World.cell?, q2']⟩, hBa.trans (hW.mono hBa.size)⟩
  clear hb
  have HWA := Lib.hid hwa
  clear hwa
  obtain ⟨i1, hj1, hy0, hy1, hy2⟩ := infoS_partsY Tryd.infoSY
  have HJY := Lib.hid hj1; clear hj1
  obtain ⟨i2, hj2, hx0, hx1, hx2⟩ := infoS_partsT Tryd.infoST
  have HJT := Lib.hid hj2; clear hj2
  have HLS := Lib.hid (fun m => plane_succ S 2 n u v nw m)
  go_enter Tryd.func60, Tryd.ntmps60
  go_wp2
  go_loopw [13, 14] (fun l i wq => ∃ (m : Nat) (t : Value), t = l ∧ m ≤ nh ∧ i = .int .i64 m ∧ OwnST wq wa.heap.size t (planeS S 2 n u v nw m) ∧ Below wa.heap.size wa wq) (fun _ i _ => nh - (intOf i).toNat)
  case atStart => exact ⟨0, _, rfl, Nat.zero_le _, rfl, World.ownsRow_nil _ _ _ _, by rw [HWA.out]; exact Below.refl _ _⟩
  case round =>
    obtain ⟨m, t, rfl, hmq, rfl, hown2, hB2⟩ := hrel
    have HO2 := Lib.hid hown2; clear hown2
    have hsB2 := hB2.size
    obtain ⟨wo, hwo⟩ : ∃ wo, wo = wr := ⟨_, rfl⟩
    subst hwo
    obtain ⟨⟨f0, f1, f2, f3, f4, f5, f6⟩, ⟨u0, u1⟩, ⟨v0, v1⟩, hBo⟩ := HZ.out wo hB2
    by_cases hlt2 : m < nh
    · go_wp2
      clear f0 f1 f2 f3 f4 f5 f6 u0 u1 v0 v1
      go_loopw [15, 16] (fun l i wq => ∃ (r : Nat) (t' : Value), t' = l ∧ r ≤ nw ∧ i = .int .i64 r ∧ OwnSY wq wo.heap.size t' (plineS S 2 n u (v + m) r) ∧ Below wo.heap.size wo wq) (fun _ i _ => nw - (intOf i).toNat)
      case atStart => exact ⟨0, _, rfl, Nat.zero_le _, rfl, World.ownsRow_nil _ _ _ _, Below.refl _ _⟩
      case round =>
        obtain ⟨r, ul, rfl, hrp, rfl, hown3, hB3⟩ := hrel
        have HO3 := Lib.hid hown3; clear hown3
        have hsB3 := hB3.size
        have hBX3 : Below wa.heap.size wa wr := hB2.trans (hB3.mono hsB2)
        by_cases hlt3 : r < nw
        · have HI3 := Lib.hid (HIN.out r m hlt3 hlt2)
          have HLN := Lib.hid (pline_len S 2 n u (v + m) r)
          have hls : plineS S 2 n u (v + m) (r + 1) = plineS S 2 n u (v + m) r ++ [S.at ⟨u + (r : Int), v + (m : Int), n⟩] := pline_succ S 2 n u (v + m) r
          have HSL := Lib.hid hls; clear hls
          have hwa1 : wrap64 (u + (r : Int)) = u + (r : Int) := w64b (by omega) (by omega)
          have hwa2 : wrap64 (v + (m : Int)) = v + (m : Int) := w64b (by omega) (by omega)
          have hwb1 : IntKind.i64.wrap (u + (r : Int)) = u + (r : Int) := IntWalk.i64_in _ (by omega)
          have hwb2 : IntKind.i64.wrap (v + (m : Int)) = v + (m : Int) := IntWalk.i64_in _ (by omega)
          obtain ⟨_, _, ⟨z0, z1⟩, _⟩ := HZ.out wr hBX3
          have HO1 := Lib.hid (fun o => HZ.out (wr.alloc o) (hBX3.alloc hBX3.size o))
          have u0 : ∀ o, (wr.alloc o).cell? ⟨w.heap.size + 1, 0, none⟩ = some (.int .i64 u) := fun o => (HO1.out o).2.1.1
          have u1 : ∀ o, (wr.alloc o).cell? ⟨w.heap.size + 1, 1, none⟩ = some (.int .i64 v) := fun o => (HO1.out o).2.1.2
          have f0 : ∀ o, (wr.alloc o).cell? ⟨w.heap.size, 0, none⟩ = some (.int .i64 b.op) := fun o => (HO1.out o).1.1
          have f1 : ∀ o, (wr.alloc o).cell? ⟨w.heap.size, 1, none⟩ = some (.int .i64 b.ax) := fun o => (HO1.out o).1.2.1
          have f2 : ∀ o, (wr.alloc o).cell? ⟨w.heap.size, 2, none⟩ = some (.int .u8 b.co) := fun o => (HO1.out o).1.2.2.1
          have f3 : ∀ o, (wr.alloc o).cell? ⟨w.heap.size, 3, none⟩ = some (.int .i64 b.n0) := fun o => (HO1.out o).1.2.2.2.1
          have f4 : ∀ o, (wr.alloc o).cell? ⟨w.heap.size, 4, none⟩ = some (.int .i64 b.n1) := fun o => (HO1.out o).1.2.2.2.2.1
          have f5 : ∀ o, (wr.alloc o).cell? ⟨w.heap.size, 5, none⟩ = some (.int .i64 b.n2) := fun o => (HO1.out o).1.2.2.2.2.2.1
          have f6 : ∀ o, (wr.alloc o).cell? ⟨w.heap.size, 6, none⟩ = some (.slice b.A b.ps.length b.cp) := fun o => (HO1.out o).1.2.2.2.2.2.2
          have hlo : w.heap.size + 2 < wr.heap.size := by omega
          go_wp2
          go_region
          clear u0 u1 z0 z1
          have hBWr : Below w.heap.size w wr := hBa.trans (hBX3.mono hBa.size)
          go_wp2_with fail
          refine (HCOL.out ⟨u + (r : Int), v + (m : Int), n⟩ HI3.out _ (by (repeat (first | exact Below.refl _ _ | assumption | refine Below.alloc ?_ (by first | exact Nat.le_refl _ | exact Below.size (by assumption) | omega | (simp <;> omega)) _ | refine Below.setCell ?_ (by first | exact Nat.le_refl _ | exact Below.size (by assumption) | omega | (simp <;> omega)) _ | refine below_drewN ?_ _ | refine Below.drew ?_)))).mono ?_
          rintro e w4 ⟨rfl, hb4⟩
          have hB4 : Below wo.heap.size wo w4 := hB3.trans (below_next (w := wr) (by (repeat (first | exact Below.refl _ _ | assumption | refine Below.alloc ?_ (by first | exact Nat.le_refl _ | exact Below.size (by assumption) | omega | (simp <;> omega)) _ | refine Below.setCell ?_ (by first | exact Nat.le_refl _ | exact Below.size (by assumption) | omega | (simp <;> omega)) _ | refine below_drewN ?_ _ | refine Below.drew ?_))) hb4 |>.mono hsB3)
          have HO4 : Hid (OwnSY w4 wo.heap.size ul (plineS S 2 n u (v + m) r)) := own_belowS HO3.out (below_next (w := wr) (by (repeat (first | exact Below.refl _ _ | assumption | refine Below.alloc ?_ (by first | exact Nat.le_refl _ | exact Below.size (by assumption) | omega | (simp <;> omega)) _ | refine Below.setCell ?_ (by first | exact Nat.le_refl _ | exact Below.size (by assumption) | omega | (simp <;> omega)) _ | refine below_drewN ?_ _ | refine Below.drew ?_))) hb4)
          have hs4 := hB4.size
          clear hb4 f0 f1 f2 f3 f4 f5 f6
          obtain ⟨cl, hcl⟩ : ∃ cl, S.at ⟨u + (r : Int), v + (m : Int), n⟩ = cl := ⟨_, rfl⟩
          rw [hcl] at HSL ⊢
          clear hcl
          go_wp2_with (at_builtin; refine wpList_append_own _ rfl _ _ 52 rfl wo.heap.size 5 i1 (.int .u8 0) 1 1 Tryd.underlying52 HJY.out hy0 hy1 hy2 rfl (by decide) _ _ _ rfl (World.ownsRow.alloc HO4.out _) ⟨w4.heap.size, 0, none⟩ 1 1 [.int .u8 cl] rfl rfl (by intro j u hj; match j, hj with | 0, hj => (simp at hj; subst hj; simp [Addr.add]) | j + 1, hj => simp at hj) (by intro u hu; simp at hu; subst hu; rfl) (by have := HLN.out; unfold maxLen; omega) (by have := HLN.out; omega) (by simp; omega) ?_; intro v' w5 hown' hgrow _; have hB5 := below_grown (w1 := w4.alloc (.cells #[.int .u8 cl] 5)) (hB4.alloc (by omega) _) hgrow (fun j hj => (HO4.out.lt j hj).1) (by simp; omega); have own5 := ownSY_snoc hown' HSL.out; have HOW5 := Lib.hid own5; clear own5 hown' hgrow)
          go_wp2
          go_roundw
          case rel => exact ⟨r + 1, _, rfl, by omega, by go_num, HOW5.out, hB5⟩
          case measure => simp [intOf]; omega
        · obtain rfl : r = nw := by omega
          obtain ⟨_, _, ⟨z0, z1⟩, _⟩ := HZ.out wr hBX3
          have HO6 : Hid (OwnST wr wa.heap.size t (planeS S 2 n u v r m)) := own_belowS HO2.out hB3
          have hcv := run_str HO3.out (HCO.out m hlt2) (Below.refl _ _)
          have HLN := Lib.hid (plane_len S 2 n u v r m)
          obtain ⟨st, hst⟩ : ∃ st, strB (plineS S 2 n u (v + m) r) = st := ⟨_, rfl⟩
          have hls := HLS.out m
          rw [hst] at hcv hls
          have HSL := Lib.hid hls; clear hls hst
          go_wp2_with (at_builtin; refine wpList_append_own _ rfl _ _ 35 rfl wa.heap.size 9 i2 (.string ⟨#[]⟩) 1 16 Tryd.underlying35 HJT.out hx0 hx1 hx2 rfl (by decide) _ _ _ rfl (World.ownsRow.alloc HO6.out _) ⟨wr.heap.size, 0, none⟩ 1 1 [.string st] rfl rfl (by intro j u hj; match j, hj with | 0, hj => (simp at hj; subst hj; simp [Addr.add]) | j + 1, hj => simp at hj) (by intro u hu; simp at hu; subst hu; rfl) (by have := HLN.out; unfold maxLen; omega) (by have := HLN.out; omega) (by simp; omega) ?_; intro v' w5 hown' hgrow _; have hB5 := below_grown (w1 := wr.alloc (.cells #[.string st] 9)) (hBX3.alloc (by omega) _) hgrow (fun j hj => (HO6.out.lt j hj).1) (by simp; omega); have own5 := ownST_snoc hown' HSL.out; have HOW5 := Lib.hid own5; clear own5 hown' hgrow hcv)
          go_wp2
          go_roundw
          case rel => exact ⟨m + 1, _, rfl, by omega, by go_num, HOW5.out, hB5⟩
          case measure => simp [intOf]; omega
    · obtain rfl : m = nh := by omega
      have hown := HO2.out
      obtain ⟨A9, c9, rfl, hr9, hc9, _⟩ := own_rdST hown
      have HR9 := Lib.hid hr9
      have HC9 := Lib.hid hc9
      clear hown hr9 hc9
      go_wp2
      go_ret
      exact ⟨A9, c9, rfl, HR9.out, HC9.out, hBo⟩

end Go.Proofs.YtbcnkcndhgihaaaDoor

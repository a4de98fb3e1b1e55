/- Invoice of the program: the walk. Printed by geninv.py. -/
import Derived.Test.YthccpdefgjneiaaDoorOP16
namespace Go.Proofs.YthccpdefgjneiaaDoor
open Go.RowKit Go.Shelf Go.Maps
set_option linter.unusedSimpArgs false

def wsum (l : List Int) : Int := l.foldl (fun s n => wrap64 (s + n)) 0
theorem wsum_snoc (l : List Int) (n : Int) : wsum (l ++ [n]) = wrap64 (wsum l + n) := by unfold wsum; rw [List.foldl_append]; rfl
def lineK (lp : List QT) (lr : List RT) (f : FT) (k : Nat) : Int × Int := lineV lp lr f (k : Int)
def invA (lp : List QT) (lr : List RT) (f : FT) (k : Nat) : List Int := (List.range k).map fun j => (lineK lp lr f j).1
theorem invA_succ (lp : List QT) (lr : List RT) (f : FT) (k : Nat) : invA lp lr f (k + 1) = invA lp lr f k ++ [(lineK lp lr f k).1] := by unfold invA; rw [List.range_succ, List.map_append]; rfl
theorem invA_len (lp : List QT) (lr : List RT) (f : FT) (k : Nat) : (invA lp lr f k).length = k := by unfold invA; simp
def firstE (lp : List QT) (lr : List RT) (f : FT) : Nat → Int
  | 0 => 0
  | k + 1 => if firstE lp lr f k = 0 then (lineK lp lr f k).2 else firstE lp lr f k
theorem firstE_zero {lp : List QT} {lr : List RT} {f : FT} {k : Nat} (h : firstE lp lr f k = 0) (h2 : (lineK lp lr f k).2 = 0) : firstE lp lr f (k + 1) = 0 := by unfold firstE; rw [if_pos h, h2]
theorem firstE_hit {lp : List QT} {lr : List RT} {f : FT} {k : Nat} (h : firstE lp lr f k = 0) (h2 : ¬ (lineK lp lr f k).2 = 0) : ∀ n, k < n → firstE lp lr f n = (lineK lp lr f k).2
  | 0, hn => by omega
  | n + 1, hn => by
    unfold firstE
    by_cases e : k = n
    · subst e; rw [if_pos h]
    · have := firstE_hit h h2 n (by omega)
      rw [if_neg (by rw [this]; exact h2), this]
def invV (lp : List QT) (lr : List RT) (f : FT) : List Int × Int × Int :=
  if checkE lp lr f = 0 then (if firstE lp lr f f.ls.length = 0 then (invA lp lr f f.ls.length, wsum (invA lp lr f f.ls.length), 0) else ([], 0, firstE lp lr f f.ls.length)) else ([], 0, checkE lp lr f)
theorem check_len {lp : List QT} {lr : List RT} {f : FT} (h : checkE lp lr f = 0) : 1 ≤ f.ls.length ∧ f.ls.length ≤ 40 := by
  have := (check_form h).2.2
  unfold validFS at this
  simp only [Bool.and_eq_true] at this
  have := bet_iff.1 this.2.2.2.2
  omega
set_option maxRecDepth 100000 in
set_option maxHeartbeats 2000000 in
theorem Invoice_any (A1 A2 : Option Addr) (c1 c2 : Nat) (lp : List QT) (lr : List RT) (f : FT) (w : World) (h : OkA w A1 A2 lp lr f) :
    Calls Tryd.prog 37 #[.slice A1 lp.length c1, .slice A2 lr.length c2, valF f] w (RetL (invV lp lr f).1 [.int .i64 (invV lp lr f).2.1, .int .i64 (invV lp lr f).2.2] w) := by
  have HA := Lib.hid h; clear h
  obtain ⟨i0, hi0, hz0', hz1', hz2'⟩ := info_partsI Tryd.infoI
  have HJ := Lib.hid hi0; clear hi0
  obtain ⟨w0, hw0⟩ : ∃ w0, w.alloc (.cells #[.string f.cu, .int .i64 f.d, .string f.cr, .slice f.A f.ls.length f.cp] 30) = w0 := ⟨_, rfl⟩
  have hB0 : Below w.heap.size w w0 := by rw [← hw0]; (repeat (first | exact Below.refl _ _ | assumption | refine Below.alloc ?_ (by first | exact Nat.le_refl _ | exact Below.size (by assumption) | omega | (simp <;> omega)) _ | refine Below.setCell ?_ (by first | exact Nat.le_refl _ | exact Below.size (by assumption) | omega | (simp <;> omega)) _ | refine below_drewN ?_ _ | refine Below.drew ?_))
  have hz0 : w.heap.size < w0.heap.size := by rw [← hw0]; simp
  have HF := Lib.hid (show AtF w0 w.heap.size f by rw [← hw0]; exact AtF.new w f)
  obtain ⟨e0, he0⟩ : ∃ e0, checkE lp lr f = e0 := ⟨_, rfl⟩
  have hck := fun W (hW : Below w.heap.size w W) => checked_any A1 A2 c1 c2 lp lr f W (HA.out.now hW)
  rw [he0] at hck
  have HCK := Lib.hid hck; clear hck
  obtain ⟨f0, f1, f2, f3⟩ := HF.out
  by_cases hc : e0 = 0
  case neg =>
    have HS := Lib.hid (show invV lp lr f = ([], 0, e0) by unfold invV; rw [he0, if_neg hc])
    have hne : (e0 != 0) = true := by simpa using hc
    clear hc he0
    go_enter Tryd.func37, Tryd.ntmps37
    go_wp2_with fail
    clear hw0
    refine (HCK.out _ hB0).mono ?_
    rintro e w2 ⟨rfl, hb2⟩
    go_wp2
    go_ret3
    rw [HS.out]; exact ⟨none, 0, rfl, fun i p hp => by simp at hp, Nat.le_refl _, (hB0.trans (hb2.mono hB0.size))⟩
  subst hc
  obtain ⟨hn1, hn40⟩ := check_len he0
  have HE0 := Lib.hid he0; clear he0
  have hnI : (f.ls.length : Int) ≤ 40 := by omega
  go_enter Tryd.func37, Tryd.ntmps37
  go_wp2_with fail
  clear hw0
  refine (HCK.out _ hB0).mono ?_
  rintro e w2 ⟨rfl, hb2⟩
  have hB2 := hB0.trans (hb2.mono hB0.size)
  clear f0 f1 f2 f3
  have HF2 := Lib.hid (HF.out.below hb2 hz0)
  obtain ⟨f0, f1, f2, f3⟩ := HF2.out
  have hz2 : w.heap.size < w2.heap.size := by have := hb2.size; omega
  go_wp2
  clear f0 f1 f2 f3
  go_loopw [10, 11, 12, 13, 14, 25] (fun u s _ _ _ i wr => ∃ (k : Nat) (v : Value), v = u ∧ k ≤ f.ls.length ∧ i = .int .i64 k ∧ s = .int .i64 (wsum (invA lp lr f k)) ∧ firstE lp lr f k = 0 ∧ OwnI wr w2.heap.size v (invA lp lr f k) ∧ Below w2.heap.size w2 wr) (fun _ _ _ _ _ i _ => f.ls.length - (intOf i).toNat)
  case atStart => exact ⟨0, _, rfl, Nat.zero_le _, rfl, by unfold wsum invA; rfl, by unfold firstE; rfl, World.ownsRow_nil _ _ _ _, Below.refl _ _⟩
  case round =>
    obtain ⟨k, u, rfl, hk, rfl, rfl, hfe, hown, hB⟩ := hrel
    have HFE := Lib.hid hfe; clear hfe
    have HOW := Lib.hid hown; clear hown
    have hBw := hB2.trans (hB.mono hB2.size)
    have hsB := hB.size
    obtain ⟨f0, f1, f2, f3⟩ := HF2.out.below hB hz2
    have hz5 : w.heap.size < wr.heap.size := by omega
    by_cases hlt : k < f.ls.length
    · obtain ⟨⟨n, e⟩, hne⟩ : ∃ r, lineV lp lr f (k : Int) = r := ⟨_, rfl⟩
      have hlk : lineK lp lr f k = (n, e) := hne
      have hln := Line_any A1 A2 c1 c2 lp lr f (k : Int) wr (HA.out.now hBw)
      rw [hne] at hln
      have HLN := Lib.hid hln; clear hln hne
      have hsn := invA_succ lp lr f k
      rw [hlk] at hsn
      have hws : wsum (invA lp lr f (k + 1)) = wrap64 (wsum (invA lp lr f k) + n) := by rw [hsn, wsum_snoc]
      have HSN := Lib.hid hsn
      have HWS := Lib.hid hws
      have HLE := Lib.hid (invA_len lp lr f k)
      have HLK := Lib.hid hlk
      clear hsn hws hlk
      obtain ⟨R, hR⟩ : ∃ R, invA lp lr f k = R := ⟨_, rfl⟩
      rw [hR] at HSN HOW HLE HWS ⊢
      obtain ⟨sm, hsm⟩ : ∃ sm, wsum R = sm := ⟨_, rfl⟩
      rw [hsm] at HWS ⊢
      clear hR hsm
      go_wp2_with fail
      refine HLN.out.mono ?_
      rintro e' w4 ⟨rfl, hb4⟩
      have hB4 := hB.trans (hb4.mono hB.size)
      have hBw4 := hB2.trans (hB4.mono hB2.size)
      have HO4 := Lib.hid (own_belowI HOW.out hb4)
      have hs4 := hB4.size
      clear f0 f1 f2 f3
      by_cases he : e = 0
      case neg =>
        have HS := Lib.hid (show invV lp lr f = ([], 0, e) by
          have h3 := firstE_hit HFE.out (by rw [HLK.out]; exact he) f.ls.length hlt
          rw [HLK.out] at h3
          dsimp only at h3
          unfold invV; rw [if_pos HE0.out, h3, if_neg he])
        have hne : (e != 0) = true := by simpa using he
        clear he
        go_wp2
        go_ret3
        rw [HS.out]; exact ⟨none, 0, rfl, fun i p hp => by simp at hp, Nat.le_refl _, hBw4⟩
      subst he
      have HF3 := Lib.hid (firstE_zero HFE.out (by rw [HLK.out]))
      go_wp2_with (at_builtin; refine wpList_append_own _ rfl _ _ 36 rfl w2.heap.size 3 i0 (.int .i64 0) 1 8 Tryd.underlying36 HJ.out hz0' hz1' hz2' rfl (by decide) _ _ _ rfl (World.ownsRow.alloc HO4.out _) ⟨w4.heap.size, 0, none⟩ 1 1 [.int .i64 n] rfl rfl (by intro j u hj; match j, hj with | 0, hj => (simp at hj; subst hj; simp [Addr.add]) | j + 1, hj => simp at hj) (by intro u hu; simp at hu; subst hu; rfl) (by have := HLE.out; unfold maxLen; omega) (by have := HLE.out; omega) (by simp; omega) ?_; intro v' w5 hown' hgrow _; have hB5 := below_grown (w1 := w4.alloc (.cells #[.int .i64 n] 3)) (hB4.alloc (by omega) _) hgrow (fun j hj => (HO4.out.lt j hj).1) (by simp; omega); have own5 := ownI_snoc hown' HSN.out; have HOW5 := Lib.hid own5; clear own5 hown' hgrow)
      go_wp2
      go_roundw
      case rel => exact ⟨k + 1, _, rfl, by omega, by go_num, by rw [HWS.out], HF3.out, HOW5.out, hB5⟩
      case measure => simp [intOf]; omega
    · obtain rfl : k = f.ls.length := by omega
      have HS := Lib.hid (show invV lp lr f = (invA lp lr f f.ls.length, wsum (invA lp lr f f.ls.length), 0) by unfold invV; rw [if_pos HE0.out, if_pos HFE.out])
      obtain ⟨A8, c8, hv8, hr8, hc8⟩ := own_rdI HOW.out
      subst hv8
      have HR8 := Lib.hid hr8; clear hr8
      obtain ⟨R, hR⟩ : ∃ R, invA lp lr f f.ls.length = R := ⟨_, rfl⟩
      rw [hR] at HS HR8 hc8 ⊢
      clear hR HOW
      go_wp2
      go_ret3
      rw [HS.out]
      exact ⟨A8, c8, rfl, HR8.out, hc8, hBw⟩
end Go.Proofs.YthccpdefgjneiaaDoor

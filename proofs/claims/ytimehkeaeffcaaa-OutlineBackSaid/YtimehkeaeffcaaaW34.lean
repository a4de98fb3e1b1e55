/- mapped, without turning round, in the program: the walk. -/
import Derived.Test.YtimehkeaeffcaaaMathC
namespace Go.Proofs.Ytimehkeaeffcaaa
open Go.RowKit

theorem own_rdc {w : World} {B : Nat} {v : Value} {l : List XY} (h : OwnL w B v l) : ∃ A c, v = .slice A l.length c ∧ Rd w w.heap.size A l ∧ l.length ≤ c := by
  obtain ⟨A, c, rfl, hr⟩ := own_rd h
  refine ⟨A, c, rfl, hr, ?_⟩
  rcases h.2 with ⟨hv, hn⟩ | ⟨g, cap, cur, hv, _, _, h1, _⟩
  · omega
  · simp at hv; omega

theorem own_below {w w' : World} {B : Nat} {v : Value} {l : List XY} (h : OwnL w B v l) (hb : Below w.heap.size w w') : OwnL w' B v l :=
  h.kept (row := none) ⟨hb.os, hb.tape, hb.output, hb.size, fun j hj _ => hb.block j hj⟩ (by cases v.ownBlock <;> simp)

/-- A function value that answers f and leaves all that lay in w. -/
def Maps (g : Nat) (cb : Array Value) (f : XY → XY) (w : World) : Prop :=
  (∀ args W, (callFunc g args).run Try.prog W = .ok (.enter g args) W) ∧ ∀ (W : World) (p : XY), Below w.heap.size w W → Calls Try.prog g (#[xyv p] ++ cb) W (Ret (xyv (f p)) W)

theorem take_map_succ {l : List XY} {k : Nat} {q : XY} (f : XY → XY) (h : l[k]? = some q) : (l.take (k + 1)).map f = (l.take k).map f ++ [f q] := by rw [take_succ_of h, List.map_append]; rfl

set_option maxRecDepth 100000 in
set_option maxHeartbeats 1000000 in
theorem mapped_any (g : Nat) (cb : Array Value) (f : XY → XY) (A : Option Addr) (c : Nat) (l : List XY) (w : World) (hf : Maps g cb f w) (h0 : 0 < l.length) (hm : l.length ≤ 1000000) (hl : Rd w w.heap.size A l) (hb : ∀ j, Bd 100000 (cy (l.map f) j)) :
    Calls Try.prog 76 #[.slice A l.length c, .func (.func g) #[] cb, .bool false] w (RetO (canonL (l.map f)) w) := by
  have eg := hf.1
  have HF := Lib.hid hf.2; clear hf
  have HL := Lib.hid hl; clear hl
  obtain ⟨k0, hk0, hi0, hc0, _⟩ := canon_facts (l := l.map f) (by simpa using h0) hb
  have HI0 := Lib.hid hi0; clear hi0
  have HC0 := Lib.hid hc0; clear hc0
  obtain ⟨i0, hi, hz0, hz1, hz2⟩ := info_parts Try.infoXY
  have HJ := Lib.hid hi; clear hi
  have HE := Lib.hid eg; clear eg
  go_enter Try.func76, Try.ntmps76
  go_wp2_with (at_make; refine wpList_make_own _ rfl _ _ 22 rfl w.heap.size 37 i0 (.agg #[.int .i64 0, .int .i64 0]) 2 Try.underlying22 HJ.out hz0 hz1 _ _ _ l.length rfl rfl rfl (by rw [hz2]; omega) (by unfold maxLen; omega) (Nat.le_refl _) ?_; intro w1 hown1 hgrow1)
  have hB1 : Below w.heap.size w w1 := below_grown (Below.refl _ w) hgrow1 (fun k h => by cases h) (Nat.le_refl _)
  have HO1 := Lib.hid hown1; clear hown1 hgrow1
  go_wp2
  go_loopw [7, 9, 15] (fun v _ i wr => ∃ k : Nat, k ≤ l.length ∧ i = .int .i64 k ∧ OwnL wr w.heap.size v ((l.take k).map f) ∧ Below w.heap.size w wr) (fun _ _ i _ => l.length - (intOf i).toNat)
  case atStart => exact ⟨0, Nat.zero_le _, rfl, HO1.out, hB1⟩
  case round =>
    obtain ⟨k, hk, rfl, hown, hB⟩ := hrel
    have HO := Lib.hid hown; clear hown
    by_cases hlt : k < l.length
    · obtain ⟨q, hq⟩ := getElem?_of_lt hlt
      obtain ⟨b, off, hA, hb, hcx, hcy⟩ := (HL.out.below hB) k q hq
      subst hA
      have HQ := Lib.hid (take_map_succ f hq); clear hq
      have hsB := hB.size
      have eg := HE.out
      have hlen : ((l.take k).map f).length = k := by simp; omega
      go_wp2_with fail
      refine (HF.out (wr.alloc (.cells #[.int .i64 q.X, .int .i64 q.Y] 37)) q (by (repeat (first | exact Below.refl _ _ | assumption | refine Below.alloc ?_ (by first | exact Nat.le_refl _ | exact Below.size (by assumption) | omega | (simp <;> omega)) _ | refine Below.setCell ?_ (by first | exact Nat.le_refl _ | exact Below.size (by assumption) | omega | (simp <;> omega)) _ | refine below_drewN ?_ _ | refine Below.drew ?_)))).mono ?_
      rintro e w2 ⟨rfl, hb2⟩
      have hB2 : Below w.heap.size w w2 := Below.trans (b := wr.alloc (.cells #[.int .i64 q.X, .int .i64 q.Y] 37)) (by (repeat (first | exact Below.refl _ _ | assumption | refine Below.alloc ?_ (by first | exact Nat.le_refl _ | exact Below.size (by assumption) | omega | (simp <;> omega)) _ | refine Below.setCell ?_ (by first | exact Nat.le_refl _ | exact Below.size (by assumption) | omega | (simp <;> omega)) _ | refine below_drewN ?_ _ | refine Below.drew ?_))) (hb2.mono (by simp; omega))
      have hO2 := own_below (HO.out.alloc (.cells #[.int .i64 q.X, .int .i64 q.Y] 37)) hb2
      have HO2 := Lib.hid hO2; clear hO2
      have hs2 := hB2.size
      obtain ⟨r, hr⟩ : ∃ r, f q = r := ⟨_, rfl⟩
      have hq2 := HQ.out
      rw [hr] at hq2 ⊢
      have HQ2 := Lib.hid hq2; clear hq2 hr
      clear hb2 hcx hcy hb
      go_wp2_with (at_builtin; refine wpList_append_own _ rfl _ _ 22 rfl w.heap.size 37 i0 (.agg #[.int .i64 0, .int .i64 0]) 2 16 Try.underlying22 HJ.out hz0 hz1 hz2 rfl (by decide) _ _ _ rfl (HO2.out.alloc _) ⟨w2.heap.size, 0, none⟩ 1 1 [.int .i64 r.X, .int .i64 r.Y] rfl rfl (by intro j u hj; match j, hj with | 0, hj => (simp at hj; subst hj; simp [Addr.add]) | 1, hj => (simp at hj; subst hj; simp [Addr.add]) | j + 2, hj => simp at hj) (by intro u hu; simp at hu; rcases hu with rfl | rfl <;> rfl) (by rw [hlen]; unfold maxLen; omega) (by rw [hlen]; omega) (by simp; omega) ?_; intro v' w3 hown' hgrow _)
      go_wp2
      go_roundw
      case rel =>
        refine ⟨k + 1, by omega, by go_num, ?_, below_grown (w1 := w2.alloc (.cells #[.int .i64 r.X, .int .i64 r.Y] 37)) (by (repeat (first | exact Below.refl _ _ | assumption | refine Below.alloc ?_ (by first | exact Nat.le_refl _ | exact Below.size (by assumption) | omega | (simp <;> omega)) _ | refine Below.setCell ?_ (by first | exact Nat.le_refl _ | exact Below.size (by assumption) | omega | (simp <;> omega)) _ | refine below_drewN ?_ _ | refine Below.drew ?_))) hgrow (fun j hj => (HO2.out.lt j hj).1) (by simp; omega)⟩
        rw [HQ2.out]
        have e := hown'
        unfold OwnL
        rw [flat_append]
        simpa [flat_cons, flat_nil] using e
      case measure => simp [intOf]; omega
    · obtain rfl : k = l.length := by omega
      have hown := HO.out
      rw [List.take_length] at hown
      obtain ⟨A2, c2, rfl, hr2, hc2⟩ := own_rdc hown
      have hcall := canonical_any A2 c2 (l.map f) wr (by simpa using h0) (by simpa using hm) hc2 hr2 k0 hk0 HI0.out HC0.out
      rw [List.length_map] at hcall
      have HCL := Lib.hid hcall; clear hcall hr2 hown
      go_wp2_with fail
      refine HCL.out.mono ?_
      rintro e w3 ⟨v3, rfl, hown3, hb3⟩
      go_wp2
      go_ret
      exact ⟨v3, rfl, own_base hown3 hB.size, hB.trans (hb3.mono hB.size)⟩
end Go.Proofs.Ytimehkeaeffcaaa

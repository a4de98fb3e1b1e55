/- Lists of numbers in memory; slices.IndexFunc and ContainsFunc at numbers: the walks. -/
import Derived.Test.YtbcnkcndhgihaaaDoorS1
import Derived.Test.YtbcnkcndhgihaaaDoorNIdx0
namespace Go.Proofs.YtbcnkcndhgihaaaDoor
open Go.RowKit Go.Shelf

def RdI (w : World) (B : Nat) (A : Option Addr) (l : List Int) : Prop := ∀ i v, l[i]? = some v → ∃ b off, A = some ⟨b, off, none⟩ ∧ b < B ∧ w.cell? ⟨b, off + i, none⟩ = some (.int .i64 v)
theorem RdI.now {w w' : World} {A : Option Addr} {l : List Int} (h : RdI w w.heap.size A l) (hb : Below w.heap.size w w') : RdI w' w'.heap.size A l := by
  intro i v hi
  obtain ⟨b, off, hA, hbb, hc⟩ := h i v hi
  exact ⟨b, off, hA, Nat.lt_of_lt_of_le hbb hb.size, (hb.cell (p := ⟨b, off + i, none⟩) hbb).trans hc⟩
theorem RdI.below {w w' : World} {B : Nat} {A : Option Addr} {l : List Int} (h : RdI w B A l) (hb : Below B w w') : RdI w' B A l := by
  intro i v hi
  obtain ⟨b, off, hA, hbb, hc⟩ := h i v hi
  exact ⟨b, off, hA, hbb, (hb.cell (p := ⟨b, off + i, none⟩) hbb).trans hc⟩
theorem RdI.take {w : World} {B : Nat} {A : Option Addr} {l : List Int} (h : RdI w B A l) (k : Nat) : RdI w B A (l.take k) := by
  intro i v hi
  rw [List.getElem?_take] at hi
  split at hi
  · exact h i v hi
  · cases hi
def TellsI (g : Nat) (cb : Array Value) (f : Int → Bool) (l : List Int) (w : World) : Prop :=
  (∀ args W, (callFunc g args).run Tryd.prog W = .ok (.enter g args) W) ∧ ∀ (W : World) (p : Int), p ∈ l → Below w.heap.size w W → Calls Tryd.prog g (#[.int .i64 p] ++ cb) W (Ret (.bool (f p)) W)

set_option maxRecDepth 100000 in
set_option maxHeartbeats 400000 in
theorem indexFuncI_any (g : Nat) (cb : Array Value) (f : Int → Bool) (A : Option Addr) (c : Nat) (l : List Int) (w : World) (hf : TellsI g cb f l w) (hm : l.length ≤ 1000000) (hl : RdI w w.heap.size A l) :
    Calls Tryd.prog 98 #[.slice A l.length c, .func (.func g) #[] cb] w (Ret (.int .i64 (idxG f l)) w) := by
  have eg := hf.1
  have HF := Lib.hid hf.2; clear hf
  have HL := Lib.hid hl; clear hl
  go_enter Tryd.func98, Tryd.ntmps98
  go_wp2
  go_loopw [5, 8] (fun _ i wr => ∃ k : Nat, k ≤ l.length ∧ i = .int .i64 k ∧ (∀ x ∈ l.take k, f x = false) ∧ Below w.heap.size w wr) (fun _ i _ => l.length - (intOf i).toNat)
  case atStart => exact ⟨0, Nat.zero_le _, rfl, by simp, Below.refl _ _⟩
  case round =>
    obtain ⟨k, hk, rfl, hno, hB⟩ := hrel
    have HN := Lib.hid hno; clear hno
    by_cases hlt : k < l.length
    · obtain ⟨q, hq⟩ := getElem?_of_lt hlt
      obtain ⟨b, off, hA, hb, hc0⟩ := (HL.out.now hB) k q hq
      subst hA
      have hqm : q ∈ l := List.mem_of_getElem? hq
      have HQ := Lib.hid hq; clear hq
      go_wp2_with fail
      refine (HF.out _ _ hqm hB).mono ?_
      rintro e w2 ⟨rfl, hb2⟩
      have hB2 := hB.trans (hb2.mono hB.size)
      cases hfq : f q
      · go_wp2
        go_roundw
        case rel => exact ⟨k + 1, by omega, by go_num, noG_take_succ HN.out HQ.out hfq, hB2⟩
        case measure => simp [intOf]; omega
      · have HS := Lib.hid (idxG_hit HN.out HQ.out hfq)
        go_wp2
        go_ret
        exact Ret.mk (by rw [HS.out] <;> rfl) hB2
    · obtain rfl : k = l.length := by omega
      have HS := Lib.hid (show idxG f l = -1 from idxG_none (fun x hx => HN.out x (by rw [List.take_length]; exact hx)))
      go_wp2
      go_ret
      exact Ret.mk (by rw [HS.out] <;> rfl) hB
set_option maxRecDepth 100000 in
set_option maxHeartbeats 400000 in
theorem containsFuncI_any (g : Nat) (cb : Array Value) (f : Int → Bool) (A : Option Addr) (c : Nat) (l : List Int) (w : World) (hf : TellsI g cb f l w) (hm : l.length ≤ 1000000) (hl : RdI w w.heap.size A l) :
    Calls Tryd.prog 88 #[.slice A l.length c, .func (.func g) #[] cb] w (Ret (.bool (l.any f)) w) := by
  have HF := Lib.hid hf; clear hf
  have HL := Lib.hid hl; clear hl
  cases ha : l.any f
  · have HI := Lib.hid (show idxG f l = -1 by unfold idxG; rw [if_neg (by rw [ha]; simp)])
    clear ha
    go_enter Tryd.func88, Tryd.ntmps88
    go_wp2_with fail
    refine (indexFuncI_any g cb f A c l _ HF.out hm HL.out).mono ?_
    rintro e w2 ⟨rfl, hb2⟩
    rw [HI.out]
    go_wp2
    go_ret
    exact Ret.mk rfl hb2
  · obtain ⟨k, hk⟩ : ∃ k : Nat, idxG f l = k := ⟨l.findIdx f, by unfold idxG; rw [if_pos ha]⟩
    have HI := Lib.hid hk; clear ha hk
    go_enter Tryd.func88, Tryd.ntmps88
    go_wp2_with fail
    refine (indexFuncI_any g cb f A c l _ HF.out hm HL.out).mono ?_
    rintro e w2 ⟨rfl, hb2⟩
    rw [HI.out]
    go_wp2
    go_ret
    exact Ret.mk rfl hb2

end Go.Proofs.YtbcnkcndhgihaaaDoor

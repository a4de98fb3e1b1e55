/- The iterator over the sides of an outline: its contract. -/
import Derived.Test.YtcbphodkaiknmaaWB
import Derived.RangeFuncNested
import Derived.RangeFuncBound
import Derived.RangeFuncCalls
import Derived.RangeFuncLeaves
import Derived.Shelf.RegionOpen
import Derived.OwnWalkIn
import Derived.TacticsInMore
import Derived.LoopNIn
import Derived.LoopIn
namespace Go.Proofs.Ytcbphodkaiknmaa
open Go.RowKit Go.Shelf
attribute [local go_sem] Oper.semAt_some

/-- The first k sides. -/
def sidesTo (l : List XY) (k : Nat) : List (XY × XY) := (List.range k).map fun i => (cy l i, cy l (i + 1))
theorem sidesTo_succ (l : List XY) (k : Nat) : sidesTo l (k + 1) = sidesTo l k ++ [(cy l k, cy l (k + 1))] := by simp [sidesTo, List.range_succ]
theorem sidesTo_length (l : List XY) (k : Nat) : (sidesTo l k).length = k := by simp [sidesTo]

/-- What a round of the loop keeps: what lay below n₀, and the box of the slice. -/
def KpS (n₀ Bs : Nat) (W W' : World) : Prop := Below n₀ W W' ∧ W'.cell? ⟨Bs, 0, none⟩ = W.cell? ⟨Bs, 0, none⟩
theorem KpS.trans {n₀ Bs : Nat} {A B C : World} (h : KpS n₀ Bs A B) (k : KpS n₀ Bs B C) : KpS n₀ Bs A C := ⟨h.1.trans k.1, k.2.trans h.2⟩
theorem KpS.book {n₀ Bs : Nat} {w : World} (hn : n₀ ≤ w.heap.size) (hBs : Bs < w.heap.size) (W : World) (l : Nat) (o o' : Obj) (hl : w.heap.size ≤ l) (h : W.heap[l]? = some o) (h1 : o.isCells = false) (h2 : o.isWalk = false) : KpS n₀ Bs W (W.putObj l o') :=
  ⟨belowK_b hn W l o o' hl h h1 h2, World.cell?_of_block (World.putObj_heap_other (by show Bs ≠ l; omega))⟩

/-- What a round leaves: it goes on, or it has said 'no more'. -/
def SideQ (n₀ Bs : Nat) (W : World) (J Jx : List (XY × XY) → World → Prop) (pre : List (XY × XY)) (b : Bool) (W' : World) : Prop :=
  (b = true ∧ J pre W' ∧ KpS n₀ Bs W W') ∨ (b = false ∧ Jx pre W')

set_option maxRecDepth 100000 in
set_option maxHeartbeats 2000000 in
theorem sides1_in (n : Nat) (hn : 1 ≤ n) (l Bs n₀ : Nat) (A : Option Addr) (cap : Nat) (zs : List XY) (hm : zs.length ≤ 1000000) (J Jx : List (XY × XY) → World → Prop)
    (hY : ∀ pre x W, J pre W → pre.length < zs.length → YieldAt Fence.wide (n - 1) Try.prog l #[xyv x.1, xyv x.2] W fun e W' =>
      (e = .returned (.bool true) ∧ J (pre ++ [x]) W' ∧ KpS n₀ Bs W W') ∨ (e = .returned (.bool false) ∧ Jx (pre ++ [x]) W'))
    (W : World) (hJ : AbidesFrom W.heap.size J) (hn0 : n₀ ≤ W.heap.size) (hBs0 : Bs < W.heap.size) (hBs : W.cell? ⟨Bs, 0, none⟩ = some (.slice A zs.length cap)) (hc : Rd W n₀ A zs) (h0 : J [] W) :
    CallsIn Fence.wide n Try.prog 52 #[.func (.yield l) #[] #[], .pointer (some ⟨Bs, 0, none⟩)] W fun e W' => (∃ v, e = .returned v) ∧
      ((∃ ys, ys = sidesTo zs zs.length ∧ J ys W') ∨ (∃ pre, (∃ k, k < zs.length ∧ pre = sidesTo zs (k + 1)) ∧ Jx pre W')) := by
  have HC := Lib.hid hc; clear hc
  have HJ := Lib.hid hJ; clear hJ
  have hmx : Try.prog.follows .mixedOrders = true := by kernel_rfl
  refine callsIn_of_wp Try.func52 rfl trivial ?_ rfl
  simp only [Try.ntmps52, List.size_toArray, List.length_cons, List.length_nil, Nat.reduceAdd, Nat.reduceSub, Array.replicate_succ, Array.replicate_zero, List.push_toArray, List.append_toArray, List.nil_append, List.cons_append]
  gi_wp2
  gi_loopw [7] (fun i wr => ∃ k : Nat, k ≤ zs.length ∧ i = .int .i64 k ∧ J (sidesTo zs k) wr ∧ KpS n₀ Bs W wr)
    (fun i _ => zs.length - (intOf i).toNat)
  case atStart => exact ⟨0, Nat.zero_le _, rfl, h0, Below.refl _ _, rfl⟩
  case round =>
    obtain ⟨k, hk, rfl, hJs, hB, hBc⟩ := hrel
    by_cases hlt : k < zs.length
    · obtain ⟨q, hq⟩ := getElem?_of_lt hlt
      obtain ⟨b, off, hA, hb, hcx, hcy⟩ := (HC.out.below hB) k q hq
      subst hA
      have hlt2 : (k + 1) % zs.length < zs.length := Nat.mod_lt _ (by omega)
      obtain ⟨r, hr⟩ := getElem?_of_lt hlt2
      obtain ⟨b1, off1, hA, hb1, hdx, hdy⟩ := (HC.out.below hB) _ r hr
      obtain ⟨rfl, rfl⟩ : b = b1 ∧ off = off1 := by simpa using hA
      clear hA
      have HQ := Lib.hid (cy_lt hq); clear hq
      have HR := Lib.hid (cy_of hr); clear hr
      have hsx := hBc.trans hBs
      have HBC := Lib.hid hBc; clear hBc
      have e1 : IntKind.i64.wrap ((k : Int) + 1) = (k : Int) + 1 := IntWalk.i64_in _ (by omega)
      have e2 : ((k : Int) + 1).tmod (zs.length : Int) = ((k : Int) + 1) % (zs.length : Int) := tmod_pos (by omega)
      obtain ⟨e4, e5⟩ := emod_bd (x := (k : Int) + 1) (n := zs.length) (by omega)
      have e6 : (((k : Int) + 1) % (zs.length : Int)).toNat = (k + 1) % zs.length := emod_toNat rfl
      have e3 : ¬ zs = [] := ne_nil_of_lt hlt
      have hbw : b < wr.heap.size := by have := hB.size; omega
      have hBw : Bs < wr.heap.size := by have := hB.size; omega
      gi_wp2
      obtain ⟨wa, hwa⟩ : ∃ wa : World, wr.alloc (.cells #[.int .i64 q.X, .int .i64 q.Y] 29) = wa := ⟨_, rfl⟩
      have hBa : Below n₀ W wa := hwa ▸ hB.alloc (by have := hB.size; omega) _
      have hJa : J (sidesTo zs k) wa := hwa ▸ HJ.out _ _ _ none hJs (World.grownBy_alloc _ _ _) (fun r e => by cases e)
      rw [hwa]
      have cdx : wa.cell? ⟨b, off + (k + 1) % zs.length * 2, none⟩ = some (.int .i64 r.X) := by rw [← hwa, World.cell?_alloc_lt _ _ _ hbw]; exact hdx
      have cdy : wa.cell? ⟨b, off + (k + 1) % zs.length * 2 + 1, none⟩ = some (.int .i64 r.Y) := by rw [← hwa, World.cell?_alloc_lt _ _ _ hbw]; exact hdy
      have cqx : wa.cell? ⟨wr.heap.size, 0, none⟩ = some (.int .i64 q.X) := by rw [← hwa]; simp
      have cqy : wa.cell? ⟨wr.heap.size, 1, none⟩ = some (.int .i64 q.Y) := by rw [← hwa]; simp
      have csx : wa.cell? ⟨Bs, 0, none⟩ = some (.slice (some ⟨b, off, none⟩) zs.length cap) := by rw [← hwa, World.cell?_alloc_lt _ _ _ hBw]; exact hsx
      clear hwa
      have hJd : J (sidesTo zs k) wa.drew := HJ.out _ _ _ none hJa ⟨rfl, rfl, rfl, Nat.le_refl _, fun _ _ _ => rfl⟩ (fun r e => by cases e)
      obtain ⟨fn, tmps, assign, body, hy, hR⟩ := hY _ (q, r) wa.drew hJd (by rw [sidesTo_length]; exact hlt)
      dsimp only at hy
      have hR2 := hR.mono (R' := fun e W' => ∃ bb : Bool, e = .returned (.bool bb) ∧ SideQ n₀ Bs wa.drew J Jx (sidesTo zs k ++ [(q, r)]) bb W')
        (fun e W' h => by rcases h with ⟨he, h1, h2⟩ | ⟨he, h1⟩; exact ⟨true, he, .inl ⟨rfl, h1, h2⟩⟩; exact ⟨false, he, .inr ⟨rfl, h1⟩⟩)
      clear hR
      have HQR : Hid (sidesTo zs (k + 1) = sidesTo zs k ++ [(q, r)]) := by rw [Hid, sidesTo_succ, HQ.out, HR.out]
      gi_region_with_o (refine hR2.mono ?_; rintro e W3 ⟨bb, rfl, h3⟩)
      all_goals
        rcases h3 with ⟨rfl, hJ3, hk3⟩ | ⟨rfl, hJx3⟩
        · gi_wp2
          go_roundw
          case rel => exact ⟨k + 1, by omega, by simp, by rw [HQR.out]; exact hJ3, hBa.trans (below_of_drew hk3.1), hk3.2.trans (csx.trans hBs.symm)⟩
          case measure => simp [intOf]; omega
        · gi_wp2
          refine bodyPost_ret (results_none rfl _ _ _) rfl ?_
          exact ⟨⟨_, rfl⟩, .inr ⟨_, ⟨k, hlt, rfl⟩, by rw [HQR.out]; exact hJx3⟩⟩
    · obtain rfl : k = zs.length := by omega
      gi_wp2
      go_end0
      exact ⟨⟨_, rfl⟩, .inl ⟨_, rfl, hJs⟩⟩

set_option maxRecDepth 100000 in
set_option maxHeartbeats 1000000 in
/-- sides(o): the slice value is boxed; the function value captures the box. -/
theorem sides_any (A : Option Addr) (n c : Nat) (w : World) :
    Calls Try.prog 39 #[.slice A n c] w fun e w' => e = .returned (.func (.func 52) #[] #[.pointer (some ⟨w.heap.size, 0, none⟩)]) ∧ w' = w.alloc (.cells #[.slice A n c] 22) := by
  go_enter Try.func39, Try.ntmps39
  go_wp2
  go_ret
  exact ⟨rfl, rfl⟩

/-- Its contract as an iterator: all sides, in order; or the first ones. -/
theorem sides_stops (n : Nat) (hn : 1 ≤ n) (Bs n₀ : Nat) (A : Option Addr) (cap : Nat) (zs : List XY) (hm : zs.length ≤ 1000000) (w : World) (hBs : Bs < w.heap.size) (hn₀ : n₀ ≤ w.heap.size)
    (hc : w.cell? ⟨Bs, 0, none⟩ = some (.slice A zs.length cap)) (hI : Rd w n₀ A zs) :
    SeqStopsK Fence.wide n Try.prog 52 #[.pointer (some ⟨Bs, 0, none⟩)] (fun x : XY × XY => #[xyv x.1, xyv x.2]) (KpS n₀ Bs) (fun ys => ys = sidesTo zs zs.length)
      (fun pre => ∃ k, k < zs.length ∧ pre = sidesTo zs (k + 1)) zs.length w := fun l J Jx W hW hJ _ hY h0 =>
  have hz := hW.size
  sides1_in n hn l Bs n₀ A cap zs hm J Jx hY W hJ (by omega) (by omega) ((hW.cell (p := ⟨Bs, 0, none⟩) hBs).trans hc) (hI.below (hW.mono hn₀)) h0
end Go.Proofs.Ytcbphodkaiknmaa

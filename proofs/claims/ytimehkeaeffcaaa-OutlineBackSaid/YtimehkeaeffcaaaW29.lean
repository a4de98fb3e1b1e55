/- The canonical form, in the program: the walk. -/
import Derived.Test.YtimehkeaeffcaaaW28
import Derived.Test.YtimehkeaeffcaaaW3
import Derived.Test.YtimehkeaeffcaaaW4
import Derived.Deep.RegionWith
import Derived.BigRegion
import Derived.Deep.AppendLies
import Derived.Deep.RegionLaw
namespace Go.Proofs.Ytimehkeaeffcaaa
open Go.RowKit

/-- append onto a row of the call's own, at a step of a region that draws its order; what is appended may be empty. -/
theorem step_append_own {P : Program} (w : World) {ops : Array Oper} {o : Oper} {a : Act} {K : Act → World → Prop} {Q : Exit → Act → World → Prop} {E : Prop} (hgd : o.guard = none) (s x : Operand) (t : TypeId)
    (ho : o.op = .call { callee := .builtin .append, args := #[s, x], argTypes := #[t, t] })
    (base : Nat) (e : TypeId) (i : TypeInfo) (z : Value) (size bytes : Nat) (ht : P.underlying t = some (.slice e)) (hi : P.info? e = some i) (hz : i.zero = some z)
    (hsize : i.size = size) (hby : i.bytes = bytes) (hzs : z.cells.size = size) (hsz : 0 < size)
    (v : Value) (n : Nat) (xs : List Value) (hs : a.eval s = v) (hown : w.ownsRow base e size v n xs)
    (ad : Addr) (m c : Nat) (news : List Value) (hx : a.eval x = .slice (some ad) m c) (hl : news.length = m * size) (hnews : ∀ j u, news[j]? = some u → w.cell? (ad.add j) = some u) (h1 : ∀ u ∈ news, u.oneCell' = true)
    (h63 : n + m ≤ maxLen) (hbytes : (n + m) * bytes ≤ 140737488355328) (hbase : base ≤ w.heap.size)
    (h : ∀ v' w', w'.ownsRow base e size v' (n + m) (xs ++ news) → w.grownBy w' v.ownBlock → (v' = .slice none 0 0 ↔ v = .slice none 0 0 ∧ m = 0) → K (a.put o.dst v') w') :
    if Region.wanted o (yielded ops a.tmps) = true then Oper.wp P o a w K Q else E := by
  have hw : Region.wanted o (yielded ops a.tmps) = true := by simp [Region.wanted, hgd]
  rw [if_pos hw]
  exact wp_append_own w s x t ho base e i z size bytes ht hi hz hsize hby hzs hsz v n xs hs hown ad m c news hx hl hnews h1 h63 hbytes hbase h

theorem clone_drop (b off c : Nat) (l : List XY) (k : Nat) (w : World) (hm : l.length ≤ 1000000) (hl : Rd w w.heap.size (some ⟨b, off, none⟩) l) :
    Calls Try.prog 89 #[.slice (some ⟨b, off + k * 2, none⟩) (l.length - k) (c - k)] w (RetO (l.drop k) w) := by
  have h := clone_any (some ⟨b, off + k * 2, none⟩) (c - k) (l.drop k) w (by rw [List.length_drop]; omega) (rd_drop hl k) (fun a ha => ⟨b, off + k * 2, by cases ha; rfl⟩)
  rwa [List.length_drop] at h

theorem canonL_eq (l : List XY) : canonL l = l.drop (idxOf l (minW l)) ++ l.take (idxOf l (minW l)) := rfl

set_option maxHeartbeats 1000000 in
theorem canonical_any (A : Option Addr) (c : Nat) (l : List XY) (w : World) (h0 : 0 < l.length) (hm : l.length ≤ 1000000) (hc : l.length ≤ c) (hl : Rd w w.heap.size A l) (k : Nat) (hk : k < l.length) (hik : idxF (fun q => decide (minW l = q)) l = (k : Int)) (hcl : canonL l = l.drop k ++ l.take k) :
    Calls Try.prog 62 #[.slice A l.length c] w (RetO (canonL l) w) := by
  obtain ⟨p, hp⟩ := getElem?_of_lt h0
  obtain ⟨b, off, hA, hb, hx, hy⟩ := hl 0 p hp
  subst hA
  clear hx hy hp
  have HL := Lib.hid hl; clear hl
  have HI := Lib.hid hik; clear hik
  have HC := Lib.hid hcl; clear hcl
  have hmx : Try.prog.follows .mixedOrders = true := by kernel_rfl
  go_enter Try.func62, Try.ntmps62
  go_wp2_with fail
  refine (minFunc_any _ c l _ h0 hm HL.out).mono ?_
  rintro e w1 ⟨rfl, hb1⟩
  go_wp2_with fail
  refine (index_any _ c l (minW l) _ hm (HL.out.now hb1)).mono ?_
  rintro e w2 ⟨rfl, hb2⟩
  have hB2 := hb1.trans (hb2.mono hb1.size)
  rw [HI.out]
  clear hb1 hb2
  go_wp2
  have hkl : k ≤ l.length := by omega
  have hkc : k ≤ c := by omega
  have hne : ¬ c = k := by omega
  obtain ⟨i0, hi, hz0, hz1, hz2⟩ := info_parts Try.infoXY
  have HJ := Lib.hid hi; clear hi
  have hsB := hB2.size
  go_region_law (first | (refine step_append_own _ rfl (.tmp 11) (.tmp 14) 22 rfl w2.heap.size 37 i0 (.agg #[.int .i64 0, .int .i64 0]) 2 16 Try.underlying22 HJ.out hz0 hz1 hz2 rfl (by decide) v3 (l.drop k).length (flat (l.drop k)) rfl hown3 ⟨b, off, none⟩ k c (flat (l.take k)) rfl (by rw [flat_length, List.length_take]; omega) (rd_cells (rd_take (((HL.out.below hB2).below (below_drewN (Below.refl w.heap.size w2) 1)).below (hb3.mono hsB)) k)) (fun u hu => flat_one hu) (by rw [List.length_drop]; unfold maxLen; omega) (by rw [List.length_drop]; omega) hb3.size ?_; intro v4 w4 hown4 hgrow4 _) | (go_simp; go_at_call 89; refine (clone_drop b off c l k w2.drew hm (HL.out.now (Below.drew hB2))).mono ?_; rintro e w3 ⟨v3, rfl, hown3, hb3⟩))
  go_wp2
  go_ret
  have hb3' : Below w2.heap.size w2 w3 := below_of_drew hb3
  refine ⟨v4, rfl, ?_, below_grown (hB2.trans (hb3'.mono hsB)) hgrow4 (fun j hj => by have := (hown3.lt j hj).1; have e : w2.drew.heap.size = w2.heap.size := rfl; omega) (by have := hb3'.size; omega)⟩
  have e1 : (canonL l).length = (l.drop k).length + k := by rw [HC.out, List.length_append, List.length_take]; omega
  have e2 : flat (canonL l) = flat (l.drop k) ++ flat (l.take k) := by rw [HC.out, flat_append]
  unfold OwnL
  rw [e1, e2]
  exact own_base hown4 hsB
end Go.Proofs.Ytimehkeaeffcaaa

/- Credit in the program: the walk. -/
import Derived.Test.YthccpdefgjneiaaDoorOW3
import Derived.Test.YthccpdefgjneiaaDoorOIdx
namespace Go.Proofs.YthccpdefgjneiaaDoor
open Go.RowKit Go.Shelf

def atN (am : List Int) (i : Int) : Int := (am[i.toNat]?).getD 0
def idxOk (n : Nat) (ls : List Int) : Prop := (∀ x ∈ ls, 0 ≤ x ∧ x < (n : Int)) ∧ ls.Nodup
instance (n : Nat) (ls : List Int) : Decidable (idxOk n ls) := inferInstanceAs (Decidable (_ ∧ _))
def negW (am ls : List Int) : List Int := ls.map fun i => wrap64 (-(atN am i))
def sumW (am ls : List Int) : Int := ls.foldl (fun s i => wrap64 (s - atN am i)) 0
def creditS (am ls : List Int) : List Int × Int × Int :=
  if 40 < am.length ∨ 40 < ls.length then ([], 0, 4) else if (am.any fun a => !amt a) || !decide (idxOk am.length ls) then ([], 0, 2) else (negW am ls, sumW am ls, 0)
theorem credit_bad {am ls : List Int} (h1 : am.length ≤ 40) (h2 : ls.length ≤ 40) (h : ¬ idxOk am.length ls) : creditS am ls = ([], 0, 2) := by
  unfold creditS; rw [if_neg (by omega), decide_eq_false h]; simp
def inTo (n : Nat) (ls : List Int) : List Bool := ls.foldl (fun b i => b.set i.toNat true) (List.replicate n false)
theorem inTo_snoc (n : Nat) (ls : List Int) (i : Int) : inTo n (ls ++ [i]) = (inTo n ls).set i.toNat true := by unfold inTo; rw [List.foldl_append]; rfl
theorem foldset_len (ls : List Int) : ∀ b : List Bool, (ls.foldl (fun b i => b.set i.toNat true) b).length = b.length := by
  induction ls with
  | nil => intro b; rfl
  | cons x ls ih => intro b; rw [List.foldl_cons, ih, List.length_set]
theorem inTo_len (n : Nat) (ls : List Int) : (inTo n ls).length = n := by unfold inTo; rw [foldset_len, List.length_replicate]
theorem foldset_get (ls : List Int) (hp : ∀ x ∈ ls, 0 ≤ x) : ∀ (b : List Bool) (i : Nat), i < b.length → (ls.foldl (fun b i => b.set i.toNat true) b)[i]? = some (decide ((i : Int) ∈ ls) || (b[i]?).getD false) := by
  induction ls with
  | nil => intro b i hi; simp [hi]
  | cons x ls ih =>
    intro b i hi
    have hx := hp x List.mem_cons_self
    rw [List.foldl_cons, ih (fun y hy => hp y (List.mem_cons_of_mem _ hy)) _ i (by rw [List.length_set]; exact hi)]
    congr 1
    by_cases h : x.toNat = i
    · have e : (i : Int) = x := by omega
      rw [h, List.getElem?_set_self hi, e]
      simp
    · have e : ¬ (i : Int) = x := by omega
      rw [List.getElem?_set_ne h]
      simp [e]
theorem inTo_get {n : Nat} {ls : List Int} (hp : ∀ x ∈ ls, 0 ≤ x) {i : Nat} (hi : i < n) : (inTo n ls)[i]? = some (decide ((i : Int) ∈ ls)) := by
  unfold inTo
  rw [foldset_get ls hp _ i (by rw [List.length_replicate]; exact hi)]
  simp [hi]
theorem nodup_take8 {l : List Int} {k : Nat} {p : Int} (h : l[k]? = some p) (hn : (l.take k).Nodup) (hp : p ∉ l.take k) : (l.take (k + 1)).Nodup := by
  rw [take_succ_of h, List.nodup_append]
  refine ⟨hn, by simp, ?_⟩
  intro a ha b hb
  simp at hb
  subst hb
  intro e
  subst e
  exact hp ha
theorem not_nodup8 {l : List Int} {k : Nat} {p : Int} (h : l[k]? = some p) (hp : p ∈ l.take k) : ¬ l.Nodup := by
  intro hn
  have hlt := (List.getElem?_eq_some_iff.1 h).1
  rw [← List.take_append_drop k l, List.nodup_append] at hn
  refine hn.2.2 p hp p ?_ rfl
  rw [List.drop_eq_getElem_cons hlt, (List.getElem?_eq_some_iff.1 h).2]
  exact List.mem_cons_self
/-- A list of bools in a block of its own. -/
def RowB (w : World) (g : Nat) (l : List Bool) : Prop := w.heap[g]? = some (.cells (l.map .bool).toArray 4 (0, 0))
theorem RowB.c {w : World} {g : Nat} {l : List Bool} (h : RowB w g l) {i : Nat} {v : Bool} (hi : l[i]? = some v) : w.cell? ⟨g, i, none⟩ = some (.bool v) := by
  unfold RowB at h; simp [World.cell?, h, hi]
theorem RowB.f {w : World} {g : Nat} {l : List Bool} (h : RowB w g l) (i : Nat) : w.frozen? ⟨g, i, none⟩ = false := by
  unfold RowB at h; simp [World.frozen?, h]
theorem RowB.below {w w' : World} {B C : Nat} {l : List Bool} (h : RowB w B l) (hb : Below C w w') (hB : B < C) : RowB w' B l := (hb.block B hB).trans h
theorem RowB.grown {w w' : World} {B : Nat} {row : Option Nat} {l : List Bool} (h : RowB w B l) (hg : w.grownBy w' row) (hne : some B ≠ row) : RowB w' B l := (hg.block B (Array.getElem?_eq_some_iff.1 h).1 hne).trans h
theorem RowB.put {w : World} {g : Nat} {l : List Bool} (h : RowB w g l) (i : Nat) (v : Bool) : RowB (w.setCell ⟨g, i, none⟩ (.bool v)) g (l.set i v) := by
  unfold RowB at h ⊢
  simp [World.setCell, Array.getElem?_modify, h, List.map_set]
theorem own_set8 {w : World} {B e size n k : Nat} {v : Value} {xs : List Value} (h : w.ownsRow B e size v n xs) (a : Addr) (ha : a.block = k) (hk : k < B) (x : Value) : (w.setCell a x).ownsRow B e size v n xs := by
  refine ⟨h.1, ?_⟩
  rcases h.2 with hn | ⟨g, cap, cur, rfl, hg, hgg, rest⟩
  · exact .inl hn
  · refine .inr ⟨g, cap, cur, rfl, hg, ?_, rest⟩
    have : a.block ≠ g := by omega
    simp [World.setCell, Array.getElem?_modify, this, hgg]
theorem alloc_cell8 (W : World) (N : Nat) (h : W.heap.size = N) (x : Value) (t : TypeId) : (W.alloc (.cells #[x] t)).cell? ⟨N, 0, none⟩ = some x := by subst h; simp
theorem Tryd.infoB : (Tryd.prog.info? 4).map (fun i => (i.zero, i.size, i.bytes)) = some (some (.bool false), 1, 1) := by kernel_rfl
theorem cr1_any (n : Int) (w : World) : Calls Tryd.prog 57 #[.int .i64 n] w (Ret (.bool (!amt n)) w) := by
  go_enter Tryd.func57, Tryd.ntmps57
  go_wp2_with fail
  refine (amount_any n _).mono ?_
  rintro e w2 ⟨rfl, rfl⟩
  go_wp2
  go_ret
  exact Ret.mk rfl (Below.refl _ _)

set_option maxRecDepth 100000 in
set_option maxHeartbeats 2000000 in
theorem Credit_any (A A2 : Option Addr) (cp cp2 : Nat) (am ls : List Int) (w : World) (hl : RdI w w.heap.size A am) (hl2 : RdI w w.heap.size A2 ls) :
    Calls Tryd.prog 23 #[.slice A am.length cp, .slice A2 ls.length cp2] w (RetL (creditS am ls).1 [.int .i64 (creditS am ls).2.1, .int .i64 (creditS am ls).2.2] w) := by
  have HL := Lib.hid hl; clear hl
  have HL2 := Lib.hid hl2; clear hl2
  have hmx : Tryd.prog.follows .mixedOrders = true := by kernel_rfl
  by_cases h40 : 40 < am.length ∨ 40 < ls.length
  · have HS := Lib.hid (show creditS am ls = ([], 0, 4) by unfold creditS; rw [if_pos h40])
    have h40I : ¬ (40 : Int) < (am.length : Int) → (40 : Int) < (ls.length : Int) := by omega
    by_cases g1 : 40 < am.length
    · have g1I : (40 : Int) < (am.length : Int) := by omega
      go_enter Tryd.func23, Tryd.ntmps23
      go_wp2
      go_ret3
      rw [HS.out]; exact ⟨none, 0, rfl, fun i p hp => by simp at hp, Nat.le_refl _, Below.refl _ _⟩
    · have g1I : ¬ (40 : Int) < (am.length : Int) := by omega
      have g2I : (40 : Int) < (ls.length : Int) := by omega
      go_enter Tryd.func23, Tryd.ntmps23
      go_wp2
      go_ret3
      rw [HS.out]; exact ⟨none, 0, rfl, fun i p hp => by simp at hp, Nat.le_refl _, Below.refl _ _⟩
  have g1I : ¬ (40 : Int) < (am.length : Int) := by omega
  have g2I : ¬ (40 : Int) < (ls.length : Int) := by omega
  obtain ⟨i0, hi0, hz0', hz1', hz2'⟩ := info_partsI Tryd.infoI
  have HJ := Lib.hid hi0; clear hi0
  obtain ⟨i1, hi1, hb0', hb1', hb2'⟩ : ∃ i0, Tryd.prog.info? 4 = some i0 ∧ i0.zero = some (.bool false) ∧ i0.size = 1 ∧ i0.bytes = 1 := by
    obtain ⟨i0, h1, h2⟩ := Option.map_eq_some_iff.1 Tryd.infoB
    simp at h2
    exact ⟨i0, h1, h2.1, h2.2.1, h2.2.2⟩
  have HJ1 := Lib.hid hi1; clear hi1
  go_enter Tryd.func23, Tryd.ntmps23
  go_wp2_with (at_make; refine wpList_make_full _ rfl _ _ 80 rfl w.heap.size 4 i1 (.bool false) 1 Tryd.underlying80 HJ1.out hb0' hb1' _ _ _ _ am.length rfl rfl rfl rfl (by rw [hb2']; omega) (by unfold Go.maxLen; omega) (Nat.le_refl _) ?_; intro w6 hown6 hgrow6)
  have hb6 : Below w.heap.size w w6 := below_grown (Below.refl _ _) hgrow6 (fun k h => by cases h) (Nat.le_refl _)
  have HRI : Hid (RowB w6 w.heap.size (List.replicate am.length false) ∧ w.heap.size < w6.heap.size) := by
    rcases hown6.2 with ⟨e, _⟩ | ⟨g, cap, cur, e, _, hg, _, _, hcs, htk⟩
    · cases e
    · injection e with e1 e2 e3
      injection e1 with e1
      injection e1 with e4 e5 e6
      subst e4 e3
      refine ⟨?_, (Array.getElem?_eq_some_iff.1 hg).1⟩
      unfold RowB
      rw [hg]
      have hz : (Value.bool false).cells = #[.bool false] := rfl
      rw [hz, toList_madeCells_one, List.take_of_length_le (by simp; omega)] at htk
      have : cur = (List.map Value.bool (List.replicate am.length false)).toArray := by
        apply Array.toList_inj.1
        rw [htk]; simp
      rw [this]
  clear hown6 hgrow6
  have hw6 := HRI.out.2
  go_wp2
  go_loopw [8, 9, 11, 25] (fun u s _ i wr => ∃ (k : Nat) (v : Value), v = u ∧ k ≤ ls.length ∧ i = .int .i64 k ∧ s = .int .i64 (sumW am (ls.take k)) ∧ OwnI wr (w.heap.size + 1) v (negW am (ls.take k)) ∧ RowB wr w.heap.size (inTo am.length (ls.take k)) ∧ (∀ x ∈ ls.take k, 0 ≤ x ∧ x < (am.length : Int)) ∧ (ls.take k).Nodup ∧ Below w.heap.size w wr) (fun _ _ _ i _ => ls.length - (intOf i).toNat)
  case atStart => exact ⟨0, _, rfl, Nat.zero_le _, rfl, rfl, World.ownsRow_nil _ _ _ _, HRI.out.1, fun x hx => by simp at hx, by simp, hb6⟩
  case round =>
    obtain ⟨k, u, rfl, hk, rfl, rfl, hown, hrow, hin, hnd, hB⟩ := hrel
    have HO := Lib.hid hown; clear hown
    have HRW := Lib.hid hrow; clear hrow
    have HIN := Lib.hid hin; clear hin
    have HND := Lib.hid hnd; clear hnd
    have hsB := hB.size
    have hsz : w.heap.size < wr.heap.size := (Array.getElem?_eq_some_iff.1 HRW.out).1
    by_cases hlt : k < ls.length
    · obtain ⟨i, hi⟩ := getElem?_of_lt hlt
      obtain ⟨b2, off2, hA2, hbb2, d0⟩ := (HL2.out.now hB) k i hi
      subst hA2
      have HI := Lib.hid hi; clear hi
      have hsub : wrap64 ((am.length : Int) - 1) = (am.length : Int) - 1 := w64_id (by omega) (by omega)
      cases hbt : bet 0 i ((am.length : Int) - 1)
      · have HS := Lib.hid (credit_bad (by omega) (by omega) (show ¬ idxOk am.length ls from fun h => by have := h.1 i (List.mem_of_getElem? HI.out); exact bet_false.1 hbt (by omega)))
        have HBT := Lib.hid hbt; clear hbt
        go_wp2_with fail
        refine (bet_any 0 i ((am.length : Int) - 1) _).mono ?_
        rintro e w2 ⟨rfl, rfl⟩
        rw [HBT.out]
        go_wp2
        go_ret3
        rw [HS.out]; exact ⟨none, 0, rfl, fun i p hp => by simp at hp, Nat.le_refl _, hB⟩
      have hib := bet_iff.1 hbt
      have HBT := Lib.hid hbt; clear hbt
      obtain ⟨n, rfl⟩ : ∃ n : Nat, i = (n : Int) := ⟨i.toNat, by omega⟩
      have hnl : n < am.length := by omega
      have hget := inTo_get (n := am.length) (ls := ls.take k) (fun x hx => (HIN.out x hx).1) hnl
      by_cases hmem : (n : Int) ∈ ls.take k
      · have HS := Lib.hid (credit_bad (by omega) (by omega) (show ¬ idxOk am.length ls from fun h => not_nodup8 HI.out hmem h.2))
        rw [decide_eq_true hmem] at hget
        have c0 : wr.cell? ⟨w.heap.size, n, none⟩ = some (.bool true) := HRW.out.c hget
        clear hget hmem
        go_wp2_with fail
        refine (bet_any 0 (n : Int) ((am.length : Int) - 1) _).mono ?_
        rintro e w2 ⟨rfl, rfl⟩
        rw [HBT.out]
        go_wp2
        go_ret3
        rw [HS.out]; exact ⟨none, 0, rfl, fun i p hp => by simp at hp, Nat.le_refl _, hB⟩
      rw [decide_eq_false hmem] at hget
      have c0 : wr.cell? ⟨w.heap.size, n, none⟩ = some (.bool false) := HRW.out.c hget
      have f0 : wr.frozen? ⟨w.heap.size, n, none⟩ = false := HRW.out.f n
      obtain ⟨a, ha⟩ := getElem?_of_lt hnl
      obtain ⟨b1, off1, hA1, hbb1, e00⟩ := HL.out n a ha
      subst hA1
      have hBs : Below w.heap.size w (wr.setCell ⟨w.heap.size, n, none⟩ (.bool true)) := hB.setCell (p := ⟨w.heap.size, n, none⟩) (by simp) _
      have e0 : (wr.setCell ⟨w.heap.size, n, none⟩ (.bool true)).cell? ⟨b1, off1 + n, none⟩ = some (.int .i64 a) := (hBs.cell (p := ⟨b1, off1 + n, none⟩) hbb1).trans e00
      have hsBs := hBs.size
      have hatn : atN am (n : Int) = a := by unfold atN; rw [show (n : Int).toNat = n from rfl, ha]; rfl
      have hsn : sumW am (ls.take (k + 1)) = wrap64 (sumW am (ls.take k) - a) := by unfold sumW; rw [take_succ_of HI.out, List.foldl_append, ← hatn]; rfl
      have hnn : negW am (ls.take (k + 1)) = negW am (ls.take k) ++ [wrap64 (-a)] := by unfold negW; rw [take_succ_of HI.out, List.map_append, ← hatn]; rfl
      have hii : inTo am.length (ls.take (k + 1)) = (inTo am.length (ls.take k)).set n true := by rw [take_succ_of HI.out, inTo_snoc]; rfl
      have hlen : (negW am (ls.take k)).length = k := by unfold negW; rw [List.length_map, List.length_take]; omega
      have hgood : ∀ x ∈ ls.take (k + 1), 0 ≤ x ∧ x < (am.length : Int) := fun x hx => by
        rw [take_succ_of HI.out] at hx
        rcases List.mem_append.1 hx with hx | hx
        · exact HIN.out x hx
        · simp at hx; subst hx; omega
      have hnd2 := nodup_take8 HI.out HND.out hmem
      have HG := Lib.hid (And.intro hgood hnd2); clear hgood hnd2
      obtain ⟨R, hR⟩ : ∃ R, negW am (ls.take k) = R := ⟨_, rfl⟩
      obtain ⟨T, hT⟩ : ∃ T, sumW am (ls.take k) = T := ⟨_, rfl⟩
      have hown := HO.out
      rw [hR] at hown hnn hlen
      rw [hT] at hsn
      rw [hT]
      have HO2 := Lib.hid (own_set8 hown ⟨w.heap.size, n, none⟩ rfl (Nat.lt_succ_self _) (.bool true))
      have HRW2 := Lib.hid (hii ▸ HRW.out.put n true)
      have HSN := Lib.hid hsn
      have HNN := Lib.hid hnn
      have HLN := Lib.hid hlen
      have HC := Lib.hid e00
      clear hown hsn hnn hlen hii hR hT hatn hmem hget e00 ha HO HRW
      go_wp2_with fail
      refine (bet_any 0 (n : Int) ((am.length : Int) - 1) _).mono ?_
      rintro e w2 ⟨rfl, rfl⟩
      rw [HBT.out]
      go_wp2_with (at_builtin; refine wpList_append_own _ rfl _ _ 36 rfl (w.heap.size + 1) 3 i0 (.int .i64 0) 1 8 Tryd.underlying36 HJ.out hz0' hz1' hz2' rfl (by decide) _ _ _ rfl (HO2.out.alloc _) ⟨w2.heap.size, 0, none⟩ 1 1 [.int .i64 (wrap64 (-a))] rfl rfl (by intro j u hj; match j, hj with | 0, hj => (simp at hj; subst hj; simp [Addr.add]; exact alloc_cell8 _ _ (by simp [World.setCell]) _ _) | j + 1, hj => simp at hj) (by intro u hu; simp at hu; subst hu; rfl) (by have := HLN.out; unfold maxLen; omega) (by have := HLN.out; omega) (by simp; omega) ?_; intro v' w4 hown' hgrow _; have hB4 := below_grown (w1 := (w2.setCell ⟨w.heap.size, n, none⟩ (.bool true)).alloc (.cells #[.int .i64 (wrap64 (-a))] 3)) (hBs.alloc (by omega) _) hgrow (fun j hj => by have := (HO2.out.lt j hj).1; omega) (by simp; omega); have hr4 := RowB.grown (HRW2.out.below ((Below.refl _ _).alloc (o := .cells #[.int .i64 (wrap64 (-a))] 3) (Nat.le_refl _)) (by simp; omega)) hgrow (fun e => by have := (HO2.out.lt _ e.symm).1; omega); have HR4 := Lib.hid hr4; clear hr4; have own4 := ownI_snoc hown' HNN.out; have HOW := Lib.hid own4; clear own4 hown' hgrow; have e9 : w4.cell? ⟨b1, off1 + n, none⟩ = some (.int .i64 a) := (hB4.cell (p := ⟨b1, off1 + n, none⟩) hbb1).trans HC.out)
      go_wp2
      go_roundw
      case rel => exact ⟨k + 1, _, rfl, by omega, by go_num, by rw [HSN.out], HOW.out, HR4.out, HG.out.1, HG.out.2, hB4⟩
      case measure => simp [intOf]; omega
    · obtain rfl : k = ls.length := by omega
      have hid : idxOk am.length ls := ⟨by have := HIN.out; rwa [List.take_length] at this, by have := HND.out; rwa [List.take_length] at this⟩
      have hspl : creditS am ls = if (am.any fun a => !amt a) then ([], 0, 2) else (negW am ls, sumW am ls, 0) := by
        unfold creditS; rw [if_neg h40, decide_eq_true hid, Bool.not_true, Bool.or_false]
      have HSP := Lib.hid hspl; clear hspl hid
      have HCF := Lib.hid (containsFuncI_any 57 #[] (fun n => !amt n) A cp am wr ⟨enters_of Tryd.func57 (by kernel_rfl) rfl, fun W p _ hW => cr1_any p W⟩ (by omega) (HL.out.now hB))
      cases hany : am.any fun a => !amt a
      · have HAN := Lib.hid hany; clear hany
        obtain ⟨A8, c8, hv8, hr8, hc8⟩ := own_rdI HO.out
        have hln : (negW am ls).length = ls.length := by unfold negW; rw [List.length_map]
        rw [List.take_length, hln] at hv8 hc8
        rw [List.take_length] at hr8
        subst hv8
        have HR8 := Lib.hid hr8; clear hr8 HO
        rw [List.take_length]
        go_wp2_with fail
        refine HCF.out.mono ?_
        rintro e w5 ⟨rfl, hb5⟩
        rw [HAN.out]
        go_wp2
        go_ret3
        rw [HSP.out, HAN.out]
        exact ⟨A8, c8, by show _ = _; rw [if_neg (by simp), hln]; rfl, by rw [if_neg (by simp)]; exact HR8.out.now hb5, by rw [if_neg (by simp), hln]; exact hc8, hB.trans (hb5.mono hsB)⟩
      · have HAN := Lib.hid hany; clear hany
        go_wp2_with fail
        refine HCF.out.mono ?_
        rintro e w5 ⟨rfl, hb5⟩
        rw [HAN.out]
        go_wp2
        go_ret3
        rw [HSP.out, HAN.out]; exact ⟨none, 0, rfl, fun i p hp => by simp at hp, Nat.le_refl _, hB.trans (hb5.mono hsB)⟩
end Go.Proofs.YthccpdefgjneiaaDoor

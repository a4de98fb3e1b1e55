/- Blocks: the text of a recipe: the reader in plain functions. Blocks: the text of a recipe: plain facts about the reader. Blocks: the reader: take: the walk. Blocks: the reader: number: the walk. Blocks: the reader: words, numbers, head: the walks. Blocks: the reader: head: the walk. Blocks: the reader: recipe: plain. Blocks: the reader: recipe: plain facts on its parts, and its boxes. Blocks: the reader: recipe: its end. -/
import Derived.Test.YtbcnkcndhgihaaaDoorS1
import Derived.Lib.Atoi
import Derived.Lib.SlTrimSet
import Derived.Test.YtbcnkcndhgihaaaDoorSOwn
import Derived.Test.YtbcnkcndhgihaaaDoorRead
import Derived.Lib.BufferWrite
import Derived.Lib.BufferOwn
import Derived.Lib.AtoiErrMem
import Derived.Laws.RangeAny
namespace Go.Proofs.YtbcnkcndhgihaaaDoor
open Go.RowKit

abbrev Bs := List UInt8
mutual
/-- A recipe without places. -/
def strip : BT → BT
  | .mk op ax co n0 n1 n2 _ _ ps => .mk op ax co n0 n1 n2 none 0 (stripL ps)
def stripL : List BT → List BT
  | [] => []
  | p :: ps => strip p :: stripL ps
end
theorem stripL_eq (l : List BT) : stripL l = l.map strip := by
  induction l with
  | nil => rfl
  | cons p l ih => rw [List.map_cons, ← ih]; rfl
theorem strip_op (b : BT) : (strip b).op = b.op := by cases b; rfl
theorem strip_ax (b : BT) : (strip b).ax = b.ax := by cases b; rfl
theorem strip_co (b : BT) : (strip b).co = b.co := by cases b; rfl
theorem strip_n0 (b : BT) : (strip b).n0 = b.n0 := by cases b; rfl
theorem strip_n1 (b : BT) : (strip b).n1 = b.n1 := by cases b; rfl
theorem strip_n2 (b : BT) : (strip b).n2 = b.n2 := by cases b; rfl
theorem strip_ps (b : BT) : (strip b).ps = b.ps.map strip := by
  cases b with
  | mk op ax co n0 n1 n2 A cp ps => exact stripL_eq ps
theorem deep_strip : ∀ (k : Nat) (b : BT), deepS k (strip b) = deepS k b
  | 0, b => rfl
  | k + 1, b => by
    unfold deepS
    rw [strip_ps, List.any_map]
    congr 1
    funext p
    exact deep_strip k p
theorem one_strip (b : BT) : oneS (strip b) = oneS b := by
  unfold oneS fieldsS
  rw [strip_op, strip_ax, strip_co, strip_n0, strip_n1, strip_n2, strip_ps, List.length_map]
theorem all_strip {f : BT → Bool} (l : List BT) (h : ∀ p ∈ l, f (strip p) = f p) : (l.map strip).all f = l.all f := by
  induction l with
  | nil => rfl
  | cons p l ih => rw [List.map_cons, List.all_cons, List.all_cons, h p (by simp), ih fun q hq => h q (by simp [hq])]
theorem whole_strip : ∀ b : BT, wholeS (strip b) = wholeS b := by
  refine BT.ind ?_
  intro b ih
  rw [wholeS_eq, wholeS_eq b, one_strip, strip_ps, all_strip _ ih]
theorem join_strip (b : BT) (m : List Sh) : joinS (strip b) m = joinS b m := by
  unfold joinS
  rw [strip_op, strip_ax, strip_co, strip_n0, strip_n1, strip_n2]
theorem built_strip : ∀ b : BT, builtS (strip b) = builtS b := by
  refine BT.ind ?_
  intro b ih
  have h : ∀ l : List BT, (∀ p ∈ l, builtS (strip p) = builtS p) → builtL (l.map strip) = builtL l := by
    intro l
    induction l with
    | nil => intro _; rfl
    | cons p l ihl =>
      intro hl
      have e : ∀ (q : BT) (qs : List BT), builtL (q :: qs) = (match builtS q with | .error e => .error e | .ok s => match builtL qs with | .error e => .error e | .ok l => .ok (s :: l)) := fun q qs => rfl
      rw [List.map_cons, e, e, hl p (by simp), ihl fun q hq => hl q (by simp [hq])]
  rw [builtS_eq, builtS_eq b, strip_ps, h b.ps ih]
  cases builtL b.ps with
  | error e => rfl
  | ok m => exact join_strip b m
theorem form_strip (b : BT) : formS (strip b) = formS b := by
  unfold formS
  rw [deep_strip, whole_strip, built_strip]

/-- What stands in front of the numbers: the Op, the axis, the bytes. -/
def headsS : List (Int × Int × Bs) :=
  [(2, 0, [115, 116, 97, 99, 107, 32, 120]), (2, 1, [115, 116, 97, 99, 107, 32, 121]), (2, 2, [115, 116, 97, 99, 107, 32, 122]),
   (3, 0, [116, 117, 114, 110, 32, 120]), (3, 1, [116, 117, 114, 110, 32, 121]), (3, 2, [116, 117, 114, 110, 32, 122]),
   (4, 0, [115, 108, 105, 99, 101, 32, 120]), (4, 1, [115, 108, 105, 99, 101, 32, 121]), (4, 2, [115, 108, 105, 99, 101, 32, 122]),
   (5, 0, [102, 108, 105, 112, 32, 120]), (5, 1, [102, 108, 105, 112, 32, 121]), (5, 2, [102, 108, 105, 112, 32, 122]),
   (6, 0, [114, 101, 112, 101, 97, 116, 32, 120]), (6, 1, [114, 101, 112, 101, 97, 116, 32, 121]), (6, 2, [114, 101, 112, 101, 97, 116, 32, 122])]
def preB (r p : Bs) : Bool := p.isPrefixOf r
def headS (r : Bs) : Option (Int × Int × Int × Bs) :=
  match headsS.find? (fun h => preB r h.2.2) with
  | some h => some (h.1, h.2.1, 0, r.drop h.2.2.length)
  | none => match r with
    | [] => none
    | c :: l => if 97 ≤ c.toNat ∧ c.toNat ≤ 105 then some (1, 0, c.toNat, l) else none
def digB (c : UInt8) : Bool := decide (48 ≤ c.toNat) && decide (c.toNat ≤ 57)
def valD (l : Bs) : Int := l.foldl (fun n c => 10 * n + ((c.toNat : Int) - 48)) 0
def takeS (t r : Bs) : Option Bs := if preB r t then some (r.drop t.length) else none
def digitsS (r : Bs) : Bs := r.takeWhile digB
def num1S (r : Bs) : Option (Int × Bs) :=
  if (digitsS r).length < 1 ∨ 3 < (digitsS r).length ∨ (1 < (digitsS r).length ∧ (digitsS r).head? = some 48) then none
  else some (valD (digitsS r), r.drop (digitsS r).length)
def numS (r : Bs) : Option (Int × Bs) := match takeS [32] r with | none => none | some r1 => num1S r1
def numsS : Nat → Bs → Option (List Int × Bs)
  | 0, r => some ([], r)
  | k + 1, r => match numS r with
    | none => none
    | some (n, r1) => match numsS k r1 with
      | none => none
      | some (l, r2) => some (n :: l, r2)
def nnum (op : Int) : Nat := if op = 1 then 3 else if op = 4 then 2 else if op = 6 then 1 else 0
def seps (op : Int) : List Bs := if op = 2 then [[32, 40], [44, 32]] else if op = 1 then [] else [[32, 40]]
def partsR (rec : Bs → Option (BT × Bs)) : List Bs → Bs → Option (List BT × Bs)
  | [], r => some ([], r)
  | t :: ts, r => match takeS t r with
    | none => none
    | some r1 => match rec r1 with
      | none => none
      | some (p, r2) => match partsR rec ts r2 with
        | none => none
        | some (l, r3) => some (p :: l, r3)
def nth (l : List Int) (k : Nat) : Int := l.getD k 0
/-- A recipe is read: it, and what is behind it. -/
def recS : Nat → Bs → Option (BT × Bs)
  | 0, _ => none
  | f + 1, r => match headS r with
    | none => none
    | some (op, ax, co, r1) => match numsS (nnum op) r1 with
      | none => none
      | some (l, r2) => match partsR (recS f) (seps op) r2 with
        | none => none
        | some (ps, r3) => match (if ps.length = 0 then some r3 else takeS [41] r3) with
          | none => none
          | some r4 => some (.mk op ax co (nth l 0) (nth l 1) (nth l 2) none 0 ps, r4)
/-- Parse: the recipe without places, or the error. -/
def parseS (r : Bs) : Except Int BT :=
  if 1000 < r.length then .error 4 else match recS (r.length + 1) r with
    | some (b, []) => match formS b with
      | .error e => .error e
      | .ok _ => .ok b
    | _ => .error 3
/-- The text of the sanity check. -/
def saneL : Bs := [115, 116, 97, 99, 107, 32, 120, 32, 40, 97, 32, 50, 32, 49, 32, 49, 44, 32, 98, 32, 49, 32, 49, 32, 49, 41]
def saneB : BT := .mk 2 0 0 0 0 0 none 0 [.mk 1 0 97 2 1 1 none 0 [], .mk 1 0 98 1 1 1 none 0 []]
theorem sane_rec : recS 27 saneL = some (saneB, []) := by rfl
theorem sane_form : formS saneB = .ok (.stack ⟨3, 1, 1⟩ 0 (.solid ⟨2, 1, 1⟩ 97) (.solid ⟨1, 1, 1⟩ 98)) := by rfl
end Go.Proofs.YtbcnkcndhgihaaaDoor

namespace Go.Proofs.YtbcnkcndhgihaaaDoor
open Go.RowKit

def digL : Bs := [48, 49, 50, 51, 52, 53, 54, 55, 56, 57]
theorem dig_mem (c : UInt8) : digL.contains c = digB c := by
  have h : ∀ n : Fin 256, digL.contains (UInt8.ofNat n.val) = digB (UInt8.ofNat n.val) := by decide +kernel
  have := h ⟨c.toNat, c.toNat_lt⟩
  rwa [UInt8.ofNat_toNat] at this
theorem trim_dig (r : Bs) : Lib.trimLeftS r digL = r.drop (digitsS r).length := by
  unfold Lib.trimLeftS digitsS
  have e : (fun x => digL.contains x) = digB := funext dig_mem
  rw [e]
  induction r with
  | nil => rfl
  | cons c r ih =>
    rw [List.dropWhile_cons, List.takeWhile_cons]
    cases digB c
    · rfl
    · simpa using ih
theorem dig_len (r : Bs) : (digitsS r).length ≤ r.length := by
  unfold digitsS
  exact (List.takeWhile_prefix _).length_le
theorem dig_take (r : Bs) : r.take (digitsS r).length = digitsS r := by
  unfold digitsS
  exact (List.prefix_iff_eq_take.1 (List.takeWhile_prefix _)).symm
theorem dig_all (r : Bs) : ∀ c ∈ digitsS r, digB c = true := fun c hc => by
  unfold digitsS at hc
  induction r with
  | nil => simp at hc
  | cons d r ih =>
    rw [List.takeWhile_cons] at hc
    split at hc
    · rcases List.mem_cons.1 hc with rfl | hc
      · assumption
      · exact ih hc
    · simp at hc
theorem decFrom_dig : ∀ (l : Bs) (a : Nat), (∀ c ∈ l, digB c = true) → Lib.decFrom a l = some (l.foldl (fun n c => n * 10 + (c.toNat - 48)) a)
  | [], a, _ => rfl
  | c :: l, a, h => by
    have hc := h c (by simp)
    unfold digB at hc
    simp at hc
    unfold Lib.decFrom Lib.digitVal
    rw [if_pos hc, List.foldl_cons]
    exact decFrom_dig l _ fun d hd => h d (by simp [hd])
theorem valD_nat : ∀ (l : Bs) (a : Nat), (∀ c ∈ l, digB c = true) → l.foldl (fun (n : Int) c => 10 * n + ((c.toNat : Int) - 48)) (a : Int) = ((l.foldl (fun n c => n * 10 + (c.toNat - 48)) a : Nat) : Int)
  | [], a, _ => rfl
  | c :: l, a, h => by
    have hc := h c (by simp)
    unfold digB at hc
    simp at hc
    rw [List.foldl_cons, List.foldl_cons, ← valD_nat l _ fun d hd => h d (by simp [hd])]
    congr 1
    omega
theorem atoi_dig {l : Bs} (h : ∀ c ∈ l, digB c = true) (hn : l ≠ []) : Lib.atoi l = some (valD l) := by
  cases l with
  | nil => exact absurd rfl hn
  | cons c l =>
    have hc := h c (by simp)
    unfold digB at hc
    simp at hc
    have h1 : (c == 45) = false := by
      rw [beq_eq_false_iff_ne]
      rintro rfl
      revert hc; decide
    have h2 : (c == 43) = false := by
      rw [beq_eq_false_iff_ne]
      rintro rfl
      revert hc; decide
    unfold Lib.atoi
    simp only [h1, h2, Bool.false_eq_true, if_false]
    unfold Lib.decNat
    rw [List.isEmpty_cons, if_neg (by simp), decFrom_dig _ _ h, Option.map_some]
    unfold valD
    have := valD_nat (c :: l) 0 h
    rw [show ((0 : Nat) : Int) = 0 from rfl] at this
    rw [this]
theorem take_len {t r r1 : Bs} (h : takeS t r = some r1) : r1.length + t.length = r.length ∧ r1 = r.drop t.length := by
  unfold takeS at h
  split at h
  · rename_i hp
    injection h with h
    subst h
    have := (List.isPrefixOf_iff_prefix.1 hp).length_le
    refine ⟨?_, rfl⟩
    rw [List.length_drop]
    omega
  · cases h
theorem num_len {r r1 : Bs} {n : Int} (h : numS r = some (n, r1)) : r1.length ≤ r.length := by
  unfold numS at h
  cases ht : takeS [32] r with
  | none => rw [ht] at h; cases h
  | some r2 =>
    rw [ht] at h
    have := (take_len ht).1
    simp only at h
    unfold num1S at h
    split at h
    · cases h
    · injection h with h
      injection h with _ h
      subst h
      rw [List.length_drop]
      omega
theorem head_len {r r1 : Bs} {op ax co : Int} (h : headS r = some (op, ax, co, r1)) : r1.length < r.length := by
  unfold headS at h
  split at h
  · rename_i x hx
    have hm := List.mem_of_find?_eq_some hx
    have hp := List.find?_some hx
    have := (List.isPrefixOf_iff_prefix.1 hp).length_le
    have hl : 1 ≤ x.2.2.length := by
      have : ∀ y ∈ headsS, 1 ≤ y.2.2.length := by decide
      exact this x hm
    injection h with h
    injection h with _ h
    injection h with _ h
    injection h with _ h
    subst h
    rw [List.length_drop]
    omega
  · split at h
    · cases h
    · split at h
      · injection h with h
        injection h with _ h
        injection h with _ h
        injection h with _ h
        subst h
        simp
      · cases h
end Go.Proofs.YtbcnkcndhgihaaaDoor

namespace Go.Proofs.YtbcnkcndhgihaaaDoor
open Go.RowKit Go.Shelf
set_option linter.unusedSimpArgs false

/-- A reader in its block. -/
def RdrX (w : World) (k : Nat) (r : Bs) : Prop := w.heap[k]? = some (.cells #[.string ⟨r.toArray⟩] 102 (0, 0))
theorem RdrX.c {w : World} {k : Nat} {r : Bs} (h : RdrX w k r) : w.cell? ⟨k, 0, none⟩ = some (.string ⟨r.toArray⟩) ∧ w.frozen? ⟨k, 0, none⟩ = false := by
  unfold RdrX at h
  exact ⟨by simp [World.cell?, h], by simp [World.frozen?, h]⟩
theorem RdrX.set {w : World} {k : Nat} {r : Bs} (h : RdrX w k r) (q : Bs) : RdrX (w.setCell ⟨k, 0, none⟩ (.string ⟨q.toArray⟩)) k q := by
  unfold RdrX at h ⊢
  simp [World.setCell, Array.getElem?_modify, h]
theorem RdrX.below {w w' : World} {k B : Nat} {r : Bs} (h : RdrX w k r) (hb : Below B w w') (hk : k < B) : RdrX w' k r := (hb.block k hk).trans h
theorem RdrX.lt {w : World} {k : Nat} {r : Bs} (h : RdrX w k r) : k < w.heap.size := (Array.getElem?_eq_some_iff.1 h).1
def tkS (t r : Bs) : Bs := if preB r t then r.drop t.length else r
set_option maxRecDepth 100000 in
theorem take_any (k : Nat) (r t : Bs) (w : World) (h : RdrX w k r) : Calls Tryd.prog 94 #[.pointer (some ⟨k, 0, none⟩), .string ⟨t.toArray⟩] w fun e w' => e = .returned (.bool (preB r t)) ∧ w' = w.setCell ⟨k, 0, none⟩ (.string ⟨(tkS t r).toArray⟩) := by
  have hcon := Any.strings_CutPrefix Tryd.lays103 ⟨r.toArray⟩ ⟨t.toArray⟩ w
  change Calls Tryd.prog 102 _ _ (fun e w' => e = .returned (.tuple #[.string ⟨(tkS t r).toArray⟩, .bool (preB r t)]) ∧ w' = w) at hcon
  have HCON := Lib.hid hcon
  clear hcon
  obtain ⟨c0, c1⟩ := h.c
  go_enter Tryd.func94, Tryd.ntmps94
  go_wp2_with fail
  refine HCON.out.mono ?_
  rintro e w9 ⟨rfl, rfl⟩
  go_wp2
  go_ret
  exact ⟨rfl, rfl⟩
end Go.Proofs.YtbcnkcndhgihaaaDoor

namespace Go.Proofs.YtbcnkcndhgihaaaDoor
open Go.RowKit Go.Shelf
set_option linter.unusedSimpArgs false

theorem info116 : (Tryd.prog.info? (Tryd.lays161_ren.t 116)).map (fun i => (i.zero, i.size)) = some (some (.agg (Array.replicate 256 (.bool false))), 256) := by kernel_rfl
theorem trimL_any (r : Bs) (w : World) : Calls Tryd.prog 100 #[.string ⟨r.toArray⟩, .string ⟨#[48, 49, 50, 51, 52, 53, 54, 55, 56, 57]⟩] w (Ret (.string ⟨(r.drop (digitsS r).length).toArray⟩) w) := by
  have hcon := Any.strings_TrimLeft_laid Tryd.lays161 info116 ⟨r.toArray⟩ ⟨#[48, 49, 50, 51, 52, 53, 54, 55, 56, 57]⟩ w (by decide) (ascii_of_all (by decide))
  change Calls Tryd.prog 100 _ _ (fun e w' => e = .returned (.string ⟨(Lib.trimLeftS r digL).toArray⟩) ∧ Below w.heap.size w w') at hcon
  rw [trim_dig] at hcon
  exact hcon
theorem ext_list (l : Bs) (i j : Nat) : (⟨l.toArray⟩ : ByteArray).extract i j = ⟨((l.drop i).take (j - i)).toArray⟩ := by
  rw [ByteArray.ext_iff, ByteArray.data_extract]
  simp [List.extract_eq_take_drop]
/-- What number returns. -/
def NumR (k : Nat) (r : Bs) (w : World) (e : Ending) (w' : World) : Prop := w.grownBy w' (some k) ∧ match numS r with
  | none => (∃ v q, e = .returned (.tuple #[.int .i64 v, .bool false]) ∧ RdrX w' k q)
  | some (n, q) => e = .returned (.tuple #[.int .i64 n, .bool true]) ∧ RdrX w' k q
set_option maxRecDepth 100000 in
set_option maxHeartbeats 2000000 in
theorem number_any (k : Nat) (r : Bs) (w : World) (h : RdrX w k r) (hl : r.length ≤ 100000) : Calls Tryd.prog 92 #[.pointer (some ⟨k, 0, none⟩)] w (NumR k r w) := by
  have hmx : Tryd.prog.follows .mixedOrders = true := by kernel_rfl
  have HT := Lib.hid (take_any k r [32] w h)
  have HSET := Lib.hid (h.set (tkS [32] r))
  have hg := Lib.grownBy_setCell w k 0 (.string ⟨(tkS [32] r).toArray⟩)
  have HG := Lib.hid hg; clear hg
  cases hp : preB r [32]
  · have HN : Hid (numS r = none) := by show _ = _; unfold numS takeS; rw [hp]; rfl
    rw [hp] at HT
    clear hp
    go_enter Tryd.func92, Tryd.ntmps92
    go_wp2_with fail
    refine HT.out.mono ?_
    rintro e w2 ⟨rfl, rfl⟩
    go_wp2
    go_ret2
    refine ⟨HG.out, ?_⟩
    rw [HN.out]
    exact ⟨_, _, rfl, HSET.out⟩
  · have hr1 : tkS [32] r = r.drop 1 := by unfold tkS; rw [hp]; rfl
    have HN : Hid (numS r = num1S (r.drop 1)) := by show _ = _; unfold numS takeS; rw [hp]; rfl
    obtain ⟨r1, hr⟩ : ∃ r1, r.drop 1 = r1 := ⟨_, rfl⟩
    have hl1 : r1.length ≤ 100000 := by rw [← hr, List.length_drop]; omega
    rw [hr] at hr1 HN
    rw [hr1] at HSET HG HT
    rw [hp] at HT
    clear hr hp hr1
    obtain ⟨w1, hw1⟩ : ∃ w1, w.setCell ⟨k, 0, none⟩ (.string ⟨r1.toArray⟩) = w1 := ⟨_, rfl⟩
    rw [hw1] at HSET HG HT
    clear hw1
    have hkl := HSET.out.lt
    have HX : Hid (∀ w', Below w1.heap.size w1 w' → RdrX w' k r1) := fun w' h => HSET.out.below h hkl
    have htl := trimL_any r1
    have hdl := dig_len r1
    have hdt := dig_take r1
    have HDA := Lib.hid (dig_all r1)
    have hn1 : num1S r1 = if (digitsS r1).length < 1 ∨ 3 < (digitsS r1).length ∨ (1 < (digitsS r1).length ∧ (digitsS r1).head? = some 48) then none else some (valD (digitsS r1), r1.drop (digitsS r1).length) := rfl
    obtain ⟨D, hD⟩ : ∃ D, digitsS r1 = D := ⟨_, rfl⟩
    rw [hD] at htl hdl hdt HDA hn1
    clear hD
    obtain ⟨d, hd⟩ : ∃ d, D.length = d := ⟨_, rfl⟩
    rw [hd] at htl hdl hdt hn1
    have HTL := Lib.hid htl
    have hsub : r1.length - (r1.length - d) = d := by omega
    have hx1 : (⟨r1.toArray⟩ : ByteArray).extract 0 d = ⟨D.toArray⟩ := by rw [ext_list, List.drop_zero, Nat.sub_zero, hdt]
    have hx2 : (⟨r1.toArray⟩ : ByteArray).extract d r1.length = ⟨(r1.drop d).toArray⟩ := by rw [ext_list, List.take_of_length_le (by rw [List.length_drop]; omega)]
    have HDD := Lib.hid hd
    have HN1 := Lib.hid (HN.out.trans hn1)
    clear hdt htl hn1 HN hd
    go_enter Tryd.func92, Tryd.ntmps92
    go_wp2_with fail
    refine HT.out.mono ?_
    rintro e w2 ⟨rfl, rfl⟩
    go_wp2
    refine region_qw (fun w' => Below w2.heap.size w2 w') hmx (by kernel_rfl) (by (repeat (first | exact Below.refl _ _ | assumption | refine Below.alloc ?_ (by first | exact Nat.le_refl _ | exact Below.size (by assumption) | omega | (simp <;> omega)) _ | refine Below.setCell ?_ (by first | exact Nat.le_refl _ | exact Below.size (by assumption) | omega | (simp <;> omega)) _ | refine below_drewN ?_ _ | refine Below.drew ?_))) ?_
    repeat (first | (refine qw_read rfl (fun w' hC => by obtain ⟨c0, c1⟩ := (HX.out w' hC).c; clear hC; go_simp; rfl) ?_; simp only [Act.put, List.setIfInBounds_toArray, List.set_cons_succ, List.set_cons_zero]) | (refine qw_pass (by first | (simp [Region.wanted, yielded]; done) | (simp [Region.wanted, yielded]; intro h; cases h)) ?_; simp only [Act.put, List.setIfInBounds_toArray, List.set_cons_succ, List.set_cons_zero]))
    (refine qw_call rfl (fun w' hC => by (go_simp; try rfl)) (fun w' hC => (HTL.out w').mono (fun e w2 hr => ⟨hr.1, hC.trans (hr.2.mono hC.size)⟩)) ?_; simp only [Act.put, List.setIfInBounds_toArray, List.set_cons_succ, List.set_cons_zero])
    repeat (first | (refine qw_read rfl (fun w' hC => by obtain ⟨c0, c1⟩ := (HX.out w' hC).c; clear hC; go_simp; rfl) ?_; simp only [Act.put, List.setIfInBounds_toArray, List.set_cons_succ, List.set_cons_zero]) | (refine qw_pass (by first | (simp [Region.wanted, yielded]; done) | (simp [Region.wanted, yielded]; intro h; cases h)) ?_; simp only [Act.put, List.setIfInBounds_toArray, List.set_cons_succ, List.set_cons_zero]))
    refine qw_nil ?_
    intro w3 hb3
    obtain ⟨c0, c1⟩ := (HX.out w3 hb3).c
    have HG3 := Lib.hid (Lib.grownBy_below HG.out hb3)
    by_cases hA : d < 1
    · have HN2 := Lib.hid (HN1.out.trans (if_pos (.inl hA)))
      go_wp2
      go_ret2
      refine ⟨HG3.out, ?_⟩
      rw [HN2.out]
      exact ⟨_, _, rfl, HX.out w3 hb3⟩
    by_cases hB : 3 < d
    · have HN2 := Lib.hid (HN1.out.trans (if_pos (.inr (.inl hB))))
      go_wp2
      go_ret2
      refine ⟨HG3.out, ?_⟩
      rw [HN2.out]
      exact ⟨_, _, rfl, HX.out w3 hb3⟩
    obtain ⟨c, D2, hcD⟩ : ∃ c D2, D = c :: D2 := by
      cases D with
      | nil => have := HDD.out; simp at this; omega
      | cons c D2 => exact ⟨c, D2, rfl⟩
    subst hcD
    have hidx : ∀ h, (⟨(c :: D2).toArray⟩ : ByteArray)[0]'h = c := fun h => rfl
    by_cases hC : 1 < d ∧ c = 48
    · have HN2 := Lib.hid (HN1.out.trans (if_pos (.inr (.inr ⟨hC.1, by rw [hC.2]; rfl⟩))))
      obtain ⟨hC1, rfl⟩ := hC
      go_wp2
      go_ret2
      refine ⟨HG3.out, ?_⟩
      rw [HN2.out]
      exact ⟨_, _, rfl, HX.out w3 hb3⟩
    · have HN2 := Lib.hid (HN1.out.trans (if_neg (by
        rintro (h | h | ⟨h, h2⟩)
        · exact hA h
        · exact hB h
        · exact hC ⟨h, by simpa using h2⟩)))
      have hat := fun w => Any.strconv_Atoi Tryd.lays172 ⟨(c :: D2).toArray⟩ (valD (c :: D2)) (by have := HDD.out; show (c :: D2).length ≤ 18; omega) (atoi_dig HDA.out (by simp)) w
      change ∀ w, Calls Tryd.prog 101 _ _ (fun e w' => e = .returned (.tuple #[.int .i64 (valD (c :: D2)), .nilIface]) ∧ ∃ t, w' = _) at hat
      have HAT := Lib.hid hat
      have HR3 := Lib.hid ((HX.out w3 hb3).set (r1.drop d))
      have HG4 := Lib.hid (Lib.grownBy_setB HG3.out 0 (.string ⟨(r1.drop d).toArray⟩))
      have hkl3 : k < w3.heap.size := (HX.out w3 hb3).lt
      clear hat
      by_cases hd1 : 1 < d
      · have hc48 : ((c.toNat : Int) == 48) = false := by
          rw [beq_eq_false_iff_ne]
          intro h
          exact hC ⟨hd1, UInt8.toNat_inj.1 (by have : c.toNat = 48 := by omega
                                               exact this)⟩
        go_wp2_with fail
        refine (HAT.out _).mono ?_
        rintro e w5 ⟨rfl, t, hw5⟩
        have hb5 : Below (w3.setCell ⟨k, 0, none⟩ (.string ⟨(r1.drop d).toArray⟩)).heap.size (w3.setCell ⟨k, 0, none⟩ (.string ⟨(r1.drop d).toArray⟩)) w5 := by rw [hw5]; exact Lib.bytesWorld_below _ _ _
        have HB5 := Lib.hid hb5
        clear hw5 hb5
        go_wp2
        go_region
        go_wp2
        go_ret2
        refine ⟨Lib.grownBy_below HG4.out (Below.drew HB5.out), ?_⟩
        rw [HN2.out]
        exact ⟨rfl, HR3.out.below (Below.drew HB5.out) HR3.out.lt⟩
      · go_wp2_with fail
        refine (HAT.out _).mono ?_
        rintro e w5 ⟨rfl, t, hw5⟩
        have hb5 : Below (w3.setCell ⟨k, 0, none⟩ (.string ⟨(r1.drop d).toArray⟩)).heap.size (w3.setCell ⟨k, 0, none⟩ (.string ⟨(r1.drop d).toArray⟩)) w5 := by rw [hw5]; exact Lib.bytesWorld_below _ _ _
        have HB5 := Lib.hid hb5
        clear hw5 hb5
        go_wp2
        go_region
        go_wp2
        go_ret2
        refine ⟨Lib.grownBy_below HG4.out (Below.drew HB5.out), ?_⟩
        rw [HN2.out]
        exact ⟨rfl, HR3.out.below (Below.drew HB5.out) HR3.out.lt⟩
end Go.Proofs.YtbcnkcndhgihaaaDoor

namespace Go.Proofs.YtbcnkcndhgihaaaDoor
open Go.RowKit Go.Shelf
set_option linter.unusedSimpArgs false

def wordsL : List Bs := [[], [], [115, 116, 97, 99, 107], [116, 117, 114, 110], [115, 108, 105, 99, 101], [102, 108, 105, 112], [114, 101, 112, 101, 97, 116]]
def wordsB : List ByteArray := [⟨#[]⟩, ⟨#[]⟩, ⟨#[115, 116, 97, 99, 107]⟩, ⟨#[116, 117, 114, 110]⟩, ⟨#[115, 108, 105, 99, 101]⟩, ⟨#[102, 108, 105, 112]⟩, ⟨#[114, 101, 112, 101, 97, 116]⟩]
theorem words_any (w : World) : Calls Tryd.prog 99 #[] w fun e w' => e = .returned (.slice (some ⟨w.heap.size, 0, none⟩) 7 7) ∧ w' = w.alloc (.cells #[.string ⟨#[]⟩, .string ⟨#[]⟩, .string ⟨#[115, 116, 97, 99, 107]⟩, .string ⟨#[116, 117, 114, 110]⟩, .string ⟨#[115, 108, 105, 99, 101]⟩, .string ⟨#[102, 108, 105, 112]⟩, .string ⟨#[114, 101, 112, 101, 97, 116]⟩] 9) := by
  go_enter Tryd.func99, Tryd.ntmps99
  go_wp2
  go_ret
  exact ⟨rfl, rfl⟩
theorem words_cell (w : World) (m : Nat) (W : Bs) (h : wordsL[m]? = some W) : (w.alloc (.cells #[.string ⟨#[]⟩, .string ⟨#[]⟩, .string ⟨#[115, 116, 97, 99, 107]⟩, .string ⟨#[116, 117, 114, 110]⟩, .string ⟨#[115, 108, 105, 99, 101]⟩, .string ⟨#[102, 108, 105, 112]⟩, .string ⟨#[114, 101, 112, 101, 97, 116]⟩] 9)).cell? ⟨w.heap.size, m, none⟩ = some (.string ⟨W.toArray⟩) := by
  have hm : m < 7 := (List.getElem?_eq_some_iff.1 h).1
  match m, hm with
  | 0, _ => simp [wordsL] at h; subst h; simp
  | 1, _ => simp [wordsL] at h; subst h; simp
  | 2, _ => simp [wordsL] at h; subst h; simp
  | 3, _ => simp [wordsL] at h; subst h; simp
  | 4, _ => simp [wordsL] at h; subst h; simp
  | 5, _ => simp [wordsL] at h; subst h; simp
  | 6, _ => simp [wordsL] at h; subst h; simp
theorem numbers_any (o : Int) (w : World) : Calls Tryd.prog 91 #[.int .i64 o] w fun e w' => e = .returned (.int .i64 (nnum o : Int)) ∧ w' = w := by
  by_cases h1 : o = 1
  · subst h1
    go_enter Tryd.func91, Tryd.ntmps91
    go_wp2
    go_ret
    exact ⟨rfl, rfl⟩
  by_cases h4 : o = 4
  · subst h4
    go_enter Tryd.func91, Tryd.ntmps91
    go_wp2
    go_ret
    exact ⟨rfl, rfl⟩
  by_cases h6 : o = 6
  · subst h6
    go_enter Tryd.func91, Tryd.ntmps91
    go_wp2
    go_ret
    exact ⟨rfl, rfl⟩
  have HN : Hid (nnum o = 0) := by show _ = _; unfold nnum; rw [if_neg h1, if_neg h4, if_neg h6]
  have e1 : (o == 1) = false := by simpa using h1
  have e4 : (o == 4) = false := by simpa using h4
  have e6 : (o == 6) = false := by simpa using h6
  clear h1 h4 h6
  go_enter Tryd.func91, Tryd.ntmps91
  go_wp2
  go_ret
  exact ⟨by rw [HN.out]; rfl, rfl⟩
/-- Which prefix is tried. -/
def jj (m p : Nat) : Nat := if m < 2 then 0 else 3 * (m - 2) + p
theorem heads_at : ∀ m : Fin 7, 2 ≤ m.val → ∀ p : Fin 3, headsS[jj m.val p.val]? = some ((m.val : Int), (p.val : Int), (wordsL.getD m.val []) ++ [32, UInt8.ofNat (120 + p.val)]) := by decide
theorem words_low : ∀ m : Fin 7, (wordsL.getD m.val [] = [] ↔ m.val < 2) := by decide
theorem find_at {α : Type} {p : α → Bool} : ∀ {l : List α} {j : Nat} {x : α}, (∀ y ∈ l.take j, p y = false) → l[j]? = some x → p x = true → l.find? p = some x
  | [], j, x, _, h, _ => by simp at h
  | y :: l, 0, x, _, h, hp => by
    simp at h
    subst h
    rw [List.find?_cons_of_pos hp]
  | y :: l, j + 1, x, hn, h, hp => by
    rw [List.find?_cons_of_neg (by rw [hn y (by simp)]; simp)]
    exact find_at (fun z hz => hn z (by simp; exact .inr hz)) (by simpa using h) hp
theorem cat_list (a b : Bs) : (⟨a.toArray⟩ : ByteArray) ++ ⟨b.toArray⟩ = ⟨(a ++ b).toArray⟩ := by
  rw [ByteArray.ext_iff, ByteArray.data_append]
  simp
theorem setCell_same {w : World} {k : Nat} {r : Bs} (h : RdrX w k r) : w.setCell ⟨k, 0, none⟩ (.string ⟨r.toArray⟩) = w := by
  unfold RdrX at h
  obtain ⟨hk, hv⟩ := Array.getElem?_eq_some_iff.1 h
  have e : (w.setCell ⟨k, 0, none⟩ (.string ⟨r.toArray⟩)).heap = w.heap := by
    apply Array.ext_getElem?
    intro i
    simp only [World.setCell, Array.getElem?_modify]
    by_cases hi : k = i
    · subst hi
      simp [h]
    · simp [hi]
  cases w
  simp only [World.setCell] at e ⊢
  congr 1
theorem take_no (k : Nat) (r t : Bs) (w : World) (h : RdrX w k r) (hp : preB r t = false) : Calls Tryd.prog 94 #[.pointer (some ⟨k, 0, none⟩), .string ⟨t.toArray⟩] w fun e w' => e = .returned (.bool false) ∧ w' = w := by
  refine (take_any k r t w h).mono ?_
  rintro e w' ⟨rfl, rfl⟩
  rw [hp]
  refine ⟨rfl, ?_⟩
  rw [show tkS t r = r by unfold tkS; rw [hp]; rfl]
  exact setCell_same h
theorem take_yes (k : Nat) (r t : Bs) (w : World) (h : RdrX w k r) (hp : preB r t = true) : Calls Tryd.prog 94 #[.pointer (some ⟨k, 0, none⟩), .string ⟨t.toArray⟩] w fun e w' => e = .returned (.bool true) ∧ w' = w.setCell ⟨k, 0, none⟩ (.string ⟨(r.drop t.length).toArray⟩) := by
  refine (take_any k r t w h).mono ?_
  rintro e w' ⟨rfl, rfl⟩
  rw [hp, show tkS t r = r.drop t.length by unfold tkS; rw [hp]; rfl]
  exact ⟨rfl, rfl⟩
end Go.Proofs.YtbcnkcndhgihaaaDoor

namespace Go.Proofs.YtbcnkcndhgihaaaDoor
open Go.RowKit Go.Shelf
set_option linter.unusedSimpArgs false

def zeroB : BT := .mk 0 0 0 0 0 0 none 0 []
/-- What head returns. -/
def HeadR (k : Nat) (r : Bs) (w : World) (e : Ending) (w' : World) : Prop := w.grownBy w' (some k) ∧ match headS r with
  | none => (∃ q, e = .returned (.tuple #[valB zeroB, .bool false]) ∧ RdrX w' k q)
  | some (op, ax, co, q) => e = .returned (.tuple #[valB (.mk op ax co 0 0 0 none 0 []), .bool true]) ∧ RdrX w' k q
/-- A block in a box, whole. -/
def BX (w : World) (k : Nat) (b : BT) : Prop := w.heap[k]? = some (.cells #[.int .i64 b.op, .int .i64 b.ax, .int .u8 b.co, .int .i64 b.n0, .int .i64 b.n1, .int .i64 b.n2, .slice b.A b.ps.length b.cp] 25 (0, 0))
theorem BX.c {w : World} {k : Nat} {b : BT} (h : BX w k b) : BxB w k b := by
  unfold BX at h
  unfold BxB
  refine ⟨?_, ?_, ?_, ?_, ?_, ?_, ?_⟩ <;> simp [World.cell?, h]
theorem BX.f {w : World} {k : Nat} {b : BT} (h : BX w k b) : w.frozen? ⟨k, 0, none⟩ = false ∧ w.frozen? ⟨k, 1, none⟩ = false ∧ w.frozen? ⟨k, 2, none⟩ = false ∧ w.frozen? ⟨k, 3, none⟩ = false ∧ w.frozen? ⟨k, 4, none⟩ = false ∧ w.frozen? ⟨k, 5, none⟩ = false ∧ w.frozen? ⟨k, 6, none⟩ = false := by
  unfold BX at h
  refine ⟨?_, ?_, ?_, ?_, ?_, ?_, ?_⟩ <;> simp [World.frozen?, h]
theorem BX.lt {w : World} {k : Nat} {b : BT} (h : BX w k b) : k < w.heap.size := (Array.getElem?_eq_some_iff.1 h).1
theorem BX.below {w w' : World} {k B : Nat} {b : BT} (h : BX w k b) (hb : Below B w w') (hk : k < B) : BX w' k b := (hb.block k hk).trans h
theorem BX.grown {w w' : World} {k j : Nat} {b : BT} (h : BX w k b) (hg : w.grownBy w' (some j)) (hne : k ≠ j) : BX w' k b := (hg.block k h.lt (by simpa using hne)).trans h
theorem BX.new (w : World) (b : BT) : BX (w.alloc (.cells #[.int .i64 b.op, .int .i64 b.ax, .int .u8 b.co, .int .i64 b.n0, .int .i64 b.n1, .int .i64 b.n2, .slice b.A b.ps.length b.cp] 25)) w.heap.size b := heap_alloc_new w _
/-- The seven cells, stored. -/
def putB (w : World) (k : Nat) (b : BT) : World := w.setRow k #[.int .i64 b.op, .int .i64 b.ax, .int .u8 b.co, .int .i64 b.n0, .int .i64 b.n1, .int .i64 b.n2, .slice b.A b.ps.length b.cp]
theorem BX.put {w : World} {k : Nat} {b : BT} (h : BX w k b) (q : BT) : BX (putB w k q) k q := setRow_heap w k _ _ _ _ h
theorem putB_grown (w : World) (k : Nat) (b : BT) : w.grownBy (putB w k b) (some k) :=
  ⟨rfl, rfl, rfl, Nat.le_of_eq (setRow_size w k _).symm, fun i hi hne => setRow_other w k i _ (fun h => hne (by rw [h]))⟩
theorem run_putB {w : World} {k : Nat} {b : BT} (h : BX w k b) (q : BT) : (storeVar 25 ⟨k, 0, none⟩ (.agg #[.int .i64 q.op, .int .i64 q.ax, .int .u8 q.co, .int .i64 q.n0, .int .i64 q.n1, .int .i64 q.n2, .slice q.A q.ps.length q.cp])).run Tryd.prog w = .ok () (putB w k q) :=
  run_storeVar_row w k 25 25 _ _ h (by kernel_rfl) rfl (by simp [Value.oneCell'])
theorem run_putB2 {w : World} {k : Nat} {b : BT} (h : BX w k b) (q : BT) : (Instr.storeAt 25 (.pointer (some ⟨k, 0, none⟩)) (.agg #[.int .i64 q.op, .int .i64 q.ax, .int .u8 q.co, .int .i64 q.n0, .int .i64 q.n1, .int .i64 q.n2, .slice q.A q.ps.length q.cp])).run Tryd.prog w = .ok () (putB w k q) := by
  have := run_putB h q
  simpa [Instr.storeAt, Instr.sureAddr, Sem.run_bind, Sem.run_pure] using this
theorem wpList_store7 {ops : Array Oper} {rest : List Oper} {o : Oper} {a : Act} {Q : Exit → Act → World → Prop} {w : World} {k : Nat} {b : BT} (q : BT) (x y : Operand) (h : BX w k b) (hgd : o.guard = none) (ho : o.op = .store 25 x y) (hx : a.eval x = .pointer (some ⟨k, 0, none⟩)) (hy : a.eval y = valB q)
    (hn : wpList Tryd.prog ops Q rest (a.put o.dst undef) (putB w k q)) : wpList Tryd.prog ops Q (o :: rest) a w := by
  unfold wpList
  have hr : (execOp a.eval o).run Tryd.prog w = .ok .skip (putB w k q) := by
    unfold execOp
    rw [ho]
    have h2 := run_putB2 h q
    simp [hx, hy, Sem.run_bind, h2]
  rw [if_pos (by simp [Region.wanted, hgd])]
  left
  unfold Oper.wp
  rw [hr]
  exact hn
theorem at_store7 {P : Program} {ops : Array Oper} {rest : List Oper} {a : Act} {Q : Exit → Act → World → Prop} {w : World} {o1 o3 o4 o5 o6} {t : TypeId} {x y : Operand} (h : wpList P ops Q (Oper.mk o1 (.store t x y) o3 o4 o5 o6 :: rest) a w) : wpList P ops Q (Oper.mk o1 (.store t x y) o3 o4 o5 o6 :: rest) a w := h
theorem grown_then {a b c : World} {k j : Nat} (h : a.grownBy b (some k)) (h2 : b.grownBy c (some j)) (hj : a.heap.size ≤ j) : a.grownBy c (some k) :=
  ⟨h2.os.trans h.os, h2.tape.trans h.tape, h2.output.trans h.output, Nat.le_trans h.size h2.size, fun i hi hne => (h2.block i (Nat.lt_of_lt_of_le hi h.size) (fun e => by injection e with e; omega)).trans (h.block i hi hne)⟩
theorem RdrX.putB {w : World} {k j : Nat} {r : Bs} {b : BT} (h : RdrX w k r) (hne : k ≠ j) : RdrX (putB w j b) k r := (setRow_other w j k _ hne).trans h
theorem low_of {m : Nat} {W : Bs} (h : wordsL[m]? = some W) : W = [] ↔ m < 2 := by
  have hm : m < 7 := (List.getElem?_eq_some_iff.1 h).1
  have := words_low ⟨m, hm⟩
  rwa [show wordsL.getD m [] = W by rw [List.getD_eq_getElem?_getD, h]; rfl] at this
theorem word_len {m : Nat} {W : Bs} (h : wordsL[m]? = some W) : W.length ≤ 6 := by
  have : ∀ x ∈ wordsL, x.length ≤ 6 := by decide
  exact this W (List.mem_of_getElem? h)
theorem no_low {r : Bs} {m p : Nat} (h : m < 2) (_ : ∀ x ∈ headsS.take (jj m p), preB r x.2.2 = false) (q : Nat) : ∀ x ∈ headsS.take (jj m q), preB r x.2.2 = false := by
  unfold jj; rw [if_pos h]; simp
theorem at_of {m p : Nat} {W : Bs} (h2 : 2 ≤ m) (hm : m < 7) (hp : p < 3) (h : wordsL[m]? = some W) : headsS[jj m p]? = some ((m : Int), (p : Int), W ++ [32, UInt8.ofNat (120 + p)]) := by
  have := heads_at ⟨m, hm⟩ h2 ⟨p, hp⟩
  rwa [show wordsL.getD m [] = W by rw [List.getD_eq_getElem?_getD, h]; rfl] at this
theorem no_succ {r : Bs} {m p : Nat} {W : Bs} (h2 : 2 ≤ m) (hm : m < 7) (hp : p < 3) (h : wordsL[m]? = some W) (hn : ∀ x ∈ headsS.take (jj m p), preB r x.2.2 = false) (hf : preB r (W ++ [32, UInt8.ofNat (120 + p)]) = false) : ∀ x ∈ headsS.take (jj m (p + 1)), preB r x.2.2 = false := by
  have e : jj m (p + 1) = jj m p + 1 := by unfold jj; rw [if_neg (by omega), if_neg (by omega)]; omega
  rw [e, take_succ_of (at_of h2 hm hp h)]
  intro x hx
  rcases List.mem_append.1 hx with hx | hx
  · exact hn x hx
  · rw [List.mem_singleton.1 hx]; exact hf
theorem head_hit {r : Bs} {m p : Nat} {W : Bs} (h2 : 2 ≤ m) (hm : m < 7) (hp : p < 3) (h : wordsL[m]? = some W) (hn : ∀ x ∈ headsS.take (jj m p), preB r x.2.2 = false) (hf : preB r (W ++ [32, UInt8.ofNat (120 + p)]) = true) : headS r = some ((m : Int), (p : Int), 0, r.drop (W ++ [32, UInt8.ofNat (120 + p)]).length) := by
  unfold headS
  rw [find_at hn (at_of h2 hm hp h) hf]
theorem jj_next {m : Nat} (h : m < 7) : jj (m + 1) 0 = jj m 3 := by unfold jj; split <;> split <;> omega
theorem next0 (wo : World) : ∀ ty, (Instr.next (.pointer (some ⟨wo.heap.size, 0, none⟩)) true ty).run Tryd.prog (wo.iter ⟨#[120, 121, 122]⟩ 0) = .ok (.tuple #[.bool true, .int .i64 0, .int .i32 120]) (wo.iter ⟨#[120, 121, 122]⟩ 1) := fun ty => by
  rw [run_next_ascii wo ⟨#[120, 121, 122]⟩ 0 ty (show 0 < 3 by omega) (by decide)]
  rfl
theorem next1 (wo : World) : ∀ ty, (Instr.next (.pointer (some ⟨wo.heap.size, 0, none⟩)) true ty).run Tryd.prog (wo.iter ⟨#[120, 121, 122]⟩ 1) = .ok (.tuple #[.bool true, .int .i64 1, .int .i32 121]) (wo.iter ⟨#[120, 121, 122]⟩ 2) := fun ty => by
  rw [run_next_ascii wo ⟨#[120, 121, 122]⟩ 1 ty (show 1 < 3 by omega) (by decide)]
  rfl
theorem next2 (wo : World) : ∀ ty, (Instr.next (.pointer (some ⟨wo.heap.size, 0, none⟩)) true ty).run Tryd.prog (wo.iter ⟨#[120, 121, 122]⟩ 2) = .ok (.tuple #[.bool true, .int .i64 2, .int .i32 122]) (wo.iter ⟨#[120, 121, 122]⟩ 3) := fun ty => by
  rw [run_next_ascii wo ⟨#[120, 121, 122]⟩ 2 ty (show 2 < 3 by omega) (by decide)]
  rfl
theorem next3 (wo : World) : ∀ ty, (Instr.next (.pointer (some ⟨wo.heap.size, 0, none⟩)) true ty).run Tryd.prog (wo.iter ⟨#[120, 121, 122]⟩ 3) = .ok (.tuple #[.bool false]) (wo.iter ⟨#[120, 121, 122]⟩ 3) := fun ty => run_next_end wo ⟨#[120, 121, 122]⟩ 3 ty (show ¬ 3 < 3 by omega)
theorem head_miss {r : Bs} (h : ∀ x ∈ headsS.take (jj 7 0), preB r x.2.2 = false) : headS r = match r with
    | [] => none
    | c :: l => if 97 ≤ c.toNat ∧ c.toNat ≤ 105 then some (1, 0, c.toNat, l) else none := by
  unfold headS
  have : headsS.find? (fun h => preB r h.2.2) = none := by
    rw [List.find?_eq_none]
    intro x hx
    rw [h x hx]; simp
  rw [this]
  cases r <;> rfl
theorem eq_empty {W : Bs} (h : ¬ W = []) (w : World) : (binOp .eql 9 (.string ⟨W.toArray⟩) (.string ⟨#[]⟩)).run Tryd.prog w = .ok (.bool false) w := by
  have u3 := Tryd.underlying9
  go_simp
theorem ne_empty {W : Bs} (h : ¬ W = []) (w : World) : (binOp .neq 9 (.string ⟨W.toArray⟩) (.string ⟨#[]⟩)).run Tryd.prog w = .ok (.bool true) w := by
  have u3 := Tryd.underlying9
  go_simp
theorem cat3 (W : Bs) (a b : UInt8) : (⟨W.toArray⟩ : ByteArray) ++ ⟨#[a]⟩ ++ ⟨#[b]⟩ = ⟨(W ++ [a, b]).toArray⟩ := by
  rw [show (⟨#[a]⟩ : ByteArray) = ⟨[a].toArray⟩ from rfl, show (⟨#[b]⟩ : ByteArray) = ⟨[b].toArray⟩ from rfl, cat_list, cat_list, List.append_assoc]
  rfl
theorem xyz0 : (⟨#[120, 121, 122]⟩ : ByteArray).extract 0 1 = ⟨#[120]⟩ := ext_list [120, 121, 122] 0 1
theorem xyz1 : (⟨#[120, 121, 122]⟩ : ByteArray).extract 1 2 = ⟨#[121]⟩ := ext_list [120, 121, 122] 1 2
theorem xyz2 : (⟨#[120, 121, 122]⟩ : ByteArray).extract 2 3 = ⟨#[122]⟩ := ext_list [120, 121, 122] 2 3
set_option maxRecDepth 100000 in
set_option maxHeartbeats 8000000 in
theorem head_any (k : Nat) (r : Bs) (w : World) (h : RdrX w k r) : Calls Tryd.prog 90 #[.pointer (some ⟨k, 0, none⟩)] w (HeadR k r w) := by
  have HX := Lib.hid h
  have hk := h.lt
  clear h
  obtain ⟨w1, hw1⟩ : ∃ w1, (w.alloc (.cells #[.int .i64 0, .int .i64 0, .int .u8 0, .int .i64 0, .int .i64 0, .int .i64 0, .slice none 0 0] 25)).alloc (.cells #[.string ⟨#[]⟩, .string ⟨#[]⟩, .string ⟨#[115, 116, 97, 99, 107]⟩, .string ⟨#[116, 117, 114, 110]⟩, .string ⟨#[115, 108, 105, 99, 101]⟩, .string ⟨#[102, 108, 105, 112]⟩, .string ⟨#[114, 101, 112, 101, 97, 116]⟩] 9) = w1 := ⟨_, rfl⟩
  have hB1 : Below w.heap.size w w1 := by rw [← hw1]; (repeat (first | exact Below.refl _ _ | assumption | refine Below.alloc ?_ (by first | exact Nat.le_refl _ | exact Below.size (by assumption) | omega | (simp <;> omega)) _ | refine Below.setCell ?_ (by first | exact Nat.le_refl _ | exact Below.size (by assumption) | omega | (simp <;> omega)) _ | refine below_drewN ?_ _ | refine Below.drew ?_))
  have hz1 : w.heap.size + 1 < w1.heap.size := by rw [← hw1]; simp
  have HBX : Hid (∀ w', Below w1.heap.size w1 w' → BX w' w.heap.size zeroB) := fun w' hb => by
    refine BX.below (B := w1.heap.size) ?_ hb (by omega)
    rw [← hw1]
    exact (BX.new w zeroB).below (B := w.heap.size + 1) (by (repeat (first | exact Below.refl _ _ | assumption | refine Below.alloc ?_ (by first | exact Nat.le_refl _ | exact Below.size (by assumption) | omega | (simp <;> omega)) _ | refine Below.setCell ?_ (by first | exact Nat.le_refl _ | exact Below.size (by assumption) | omega | (simp <;> omega)) _ | refine below_drewN ?_ _ | refine Below.drew ?_))) (by omega)
  have HWD : Hid (∀ m W, wordsL[m]? = some W → ∀ w', Below w1.heap.size w1 w' → w'.cell? ⟨w.heap.size + 1, m, none⟩ = some (.string ⟨W.toArray⟩)) := fun m W hW w' hb => by
    refine (hb.cell hz1).trans ?_
    rw [← hw1]
    have := words_cell (w.alloc (.cells #[.int .i64 0, .int .i64 0, .int .u8 0, .int .i64 0, .int .i64 0, .int .i64 0, .slice none 0 0] 25)) m W hW
    simpa using this
  go_enter Tryd.func90, Tryd.ntmps90
  go_wp2_with fail
  refine (words_any _).mono ?_
  rintro e w9 ⟨rfl, hw9⟩
  rw [hw1] at hw9
  subst hw9
  clear hw1
  go_wp2
  have hsz : (w.alloc (.cells #[.int .i64 0, .int .i64 0, .int .u8 0, .int .i64 0, .int .i64 0, .int .i64 0, .slice none 0 0] 25)).heap.size = w.heap.size + 1 := by simp
  go_loopw [4, 5, 6, 10] (fun _ _ _ i wr => ∃ m : Nat, m ≤ 7 ∧ i = .int .i64 m ∧ (∀ x ∈ headsS.take (jj m 0), preB r x.2.2 = false) ∧ Below w9.heap.size w9 wr) (fun _ _ _ i _ => 7 - (intOf i).toNat)
  case atStart => exact ⟨0, by omega, rfl, (by simp [jj]), Below.refl _ _⟩
  case round =>
    obtain ⟨m, hm, rfl, hno, hB⟩ := hrel
    have HN := Lib.hid hno; clear hno
    rename World => wo
    have hBw := hB1.trans (hB.mono hB1.size)
    have hso := hB.size
    by_cases hlt : m < 7
    · obtain ⟨W, hW⟩ := getElem?_of_lt (show m < wordsL.length from hlt)
      have hWc := HWD.out m W hW wo hB
      have HW := Lib.hid hW; clear hW
      have hltI : (m : Int) < 7 := by omega
      have HLT := Lib.hid hlt
      clear hlt
      go_wp2
      clear hWc
      have HXo : Hid (∀ p, RdrX (wo.iter ⟨#[120, 121, 122]⟩ p) k r) := fun p => HX.out.below (B := w.heap.size) (hBw.alloc hBw.size _) hk
      have HBi : Hid (∀ p, Below w.heap.size w (wo.iter ⟨#[120, 121, 122]⟩ p)) := fun p => hBw.alloc hBw.size _
      have HBXi : Hid (∀ p, BX (wo.iter ⟨#[120, 121, 122]⟩ p) w.heap.size zeroB) := fun p => HBX.out _ (hB.alloc hB.size _)
      go_loopw [6] (fun _ wr => ∃ p : Nat, p ≤ 3 ∧ wr = wo.iter ⟨#[120, 121, 122]⟩ p ∧ ∀ x ∈ headsS.take (jj m p), preB r x.2.2 = false) (fun _ wr => 3 - wr.iterPos wo.heap.size)
      case atStart => exact ⟨0, by omega, rfl, HN.out⟩
      case round =>
        obtain ⟨p, hp3, rfl, hno2⟩ := hrel
        have HN2 := Lib.hid hno2; clear hno2
        have hp4 : p = 0 ∨ p = 1 ∨ p = 2 ∨ p = 3 := by omega
        rcases hp4 with rfl | rfl | rfl | rfl
        · have hnx : ∀ ty, (Instr.next (.pointer (some ⟨wo.heap.size, 0, none⟩)) true ty).run Tryd.prog (wo.iter ⟨#[120, 121, 122]⟩ 0) = .ok (.tuple #[.bool true, .int .i64 0, .int .i32 120]) (wo.iter ⟨#[120, 121, 122]⟩ 1) := next0 wo
          by_cases hE : W = []
          · have HLOW := Lib.hid ((low_of HW.out).1 hE)
            subst hE
            have hN2 := Lib.hid (no_low HLOW.out HN2.out (0 + 1))
            go_wp2
            go_roundw
            case rel => exact ⟨1, by omega, rfl, hN2.out⟩
            case measure => simp
          · have HLOW := Lib.hid (show 2 ≤ m from Nat.le_of_not_lt fun h => hE ((low_of HW.out).2 h))
            have hneq : ∀ w, (binOp .neq 9 (.string ⟨W.toArray⟩) (.string ⟨#[]⟩)).run Tryd.prog w = .ok (.bool true) w := ne_empty hE
            have hcat : (⟨W.toArray⟩ : ByteArray) ++ ⟨#[32]⟩ ++ (⟨#[120, 121, 122]⟩ : ByteArray).extract 0 1 = ⟨(W ++ [32, 120]).toArray⟩ := by rw [xyz0]; exact cat3 W 32 120
            have hWl : W.length ≤ 6 := word_len HW.out
            have hWe : W.isEmpty = false := by cases W with
              | nil => exact absurd rfl hE
              | cons _ _ => rfl
            cases hp : preB r (W ++ [32, 120])
            · have hN2 := Lib.hid (no_succ HLOW.out HLT.out (show 0 < 3 by omega) HW.out HN2.out hp)
              have HTK := Lib.hid (take_no k r (W ++ [32, 120]) (wo.iter ⟨#[120, 121, 122]⟩ 1) (HXo.out _) hp)
              clear hp
              go_wp2_with fail
              refine HTK.out.mono ?_
              rintro e w5 ⟨rfl, rfl⟩
              go_wp2
              go_roundw
              case rel => exact ⟨1, by omega, rfl, hN2.out⟩
              case measure => simp
            · have HH := Lib.hid (head_hit HLOW.out HLT.out (show 0 < 3 by omega) HW.out HN2.out hp)
              have HTK := Lib.hid (take_yes k r (W ++ [32, 120]) (wo.iter ⟨#[120, 121, 122]⟩ 1) (HXo.out _) hp)
              have HSET := Lib.hid ((HXo.out 1).set (r.drop (W ++ [32, 120]).length))
              have HG := Lib.hid (Lib.grownBy_setB (Lib.grownBy_below (World.grownBy.refl w (some k)) (HBi.out 1)) 0 (.string ⟨(r.drop (W ++ [32, 120]).length).toArray⟩) : w.grownBy _ (some k))
              clear hp
              go_wp2_with fail
              refine HTK.out.mono ?_
              rintro e w5 ⟨rfl, hw5⟩
              rw [← hw5] at HSET HG
              have HB5 := Lib.hid ((HBXi.out 1).grown (Lib.grownBy_setCell _ k 0 (.string ⟨(r.drop (W ++ [32, 120]).length).toArray⟩)) (by omega))
              rw [← hw5] at HB5
              clear hw5
              obtain ⟨f0, f1, f2, f3, f4, f5, f6⟩ := HB5.out.c
              obtain ⟨z0, z1, z2, z3, z4, z5, z6⟩ := HB5.out.f
              have hl5 := HB5.out.lt
              clear f0 f1 f2 f3 f4 f5 f6 z0 z1 z2 z3 z4 z5 z6
              go_wp2_with ((with_reducible refine at_store7 ?_); refine wpList_store7 (.mk (m : Int) 0 0 0 0 0 none 0 []) _ _ HB5.out rfl rfl rfl rfl ?_)
              obtain ⟨y0, y1, y2, y3, y4, y5, y6⟩ := (HB5.out.put (.mk (m : Int) 0 0 0 0 0 none 0 [])).c
              refine bodyPost_ret (v := .tuple #[valB (.mk (m : Int) 0 0 0 0 0 none 0 []), .bool true]) (by simp [results, Tryd.results90, go_sem, y0, y1, y2, y3, y4, y5, y6]) rfl ?_
              refine ⟨grown_then HG.out (putB_grown w5 w.heap.size _) (Nat.le_refl _), ?_⟩
              rw [HH.out]
              exact ⟨rfl, HSET.out.putB (by omega)⟩
        · have hnx : ∀ ty, (Instr.next (.pointer (some ⟨wo.heap.size, 0, none⟩)) true ty).run Tryd.prog (wo.iter ⟨#[120, 121, 122]⟩ 1) = .ok (.tuple #[.bool true, .int .i64 1, .int .i32 121]) (wo.iter ⟨#[120, 121, 122]⟩ 2) := next1 wo
          by_cases hE : W = []
          · have HLOW := Lib.hid ((low_of HW.out).1 hE)
            subst hE
            have hN2 := Lib.hid (no_low HLOW.out HN2.out (1 + 1))
            go_wp2
            go_roundw
            case rel => exact ⟨2, by omega, rfl, hN2.out⟩
            case measure => simp
          · have HLOW := Lib.hid (show 2 ≤ m from Nat.le_of_not_lt fun h => hE ((low_of HW.out).2 h))
            have hneq : ∀ w, (binOp .neq 9 (.string ⟨W.toArray⟩) (.string ⟨#[]⟩)).run Tryd.prog w = .ok (.bool true) w := ne_empty hE
            have hcat : (⟨W.toArray⟩ : ByteArray) ++ ⟨#[32]⟩ ++ (⟨#[120, 121, 122]⟩ : ByteArray).extract 1 2 = ⟨(W ++ [32, 121]).toArray⟩ := by rw [xyz1]; exact cat3 W 32 121
            have hWl : W.length ≤ 6 := word_len HW.out
            have hWe : W.isEmpty = false := by cases W with
              | nil => exact absurd rfl hE
              | cons _ _ => rfl
            cases hp : preB r (W ++ [32, 121])
            · have hN2 := Lib.hid (no_succ HLOW.out HLT.out (show 1 < 3 by omega) HW.out HN2.out hp)
              have HTK := Lib.hid (take_no k r (W ++ [32, 121]) (wo.iter ⟨#[120, 121, 122]⟩ 2) (HXo.out _) hp)
              clear hp
              go_wp2_with fail
              refine HTK.out.mono ?_
              rintro e w5 ⟨rfl, rfl⟩
              go_wp2
              go_roundw
              case rel => exact ⟨2, by omega, rfl, hN2.out⟩
              case measure => simp
            · have HH := Lib.hid (head_hit HLOW.out HLT.out (show 1 < 3 by omega) HW.out HN2.out hp)
              have HTK := Lib.hid (take_yes k r (W ++ [32, 121]) (wo.iter ⟨#[120, 121, 122]⟩ 2) (HXo.out _) hp)
              have HSET := Lib.hid ((HXo.out 2).set (r.drop (W ++ [32, 121]).length))
              have HG := Lib.hid (Lib.grownBy_setB (Lib.grownBy_below (World.grownBy.refl w (some k)) (HBi.out 2)) 0 (.string ⟨(r.drop (W ++ [32, 121]).length).toArray⟩) : w.grownBy _ (some k))
              clear hp
              go_wp2_with fail
              refine HTK.out.mono ?_
              rintro e w5 ⟨rfl, hw5⟩
              rw [← hw5] at HSET HG
              have HB5 := Lib.hid ((HBXi.out 2).grown (Lib.grownBy_setCell _ k 0 (.string ⟨(r.drop (W ++ [32, 121]).length).toArray⟩)) (by omega))
              rw [← hw5] at HB5
              clear hw5
              obtain ⟨f0, f1, f2, f3, f4, f5, f6⟩ := HB5.out.c
              obtain ⟨z0, z1, z2, z3, z4, z5, z6⟩ := HB5.out.f
              have hl5 := HB5.out.lt
              clear f0 f1 f2 f3 f4 f5 f6 z0 z1 z2 z3 z4 z5 z6
              go_wp2_with ((with_reducible refine at_store7 ?_); refine wpList_store7 (.mk (m : Int) 1 0 0 0 0 none 0 []) _ _ HB5.out rfl rfl rfl rfl ?_)
              obtain ⟨y0, y1, y2, y3, y4, y5, y6⟩ := (HB5.out.put (.mk (m : Int) 1 0 0 0 0 none 0 [])).c
              refine bodyPost_ret (v := .tuple #[valB (.mk (m : Int) 1 0 0 0 0 none 0 []), .bool true]) (by simp [results, Tryd.results90, go_sem, y0, y1, y2, y3, y4, y5, y6]) rfl ?_
              refine ⟨grown_then HG.out (putB_grown w5 w.heap.size _) (Nat.le_refl _), ?_⟩
              rw [HH.out]
              exact ⟨rfl, HSET.out.putB (by omega)⟩
        · have hnx : ∀ ty, (Instr.next (.pointer (some ⟨wo.heap.size, 0, none⟩)) true ty).run Tryd.prog (wo.iter ⟨#[120, 121, 122]⟩ 2) = .ok (.tuple #[.bool true, .int .i64 2, .int .i32 122]) (wo.iter ⟨#[120, 121, 122]⟩ 3) := next2 wo
          by_cases hE : W = []
          · have HLOW := Lib.hid ((low_of HW.out).1 hE)
            subst hE
            have hN2 := Lib.hid (no_low HLOW.out HN2.out (2 + 1))
            go_wp2
            go_roundw
            case rel => exact ⟨3, by omega, rfl, hN2.out⟩
            case measure => simp
          · have HLOW := Lib.hid (show 2 ≤ m from Nat.le_of_not_lt fun h => hE ((low_of HW.out).2 h))
            have hneq : ∀ w, (binOp .neq 9 (.string ⟨W.toArray⟩) (.string ⟨#[]⟩)).run Tryd.prog w = .ok (.bool true) w := ne_empty hE
            have hcat : (⟨W.toArray⟩ : ByteArray) ++ ⟨#[32]⟩ ++ (⟨#[120, 121, 122]⟩ : ByteArray).extract 2 3 = ⟨(W ++ [32, 122]).toArray⟩ := by rw [xyz2]; exact cat3 W 32 122
            have hWl : W.length ≤ 6 := word_len HW.out
            have hWe : W.isEmpty = false := by cases W with
              | nil => exact absurd rfl hE
              | cons _ _ => rfl
            cases hp : preB r (W ++ [32, 122])
            · have hN2 := Lib.hid (no_succ HLOW.out HLT.out (show 2 < 3 by omega) HW.out HN2.out hp)
              have HTK := Lib.hid (take_no k r (W ++ [32, 122]) (wo.iter ⟨#[120, 121, 122]⟩ 3) (HXo.out _) hp)
              clear hp
              go_wp2_with fail
              refine HTK.out.mono ?_
              rintro e w5 ⟨rfl, rfl⟩
              go_wp2
              go_roundw
              case rel => exact ⟨3, by omega, rfl, hN2.out⟩
              case measure => simp
            · have HH := Lib.hid (head_hit HLOW.out HLT.out (show 2 < 3 by omega) HW.out HN2.out hp)
              have HTK := Lib.hid (take_yes k r (W ++ [32, 122]) (wo.iter ⟨#[120, 121, 122]⟩ 3) (HXo.out _) hp)
              have HSET := Lib.hid ((HXo.out 3).set (r.drop (W ++ [32, 122]).length))
              have HG := Lib.hid (Lib.grownBy_setB (Lib.grownBy_below (World.grownBy.refl w (some k)) (HBi.out 3)) 0 (.string ⟨(r.drop (W ++ [32, 122]).length).toArray⟩) : w.grownBy _ (some k))
              clear hp
              go_wp2_with fail
              refine HTK.out.mono ?_
              rintro e w5 ⟨rfl, hw5⟩
              rw [← hw5] at HSET HG
              have HB5 := Lib.hid ((HBXi.out 3).grown (Lib.grownBy_setCell _ k 0 (.string ⟨(r.drop (W ++ [32, 122]).length).toArray⟩)) (by omega))
              rw [← hw5] at HB5
              clear hw5
              obtain ⟨f0, f1, f2, f3, f4, f5, f6⟩ := HB5.out.c
              obtain ⟨z0, z1, z2, z3, z4, z5, z6⟩ := HB5.out.f
              have hl5 := HB5.out.lt
              clear f0 f1 f2 f3 f4 f5 f6 z0 z1 z2 z3 z4 z5 z6
              go_wp2_with ((with_reducible refine at_store7 ?_); refine wpList_store7 (.mk (m : Int) 2 0 0 0 0 none 0 []) _ _ HB5.out rfl rfl rfl rfl ?_)
              obtain ⟨y0, y1, y2, y3, y4, y5, y6⟩ := (HB5.out.put (.mk (m : Int) 2 0 0 0 0 none 0 [])).c
              refine bodyPost_ret (v := .tuple #[valB (.mk (m : Int) 2 0 0 0 0 none 0 []), .bool true]) (by simp [results, Tryd.results90, go_sem, y0, y1, y2, y3, y4, y5, y6]) rfl ?_
              refine ⟨grown_then HG.out (putB_grown w5 w.heap.size _) (Nat.le_refl _), ?_⟩
              rw [HH.out]
              exact ⟨rfl, HSET.out.putB (by omega)⟩
        · have hnx : ∀ ty, (Instr.next (.pointer (some ⟨wo.heap.size, 0, none⟩)) true ty).run Tryd.prog (wo.iter ⟨#[120, 121, 122]⟩ 3) = .ok (.tuple #[.bool false]) (wo.iter ⟨#[120, 121, 122]⟩ 3) := next3 wo
          have HN3 := Lib.hid HN2.out
          rw [← jj_next HLT.out] at HN3
          have HB6 := Lib.hid (hB.alloc hB.size (.stringIter ⟨#[120, 121, 122]⟩ 3))
          go_wp2
          go_roundw
          case rel => exact ⟨m + 1, by have := HLT.out; omega, by go_num, HN3.out, HB6.out⟩
          case measure => simp [intOf]; omega
    · obtain rfl : m = 7 := by omega
      have hm7 := head_miss HN.out
      have HX7 := Lib.hid (HX.out.below hBw hk)
      have HG7 := Lib.hid (Lib.grownBy_below (World.grownBy.refl w (some k)) hBw)
      have HB7 := Lib.hid (HBX.out wo hB)
      obtain ⟨c0, c1⟩ := HX7.out.c
      have hl7 := HB7.out.lt
      have hk7 : k < wo.heap.size := by omega
      cases r with
      | nil =>
        have HM := Lib.hid hm7
        clear hm7
        go_wp2_with ((with_reducible refine at_store7 ?_); refine wpList_store7 zeroB _ _ HB7.out rfl rfl rfl rfl ?_)
        obtain ⟨y0, y1, y2, y3, y4, y5, y6⟩ := (HB7.out.put zeroB).c
        refine bodyPost_ret (v := .tuple #[valB zeroB, .bool false]) (by simp [results, Tryd.results90, go_sem, y0, y1, y2, y3, y4, y5, y6]) rfl ?_
        refine ⟨grown_then HG7.out (putB_grown wo w.heap.size _) (Nat.le_refl _), ?_⟩
        rw [HM.out]
        exact ⟨_, rfl, HX7.out.putB (by omega)⟩
      | cons c l =>
        have hidx : ∀ h, (⟨(c :: l).toArray⟩ : ByteArray)[0]'h = c := fun h => rfl
        have heq : ∀ w, (binOp .eql 9 (.string ⟨(c :: l).toArray⟩) (.string ⟨#[]⟩)).run Tryd.prog w = .ok (.bool false) w := eq_empty (by simp)
        by_cases hc : 97 ≤ c.toNat ∧ c.toNat ≤ 105
        · have HM := Lib.hid (hm7.trans (if_pos hc))
          have hlt1 : ((c.toNat : Int) < 97) = False := by simp; omega
          have hlt2 : ((105 : Int) < c.toNat) = False := by simp; omega
          clear hm7 hc
          have hx1 : (⟨(c :: l).toArray⟩ : ByteArray).extract 1 (l.length + 1) = ⟨l.toArray⟩ := by rw [ext_list]; simp
          obtain ⟨ws, hws⟩ : ∃ ws, wo.setCell ⟨k, 0, none⟩ (.string ⟨l.toArray⟩) = ws := ⟨_, rfl⟩
          have hx7 := HX7.out.set l
          have hb7 := HB7.out.grown (Lib.grownBy_setCell wo k 0 (.string ⟨l.toArray⟩)) (by omega)
          have hg7 := Lib.grownBy_setB HG7.out 0 (.string ⟨l.toArray⟩)
          rw [hws] at hx7 hb7 hg7
          have hbs : Below ws.heap.size ws (ws.alloc (.cells #[.int .i64 1, .int .i64 0, .int .u8 (c.toNat : Int), .int .i64 0, .int .i64 0, .int .i64 0, .slice none 0 0] 25)) := by (repeat (first | exact Below.refl _ _ | assumption | refine Below.alloc ?_ (by first | exact Nat.le_refl _ | exact Below.size (by assumption) | omega | (simp <;> omega)) _ | refine Below.setCell ?_ (by first | exact Nat.le_refl _ | exact Below.size (by assumption) | omega | (simp <;> omega)) _ | refine below_drewN ?_ _ | refine Below.drew ?_))
          have HSET := Lib.hid (hx7.below hbs hx7.lt)
          have HBZ := Lib.hid (hb7.below hbs hb7.lt)
          have HGZ := Lib.hid (Lib.grownBy_below hg7 hbs)
          rw [← hws] at HSET HBZ HGZ
          clear hx7 hb7 hg7 hbs hws
          go_wp2_with ((with_reducible refine at_store7 ?_); refine wpList_store7 (.mk 1 0 (c.toNat : Int) 0 0 0 none 0 []) _ _ HBZ.out rfl rfl rfl rfl ?_)
          obtain ⟨y0, y1, y2, y3, y4, y5, y6⟩ := (HBZ.out.put (.mk 1 0 (c.toNat : Int) 0 0 0 none 0 [])).c
          refine bodyPost_ret (v := .tuple #[valB (.mk 1 0 (c.toNat : Int) 0 0 0 none 0 []), .bool true]) (by simp [results, Tryd.results90, go_sem, y0, y1, y2, y3, y4, y5, y6]) rfl ?_
          refine ⟨grown_then HGZ.out (putB_grown _ w.heap.size _) (Nat.le_refl _), ?_⟩
          rw [HM.out]
          exact ⟨rfl, HSET.out.putB (by omega)⟩
        · have HM := Lib.hid (hm7.trans (if_neg hc))
          have hcc : c.toNat < 97 ∨ (97 ≤ c.toNat ∧ 105 < c.toNat) := by omega
          clear hm7 hc
          rcases hcc with hcc | ⟨hcc, hcd⟩
          · have hltI : (c.toNat : Int) < 97 := by omega
            go_wp2_with ((with_reducible refine at_store7 ?_); refine wpList_store7 zeroB _ _ HB7.out rfl rfl rfl rfl ?_)
            obtain ⟨y0, y1, y2, y3, y4, y5, y6⟩ := (HB7.out.put zeroB).c
            refine bodyPost_ret (v := .tuple #[valB zeroB, .bool false]) (by simp [results, Tryd.results90, go_sem, y0, y1, y2, y3, y4, y5, y6]) rfl ?_
            refine ⟨grown_then HG7.out (putB_grown wo w.heap.size _) (Nat.le_refl _), ?_⟩
            rw [HM.out]
            exact ⟨_, rfl, HX7.out.putB (by omega)⟩
          · have hltI : ¬ (c.toNat : Int) < 97 := by omega
            have hltJ : (105 : Int) < c.toNat := by omega
            go_wp2_with ((with_reducible refine at_store7 ?_); refine wpList_store7 zeroB _ _ HB7.out rfl rfl rfl rfl ?_)
            obtain ⟨y0, y1, y2, y3, y4, y5, y6⟩ := (HB7.out.put zeroB).c
            refine bodyPost_ret (v := .tuple #[valB zeroB, .bool false]) (by simp [results, Tryd.results90, go_sem, y0, y1, y2, y3, y4, y5, y6]) rfl ?_
            refine ⟨grown_then HG7.out (putB_grown wo w.heap.size _) (Nat.le_refl _), ?_⟩
            rw [HM.out]
            exact ⟨_, rfl, HX7.out.putB (by omega)⟩
end Go.Proofs.YtbcnkcndhgihaaaDoor

namespace Go.Proofs.YtbcnkcndhgihaaaDoor
open Go.RowKit Go.Shelf
set_option linter.unusedSimpArgs false

theorem nums_snoc : ∀ (j : Nat) (r r1 r2 : Bs) (l : List Int) (n : Int), numsS j r = some (l, r1) → numS r1 = some (n, r2) → numsS (j + 1) r = some (l ++ [n], r2)
  | 0, r, r1, r2, l, n, h, hn => by
    unfold numsS at h
    injection h with h
    injection h with h1 h2
    subst h1 h2
    unfold numsS
    rw [hn]
    rfl
  | j + 1, r, r1, r2, l, n, h, hn => by
    unfold numsS at h
    cases hm : numS r with
    | none => rw [hm] at h; cases h
    | some p =>
      obtain ⟨m, q⟩ := p
      rw [hm] at h
      simp only at h
      cases hk : numsS j q with
      | none => rw [hk] at h; cases h
      | some p2 =>
        obtain ⟨l2, q2⟩ := p2
        rw [hk] at h
        injection h with h
        injection h with h1 h2
        subst h1 h2
        have := nums_snoc j q q2 r2 l2 n hk hn
        unfold numsS
        rw [hm]
        simp only
        rw [this]
        rfl
theorem nums_stop : ∀ (j m : Nat) (r r1 : Bs) (l : List Int), j < m → numsS j r = some (l, r1) → numS r1 = none → numsS m r = none
  | 0, m + 1, r, r1, l, _, h, hn => by
    unfold numsS at h
    injection h with h
    injection h with h1 h2
    subst h1 h2
    unfold numsS
    rw [hn]
  | j + 1, m + 1, r, r1, l, hj, h, hn => by
    unfold numsS at h
    unfold numsS
    cases hm : numS r with
    | none => rfl
    | some p =>
      obtain ⟨m2, q⟩ := p
      rw [hm] at h
      simp only at h
      cases hk : numsS j q with
      | none => rw [hk] at h; cases h
      | some p2 =>
        obtain ⟨l2, q2⟩ := p2
        rw [hk] at h
        injection h with h
        injection h with h1 h2
        subst h1 h2
        have := nums_stop j m q q2 l2 (by omega) hk hn
        simp only
        rw [this]
theorem nums_len : ∀ (j : Nat) (r r1 : Bs) (l : List Int), numsS j r = some (l, r1) → l.length = j ∧ r1.length ≤ r.length
  | 0, r, r1, l, h => by
    unfold numsS at h
    injection h with h
    injection h with h1 h2
    subst h1 h2
    exact ⟨rfl, Nat.le_refl _⟩
  | j + 1, r, r1, l, h => by
    unfold numsS at h
    cases hm : numS r with
    | none => rw [hm] at h; cases h
    | some p =>
      obtain ⟨m2, q⟩ := p
      rw [hm] at h
      simp only at h
      cases hk : numsS j q with
      | none => rw [hk] at h; cases h
      | some p2 =>
        obtain ⟨l2, q2⟩ := p2
        rw [hk] at h
        injection h with h
        injection h with h1 h2
        subst h1 h2
        have h3 := nums_len j q q2 l2 hk
        have h4 := num_len hm
        exact ⟨by rw [List.length_cons, h3.1], by omega⟩
theorem valD_bd {l : Bs} (h : ∀ c ∈ l, digB c = true) (hl : l.length ≤ 3) : 0 ≤ valD l ∧ valD l ≤ 999 := by
  have hb : ∀ c ∈ l, 48 ≤ c.toNat ∧ c.toNat ≤ 57 := fun c hc => by
    have := h c hc
    unfold digB at this
    simpa using this
  match l, hl with
  | [], _ => decide
  | [a], _ => have := hb a (by simp); unfold valD; simp; omega
  | [a, b], _ => have := hb a (by simp); have := hb b (by simp); unfold valD; simp; omega
  | [a, b, c], _ => have := hb a (by simp); have := hb b (by simp); have := hb c (by simp); unfold valD; simp; omega
theorem num_bd {r q : Bs} {n : Int} (h : numS r = some (n, q)) : 0 ≤ n ∧ n ≤ 999 := by
  unfold numS at h
  cases ht : takeS [32] r with
  | none => rw [ht] at h; cases h
  | some r2 =>
    rw [ht] at h
    simp only at h
    unfold num1S at h
    split at h
    · cases h
    · rename_i hc
      injection h with h
      injection h with h1 _
      subst h1
      exact valD_bd (dig_all r2) (by omega)
theorem nums_bd : ∀ (j : Nat) (r r1 : Bs) (l : List Int), numsS j r = some (l, r1) → ∀ n ∈ l, 0 ≤ n ∧ n ≤ 999
  | 0, r, r1, l, h => by
    unfold numsS at h
    injection h with h
    injection h with h1 h2
    subst h1
    intro n hn; simp at hn
  | j + 1, r, r1, l, h => by
    unfold numsS at h
    cases hm : numS r with
    | none => rw [hm] at h; cases h
    | some p =>
      obtain ⟨m2, q⟩ := p
      rw [hm] at h
      simp only at h
      cases hk : numsS j q with
      | none => rw [hk] at h; cases h
      | some p2 =>
        obtain ⟨l2, q2⟩ := p2
        rw [hk] at h
        injection h with h
        injection h with h1 h2
        subst h1
        intro n hn
        rcases List.mem_cons.1 hn with rfl | hn
        · exact num_bd hm
        · exact nums_bd j q q2 l2 hk n hn
theorem nth_bd {l : List Int} (h : ∀ n ∈ l, 0 ≤ n ∧ n ≤ 999) (k : Nat) : 0 ≤ nth l k ∧ nth l k ≤ 999 := by
  unfold nth
  rw [List.getD_eq_getElem?_getD]
  cases hk : l[k]? with
  | none => simp
  | some n => exact h n (List.mem_of_getElem? hk)
theorem head_op {r q : Bs} {op ax co : Int} (h : headS r = some (op, ax, co, q)) : (op = 1 ∨ op = 2 ∨ op = 3 ∨ op = 4 ∨ op = 5 ∨ op = 6) ∧ (0 ≤ ax ∧ ax ≤ 2) ∧ 0 ≤ co ∧ co ≤ 255 := by
  unfold headS at h
  split at h
  · rename_i x hx
    have hm := List.mem_of_find?_eq_some hx
    have : ∀ y ∈ headsS, (y.1 = 2 ∨ y.1 = 3 ∨ y.1 = 4 ∨ y.1 = 5 ∨ y.1 = 6) ∧ 0 ≤ y.2.1 ∧ y.2.1 ≤ 2 := by decide
    have := this x hm
    injection h with h
    injection h with h1 h
    injection h with h2 h
    injection h with h3 h
    subst h1 h2 h3
    omega
  · split at h
    · cases h
    · rename_i c l _
      split at h
      · injection h with h
        injection h with h1 h
        injection h with h2 h
        injection h with h3 h
        subst h1 h2 h3
        have := c.toNat_lt
        omega
      · cases h
end Go.Proofs.YtbcnkcndhgihaaaDoor

namespace Go.Proofs.YtbcnkcndhgihaaaDoor
open Go.RowKit Go.Shelf
set_option linter.unusedSimpArgs false

theorem partsR_snoc (rec : Bs → Option (BT × Bs)) (t : Bs) : ∀ (ts : List Bs) (r q q1 q2 : Bs) (l : List BT) (p : BT), partsR rec ts r = some (l, q) → takeS t q = some q1 → rec q1 = some (p, q2) → partsR rec (ts ++ [t]) r = some (l ++ [p], q2)
  | [], r, q, q1, q2, l, p, h, ht, hr => by
    unfold partsR at h
    injection h with h
    injection h with h1 h2
    subst h1 h2
    rw [List.nil_append, List.nil_append]
    unfold partsR
    rw [ht]
    simp only
    rw [hr]
    rfl
  | s :: ts, r, q, q1, q2, l, p, h, ht, hr => by
    rw [List.cons_append]
    unfold partsR at h ⊢
    cases hs : takeS s r with
    | none => rw [hs] at h; cases h
    | some r1 =>
      rw [hs] at h
      simp only at h ⊢
      cases hc : rec r1 with
      | none => rw [hc] at h; cases h
      | some x =>
        obtain ⟨a, r2⟩ := x
        rw [hc] at h
        simp only at h ⊢
        cases hp : partsR rec ts r2 with
        | none => rw [hp] at h; cases h
        | some y =>
          obtain ⟨l2, r3⟩ := y
          rw [hp] at h
          injection h with h
          injection h with h1 h2
          subst h1 h2
          rw [partsR_snoc rec t ts r2 r3 q1 q2 l2 p hp ht hr]
          rfl
theorem partsR_stop (rec : Bs → Option (BT × Bs)) (t : Bs) : ∀ (ts us : List Bs) (r q : Bs) (l : List BT), partsR rec ts r = some (l, q) → (takeS t q = none ∨ ∃ q1, takeS t q = some q1 ∧ rec q1 = none) → partsR rec (ts ++ t :: us) r = none
  | [], us, r, q, l, h, ht => by
    unfold partsR at h
    injection h with h
    injection h with h1 h2
    subst h1 h2
    rw [List.nil_append]
    unfold partsR
    rcases ht with ht | ⟨q1, ht, hr⟩
    · rw [ht]
    · rw [ht]
      simp only
      rw [hr]
  | s :: ts, us, r, q, l, h, ht => by
    rw [List.cons_append]
    unfold partsR at h ⊢
    cases hs : takeS s r with
    | none => rfl
    | some r1 =>
      rw [hs] at h
      simp only at h ⊢
      cases hc : rec r1 with
      | none => rfl
      | some x =>
        obtain ⟨a, r2⟩ := x
        rw [hc] at h
        simp only at h ⊢
        cases hp : partsR rec ts r2 with
        | none => rw [hp] at h; cases h
        | some y =>
          obtain ⟨l2, r3⟩ := y
          rw [hp] at h
          injection h with h
          injection h with h1 h2
          subst h1 h2
          rw [partsR_stop rec t ts us r2 r3 l2 hp ht]
theorem partsR_len (rec : Bs → Option (BT × Bs)) (hrec : ∀ r p q, rec r = some (p, q) → q.length ≤ r.length) : ∀ (ts : List Bs) (r q : Bs) (l : List BT), partsR rec ts r = some (l, q) → q.length ≤ r.length ∧ l.length = ts.length
  | [], r, q, l, h => by
    unfold partsR at h
    injection h with h
    injection h with h1 h2
    subst h1 h2
    exact ⟨Nat.le_refl _, rfl⟩
  | s :: ts, r, q, l, h => by
    unfold partsR at h
    cases hs : takeS s r with
    | none => rw [hs] at h; cases h
    | some r1 =>
      rw [hs] at h
      simp only at h
      cases hc : rec r1 with
      | none => rw [hc] at h; cases h
      | some x =>
        obtain ⟨a, r2⟩ := x
        rw [hc] at h
        simp only at h
        cases hp : partsR rec ts r2 with
        | none => rw [hp] at h; cases h
        | some y =>
          obtain ⟨l2, r3⟩ := y
          rw [hp] at h
          injection h with h
          injection h with h1 h2
          subst h1 h2
          have h3 := partsR_len rec hrec ts r2 r3 l2 hp
          have h4 := hrec _ _ _ hc
          have h5 := (take_len hs).1
          exact ⟨by omega, by rw [List.length_cons, List.length_cons, h3.2]⟩
theorem rec_len : ∀ (f : Nat) (r : Bs) (p : BT) (q : Bs), recS f r = some (p, q) → q.length ≤ r.length
  | 0, r, p, q, h => by unfold recS at h; cases h
  | f + 1, r, p, q, h => by
    unfold recS at h
    cases hh : headS r with
    | none => rw [hh] at h; cases h
    | some x =>
      obtain ⟨op, ax, co, r1⟩ := x
      rw [hh] at h
      simp only at h
      cases hn : numsS (nnum op) r1 with
      | none => rw [hn] at h; cases h
      | some y =>
        obtain ⟨l, r2⟩ := y
        rw [hn] at h
        simp only at h
        cases hp : partsR (recS f) (seps op) r2 with
        | none => rw [hp] at h; cases h
        | some z =>
          obtain ⟨ps, r3⟩ := z
          rw [hp] at h
          simp only at h
          have h1 := head_len hh
          have h2 := (nums_len _ _ _ _ hn).2
          have h3 := (partsR_len (recS f) (rec_len f) _ _ _ _ hp).1
          split at h
          · cases h
          · rename_i r4 h4
            injection h with h
            injection h with _ h
            subst h
            split at h4
            · injection h4 with h4
              subst h4
              omega
            · have := (take_len h4).1
              omega
/-- What recipe returns. -/
def RecR (k f : Nat) (r : Bs) (w : World) (e : Ending) (w' : World) : Prop := w.grownBy w' (some k) ∧ match recS f r with
  | none => (∃ v q, e = .returned (.tuple #[valB v, .bool false]) ∧ RdrX w' k q)
  | some (t, q) => ∃ b, strip b = t ∧ e = .returned (.tuple #[valB b, .bool true]) ∧ RdrX w' k q ∧ OkI w' (fun i => w.heap.size ≤ i ∧ i < w'.heap.size) b
theorem BX.setN0 {w : World} {k : Nat} {b : BT} (h : BX w k b) (v : Int) : BX (w.setCell ⟨k, 3, none⟩ (.int .i64 v)) k (.mk b.op b.ax b.co v b.n1 b.n2 b.A b.cp b.ps) := by
  unfold BX at h ⊢
  simp [World.setCell, Array.getElem?_modify, h, BT.op, BT.ax, BT.co, BT.n0, BT.n1, BT.n2, BT.A, BT.cp, BT.ps]
theorem BX.setN1 {w : World} {k : Nat} {b : BT} (h : BX w k b) (v : Int) : BX (w.setCell ⟨k, 4, none⟩ (.int .i64 v)) k (.mk b.op b.ax b.co b.n0 v b.n2 b.A b.cp b.ps) := by
  unfold BX at h ⊢
  simp [World.setCell, Array.getElem?_modify, h, BT.op, BT.ax, BT.co, BT.n0, BT.n1, BT.n2, BT.A, BT.cp, BT.ps]
theorem BX.setN2 {w : World} {k : Nat} {b : BT} (h : BX w k b) (v : Int) : BX (w.setCell ⟨k, 5, none⟩ (.int .i64 v)) k (.mk b.op b.ax b.co b.n0 b.n1 v b.A b.cp b.ps) := by
  unfold BX at h ⊢
  simp [World.setCell, Array.getElem?_modify, h, BT.op, BT.ax, BT.co, BT.n0, BT.n1, BT.n2, BT.A, BT.cp, BT.ps]
theorem BX.setP {w : World} {k : Nat} {b : BT} (h : BX w k b) (A : Option Addr) (c : Nat) (l : List BT) : BX (w.setCell ⟨k, 6, none⟩ (.slice A l.length c)) k (.mk b.op b.ax b.co b.n0 b.n1 b.n2 A c l) := by
  unfold BX at h ⊢
  simp [World.setCell, Array.getElem?_modify, h, BT.op, BT.ax, BT.co, BT.n0, BT.n1, BT.n2, BT.A, BT.cp, BT.ps]
theorem RdrX.grown {w w' : World} {k j : Nat} {r : Bs} (h : RdrX w k r) (hg : w.grownBy w' (some j)) (hne : k ≠ j) : RdrX w' k r := (hg.block k h.lt (by simpa using hne)).trans h
theorem grownBy_first {w w' : World} {o : Obj} {row : Option Nat} (h : (w.alloc o).grownBy w' row) : w.grownBy w' row := Lib.grownBy_trans (Lib.grownBy_allocR (World.grownBy.refl w row) o) h
theorem OkI.grown {w w' : World} {I I' : Nat → Prop} {row : Option Nat} {b : BT} (h : OkI w I b) (hg : w.grownBy w' row) (hI : ∀ i, I i → I' i) (hne : ∀ i, I i → some i ≠ row) : OkI w' I' b :=
  h.keep hI fun i _ _ hi hc => hg.cell hc (hne i hi)
theorem len_two {l : List Int} (h : l.length = 2) : ∃ a b, l = [a, b] := by
  match l, h with
  | [a, b], _ => exact ⟨a, b, rfl⟩
theorem seps_len {op : Int} (h : op = 1 ∨ op = 2 ∨ op = 3 ∨ op = 4 ∨ op = 5 ∨ op = 6) : partsS op = ((seps op).length : Int) := by
  rcases h with rfl | rfl | rfl | rfl | rfl | rfl <;> rfl
theorem seps_two (op : Int) : seps op = [] ∨ seps op = [[32, 40]] ∨ seps op = [[32, 40], [44, 32]] := by
  unfold seps
  split
  · exact .inr (.inr rfl)
  · split
    · exact .inl rfl
    · exact .inr (.inl rfl)
theorem two_len {S : List Bs} (h : S = [] ∨ S = [[32, 40]] ∨ S = [[32, 40], [44, 32]]) : S.length ≤ 2 := by
  rcases h with rfl | rfl | rfl <;> decide
theorem sep_at0 {S : List Bs} (h : S = [] ∨ S = [[32, 40]] ∨ S = [[32, 40], [44, 32]]) (hl : 0 < S.length) : S[0]? = some [32, 40] := by
  rcases h with rfl | rfl | rfl
  · simp at hl
  · rfl
  · rfl
theorem sep_at1 {S : List Bs} (h : S = [] ∨ S = [[32, 40]] ∨ S = [[32, 40], [44, 32]]) (hl : 1 < S.length) : S[1]? = some [44, 32] := by
  rcases h with rfl | rfl | rfl
  · simp at hl
  · simp at hl
  · rfl
theorem sep_split {S : List Bs} {t : Bs} {j : Nat} (h : S[j]? = some t) : S = S.take j ++ t :: S.drop (j + 1) := by
  obtain ⟨hj, ht⟩ := List.getElem?_eq_some_iff.1 h
  rw [← ht, List.getElem_cons_drop, List.take_append_drop]
theorem own_far {w w' : World} {B e size n k : Nat} {v : Value} {xs : List Value} (h : w.ownsRow B e size v n xs) (hg : w.grownBy w' (some k)) (hk : k < B) : w'.ownsRow B e size v n xs := by
  refine ⟨h.1, ?_⟩
  rcases h.2 with hn | ⟨g, cap, cur, rfl, hb, hgg, rest⟩
  · exact .inl hn
  · exact .inr ⟨g, cap, cur, rfl, hb, by rw [hg.block g (Array.getElem?_eq_some_iff.1 hgg).1 (fun e => by injection e with e; omega)]; exact hgg, rest⟩
theorem BX.grownR {w w' : World} {k : Nat} {row : Option Nat} {b : BT} (h : BX w k b) (hg : w.grownBy w' row) (hne : some k ≠ row) : BX w' k b := (hg.block k h.lt hne).trans h
theorem RdrX.grownR {w w' : World} {k : Nat} {row : Option Nat} {r : Bs} (h : RdrX w k r) (hg : w.grownBy w' row) (hne : some k ≠ row) : RdrX w' k r := (hg.block k h.lt hne).trans h
theorem OkI.grownR {w w' : World} {I : Nat → Prop} {row : Option Nat} {b : BT} (h : OkI w I b) (hg : w.grownBy w' row) (hne : ∀ i, I i → some i ≠ row) : OkI w' I b := h.grown hg (fun _ h => h) hne
theorem own_row {w : World} {B e size n i : Nat} {v : Value} {xs : List Value} (h : w.ownsRow B e size v n xs) (hi : i < B) : some i ≠ v.ownBlock := by
  intro e
  have := (h.lt i e.symm).1
  omega
theorem own_ne {A : Option Addr} {n c i : Nat} (h : ∀ a, A = some a → i ≠ a.block) : some i ≠ (Value.slice A n c).ownBlock := by
  cases A with
  | none => intro e; cases e
  | some a => intro e; injection e with e; exact h a rfl e
theorem grown_row {a b c : World} {k : Nat} {row : Option Nat} (h : a.grownBy b (some k)) (h2 : b.grownBy c row) (hr : ∀ j, row = some j → a.heap.size ≤ j) : a.grownBy c (some k) :=
  ⟨h2.os.trans h.os, h2.tape.trans h.tape, h2.output.trans h.output, Nat.le_trans h.size h2.size, fun i hi hne => (h2.block i (Nat.lt_of_lt_of_le hi h.size) (fun e => by have := hr i e.symm; omega)).trans (h.block i hi hne)⟩
end Go.Proofs.YtbcnkcndhgihaaaDoor

namespace Go.Proofs.YtbcnkcndhgihaaaDoor
open Go.RowKit Go.Shelf
set_option linter.unusedSimpArgs false

def chain7 (w : World) (k : Nat) (b : BT) : World := ((((((w.setCell ⟨k, 0, none⟩ (.int .i64 b.op)).setCell ⟨k, 1, none⟩ (.int .i64 b.ax)).setCell ⟨k, 2, none⟩ (.int .u8 b.co)).setCell ⟨k, 3, none⟩ (.int .i64 b.n0)).setCell ⟨k, 4, none⟩ (.int .i64 b.n1)).setCell ⟨k, 5, none⟩ (.int .i64 b.n2)).setCell ⟨k, 6, none⟩ (.slice b.A b.ps.length b.cp)
theorem BX.chain {w : World} {k : Nat} {b : BT} (h : BX w k b) (q : BT) : BX (chain7 w k q) k q := by
  unfold BX at h ⊢
  unfold chain7
  simp [World.setCell, Array.getElem?_modify, h]
theorem chain_grown (w : World) (k : Nat) (b : BT) : w.grownBy (chain7 w k b) (some k) := by
  unfold chain7
  exact Lib.grownBy_setB (Lib.grownBy_setB (Lib.grownBy_setB (Lib.grownBy_setB (Lib.grownBy_setB (Lib.grownBy_setB (Lib.grownBy_setCell w k 0 _) 1 _) 2 _) 3 _) 4 _) 5 _) 6 _
theorem own_cap {w : World} {B e size n c : Nat} {A : Option Addr} {xs : List Value} (h : w.ownsRow B e size (.slice A n c) n xs) : c ≤ maxLen := by
  rcases h.2 with ⟨e, _⟩ | ⟨g, cap, cur, e, _, _, _, hm, _⟩
  · injection e with _ _ e; omega
  · injection e with _ _ e; omega
theorem okb_fin {w wr wF : World} {P : Nat} {op ax co n0 n1 n2 : Int} {A : Option Addr} {cp : Nat} {ps : List BT} {J : Nat → Prop} (hown : OwnSB wr (P + 1) (.slice A ps.length cp) ps) (hkid : ∀ p ∈ ps, OkI wr (fun i => P + 1 ≤ i ∧ i < wr.heap.size ∧ J i) p)
    (hs : wr.heap.size ≤ wF.heap.size) (hk : ∀ b off v, P + 1 ≤ b → b < wr.heap.size → wr.cell? ⟨b, off, none⟩ = some v → wF.cell? ⟨b, off, none⟩ = some v) (hw : w.heap.size ≤ P)
    (ho : op = 1 ∨ op = 2 ∨ op = 3 ∨ op = 4 ∨ op = 5 ∨ op = 6) (ha : 0 ≤ ax ∧ ax ≤ 2) (hc : 0 ≤ co ∧ co ≤ 255) (h0 : 0 ≤ n0 ∧ n0 ≤ 999) (h1 : 0 ≤ n1 ∧ n1 ≤ 999) (h2 : 0 ≤ n2 ∧ n2 ≤ 999) :
    OkI wF (fun i => w.heap.size ≤ i ∧ i < wF.heap.size) (.mk op ax co n0 n1 n2 A cp ps) := by
  have hcap := own_cap hown
  obtain ⟨A', c', e, hr, hl, hb, hz⟩ := own_rdSB hown
  injection e with e1 _ e3
  subst e1 e3
  refine .mk _ ?_ (fun p hp => (hkid p hp).keep (fun i h => ⟨by omega, by omega⟩) fun b off v hi hcv => hk b off v hi.1 hi.2.1 hcv) hl hcap hz ?_ ?_ hc ?_ ?_ ?_
  · intro i p hp
    obtain ⟨b, off, hA, hbl, c0, c1, c2, c3, c4, c5, c6⟩ := hr i p hp
    have hbb := hb _ hA
    dsimp only at hbb
    refine ⟨b, off, hA, ⟨by omega, by omega⟩, fun j v hj => hk b _ v hbb hbl ?_⟩
    match j, hj with
    | 0, hj => injection hj with hj; subst hj; exact c0
    | 1, hj => injection hj with hj; subst hj; exact c1
    | 2, hj => injection hj with hj; subst hj; exact c2
    | 3, hj => injection hj with hj; subst hj; exact c3
    | 4, hj => injection hj with hj; subst hj; exact c4
    | 5, hj => injection hj with hj; subst hj; exact c5
    | 6, hj => injection hj with hj; subst hj; exact c6
    | j + 7, hj => simp [BT.cl] at hj
  · show -9223372036854775808 ≤ op ∧ op ≤ 9223372036854775807
    omega
  · show -9223372036854775808 ≤ ax ∧ ax ≤ 9223372036854775807
    omega
  · show -9223372036854775808 ≤ n0 ∧ n0 ≤ 9223372036854775807
    omega
  · show -9223372036854775808 ≤ n1 ∧ n1 ≤ 9223372036854775807
    omega
  · show -9223372036854775808 ≤ n2 ∧ n2 ≤ 9223372036854775807
    omega
theorem strip_mk (op ax co n0 n1 n2 : Int) (A : Option Addr) (cp : Nat) (ps : List BT) : strip (.mk op ax co n0 n1 n2 A cp ps) = .mk op ax co n0 n1 n2 none 0 (ps.map strip) := by
  rw [← stripL_eq]; rfl
end Go.Proofs.YtbcnkcndhgihaaaDoor

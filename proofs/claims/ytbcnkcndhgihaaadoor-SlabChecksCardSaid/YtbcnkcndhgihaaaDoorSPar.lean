/- Blocks: the text of a recipe: the reader in plain functions. -/
import Derived.Test.YtbcnkcndhgihaaaDoorS1
namespace Go.Proofs.YtbcnkcndhgihaaaDoor
open Go.RowKit

abbrev Bs := List UInt8
mutual
/-- A recipe without places. -/
def strip : BT → BT
  | .mk op ax co n0 n1 n2 _ _ ps => .mk op ax co n0 n1 n2 none 0 (stripL ps)
def stripL : List BT → List BT
  | [] => []
  | p :: ps => strip p :: stripL ps
end
theorem stripL_eq (l : List BT) : stripL l = l.map strip := by
  induction l with
  | nil => rfl
  | cons p l ih => rw [List.map_cons, ← ih]; rfl
theorem strip_op (b : BT) : (strip b).op = b.op := by cases b; rfl
theorem strip_ax (b : BT) : (strip b).ax = b.ax := by cases b; rfl
theorem strip_co (b : BT) : (strip b).co = b.co := by cases b; rfl
theorem strip_n0 (b : BT) : (strip b).n0 = b.n0 := by cases b; rfl
theorem strip_n1 (b : BT) : (strip b).n1 = b.n1 := by cases b; rfl
theorem strip_n2 (b : BT) : (strip b).n2 = b.n2 := by cases b; rfl
theorem strip_ps (b : BT) : (strip b).ps = b.ps.map strip := by
  cases b with
  | mk op ax co n0 n1 n2 A cp ps => exact stripL_eq ps
theorem deep_strip : ∀ (k : Nat) (b : BT), deepS k (strip b) = deepS k b
  | 0, b => rfl
  | k + 1, b => by
    unfold deepS
    rw [strip_ps, List.any_map]
    congr 1
    funext p
    exact deep_strip k p
theorem one_strip (b : BT) : oneS (strip b) = oneS b := by
  unfold oneS fieldsS
  rw [strip_op, strip_ax, strip_co, strip_n0, strip_n1, strip_n2, strip_ps, List.length_map]
theorem all_strip {f : BT → Bool} (l : List BT) (h : ∀ p ∈ l, f (strip p) = f p) : (l.map strip).all f = l.all f := by
  induction l with
  | nil => rfl
  | cons p l ih => rw [List.map_cons, List.all_cons, List.all_cons, h p (by simp), ih fun q hq => h q (by simp [hq])]
theorem whole_strip : ∀ b : BT, wholeS (strip b) = wholeS b := by
  refine BT.ind ?_
  intro b ih
  rw [wholeS_eq, wholeS_eq b, one_strip, strip_ps, all_strip _ ih]
theorem join_strip (b : BT) (m : List Sh) : joinS (strip b) m = joinS b m := by
  unfold joinS
  rw [strip_op, strip_ax, strip_co, strip_n0, strip_n1, strip_n2]
theorem built_strip : ∀ b : BT, builtS (strip b) = builtS b := by
  refine BT.ind ?_
  intro b ih
  have h : ∀ l : List BT, (∀ p ∈ l, builtS (strip p) = builtS p) → builtL (l.map strip) = builtL l := by
    intro l
    induction l with
    | nil => intro _; rfl
    | cons p l ihl =>
      intro hl
      have e : ∀ (q : BT) (qs : List BT), builtL (q :: qs) = (match builtS q with | .error e => .error e | .ok s => match builtL qs with | .error e => .error e | .ok l => .ok (s :: l)) := fun q qs => rfl
      rw [List.map_cons, e, e, hl p (by simp), ihl fun q hq => hl q (by simp [hq])]
  rw [builtS_eq, builtS_eq b, strip_ps, h b.ps ih]
  cases builtL b.ps with
  | error e => rfl
  | ok m => exact join_strip b m
theorem form_strip (b : BT) : formS (strip b) = formS b := by
  unfold formS
  rw [deep_strip, whole_strip, built_strip]

/-- What stands in front of the numbers: the Op, the axis, the bytes. -/
def headsS : List (Int × Int × Bs) :=
  [(2, 0, [115, 116, 97, 99, 107, 32, 120]), (2, 1, [115, 116, 97, 99, 107, 32, 121]), (2, 2, [115, 116, 97, 99, 107, 32, 122]),
   (3, 0, [116, 117, 114, 110, 32, 120]), (3, 1, [116, 117, 114, 110, 32, 121]), (3, 2, [116, 117, 114, 110, 32, 122]),
   (4, 0, [115, 108, 105, 99, 101, 32, 120]), (4, 1, [115, 108, 105, 99, 101, 32, 121]), (4, 2, [115, 108, 105, 99, 101, 32, 122]),
   (5, 0, [102, 108, 105, 112, 32, 120]), (5, 1, [102, 108, 105, 112, 32, 121]), (5, 2, [102, 108, 105, 112, 32, 122]),
   (6, 0, [114, 101, 112, 101, 97, 116, 32, 120]), (6, 1, [114, 101, 112, 101, 97, 116, 32, 121]), (6, 2, [114, 101, 112, 101, 97, 116, 32, 122])]
def preB (r p : Bs) : Bool := p.isPrefixOf r
def headS (r : Bs) : Option (Int × Int × Int × Bs) :=
  match headsS.find? (fun h => preB r h.2.2) with
  | some h => some (h.1, h.2.1, 0, r.drop h.2.2.length)
  | none => match r with
    | [] => none
    | c :: l => if 97 ≤ c.toNat ∧ c.toNat ≤ 105 then some (1, 0, c.toNat, l) else none
def digB (c : UInt8) : Bool := decide (48 ≤ c.toNat) && decide (c.toNat ≤ 57)
def valD (l : Bs) : Int := l.foldl (fun n c => 10 * n + ((c.toNat : Int) - 48)) 0
def takeS (t r : Bs) : Option Bs := if preB r t then some (r.drop t.length) else none
def digitsS (r : Bs) : Bs := r.takeWhile digB
def num1S (r : Bs) : Option (Int × Bs) :=
  if (digitsS r).length < 1 ∨ 3 < (digitsS r).length ∨ (1 < (digitsS r).length ∧ (digitsS r).head? = some 48) then none
  else some (valD (digitsS r), r.drop (digitsS r).length)
def numS (r : Bs) : Option (Int × Bs) := match takeS [32] r with | none => none | some r1 => num1S r1
def numsS : Nat → Bs → Option (List Int × Bs)
  | 0, r => some ([], r)
  | k + 1, r => match numS r with
    | none => none
    | some (n, r1) => match numsS k r1 with
      | none => none
      | some (l, r2) => some (n :: l, r2)
def nnum (op : Int) : Nat := if op = 1 then 3 else if op = 4 then 2 else if op = 6 then 1 else 0
def seps (op : Int) : List Bs := if op = 2 then [[32, 40], [44, 32]] else if op = 1 then [] else [[32, 40]]
def partsR (rec : Bs → Option (BT × Bs)) : List Bs → Bs → Option (List BT × Bs)
  | [], r => some ([], r)
  | t :: ts, r => match takeS t r with
    | none => none
    | some r1 => match rec r1 with
      | none => none
      | some (p, r2) => match partsR rec ts r2 with
        | none => none
        | some (l, r3) => some (p :: l, r3)
def nth (l : List Int) (k : Nat) : Int := l.getD k 0
/-- A recipe is read: it, and what is behind it. -/
def recS : Nat → Bs → Option (BT × Bs)
  | 0, _ => none
  | f + 1, r => match headS r with
    | none => none
    | some (op, ax, co, r1) => match numsS (nnum op) r1 with
      | none => none
      | some (l, r2) => match partsR (recS f) (seps op) r2 with
        | none => none
        | some (ps, r3) => match (if ps.length = 0 then some r3 else takeS [41] r3) with
          | none => none
          | some r4 => some (.mk op ax co (nth l 0) (nth l 1) (nth l 2) none 0 ps, r4)
/-- Parse: the recipe without places, or the error. -/
def parseS (r : Bs) : Except Int BT :=
  if 1000 < r.length then .error 4 else match recS (r.length + 1) r with
    | some (b, []) => match formS b with
      | .error e => .error e
      | .ok _ => .ok b
    | _ => .error 3
/-- The text of the sanity check. -/
def saneL : Bs := [115, 116, 97, 99, 107, 32, 120, 32, 40, 97, 32, 50, 32, 49, 32, 49, 44, 32, 98, 32, 49, 32, 49, 32, 49, 41]
def saneB : BT := .mk 2 0 0 0 0 0 none 0 [.mk 1 0 97 2 1 1 none 0 [], .mk 1 0 98 1 1 1 none 0 []]
theorem sane_rec : recS 27 saneL = some (saneB, []) := by rfl
theorem sane_form : formS saneB = .ok (.stack ⟨3, 1, 1⟩ 0 (.solid ⟨2, 1, 1⟩ 97) (.solid ⟨1, 1, 1⟩ 98)) := by rfl
end Go.Proofs.YtbcnkcndhgihaaaDoor

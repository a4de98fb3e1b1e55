/- Blocks of acetate: plain functions. -/
import Derived.Test.YtbcnkcndhgihaaaDoorBaseM
namespace Go.Proofs.YtbcnkcndhgihaaaDoor
open Go.RowKit

/-- A recipe, with the place of its parts. -/
inductive BT where
  | mk (op ax co n0 n1 n2 : Int) (A : Option Addr) (cp : Nat) (ps : List BT)
namespace BT
def op : BT → Int | mk o _ _ _ _ _ _ _ _ => o
def ax : BT → Int | mk _ a _ _ _ _ _ _ _ => a
def co : BT → Int | mk _ _ c _ _ _ _ _ _ => c
def n0 : BT → Int | mk _ _ _ n _ _ _ _ _ => n
def n1 : BT → Int | mk _ _ _ _ n _ _ _ _ => n
def n2 : BT → Int | mk _ _ _ _ _ n _ _ _ => n
def A : BT → Option Addr | mk _ _ _ _ _ _ a _ _ => a
def cp : BT → Nat | mk _ _ _ _ _ _ _ c _ => c
def ps : BT → List BT | mk _ _ _ _ _ _ _ _ l => l
theorem eta (b : BT) : b = mk b.op b.ax b.co b.n0 b.n1 b.n2 b.A b.cp b.ps := by cases b; rfl
theorem size_mem {b p : BT} (h : p ∈ b.ps) : SizeOf.sizeOf p < SizeOf.sizeOf b := by
  cases b with
  | mk _ _ _ _ _ _ _ _ l =>
    have := List.sizeOf_lt_of_mem (show p ∈ l from h)
    simp only [mk.sizeOf_spec]
    omega
theorem ind {P : BT → Prop} (h : ∀ b : BT, (∀ p ∈ b.ps, P p) → P b) : ∀ b, P b := by
  have : ∀ n, ∀ b : BT, SizeOf.sizeOf b < n → P b := by
    intro n
    induction n with
    | zero => intro b h; omega
    | succ n ih => intro b hb; exact h b fun p hp => ih p (by have := size_mem hp; omega)
  exact fun b => this _ b (Nat.lt_succ_self _)
/-- The cells of a block. -/
def cl (b : BT) : List Value := [.int .i64 b.op, .int .i64 b.ax, .int .u8 b.co, .int .i64 b.n0, .int .i64 b.n1, .int .i64 b.n2, .slice b.A b.ps.length b.cp]
end BT
abbrev valB (b : BT) : Value := .agg #[.int .i64 b.op, .int .i64 b.ax, .int .u8 b.co, .int .i64 b.n0, .int .i64 b.n1, .int .i64 b.n2, .slice b.A b.ps.length b.cp]
/-- A list of blocks is read there, in blocks of memory that are in I. -/
def RdBl (w : World) (I : Nat → Prop) (A : Option Addr) (l : List BT) : Prop := ∀ i p, l[i]? = some p → ∃ b off, A = some ⟨b, off, none⟩ ∧ I b ∧ ∀ j v, p.cl[j]? = some v → w.cell? ⟨b, off + i * 7 + j, none⟩ = some v
/-- A recipe is read there, to its last part. -/
inductive OkI (w : World) (I : Nat → Prop) : BT → Prop where
  | mk (b : BT) (hr : RdBl w I b.A b.ps) (hk : ∀ p ∈ b.ps, OkI w I p) (hl : b.ps.length ≤ b.cp) (hc : b.cp ≤ maxLen) (h0 : b.A = none → b.cp = 0)
    (b1 : -9223372036854775808 ≤ b.op ∧ b.op ≤ 9223372036854775807) (b2 : -9223372036854775808 ≤ b.ax ∧ b.ax ≤ 9223372036854775807) (b3 : 0 ≤ b.co ∧ b.co ≤ 255)
    (b4 : -9223372036854775808 ≤ b.n0 ∧ b.n0 ≤ 9223372036854775807) (b5 : -9223372036854775808 ≤ b.n1 ∧ b.n1 ≤ 9223372036854775807) (b6 : -9223372036854775808 ≤ b.n2 ∧ b.n2 ≤ 9223372036854775807) : OkI w I b
abbrev OkB (w : World) (B : Nat) (b : BT) : Prop := OkI w (fun k => k < B) b
theorem RdBl.keep {w w' : World} {I I' : Nat → Prop} {A : Option Addr} {l : List BT} (h : RdBl w I A l) (hI : ∀ k, I k → I' k) (hk : ∀ b off v, I b → w.cell? ⟨b, off, none⟩ = some v → w'.cell? ⟨b, off, none⟩ = some v) : RdBl w' I' A l := by
  intro i p hp
  obtain ⟨b, off, hA, hb, hc⟩ := h i p hp
  exact ⟨b, off, hA, hI _ hb, fun j v hj => hk _ _ _ hb (hc j v hj)⟩
theorem OkI.keep {w w' : World} {I I' : Nat → Prop} {b : BT} (hI : ∀ k, I k → I' k) (hk : ∀ b off v, I b → w.cell? ⟨b, off, none⟩ = some v → w'.cell? ⟨b, off, none⟩ = some v) (h : OkI w I b) : OkI w' I' b := by
  induction h with
  | mk b hr _ hl hc h0 b1 b2 b3 b4 b5 b6 ih => exact .mk b (hr.keep hI hk) ih hl hc h0 b1 b2 b3 b4 b5 b6
theorem OkI.now {w w' : World} {b : BT} (h : OkB w w.heap.size b) (hb : Below w.heap.size w w') : OkB w' w'.heap.size b := h.keep (fun _ hk => Nat.lt_of_lt_of_le hk hb.size) fun _ _ _ hk hc => (hb.cell hk).trans hc
theorem OkI.under {w w' : World} {B : Nat} {b : BT} (h : OkB w B b) (hb : Below B w w') : OkB w' B b := h.keep (fun _ hk => hk) fun _ _ _ hk hc => (hb.cell hk).trans hc
theorem OkI.rd {w : World} {I : Nat → Prop} {b : BT} (h : OkI w I b) : RdBl w I b.A b.ps := by cases h; assumption
theorem OkI.kid {w : World} {I : Nat → Prop} {b p : BT} (h : OkI w I b) (hp : p ∈ b.ps) : OkI w I p := by cases h with | mk _ _ hk => exact hk p hp
theorem OkI.len {w : World} {I : Nat → Prop} {b : BT} (h : OkI w I b) : b.ps.length ≤ maxLen := by cases h with | mk _ _ _ hl hc => exact Nat.le_trans hl hc
/-- A part, as its cells. -/
theorem RdBl.at {w : World} {I : Nat → Prop} {A : Option Addr} {l : List BT} {i : Nat} {p : BT} (h : RdBl w I A l) (hp : l[i]? = some p) : ∃ b off, A = some ⟨b, off, none⟩ ∧ I b ∧
    w.cell? ⟨b, off + i * 7, none⟩ = some (.int .i64 p.op) ∧ w.cell? ⟨b, off + i * 7 + 1, none⟩ = some (.int .i64 p.ax) ∧ w.cell? ⟨b, off + i * 7 + 2, none⟩ = some (.int .u8 p.co) ∧
    w.cell? ⟨b, off + i * 7 + 3, none⟩ = some (.int .i64 p.n0) ∧ w.cell? ⟨b, off + i * 7 + 4, none⟩ = some (.int .i64 p.n1) ∧ w.cell? ⟨b, off + i * 7 + 5, none⟩ = some (.int .i64 p.n2) ∧ w.cell? ⟨b, off + i * 7 + 6, none⟩ = some (.slice p.A p.ps.length p.cp) := by
  obtain ⟨b, off, hA, hI, hc⟩ := h i p hp
  exact ⟨b, off, hA, hI, hc 0 _ rfl, hc 1 _ rfl, hc 2 _ rfl, hc 3 _ rfl, hc 4 _ rfl, hc 5 _ rfl, hc 6 _ rfl⟩

/-- Three numbers. -/
structure T3 where
  x : Int
  y : Int
  z : Int
deriving DecidableEq
abbrev val3 (t : T3) : Value := .agg #[.int .i64 t.x, .int .i64 t.y, .int .i64 t.z]
def T3.get (t : T3) (a : Int) : Int := if a = 0 then t.x else if a = 1 then t.y else t.z
def T3.set (t : T3) (a v : Int) : T3 := if a = 0 then ⟨v, t.y, t.z⟩ else if a = 1 then ⟨t.x, v, t.z⟩ else ⟨t.x, t.y, v⟩

/-- Bushy. -/
def sizeS (n : Int) : Nat → BT → Int
  | 0, _ => n + 1
  | f + 1, b => if 3 < b.ps.length then n + 1 else b.ps.foldl (fun k p => if k ≤ n then k + sizeS n f p else k) 1
def bushyS (b : BT) (n : Int) : Bool := decide (n < sizeS n 41 b)
def deepS : Nat → BT → Bool
  | 0, _ => true
  | k + 1, b => b.ps.any (deepS k)
def levelS : Nat → BT → Int
  | 0, _ => 0
  | 1, _ => 1
  | k + 2, b => b.ps.foldl (fun n p => max n (levelS (k + 1) p)) 0 + 1
def partsS (op : Int) : Int := if op = 1 then 0 else if op = 2 then 2 else if op = 3 ∨ op = 4 ∨ op = 5 ∨ op = 6 then 1 else -1
def btw (a n b : Int) : Bool := decide (a ≤ n) && decide (n ≤ b)
def fieldsS (b : BT) : Bool :=
  if b.op = 1 then decide (b.ax = 0) && btw 97 b.co 105 && btw 1 b.n0 999 && btw 1 b.n1 999 && btw 1 b.n2 999
  else if !(decide (b.co = 0) && btw 0 b.ax 2 && decide (b.n2 = 0)) then false
  else if b.op = 4 then btw 0 b.n0 999 && btw 1 b.n1 999
  else if b.op = 6 then btw 1 b.n0 999 && decide (b.n1 = 0)
  else decide (b.n0 = 0) && decide (b.n1 = 0)
def oneS (b : BT) : Bool := decide (partsS b.op = b.ps.length) && fieldsS b
mutual
def wholeS : BT → Bool
  | .mk op ax co n0 n1 n2 A cp ps => oneS (.mk op ax co n0 n1 n2 A cp ps) && wholeL ps
def wholeL : List BT → Bool
  | [] => true
  | p :: ps => wholeS p && wholeL ps
end
theorem wholeS_eq (b : BT) : wholeS b = (oneS b && b.ps.all wholeS) := by
  have hl : ∀ l, wholeL l = l.all wholeS := by
    intro l
    induction l with
    | nil => rfl
    | cons p l ih => rw [List.all_cons, ← ih]; rfl
  cases b with
  | mk op ax co n0 n1 n2 A cp ps => rw [← hl]; rfl
/-- A block that is made. -/
inductive Sh where
  | solid (n : T3) (c : Int)
  | stack (n : T3) (a : Int) (f b : Sh)
  | turn (n : T3) (a : Int) (p : Sh)
  | slice (n : T3) (a o : Int) (p : Sh)
  | flip (n : T3) (a : Int) (p : Sh)
  | rep (n : T3) (a : Int) (p : Sh)
def Sh.ext : Sh → T3
  | solid n _ => n
  | stack n _ _ _ => n
  | turn n _ _ => n
  | slice n _ _ _ => n
  | flip n _ _ => n
  | rep n _ _ => n
def turnC (a : Int) (n c : T3) : T3 := if a = 0 then ⟨c.x, c.z, n.z - 1 - c.y⟩ else if a = 1 then ⟨n.x - 1 - c.z, c.y, c.x⟩ else ⟨c.y, n.y - 1 - c.x, c.z⟩
def Sh.at : Sh → T3 → Int
  | solid _ c, _ => c
  | stack _ a f b, c => if c.get a < f.ext.get a then f.at c else b.at (c.set a (c.get a - f.ext.get a))
  | turn _ a p, c => p.at (turnC a p.ext c)
  | slice _ a o p, c => p.at (c.set a (c.get a + o))
  | flip n a p, c => p.at (c.set a (n.get a - 1 - c.get a))
  | rep _ a p, c => p.at (c.set a (c.get a % p.ext.get a))
def fitsS (n : T3) : Int := if 200 < n.x ∨ 200 < n.y ∨ 200 < n.z then 4 else if 8000 < n.x * n.y * n.z then 4 else 0
def exch (n : T3) (a : Int) : T3 := if a = 0 then ⟨n.x, n.z, n.y⟩ else if a = 1 then ⟨n.z, n.y, n.x⟩ else ⟨n.y, n.x, n.z⟩
/-- One step of built. -/
def joinS (b : BT) : List Sh → Except Int Sh
  | made =>
    if b.op = 1 then (if fitsS ⟨b.n0, b.n1, b.n2⟩ = 0 then .ok (.solid ⟨b.n0, b.n1, b.n2⟩ b.co) else .error (fitsS ⟨b.n0, b.n1, b.n2⟩))
    else match made with
    | [] => .error 99
    | s :: rest =>
      if b.op = 2 then match rest with
        | [] => .error 99
        | t :: _ =>
          let sum := s.ext.get b.ax + t.ext.get b.ax
          if s.ext.set b.ax sum = t.ext.set b.ax sum then (if fitsS (s.ext.set b.ax sum) = 0 then .ok (.stack (s.ext.set b.ax sum) b.ax s t) else .error (fitsS (s.ext.set b.ax sum))) else .error 21
      else if b.op = 3 then .ok (.turn (exch s.ext b.ax) b.ax s)
      else if b.op = 4 then (if s.ext.get b.ax < b.n0 + b.n1 then .error 21 else .ok (.slice (s.ext.set b.ax b.n1) b.ax b.n0 s))
      else if b.op = 5 then .ok (.flip s.ext b.ax s)
      else (if fitsS (s.ext.set b.ax (s.ext.get b.ax * b.n0)) = 0 then .ok (.rep (s.ext.set b.ax (s.ext.get b.ax * b.n0)) b.ax s) else .error (fitsS (s.ext.set b.ax (s.ext.get b.ax * b.n0))))
mutual
def builtS : BT → Except Int Sh
  | .mk op ax co n0 n1 n2 A cp ps => match builtL ps with
    | .error e => .error e
    | .ok made => joinS (.mk op ax co n0 n1 n2 A cp ps) made
def builtL : List BT → Except Int (List Sh)
  | [] => .ok []
  | p :: ps => match builtS p with
    | .error e => .error e
    | .ok s => match builtL ps with
      | .error e => .error e
      | .ok l => .ok (s :: l)
end
theorem builtS_eq (b : BT) : builtS b = (match builtL b.ps with | .error e => .error e | .ok made => joinS b made) := by cases b; rfl
def formS (b : BT) : Except Int Sh := if deepS 16 b then .error 4 else if !wholeS b then .error 20 else builtS b
/-- A rectangle. -/
structure R4 where
  x : Int
  y : Int
  w : Int
  h : Int
abbrev valR (q : R4) : Value := .agg #[.int .i64 q.x, .int .i64 q.y, .int .i64 q.w, .int .i64 q.h]
end Go.Proofs.YtbcnkcndhgihaaaDoor

/- Blocks: layers: plain. -/
import Derived.Test.YtbcnkcndhgihaaaDoorSB
import Derived.Laws.IdiomStrings
namespace Go.Proofs.YtbcnkcndhgihaaaDoor
open Go.RowKit

def alongS (a : Int) (k : Nat) : List Int := ((List.range k).map fun (i : Nat) => (i : Int)).filter fun i => decide (i ≠ a)
theorem along_succ (a : Int) (k : Nat) : alongS a (k + 1) = if (k : Int) = a then alongS a k else alongS a k ++ [(k : Int)] := by
  unfold alongS
  rw [List.range_succ, List.map_append, List.filter_append]
  by_cases h : (k : Int) = a
  · rw [if_pos h]; simp [h]
  · rw [if_neg h]; simp [h]
theorem along_len (a : Int) (k : Nat) : (alongS a k).length ≤ k := by
  unfold alongS
  refine Nat.le_trans (List.length_filter_le _ _) ?_
  simp
def cellA (a n i j : Int) : T3 := if a = 0 then ⟨n, i, j⟩ else if a = 1 then ⟨i, n, j⟩ else ⟨i, j, n⟩
def axP (a : Int) : Int := if a = 0 then 1 else 0
def axQ (a : Int) : Int := if a = 2 then 1 else 2
def lineS (s : Sh) (a n j : Int) (k : Nat) : List Int := (List.range k).map fun (i : Nat) => s.at (cellA a n i j)
theorem line_succ (s : Sh) (a n j : Int) (k : Nat) : lineS s a n j (k + 1) = lineS s a n j k ++ [s.at (cellA a n k j)] := by
  unfold lineS; rw [List.range_succ, List.map_append]; rfl
theorem line_len (s : Sh) (a n j : Int) (k : Nat) : (lineS s a n j k).length = k := by unfold lineS; simp
def strB (L : List Int) : ByteArray := ⟨(L.map fun x => UInt8.ofNat x.toNat).toArray⟩
def layS (s : Sh) (a n : Int) (k : Nat) : List ByteArray := (List.range k).map fun (j : Nat) => strB (lineS s a n j (s.ext.get (axP a)).toNat)
theorem lay_succ (s : Sh) (a n : Int) (k : Nat) : layS s a n (k + 1) = layS s a n k ++ [strB (lineS s a n k (s.ext.get (axP a)).toNat)] := by
  unfold layS; rw [List.range_succ, List.map_append]; rfl
theorem lay_len (s : Sh) (a n : Int) (k : Nat) : (layS s a n k).length = k := by unfold layS; simp
def layerS (s : Sh) (a n : Int) : List ByteArray := layS s a n (s.ext.get (axQ a)).toNat
theorem run_str {w w' : World} {B : Nat} {v : Value} {L : List Int} (h : OwnSY w B v L) (hL : ∀ x ∈ L, 0 ≤ x ∧ x ≤ 255) (hb : Below w.heap.size w w') : (convert 52 9 v).run Tryd.prog w' = .ok (.string (strB L)) w' := by
  obtain ⟨A, c, rfl, hr, hc, _, hz⟩ := own_rdSY h
  cases A with
  | none =>
    have hn : L = [] := by
      cases L with
      | nil => rfl
      | cons x l => obtain ⟨b, off, hA, _⟩ := hr 0 x rfl; cases hA
    subst hn
    rw [hz rfl, run_convert_bytes_string w' 52 9 5 none [].length 0 Tryd.underlying52 Tryd.underlying5 Tryd.underlying9]
    rfl
  | some ad =>
    have hh := run_convert_bytes_back (P := Tryd.prog) w' 52 9 5 ad c (L.map fun x => UInt8.ofNat x.toNat) Tryd.underlying52 Tryd.underlying5 Tryd.underlying9 (fun j hj => by
      rw [List.length_map] at hj
      obtain ⟨x, hx⟩ := getElem?_of_lt hj
      obtain ⟨b, off, hA, hbl, hcell⟩ := hr j x hx
      injection hA with hA
      subst hA
      rw [add_none, hb.cell hbl, hcell]
      have hxx := hL x (List.mem_of_getElem? hx)
      rw [List.getElem_map]
      have he : L[j] = x := (List.getElem?_eq_some_iff.1 hx).2
      rw [he]
      congr 2
      simp only [UInt8.toNat_ofNat']
      omega)
    rw [List.length_map] at hh
    exact hh
theorem at_col : ∀ (s : Sh), s.Ok → ∀ c, InE s.ext c → 97 ≤ s.at c ∧ s.at c ≤ 105
  | .solid n k, h, c, _ => h.2
  | .stack n a p q, h, c, hc => by
    obtain ⟨_, ha, hp, hq, h1, h2⟩ := h
    obtain ⟨i1, i2⟩ := in_stack ha h1 h2 hc
    show 97 ≤ (if c.get a < p.ext.get a then p.at c else q.at (c.set a (c.get a - p.ext.get a))) ∧ (if c.get a < p.ext.get a then p.at c else q.at (c.set a (c.get a - p.ext.get a))) ≤ 105
    split
    · exact at_col p hp _ (i1 ‹_›)
    · exact at_col q hq _ (i2 ‹_›)
  | .turn n a p, h, c, hc => at_col p h.2.2.1 _ (in_turn h.2.1 h.2.2.2 hc)
  | .slice n a o p, h, c, hc => at_col p h.2.2.1 _ (in_slice h.2.1 h.2.2.2.1 h.2.2.2.2.1 h.2.2.2.2.2 hc)
  | .flip n a p, h, c, hc => at_col p h.2.2.1 _ (by
      obtain ⟨_, ha, _, h1⟩ := h
      subst h1
      exact in_flip ha hc)
  | .rep n a p, h, c, hc => at_col p h.2.2.1 _ (by
      obtain ⟨_, ha, hp, k, _, _, h2⟩ := h
      exact in_rep ha hp.ext h2 hc)
end Go.Proofs.YtbcnkcndhgihaaaDoor

/- Blocks: the reader: recipe: plain facts on its parts, and its boxes. -/
import Derived.Test.YtbcnkcndhgihaaaDoorSR5
namespace Go.Proofs.YtbcnkcndhgihaaaDoor
open Go.RowKit Go.Shelf
set_option linter.unusedSimpArgs false

theorem partsR_snoc (rec : Bs → Option (BT × Bs)) (t : Bs) : ∀ (ts : List Bs) (r q q1 q2 : Bs) (l : List BT) (p : BT), partsR rec ts r = some (l, q) → takeS t q = some q1 → rec q1 = some (p, q2) → partsR rec (ts ++ [t]) r = some (l ++ [p], q2)
  | [], r, q, q1, q2, l, p, h, ht, hr => by
    unfold partsR at h
    injection h with h
    injection h with h1 h2
    subst h1 h2
    rw [List.nil_append, List.nil_append]
    unfold partsR
    rw [ht]
    simp only
    rw [hr]
    rfl
  | s :: ts, r, q, q1, q2, l, p, h, ht, hr => by
    rw [List.cons_append]
    unfold partsR at h ⊢
    cases hs : takeS s r with
    | none => rw [hs] at h; cases h
    | some r1 =>
      rw [hs] at h
      simp only at h ⊢
      cases hc : rec r1 with
      | none => rw [hc] at h; cases h
      | some x =>
        obtain ⟨a, r2⟩ := x
        rw [hc] at h
        simp only at h ⊢
        cases hp : partsR rec ts r2 with
        | none => rw [hp] at h; cases h
        | some y =>
          obtain ⟨l2, r3⟩ := y
          rw [hp] at h
          injection h with h
          injection h with h1 h2
          subst h1 h2
          rw [partsR_snoc rec t ts r2 r3 q1 q2 l2 p hp ht hr]
          rfl
theorem partsR_stop (rec : Bs → Option (BT × Bs)) (t : Bs) : ∀ (ts us : List Bs) (r q : Bs) (l : List BT), partsR rec ts r = some (l, q) → (takeS t q = none ∨ ∃ q1, takeS t q = some q1 ∧ rec q1 = none) → partsR rec (ts ++ t :: us) r = none
  | [], us, r, q, l, h, ht => by
    unfold partsR at h
    injection h with h
    injection h with h1 h2
    subst h1 h2
    rw [List.nil_append]
    unfold partsR
    rcases ht with ht | ⟨q1, ht, hr⟩
    · rw [ht]
    · rw [ht]
      simp only
      rw [hr]
  | s :: ts, us, r, q, l, h, ht => by
    rw [List.cons_append]
    unfold partsR at h ⊢
    cases hs : takeS s r with
    | none => rfl
    | some r1 =>
      rw [hs] at h
      simp only at h ⊢
      cases hc : rec r1 with
      | none => rfl
      | some x =>
        obtain ⟨a, r2⟩ := x
        rw [hc] at h
        simp only at h ⊢
        cases hp : partsR rec ts r2 with
        | none => rw [hp] at h; cases h
        | some y =>
          obtain ⟨l2, r3⟩ := y
          rw [hp] at h
          injection h with h
          injection h with h1 h2
          subst h1 h2
          rw [partsR_stop rec t ts us r2 r3 l2 hp ht]
theorem partsR_len (rec : Bs → Option (BT × Bs)) (hrec : ∀ r p q, rec r = some (p, q) → q.length ≤ r.length) : ∀ (ts : List Bs) (r q : Bs) (l : List BT), partsR rec ts r = some (l, q) → q.length ≤ r.length ∧ l.length = ts.length
  | [], r, q, l, h => by
    unfold partsR at h
    injection h with h
    injection h with h1 h2
    subst h1 h2
    exact ⟨Nat.le_refl _, rfl⟩
  | s :: ts, r, q, l, h => by
    unfold partsR at h
    cases hs : takeS s r with
    | none => rw [hs] at h; cases h
    | some r1 =>
      rw [hs] at h
      simp only at h
      cases hc : rec r1 with
      | none => rw [hc] at h; cases h
      | some x =>
        obtain ⟨a, r2⟩ := x
        rw [hc] at h
        simp only at h
        cases hp : partsR rec ts r2 with
        | none => rw [hp] at h; cases h
        | some y =>
          obtain ⟨l2, r3⟩ := y
          rw [hp] at h
          injection h with h
          injection h with h1 h2
          subst h1 h2
          have h3 := partsR_len rec hrec ts r2 r3 l2 hp
          have h4 := hrec _ _ _ hc
          have h5 := (take_len hs).1
          exact ⟨by omega, by rw [List.length_cons, List.length_cons, h3.2]⟩
theorem rec_len : ∀ (f : Nat) (r : Bs) (p : BT) (q : Bs), recS f r = some (p, q) → q.length ≤ r.length
  | 0, r, p, q, h => by unfold recS at h; cases h
  | f + 1, r, p, q, h => by
    unfold recS at h
    cases hh : headS r with
    | none => rw [hh] at h; cases h
    | some x =>
      obtain ⟨op, ax, co, r1⟩ := x
      rw [hh] at h
      simp only at h
      cases hn : numsS (nnum op) r1 with
      | none => rw [hn] at h; cases h
      | some y =>
        obtain ⟨l, r2⟩ := y
        rw [hn] at h
        simp only at h
        cases hp : partsR (recS f) (seps op) r2 with
        | none => rw [hp] at h; cases h
        | some z =>
          obtain ⟨ps, r3⟩ := z
          rw [hp] at h
          simp only at h
          have h1 := head_len hh
          have h2 := (nums_len _ _ _ _ hn).2
          have h3 := (partsR_len (recS f) (rec_len f) _ _ _ _ hp).1
          split at h
          · cases h
          · rename_i r4 h4
            injection h with h
            injection h with _ h
            subst h
            split at h4
            · injection h4 with h4
              subst h4
              omega
            · have := (take_len h4).1
              omega
/-- What recipe returns. -/
def RecR (k f : Nat) (r : Bs) (w : World) (e : Ending) (w' : World) : Prop := w.grownBy w' (some k) ∧ match recS f r with
  | none => (∃ v q, e = .returned (.tuple #[valB v, .bool false]) ∧ RdrX w' k q)
  | some (t, q) => ∃ b, strip b = t ∧ e = .returned (.tuple #[valB b, .bool true]) ∧ RdrX w' k q ∧ OkI w' (fun i => w.heap.size ≤ i ∧ i < w'.heap.size) b
theorem BX.setN0 {w : World} {k : Nat} {b : BT} (h : BX w k b) (v : Int) : BX (w.setCell ⟨k, 3, none⟩ (.int .i64 v)) k (.mk b.op b.ax b.co v b.n1 b.n2 b.A b.cp b.ps) := by
  unfold BX at h ⊢
  simp [World.setCell, Array.getElem?_modify, h, BT.op, BT.ax, BT.co, BT.n0, BT.n1, BT.n2, BT.A, BT.cp, BT.ps]
theorem BX.setN1 {w : World} {k : Nat} {b : BT} (h : BX w k b) (v : Int) : BX (w.setCell ⟨k, 4, none⟩ (.int .i64 v)) k (.mk b.op b.ax b.co b.n0 v b.n2 b.A b.cp b.ps) := by
  unfold BX at h ⊢
  simp [World.setCell, Array.getElem?_modify, h, BT.op, BT.ax, BT.co, BT.n0, BT.n1, BT.n2, BT.A, BT.cp, BT.ps]
theorem BX.setN2 {w : World} {k : Nat} {b : BT} (h : BX w k b) (v : Int) : BX (w.setCell ⟨k, 5, none⟩ (.int .i64 v)) k (.mk b.op b.ax b.co b.n0 b.n1 v b.A b.cp b.ps) := by
  unfold BX at h ⊢
  simp [World.setCell, Array.getElem?_modify, h, BT.op, BT.ax, BT.co, BT.n0, BT.n1, BT.n2, BT.A, BT.cp, BT.ps]
theorem BX.setP {w : World} {k : Nat} {b : BT} (h : BX w k b) (A : Option Addr) (c : Nat) (l : List BT) : BX (w.setCell ⟨k, 6, none⟩ (.slice A l.length c)) k (.mk b.op b.ax b.co b.n0 b.n1 b.n2 A c l) := by
  unfold BX at h ⊢
  simp [World.setCell, Array.getElem?_modify, h, BT.op, BT.ax, BT.co, BT.n0, BT.n1, BT.n2, BT.A, BT.cp, BT.ps]
theorem RdrX.grown {w w' : World} {k j : Nat} {r : Bs} (h : RdrX w k r) (hg : w.grownBy w' (some j)) (hne : k ≠ j) : RdrX w' k r := (hg.block k h.lt (by simpa using hne)).trans h
theorem grownBy_first {w w' : World} {o : Obj} {row : Option Nat} (h : (w.alloc o).grownBy w' row) : w.grownBy w' row := Lib.grownBy_trans (Lib.grownBy_allocR (World.grownBy.refl w row) o) h
theorem OkI.grown {w w' : World} {I I' : Nat → Prop} {row : Option Nat} {b : BT} (h : OkI w I b) (hg : w.grownBy w' row) (hI : ∀ i, I i → I' i) (hne : ∀ i, I i → some i ≠ row) : OkI w' I' b :=
  h.keep hI fun i _ _ hi hc => hg.cell hc (hne i hi)
theorem len_two {l : List Int} (h : l.length = 2) : ∃ a b, l = [a, b] := by
  match l, h with
  | [a, b], _ => exact ⟨a, b, rfl⟩
theorem seps_len {op : Int} (h : op = 1 ∨ op = 2 ∨ op = 3 ∨ op = 4 ∨ op = 5 ∨ op = 6) : partsS op = ((seps op).length : Int) := by
  rcases h with rfl | rfl | rfl | rfl | rfl | rfl <;> rfl
theorem seps_two (op : Int) : seps op = [] ∨ seps op = [[32, 40]] ∨ seps op = [[32, 40], [44, 32]] := by
  unfold seps
  split
  · exact .inr (.inr rfl)
  · split
    · exact .inl rfl
    · exact .inr (.inl rfl)
theorem two_len {S : List Bs} (h : S = [] ∨ S = [[32, 40]] ∨ S = [[32, 40], [44, 32]]) : S.length ≤ 2 := by
  rcases h with rfl | rfl | rfl <;> decide
theorem sep_at0 {S : List Bs} (h : S = [] ∨ S = [[32, 40]] ∨ S = [[32, 40], [44, 32]]) (hl : 0 < S.length) : S[0]? = some [32, 40] := by
  rcases h with rfl | rfl | rfl
  · simp at hl
  · rfl
  · rfl
theorem sep_at1 {S : List Bs} (h : S = [] ∨ S = [[32, 40]] ∨ S = [[32, 40], [44, 32]]) (hl : 1 < S.length) : S[1]? = some [44, 32] := by
  rcases h with rfl | rfl | rfl
  · simp at hl
  · simp at hl
  · rfl
theorem sep_split {S : List Bs} {t : Bs} {j : Nat} (h : S[j]? = some t) : S = S.take j ++ t :: S.drop (j + 1) := by
  obtain ⟨hj, ht⟩ := List.getElem?_eq_some_iff.1 h
  rw [← ht, List.getElem_cons_drop, List.take_append_drop]
theorem own_far {w w' : World} {B e size n k : Nat} {v : Value} {xs : List Value} (h : w.ownsRow B e size v n xs) (hg : w.grownBy w' (some k)) (hk : k < B) : w'.ownsRow B e size v n xs := by
  refine ⟨h.1, ?_⟩
  rcases h.2 with hn | ⟨g, cap, cur, rfl, hb, hgg, rest⟩
  · exact .inl hn
  · exact .inr ⟨g, cap, cur, rfl, hb, by rw [hg.block g (Array.getElem?_eq_some_iff.1 hgg).1 (fun e => by injection e with e; omega)]; exact hgg, rest⟩
theorem BX.grownR {w w' : World} {k : Nat} {row : Option Nat} {b : BT} (h : BX w k b) (hg : w.grownBy w' row) (hne : some k ≠ row) : BX w' k b := (hg.block k h.lt hne).trans h
theorem RdrX.grownR {w w' : World} {k : Nat} {row : Option Nat} {r : Bs} (h : RdrX w k r) (hg : w.grownBy w' row) (hne : some k ≠ row) : RdrX w' k r := (hg.block k h.lt hne).trans h
theorem OkI.grownR {w w' : World} {I : Nat → Prop} {row : Option Nat} {b : BT} (h : OkI w I b) (hg : w.grownBy w' row) (hne : ∀ i, I i → some i ≠ row) : OkI w' I b := h.grown hg (fun _ h => h) hne
theorem own_row {w : World} {B e size n i : Nat} {v : Value} {xs : List Value} (h : w.ownsRow B e size v n xs) (hi : i < B) : some i ≠ v.ownBlock := by
  intro e
  have := (h.lt i e.symm).1
  omega
theorem own_ne {A : Option Addr} {n c i : Nat} (h : ∀ a, A = some a → i ≠ a.block) : some i ≠ (Value.slice A n c).ownBlock := by
  cases A with
  | none => intro e; cases e
  | some a => intro e; injection e with e; exact h a rfl e
theorem grown_row {a b c : World} {k : Nat} {row : Option Nat} (h : a.grownBy b (some k)) (h2 : b.grownBy c row) (hr : ∀ j, row = some j → a.heap.size ≤ j) : a.grownBy c (some k) :=
  ⟨h2.os.trans h.os, h2.tape.trans h.tape, h2.output.trans h.output, Nat.le_trans h.size h2.size, fun i hi hne => (h2.block i (Nat.lt_of_lt_of_le hi h.size) (fun e => by have := hr i e.symm; omega)).trans (h.block i hi hne)⟩
end Go.Proofs.YtbcnkcndhgihaaaDoor

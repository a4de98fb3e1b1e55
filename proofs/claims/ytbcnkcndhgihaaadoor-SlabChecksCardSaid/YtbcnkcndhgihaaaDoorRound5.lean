/- A region whose operations come in any order, of which one alone changes the world. -/
import Derived.Test.YtbcnkcndhgihaaaDoorRound4
namespace Go.Proofs.YtbcnkcndhgihaaaDoor
open Go

/-- The world is w1 as soon as operation k has come up, and w0 before. -/
def LastC (w0 w1 : World) (k : Nat) (ls : Array Bool) (w' : World) : Prop := (ls.getD k false = false → w' = w0) ∧ (ls.getD k false = true → w' = w1)
theorem LastC.or {w0 w1 w' : World} {k : Nat} {ls : Array Bool} (h : LastC w0 w1 k ls w') : w' = w0 ∨ w' = w1 := by
  cases hb : ls.getD k false with
  | false => exact .inl (h.1 hb)
  | true => exact .inr (h.2 hb)
theorem LastC.other {w0 w1 w' : World} {k i : Nat} {ls : Array Bool} (h : LastC w0 w1 k ls w') (hi : i ≠ k) : LastC w0 w1 k (ls.setIfInBounds i true) w' := by
  unfold LastC
  rw [getD_set_ne false hi]
  exact h
theorem LastC.start {w0 w1 : World} {k n : Nat} : LastC w0 w1 k (Array.replicate n false) w0 := by
  refine ⟨fun _ => rfl, fun h => ?_⟩
  rw [Array.getD_eq_getD_getElem?, Array.getElem?_replicate] at h
  split at h <;> simp at h
theorem LastC.set {w0 w1 w' : World} {k : Nat} {ls : Array Bool} (h : LastC w0 w1 k ls w') (hr : ls.getD k true = false) : w' = w0 ∧ LastC w0 w1 k (ls.setIfInBounds k true) w1 := by
  refine ⟨h.1 (getD_both hr), ?_⟩
  have hk : k < ls.size := by
    rcases Nat.lt_or_ge k ls.size with h | h
    · exact h
    · rw [Array.getD_eq_getD_getElem?, Array.getElem?_eq_none h] at hr
      cases hr
  have : (ls.setIfInBounds k true).getD k false = true := by
    rw [Array.getD_eq_getD_getElem?, Array.getElem?_setIfInBounds]
    simp [hk]
  exact ⟨fun h => (by rw [this] at h; cases h), fun _ => rfl⟩
section
variable {P : Program} {ops : Array Oper} {md : Region.Mode} {w0 w1 : World} {k i : Nat} {o : Oper} {rest : List Oper} {a : Act} {Q : Act → Prop}
theorem l_read {v : Value} (hw : Region.wanted o (yielded ops a.tmps) = true) (hi : i ≠ k) (hrun : ∀ ls w', LastC w0 w1 k ls w' → (execOp a.eval o).run P w' = .ok (.value v) w')
    (hn : wpL P ops md (LastC w0 w1 k) Q (i + 1) rest (a.put o.dst v)) : wpL P ops md (LastC w0 w1 k) Q i (o :: rest) a :=
  ⟨v, .inl ⟨hw, fun ls w' _ hC => by rw [hrun ls w' hC]; exact ⟨hC.other hi, rfl⟩⟩, hn⟩
theorem l_skip (hw : Region.wanted o (yielded ops a.tmps) = false) (hi : i ≠ k)
    (hn : wpL P ops md (LastC w0 w1 k) Q (i + 1) rest (a.put o.dst undef)) : wpL P ops md (LastC w0 w1 k) Q i (o :: rest) a :=
  ⟨undef, .inr ⟨hw, rfl, fun _ _ _ hC => hC.other hi⟩, hn⟩
theorem l_nil {C : Array Bool → World → Prop} (h : Q a) : wpL P ops md C Q i [] a := h
theorem l_put (hw : Region.wanted o (yielded ops a.tmps) = true) (hrun : (execOp a.eval o).run P w0 = .ok .skip w1)
    (hn : wpL P ops md (LastC w0 w1 k) Q (k + 1) rest (a.put o.dst undef)) : wpL P ops md (LastC w0 w1 k) Q k (o :: rest) a :=
  ⟨undef, .inl ⟨hw, fun ls w' hr hC => by
    obtain ⟨rfl, h2⟩ := hC.set (mem_ready.1 hr).1
    rw [hrun]
    exact ⟨h2, rfl⟩⟩, hn⟩
end
theorem region_last {P : Program} {id : Nat} {Q : Exit → Act → World → Prop} {a : Act} {w : World} {l : List Oper} (k : Nat) (w1 : World) (hm : P.follows .mixedOrders = true) (hB : Region.lexB .any l.toArray = true) (hk : (finL 0 l.length (Array.replicate l.length false)).getD k false = true)
    (h : wpL P l.toArray .any (LastC w.drew w1 k) (fun a' => Q .normal a' w1) 0 l a) : (Code.region id l.toArray true).wp P Q a w := by
  refine region_any (LastC w.drew w1 k) hm hB LastC.start ?_
  have mono : ∀ (l' : List Oper) (n : Nat) (a : Act), wpL P l.toArray .any (LastC w.drew w1 k) (fun a' => Q .normal a' w1) n l' a → wpL P l.toArray .any (LastC w.drew w1 k) (fun a' => ∀ w', LastC w.drew w1 k (finL 0 l.length (Array.replicate l.length false)) w' → Q .normal a' w') n l' a := by
    intro l'
    induction l' with
    | nil => intro n a h w' hC; rw [hC.2 hk]; exact h
    | cons o l' ih => intro n a ⟨v, hy, hn⟩; exact ⟨v, hy, ih _ _ hn⟩
  exact mono l 0 a h
section
variable {P : Program} {ops : Array Oper} {md : Region.Mode} {w0 : World} {i : Nat} {o : Oper} {rest : List Oper} {a : Act} {Q : Act → Prop}
/-- The world stays as it is. -/
def ConstC (w0 : World) (_ : Array Bool) (w' : World) : Prop := w' = w0
theorem k_read {v : Value} (hw : Region.wanted o (yielded ops a.tmps) = true) (hrun : (execOp a.eval o).run P w0 = .ok (.value v) w0)
    (hn : wpL P ops md (ConstC w0) Q (i + 1) rest (a.put o.dst v)) : wpL P ops md (ConstC w0) Q i (o :: rest) a :=
  ⟨v, .inl ⟨hw, fun ls w' _ hC => by obtain rfl : w' = w0 := hC; rw [hrun]; exact ⟨rfl, rfl⟩⟩, hn⟩
theorem k_call {v : Value} {f : Nat} {args : Array Value} (hw : Region.wanted o (yielded ops a.tmps) = true) (hrun : (execOp a.eval o).run P w0 = .ok (.enter f args) w0) (hc : Calls P f args w0 (fun e w'' => e = .returned v ∧ w'' = w0))
    (hn : wpL P ops md (ConstC w0) Q (i + 1) rest (a.put o.dst v)) : wpL P ops md (ConstC w0) Q i (o :: rest) a :=
  ⟨v, .inl ⟨hw, fun ls w' _ hC => by obtain rfl : w' = w0 := hC; rw [hrun]; exact hc⟩, hn⟩
theorem k_skip (hw : Region.wanted o (yielded ops a.tmps) = false)
    (hn : wpL P ops md (ConstC w0) Q (i + 1) rest (a.put o.dst undef)) : wpL P ops md (ConstC w0) Q i (o :: rest) a :=
  ⟨undef, .inr ⟨hw, rfl, fun _ _ _ hC => hC⟩, hn⟩
end
theorem region_const {P : Program} {id : Nat} {Q : Exit → Act → World → Prop} {a : Act} {w : World} {l : List Oper} (hm : P.follows .mixedOrders = true) (hB : Region.lexB .any l.toArray = true)
    (h : wpL P l.toArray .any (ConstC w.drew) (fun a' => Q .normal a' w.drew) 0 l a) : (Code.region id l.toArray true).wp P Q a w := by
  refine region_any (ConstC w.drew) hm hB rfl ?_
  have mono : ∀ (l' : List Oper) (n : Nat) (a : Act), wpL P l.toArray .any (ConstC w.drew) (fun a' => Q .normal a' w.drew) n l' a → wpL P l.toArray .any (ConstC w.drew) (fun a' => ∀ w', ConstC w.drew (finL 0 l.length (Array.replicate l.length false)) w' → Q .normal a' w') n l' a := by
    intro l'
    induction l' with
    | nil => intro n a h w' hC; obtain rfl : w' = w.drew := hC; exact h
    | cons o l' ih => intro n a ⟨v, hy, hn⟩; exact ⟨v, hy, ih _ _ hn⟩
  exact mono l 0 a h
end Go.Proofs.YtbcnkcndhgihaaaDoor

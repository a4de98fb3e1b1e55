/- A region whose operations bring one frame in whatever order they come, where the class of worlds depends on which of them have come up. -/
import Derived.Test.YtbcnkcndhgihaaaDoorRound3
namespace Go.Proofs.YtbcnkcndhgihaaaDoor
open Go

section
variable {P : Program} {ops : Array Oper} {md : Region.Mode} {C : Array Bool → World → Prop}
def lUpon (P : Program) (D : World → Prop) (v : Value) : Result Next → Prop
  | .ok (.value u) w' => D w' ∧ u = v
  | .ok .skip w' => D w' ∧ v = undef
  | .ok (.enter f args) w' => Calls P f args w' (fun e w'' => e = .returned v ∧ D w'')
  | _ => False
/-- Operation i yields v in this frame wherever it may come up, and moves on in the class. -/
def LYield (P : Program) (ops : Array Oper) (md : Region.Mode) (C : Array Bool → World → Prop) (i : Nat) (o : Oper) (v : Value) (a : Act) : Prop :=
  (Region.wanted o (yielded ops a.tmps) = true ∧ ∀ ls w, i ∈ Region.ready md ops ls → C ls w → lUpon P (C (ls.setIfInBounds i true)) v ((execOp a.eval o).run P w)) ∨
  (Region.wanted o (yielded ops a.tmps) = false ∧ v = undef ∧ ∀ ls w, i ∈ Region.ready md ops ls → C ls w → C (ls.setIfInBounds i true) w)
theorem LYield.of_same {i : Nat} {o : Oper} {v : Value} {a a' : Act} (hy : LYield P ops md C i o v a) (he : execOp a'.eval o = execOp a.eval o)
    (hw : Region.wanted o (yielded ops a'.tmps) = Region.wanted o (yielded ops a.tmps)) : LYield P ops md C i o v a' := by
  unfold LYield at *
  rw [he, hw]
  exact hy
def wpL (P : Program) (ops : Array Oper) (md : Region.Mode) (C : Array Bool → World → Prop) (Q : Act → Prop) : Nat → List Oper → Act → Prop
  | _, [], a => Q a
  | k, o :: rest, a => ∃ v, LYield P ops md C k o v a ∧ wpL P ops md C Q (k + 1) rest (a.put o.dst v)
def anyL (P : Program) (ops : Array Oper) (md : Region.Mode) (C : Array Bool → World → Prop) (Q : Array Bool → Act → Prop) : Nat → Array Bool → Act → Prop
  | 0, ls, a => Region.ready md ops ls = [] ∧ Q ls a
  | f + 1, ls, a => Region.ready md ops ls ≠ [] ∧ ∀ i ∈ Region.ready md ops ls, ∃ o v, ops[i]? = some o ∧ LYield P ops md C i o v a ∧ anyL P ops md C Q f (ls.setIfInBounds i true) (a.put o.dst v)
theorem any_of_anyL {Q : Array Bool → Act → Prop} {Q' : Exit → Act → World → Prop} (hQ : ∀ ls a w, C ls w → Q ls a → Q' .normal a w) : ∀ (f : Nat) (ls : Array Bool) (a : Act) (w : World), C ls w → anyL P ops md C Q f ls a → wpAny P md ops Q' f ls a w := by
  intro f
  induction f with
  | zero => intro ls a w hw h; exact ⟨h.1, hQ _ _ _ hw h.2⟩
  | succ f ih =>
    intro ls a w hw h
    refine ⟨fun h0 => absurd h0 h.1, fun i hi => ?_⟩
    obtain ⟨o, v, ho, hy, hn⟩ := h.2 i hi
    unfold wpOp
    simp only [ho]
    rcases hy with ⟨hwt, hy⟩ | ⟨hwt, rfl, hy⟩
    · rw [if_pos hwt]
      left
      have h3 := hy ls w hi hw
      unfold Oper.wp
      generalize (execOp a.eval o).run P w = r at h3 ⊢
      cases r with
      | ok n w' =>
        cases n <;> simp only [lUpon] at h3 <;> simp only [Oper.upon]
        case value u => obtain ⟨h4, rfl⟩ := h3; exact ih _ _ _ h4 hn
        case skip => obtain ⟨h4, rfl⟩ := h3; exact ih _ _ _ h4 hn
        case enter f args => exact h3.mono fun e w'' ⟨he, hw''⟩ => by subst he; exact ih _ _ _ hw'' hn
      | halt x w' => simp only [lUpon] at h3
    · rw [if_neg (by rw [hwt]; simp)]
      exact ih _ _ _ (hy ls w hi hw) hn
/-- An operation that may come now may come first. -/
theorem anyL_first {Q : Array Bool → Act → Prop} {i : Nat} {oi : Oper} {v : Value} (hi : ops[i]? = some oi) (hsel : ∀ (j : Nat) (o : Oper) cs b, ops[j]? = some o → o.op ≠ .select cs b) :
    ∀ (f : Nat) (ls : Array Bool) (a : Act),
      (∀ j oj, ops[j]? = some oj → j ≠ i → ls.getD j true = false → (∀ e ∈ oj.after, Region.binds md e = true → e.on ≠ i) → oi.apart ops oj = true) →
      i ∈ Region.ready md ops ls → LYield P ops md C i oi v a → anyL P ops md C Q f (ls.setIfInBounds i true) (a.put oi.dst v) → anyL P ops md C Q (f + 1) ls a := by
  intro f
  induction f with
  | zero =>
    intro ls a _ hr hy H
    refine ⟨List.ne_nil_of_mem hr, fun j hj => ?_⟩
    rcases Nat.decEq j i with hji | rfl
    · have := ready_mono hj hji
      rw [H.1] at this
      cases this
    · exact ⟨oi, v, hi, hy, H⟩
  | succ f ih =>
    intro ls a hfree hr hy H
    refine ⟨List.ne_nil_of_mem hr, fun j hj => ?_⟩
    rcases Nat.decEq j i with hji | rfl
    · obtain ⟨hjun, oj, hoj, hall⟩ := mem_ready.1 hj
      have hno : ∀ e ∈ oj.after, Region.binds md e = true → e.on ≠ i := by
        intro e he hb heq
        have h1 := hall e he hb
        rw [heq, getD_both (mem_ready.1 hr).1] at h1
        cases h1
      obtain ⟨o2, u, ho2, hy2, hn⟩ := H.2 j (ready_mono hj hji)
      obtain rfl : o2 = oj := Option.some.inj (ho2.symm.trans hoj)
      obtain ⟨h1, h2, h3⟩ := Oper.apart_spec (hfree j o2 hoj hji hjun hno)
      have hyj : LYield P ops md C j o2 u a := hy2.of_same (execOp_put o2 (fun cs b => hsel j o2 cs b hoj) a oi.dst v h1).symm (wanted_put o2 a oi.dst v h1).symm
      have hyi : LYield P ops md C i oi v (a.put o2.dst u) := hy.of_same (execOp_put oi (fun cs b => hsel i oi cs b hi) a o2.dst u h3) (wanted_put oi a o2.dst u h3)
      refine ⟨o2, u, hoj, hyj, ih (ls.setIfInBounds j true) _ (fun k ok hk hki hun => hfree k ok hk hki ?_) (ready_mono hr (Ne.symm hji)) hyi ?_⟩
      · rcases Nat.decEq j k with h | rfl
        · rwa [getD_set_ne true h] at hun
        · exact hjun
      · rw [Array.setIfInBounds_comm _ _ hji, ← Act.put_comm a v u h2]
        exact hn
    · exact ⟨oi, v, hi, hy, H⟩
/-- The operations from k on, n of them, have come up. -/
def finL (k n : Nat) (ls : Array Bool) : Array Bool := (List.range' k n).foldl (fun ls i => ls.setIfInBounds i true) ls
theorem anyL_lex {Q : Act → Prop} (hsel : Region.noSelect ops = true) : ∀ (l : List Oper) (k : Nat) (ls : Array Bool) (a : Act), (∀ j, l[j]? = ops[k + j]?) →
    Region.lexFrom md ops l.length k ls = true → wpL P ops md C Q k l a → anyL P ops md C (fun ls' a' => ls' = finL k l.length ls ∧ Q a') l.length ls a := by
  intro l
  induction l with
  | nil => intro k ls a _ hB h; exact ⟨by simpa [Region.lexFrom] using hB, rfl, h⟩
  | cons o l ih =>
    intro k ls a hl hB h
    have h0 : ops[k]? = some o := by simpa using (hl 0).symm
    simp only [List.length_cons, Region.lexFrom, Bool.and_eq_true] at hB
    obtain ⟨⟨hr, hf⟩, hB'⟩ := hB
    have hr' : k ∈ Region.ready md ops ls := by simpa using hr
    obtain ⟨v, hy, hK⟩ := h
    exact anyL_first h0 (Region.noSelect_spec hsel) l.length ls a (Region.free_spec h0 hf) hr' hy (ih (k + 1) _ _ (fun j => by have := hl (j + 1); simpa [Nat.add_assoc, Nat.add_comm 1 j] using this) hB' hK)
end
theorem region_any {P : Program} {id : Nat} {Q : Exit → Act → World → Prop} {a : Act} {w : World} {l : List Oper} (C : Array Bool → World → Prop) (hm : P.follows .mixedOrders = true) (hB : Region.lexB .any l.toArray = true) (hC : C (Array.replicate l.length false) w.drew)
    (h : wpL P l.toArray .any C (fun a' => ∀ w', C (finL 0 l.length (Array.replicate l.length false)) w' → Q .normal a' w') 0 l a) : (Code.region id l.toArray true).wp P Q a w := by
  simp only [Region.lexB, Bool.and_eq_true] at hB
  have hz : l.toArray.size = l.length := by simp
  have H := anyL_lex (md := .any) hB.1 l 0 (Array.replicate l.length false) a (fun j => by simp) (by have := hB.2; rwa [hz] at this) h
  have := any_of_anyL (Q' := Q) (fun ls a' w' hw' hq => hq.2 w' (hq.1 ▸ hw')) _ _ _ w.drew hC H
  rw [← hz] at this
  exact wp_region_any hm (by rwa [hz] at this ⊢)
end Go.Proofs.YtbcnkcndhgihaaaDoor

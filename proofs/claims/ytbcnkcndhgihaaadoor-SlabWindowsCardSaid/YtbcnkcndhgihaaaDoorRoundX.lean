/- A region that draws its order within a round of a range over a function: the plain walk's laws serve there too, where nothing is deferred and the post lets nothing outgrow. A region walked once in the order of the text, the goal in a shell that nothing unfolds: for long regions with many guards. A region that reads and calls in any order, in a class of worlds, and ends with operations whose order is forced (a store). A region whose operations bring one frame in whatever order they come, where the class of worlds depends on which of them have come up. A region whose operations come in any order, of which one alone changes the world. -/
import Derived.RangeFuncNested
import Derived.WalkKit
import Derived.Deep.Quiet
import Derived.StillTail
import Derived.OwnWalkIn
namespace Go.Proofs.YtbcnkcndhgihaaaDoor
open Go.RowKit

theorem w64_eq (n : Int) : IntKind.i64.wrap n = wrap64 n := by rw [IntKind.wrap_i64]; unfold wrap64; rfl
theorem rowsIn_wide {P : Program} {n : Nat} {row : String} {args : Array Value} {w : World} {R : Value → World → Prop} {l : Nat} (h : Rows P row args w R) : RowsIn (Fence.wide.inRound l) n P row args w R := by
  intro c cs _
  obtain ⟨v, w', r, s⟩ := h c cs
  exact ⟨v, w', r, stepsIn_wide.2 s⟩

theorem oper_in_round {P : Program} {n l : Nat} {o : Oper} {a : Act} {w : World} {K : Act → World → Prop} {Q : Exit → Act → World → Prop} (hd : ∀ c, o.op ≠ .defer c) (h : o.wp P a w K Q) : o.wpIn (Fence.wide.inRound l) n P a w K Q := by
  refine ⟨fun _ _ => trivial, ?_⟩
  rw [Oper.semAt_eq _ _ _ hd]
  unfold Oper.wp at h
  generalize (execOp a.eval o).run P w = r at *
  cases r with
  | ok x w' =>
    cases x <;> simp only [Oper.upon, Oper.uponIn] at h ⊢ <;>
      first
        | exact h
        | exact ⟨fun e => by simp [Fence.wide, Fence.inRound] at e, CallsIn.inRound l (callsIn_wide.2 h)⟩
        | exact ⟨fun e => by simp [Fence.wide, Fence.inRound] at e, rowsIn_wide h⟩
        | exact h.elim
  | halt x w' => cases x <;> simp only [Oper.upon, Oper.uponIn] at h ⊢ <;> exact h

/-- No operation of the list defers. -/
def noDefer (l : List Oper) : Bool := l.all fun o => match o.op with | .defer _ => false | _ => true
theorem noDefer_at {l : List Oper} (h : noDefer l = true) {i : Nat} {o : Oper} (ho : l.toArray[i]? = some o) : ∀ c, o.op ≠ .defer c := by
  intro c hc
  have hm : o ∈ l := by simp at ho; exact List.mem_of_getElem? ho
  have := List.all_eq_true.1 h o hm
  rw [hc] at this
  cases this

theorem any_in_round {P : Program} {n ll : Nat} {md : Region.Mode} {l : List Oper} {Q : Exit → Act → World → Prop} (hd : noDefer l = true) (hQ : ¬ LetsOut Q) :
    ∀ (fuel : Nat) (listed : Array Bool) (a : Act) (w : World), wpAny P md l.toArray Q fuel listed a w → wpAnyIn (Fence.wide.inRound ll) n P md l.toArray Q fuel listed a w
  | 0, _, _, _, h => h
  | fuel + 1, listed, a, w, h => ⟨h.1, fun i hi => by
      have hi' := h.2 i hi
      unfold wpOp at hi'
      unfold wpOpIn
      split
      · rename_i ho
        simp only [ho] at hi'
        exact any_in_round hd hQ fuel _ _ _ hi'
      · rename_i o ho
        simp only [ho] at hi'
        split
        · rename_i hw
          simp only [hw, if_true] at hi'
          rcases hi' with hi' | ⟨_, hl⟩
          · exact oper_in_round (noDefer_at hd ho) (Oper.wp_mono (fun a' w' h' => any_in_round hd hQ fuel _ a' w' h') hi')
          · exact (hQ hl).elim
        · rename_i hw
          simp only [hw] at hi'
          exact ⟨fun _ _ => trivial, any_in_round hd hQ fuel _ _ _ hi'⟩⟩

theorem region_quiet_in_round {P : Program} {n ll id : Nat} {Q : Exit → Act → World → Prop} {a : Act} {w : World} {l : List Oper} (hm : P.follows .mixedOrders = true) (hB : Region.lexB .any l.toArray = true) (hd : noDefer l = true) (hQ : ¬ LetsOut Q)
    (h : wpQuiet P l.toArray (fun w' => ∃ n, w' = w.drewN n) (fun a' => ∀ w', (∃ n, w' = w.drewN n) → Q .normal a' w') l a) : (Code.region id l.toArray true).wpIn (Fence.wide.inRound ll) n P Q a w := by
  simp only [Region.lexB, Bool.and_eq_true] at hB
  refine wpIn_region_any hm (any_in_round hd hQ _ _ _ _ (wpAny_of_quiet (C := fun w' => ∃ n, w' = w.drewN n) (Q := fun a' => ∀ w', (∃ n, w' = w.drewN n) → Q .normal a' w') (fun _ w' hw' h => h w' hw') _ _ _ _ ⟨1, rfl⟩ ?_))
  have := wpAnyQ_lex (C := fun w' => ∃ n, w' = w.drewN n) (md := .any) hB.1 l.toArray.toList 0 (Array.replicate l.toArray.size false) a (by simp) (by simpa using hB.2) (by simpa using h)
  simpa using this

theorem region_still_tail_in_round {P : Program} {m ll id : Nat} {Q : Exit → Act → World → Prop} {a : Act} {w : World} {l : List Oper} (n : Nat) (hm : P.follows .mixedOrders = true) (hB : Region.lexTailB .any l.toArray n = true) (hd : noDefer l = true) (hQ : ¬ LetsOut Q)
    (h : wpStill P l.toArray { w with drawn := w.drawn + 1 } (fun a' => wpList P l.toArray Q (l.drop n) a' { w with drawn := w.drawn + 1 }) (l.take n) a) : (Code.region id l.toArray true).wpIn (Fence.wide.inRound ll) m P Q a w := by
  simp only [Region.lexTailB, Bool.and_eq_true, decide_eq_true_eq] at hB
  obtain ⟨⟨⟨⟨hsel, hn⟩, hs⟩, hc⟩, hlex⟩ := hB
  have hn' : n < l.length := by simpa using hn
  have htl : (l.take n).length = n := by simp; omega
  have hdl : (l.drop n).length = l.toArray.size - n := by simp
  have inv0 : HeadInv .any l.toArray n (Array.replicate l.toArray.size false) :=
    ⟨by simp, fun j oj _ hl => (by rw [getD_replicate_false] at hl; cases hl), fun t _ ht => getD_in (by simpa using ht) (getD_replicate_false _ _)⟩
  have H := wpAnyL_lex (md := .any) (g := l.toArray.size - n) hsel hs hc hn (l.take n) 0 _ a (fun j hj => by
    have hj' : j < n := by rw [htl] at hj; exact hj
    simp [hj']) (by simpa using htl) inv0 (by rw [htl]; exact hlex) h
  refine wpIn_region_any hm ?_
  have := wpAny_of_head (Q' := Q) (g := l.toArray.size - n) (fun listed a' hL => by
    have := wpAny_of_seq (md := .any) (Q' := Q) (l.drop n) n listed a' { w with drawn := w.drawn + 1 } (fun j => by simp [List.getElem?_drop]) (by rw [hdl]; exact hL.1) hL.2
    rwa [hdl] at this) _ _ _ H
  rw [htl, show n + (l.toArray.size - n) = l.toArray.size by omega] at this
  exact any_in_round hd hQ _ _ _ _ this

/-! ### A region walked once in the order of the text, in whatever class of worlds its reads and calls keep. -/
section
variable {P : Program} {ops : Array Oper} {C : World → Prop} {Q : Act → Prop} {a : Act} {o : Oper} {rest : List Oper}
theorem quiet_read {v : Value} (hw : Region.wanted o (yielded ops a.tmps) = true) (hrun : ∀ w, C w → (execOp a.eval o).run P w = .ok (.value v) w) (h : wpQuiet P ops C Q rest (a.put o.dst v)) : wpQuiet P ops C Q (o :: rest) a :=
  wpQuiet_step fun K hK => by rw [if_pos hw]; exact ⟨v, fun w hC => by unfold Oper.quietAt; rw [hrun w hC]; exact ⟨rfl, rfl⟩, hK _ h⟩
theorem quiet_call {v : Value} {f : FuncId} {args : Array Value} (hw : Region.wanted o (yielded ops a.tmps) = true) (hrun : ∀ w, C w → (execOp a.eval o).run P w = .ok (.enter f args) w)
    (hc : ∀ w, C w → Calls P f args w fun e w' => e = .returned v ∧ C w') (h : wpQuiet P ops C Q rest (a.put o.dst v)) : wpQuiet P ops C Q (o :: rest) a :=
  wpQuiet_step fun K hK => by rw [if_pos hw]; exact ⟨v, fun w hC => by unfold Oper.quietAt; rw [hrun w hC]; exact ⟨rfl, hc w hC⟩, hK _ h⟩
theorem quiet_pass (hw : Region.wanted o (yielded ops a.tmps) = false) (h : wpQuiet P ops C Q rest (a.put o.dst undef)) : wpQuiet P ops C Q (o :: rest) a :=
  wpQuiet_step fun K hK => by rw [if_neg (by rw [hw]; exact Bool.false_ne_true)]; exact hK _ h
theorem region_class {P : Program} {id : Nat} {Q : Exit → Act → World → Prop} {a : Act} {w : World} {l : List Oper} (C : World → Prop) (hm : P.follows .mixedOrders = true) (hB : Region.lexB .any l.toArray = true) (hC : C w.drew)
    (h : wpQuiet P l.toArray C (fun a' => ∀ w', C w' → Q .normal a' w') l a) : (Code.region id l.toArray true).wp P Q a w :=
  wp_region_quiet (C := C) hm hB hC (by simpa using h)
theorem region_class_in_round {P : Program} {n ll id : Nat} {Q : Exit → Act → World → Prop} {a : Act} {w : World} {l : List Oper} (C : World → Prop) (hm : P.follows .mixedOrders = true) (hB : Region.lexB .any l.toArray = true) (hd : noDefer l = true) (hQ : ¬ LetsOut Q) (hC : C w.drew)
    (h : wpQuiet P l.toArray C (fun a' => ∀ w', C w' → Q .normal a' w') l a) : (Code.region id l.toArray true).wpIn (Fence.wide.inRound ll) n P Q a w := by
  simp only [Region.lexB, Bool.and_eq_true] at hB
  refine wpIn_region_any hm (any_in_round hd hQ _ _ _ _ (wpAny_of_quiet (C := C) (Q := fun a' => ∀ w', C w' → Q .normal a' w') (fun _ w' hw' h => h w' hw') _ _ _ _ hC ?_))
  have := wpAnyQ_lex (C := C) (md := .any) hB.1 l.toArray.toList 0 (Array.replicate l.toArray.size false) a (by simp) (by simpa using hB.2) (by simpa using h)
  simpa using this
end
end Go.Proofs.YtbcnkcndhgihaaaDoor

namespace Go.Proofs.YtbcnkcndhgihaaaDoor
section
variable {P : Program} {ops : Array Oper} {C : World → Prop} {Q : Act → Prop} {a : Act} {o : Oper} {rest : List Oper}
/-- The rest of a region that only reads and calls. -/
structure QW (P : Program) (ops : Array Oper) (C : World → Prop) (Q : Act → Prop) (rest : List Oper) (a : Act) : Prop where
  out : wpQuiet P ops C Q rest a
theorem qw_read {v : Value} (hw : Region.wanted o (yielded ops a.tmps) = true) (hrun : ∀ w, C w → (execOp a.eval o).run P w = .ok (.value v) w) (h : QW P ops C Q rest (a.put o.dst v)) : QW P ops C Q (o :: rest) a := ⟨quiet_read hw hrun h.out⟩
theorem qw_call {v : Value} {f : FuncId} {args : Array Value} (hw : Region.wanted o (yielded ops a.tmps) = true) (hrun : ∀ w, C w → (execOp a.eval o).run P w = .ok (.enter f args) w)
    (hc : ∀ w, C w → Calls P f args w fun e w' => e = .returned v ∧ C w') (h : QW P ops C Q rest (a.put o.dst v)) : QW P ops C Q (o :: rest) a := ⟨quiet_call hw hrun hc h.out⟩
theorem qw_pass (hw : Region.wanted o (yielded ops a.tmps) = false) (h : QW P ops C Q rest (a.put o.dst undef)) : QW P ops C Q (o :: rest) a := ⟨quiet_pass hw h.out⟩
theorem qw_nil (h : Q a) : QW P ops C Q [] a := ⟨wpQuiet_nil h⟩
end
theorem region_qw {P : Program} {id : Nat} {Q : Exit → Act → World → Prop} {a : Act} {w : World} {l : List Oper} (C : World → Prop) (hm : P.follows .mixedOrders = true) (hB : Region.lexB .any l.toArray = true) (hC : C w.drew)
    (h : QW P l.toArray C (fun a' => ∀ w', C w' → Q .normal a' w') l a) : (Code.region id l.toArray true).wp P Q a w := region_class C hm hB hC h.out
end Go.Proofs.YtbcnkcndhgihaaaDoor

namespace Go.Proofs.YtbcnkcndhgihaaaDoor
open Go

section
variable {P : Program} {ops : Array Oper} {md : Region.Mode} {C : World → Prop}
/-- Whatever order the first n operations take. -/
def qHead (P : Program) (md : Region.Mode) (ops : Array Oper) (C : World → Prop) (n : Nat) (L : Array Bool → Act → Prop) : Nat → Array Bool → Act → Prop
  | 0, ls, a => L ls a
  | f + 1, ls, a => Region.ready md ops ls ≠ [] ∧ ∀ i ∈ Region.ready md ops ls, i < n ∧ qOp P ops C i (qHead P md ops C n L f (ls.setIfInBounds i true)) a
theorem any_of_qHead {n g : Nat} {L : Array Bool → Act → Prop} {Q : Exit → Act → World → Prop} (hL : ∀ ls a w, C w → L ls a → wpAny P md ops Q g ls a w) :
    ∀ (f : Nat) (ls : Array Bool) (a : Act) (w : World), C w → qHead P md ops C n L f ls a → wpAny P md ops Q (f + g) ls a w := by
  intro f
  induction f with
  | zero => intro ls a w hw h; rw [Nat.zero_add]; exact hL _ _ _ hw h
  | succ f ih =>
    intro ls a w hw h
    rw [Nat.succ_add]
    exact ⟨fun h0 => absurd h0 h.1, fun i hi => wpOp_of_qOp hw (fun a' w' hw' h' => ih _ a' w' hw' h') (h.2 i hi).2⟩
/-- An operation of the head that may come now may come first. -/
theorem qHead_first {n i : Nat} {oi : Oper} {v : Value} {L : Array Bool → Act → Prop} (hi : ops[i]? = some oi) (hsel : ∀ (j : Nat) (o : Oper) cs b, ops[j]? = some o → o.op ≠ .select cs b)
    (hs : Region.sinkB md ops n = true) (hc : Region.chainB md ops n = true) (hn : n < ops.size) (hin : i < n) (hL : ∀ ls a, L ls a → ∀ j ∈ Region.ready md ops ls, n ≤ j) :
    ∀ (f : Nat) (ls : Array Bool) (a : Act), HeadInv md ops n ls →
      (∀ j oj, ops[j]? = some oj → j ≠ i → ls.getD j true = false → (∀ e ∈ oj.after, Region.binds md e = true → e.on ≠ i) → oi.apart ops oj = true) →
      i ∈ Region.ready md ops ls → YieldsIn P ops C oi v a → qHead P md ops C n L f (ls.setIfInBounds i true) (a.put oi.dst v) → qHead P md ops C n L (f + 1) ls a := by
  have head : ∀ ls, HeadInv md ops n ls → i ∈ Region.ready md ops ls → ∀ j ∈ Region.ready md ops ls, j < n := fun ls inv hr j hj =>
    Nat.lt_of_not_le fun h => tail_waits hs hc hn inv _ i rfl hin (mem_ready.1 hr).1 j h hj
  intro f
  induction f with
  | zero =>
    intro ls a inv _ hr hy H
    refine ⟨List.ne_nil_of_mem hr, fun j hj => ⟨head ls inv hr j hj, ?_⟩⟩
    rcases Nat.decEq j i with hji | rfl
    · have h1 := hL _ _ H j (ready_mono hj hji)
      have h2 := head ls inv hr j hj
      omega
    · exact hy.qOp hi H
  | succ f ih =>
    intro ls a inv hfree hr hy H
    refine ⟨List.ne_nil_of_mem hr, fun j hj => ⟨head ls inv hr j hj, ?_⟩⟩
    rcases Nat.decEq j i with hji | rfl
    · obtain ⟨hjun, oj, hoj, hall⟩ := mem_ready.1 hj
      have hno : ∀ e ∈ oj.after, Region.binds md e = true → e.on ≠ i := by
        intro e he hb heq
        have h1 := hall e he hb
        rw [heq, getD_both (mem_ready.1 hr).1] at h1
        cases h1
      have h2 := qOp_put hoj (hfree j oj hoj hji hjun hno) (fun cs b => hsel i oi cs b hi) (fun cs b => hsel j oj cs b hoj) hy (H.2 j (ready_mono hj hji)).2
      refine qOp_mono (fun a' h3 => ih (ls.setIfInBounds j true) a' (inv.set hj (head ls inv hr j hj)) (fun k ok hk hki hun => hfree k ok hk hki ?_) (ready_mono hr (Ne.symm hji)) h3.1 ?_) h2
      · rcases Nat.decEq j k with h | rfl
        · rwa [getD_set_ne true h] at hun
        · exact hjun
      · rw [Array.setIfInBounds_comm _ _ hji]
        exact h3.2
    · exact hy.qOp hi H
/-- The order of the text serves all orders of the head. -/
theorem qHead_lex {n g : Nat} {R : Act → Prop} (hsel : Region.noSelect ops = true) (hs : Region.sinkB md ops n = true) (hc : Region.chainB md ops n = true) (hn : n < ops.size) :
    ∀ (l : List Oper) (k : Nat) (ls : Array Bool) (a : Act), (∀ j, j < l.length → l[j]? = ops[k + j]?) → k + l.length = n → HeadInv md ops n ls →
    Region.lexHead md ops g l.length k ls = true → wpQuiet P ops C R l a → qHead P md ops C n (fun ls' a' => Region.seqB md ops g n ls' = true ∧ R a') l.length ls a := by
  intro l
  induction l with
  | nil =>
    intro k ls a _ hk _ hB h
    obtain rfl : k = n := by simpa using hk
    exact ⟨hB, h⟩
  | cons o l ih =>
    intro k ls a hl hk inv hB h
    have h0 : ops[k]? = some o := by simpa using (hl 0 (by simp)).symm
    simp only [List.length_cons, Region.lexHead, Bool.and_eq_true] at hB hk
    have hr : k ∈ Region.ready md ops ls := by simpa using hB.1.1
    have hq : qOp P ops C k (wpQuiet P ops C R l) a := by unfold qOp; simp only [h0]; exact h
    obtain ⟨v, hy, hK⟩ := yieldsIn_of_qOp h0 hq
    refine qHead_first h0 (Region.noSelect_spec hsel) hs hc hn (by omega) (fun ls' a' hL => seqB_ready hL.1) l.length ls a inv (Region.free_spec h0 hB.1.2) hr hy ?_
    exact ih (k + 1) _ _ (fun j hj => by have := hl (j + 1) (by simp; omega); simpa [Nat.add_assoc, Nat.add_comm 1 j] using this) (by omega) (inv.set hr (by omega)) hB.2 hK
end
theorem region_tail {P : Program} {id : Nat} {Q : Exit → Act → World → Prop} {a : Act} {w : World} {l : List Oper} (n : Nat) (C : World → Prop) (hm : P.follows .mixedOrders = true) (hB : Region.lexTailB .any l.toArray n = true) (hC : C w.drew)
    (h : QW P l.toArray C (fun a' => ∀ w', C w' → wpList P l.toArray Q (l.drop n) a' w') (l.take n) a) : (Code.region id l.toArray true).wp P Q a w := by
  simp only [Region.lexTailB, Bool.and_eq_true, decide_eq_true_eq] at hB
  obtain ⟨⟨⟨⟨hsel, hn⟩, hs⟩, hc⟩, hlex⟩ := hB
  have hnl : n < l.length := by simpa using hn
  have htl : (l.take n).length = n := by simp; omega
  have inv0 : HeadInv .any l.toArray n (Array.replicate l.toArray.size false) :=
    ⟨by simp, fun j oj _ hl => (by rw [getD_replicate_false] at hl; cases hl), fun t _ ht => getD_in (by simpa using ht) (getD_replicate_false _ _)⟩
  have H := qHead_lex (md := .any) (g := l.toArray.size - n) hsel hs hc hn (l.take n) 0 _ a (fun j hj => by rw [htl] at hj; simp [hj]) (by simpa using htl) inv0 (by rw [htl]; exact hlex) h.out
  have hdl : (l.drop n).length = l.toArray.size - n := by simp
  have := any_of_qHead (Q := Q) (g := l.toArray.size - n) (fun ls a' w' hw' hL => by
    have := wpAny_of_seq (md := .any) (Q' := Q) (l.drop n) n ls a' w' (fun j => by simp [List.getElem?_drop]) (by rw [hdl]; exact hL.1) (hL.2 w' hw')
    rwa [hdl] at this) _ _ _ w.drew hC H
  rw [htl, show n + (l.toArray.size - n) = l.toArray.size by omega] at this
  exact wp_region_any hm this
end Go.Proofs.YtbcnkcndhgihaaaDoor

namespace Go.Proofs.YtbcnkcndhgihaaaDoor
open Go

section
variable {P : Program} {ops : Array Oper} {md : Region.Mode} {C : Array Bool → World → Prop}
def lUpon (P : Program) (D : World → Prop) (v : Value) : Result Next → Prop
  | .ok (.value u) w' => D w' ∧ u = v
  | .ok .skip w' => D w' ∧ v = undef
  | .ok (.enter f args) w' => Calls P f args w' (fun e w'' => e = .returned v ∧ D w'')
  | _ => False
/-- Operation i yields v in this frame wherever it may come up, and moves on in the class. -/
def LYield (P : Program) (ops : Array Oper) (md : Region.Mode) (C : Array Bool → World → Prop) (i : Nat) (o : Oper) (v : Value) (a : Act) : Prop :=
  (Region.wanted o (yielded ops a.tmps) = true ∧ ∀ ls w, i ∈ Region.ready md ops ls → C ls w → lUpon P (C (ls.setIfInBounds i true)) v ((execOp a.eval o).run P w)) ∨
  (Region.wanted o (yielded ops a.tmps) = false ∧ v = undef ∧ ∀ ls w, i ∈ Region.ready md ops ls → C ls w → C (ls.setIfInBounds i true) w)
theorem LYield.of_same {i : Nat} {o : Oper} {v : Value} {a a' : Act} (hy : LYield P ops md C i o v a) (he : execOp a'.eval o = execOp a.eval o)
    (hw : Region.wanted o (yielded ops a'.tmps) = Region.wanted o (yielded ops a.tmps)) : LYield P ops md C i o v a' := by
  unfold LYield at *
  rw [he, hw]
  exact hy
def wpL (P : Program) (ops : Array Oper) (md : Region.Mode) (C : Array Bool → World → Prop) (Q : Act → Prop) : Nat → List Oper → Act → Prop
  | _, [], a => Q a
  | k, o :: rest, a => ∃ v, LYield P ops md C k o v a ∧ wpL P ops md C Q (k + 1) rest (a.put o.dst v)
def anyL (P : Program) (ops : Array Oper) (md : Region.Mode) (C : Array Bool → World → Prop) (Q : Array Bool → Act → Prop) : Nat → Array Bool → Act → Prop
  | 0, ls, a => Region.ready md ops ls = [] ∧ Q ls a
  | f + 1, ls, a => Region.ready md ops ls ≠ [] ∧ ∀ i ∈ Region.ready md ops ls, ∃ o v, ops[i]? = some o ∧ LYield P ops md C i o v a ∧ anyL P ops md C Q f (ls.setIfInBounds i true) (a.put o.dst v)
theorem any_of_anyL {Q : Array Bool → Act → Prop} {Q' : Exit → Act → World → Prop} (hQ : ∀ ls a w, C ls w → Q ls a → Q' .normal a w) : ∀ (f : Nat) (ls : Array Bool) (a : Act) (w : World), C ls w → anyL P ops md C Q f ls a → wpAny P md ops Q' f ls a w := by
  intro f
  induction f with
  | zero => intro ls a w hw h; exact ⟨h.1, hQ _ _ _ hw h.2⟩
  | succ f ih =>
    intro ls a w hw h
    refine ⟨fun h0 => absurd h0 h.1, fun i hi => ?_⟩
    obtain ⟨o, v, ho, hy, hn⟩ := h.2 i hi
    unfold wpOp
    simp only [ho]
    rcases hy with ⟨hwt, hy⟩ | ⟨hwt, rfl, hy⟩
    · rw [if_pos hwt]
      left
      have h3 := hy ls w hi hw
      unfold Oper.wp
      generalize (execOp a.eval o).run P w = r at h3 ⊢
      cases r with
      | ok n w' =>
        cases n <;> simp only [lUpon] at h3 <;> simp only [Oper.upon]
        case value u => obtain ⟨h4, rfl⟩ := h3; exact ih _ _ _ h4 hn
        case skip => obtain ⟨h4, rfl⟩ := h3; exact ih _ _ _ h4 hn
        case enter f args => exact h3.mono fun e w'' ⟨he, hw''⟩ => by subst he; exact ih _ _ _ hw'' hn
      | halt x w' => simp only [lUpon] at h3
    · rw [if_neg (by rw [hwt]; simp)]
      exact ih _ _ _ (hy ls w hi hw) hn
/-- An operation that may come now may come first. -/
theorem anyL_first {Q : Array Bool → Act → Prop} {i : Nat} {oi : Oper} {v : Value} (hi : ops[i]? = some oi) (hsel : ∀ (j : Nat) (o : Oper) cs b, ops[j]? = some o → o.op ≠ .select cs b) :
    ∀ (f : Nat) (ls : Array Bool) (a : Act),
      (∀ j oj, ops[j]? = some oj → j ≠ i → ls.getD j true = false → (∀ e ∈ oj.after, Region.binds md e = true → e.on ≠ i) → oi.apart ops oj = true) →
      i ∈ Region.ready md ops ls → LYield P ops md C i oi v a → anyL P ops md C Q f (ls.setIfInBounds i true) (a.put oi.dst v) → anyL P ops md C Q (f + 1) ls a := by
  intro f
  induction f with
  | zero =>
    intro ls a _ hr hy H
    refine ⟨List.ne_nil_of_mem hr, fun j hj => ?_⟩
    rcases Nat.decEq j i with hji | rfl
    · have := ready_mono hj hji
      rw [H.1] at this
      cases this
    · exact ⟨oi, v, hi, hy, H⟩
  | succ f ih =>
    intro ls a hfree hr hy H
    refine ⟨List.ne_nil_of_mem hr, fun j hj => ?_⟩
    rcases Nat.decEq j i with hji | rfl
    · obtain ⟨hjun, oj, hoj, hall⟩ := mem_ready.1 hj
      have hno : ∀ e ∈ oj.after, Region.binds md e = true → e.on ≠ i := by
        intro e he hb heq
        have h1 := hall e he hb
        rw [heq, getD_both (mem_ready.1 hr).1] at h1
        cases h1
      obtain ⟨o2, u, ho2, hy2, hn⟩ := H.2 j (ready_mono hj hji)
      obtain rfl : o2 = oj := Option.some.inj (ho2.symm.trans hoj)
      obtain ⟨h1, h2, h3⟩ := Oper.apart_spec (hfree j o2 hoj hji hjun hno)
      have hyj : LYield P ops md C j o2 u a := hy2.of_same (execOp_put o2 (fun cs b => hsel j o2 cs b hoj) a oi.dst v h1).symm (wanted_put o2 a oi.dst v h1).symm
      have hyi : LYield P ops md C i oi v (a.put o2.dst u) := hy.of_same (execOp_put oi (fun cs b => hsel i oi cs b hi) a o2.dst u h3) (wanted_put oi a o2.dst u h3)
      refine ⟨o2, u, hoj, hyj, ih (ls.setIfInBounds j true) _ (fun k ok hk hki hun => hfree k ok hk hki ?_) (ready_mono hr (Ne.symm hji)) hyi ?_⟩
      · rcases Nat.decEq j k with h | rfl
        · rwa [getD_set_ne true h] at hun
        · exact hjun
      · rw [Array.setIfInBounds_comm _ _ hji, ← Act.put_comm a v u h2]
        exact hn
    · exact ⟨oi, v, hi, hy, H⟩
/-- The operations from k on, n of them, have come up. -/
def finL (k n : Nat) (ls : Array Bool) : Array Bool := (List.range' k n).foldl (fun ls i => ls.setIfInBounds i true) ls
theorem anyL_lex {Q : Act → Prop} (hsel : Region.noSelect ops = true) : ∀ (l : List Oper) (k : Nat) (ls : Array Bool) (a : Act), (∀ j, l[j]? = ops[k + j]?) →
    Region.lexFrom md ops l.length k ls = true → wpL P ops md C Q k l a → anyL P ops md C (fun ls' a' => ls' = finL k l.length ls ∧ Q a') l.length ls a := by
  intro l
  induction l with
  | nil => intro k ls a _ hB h; exact ⟨by simpa [Region.lexFrom] using hB, rfl, h⟩
  | cons o l ih =>
    intro k ls a hl hB h
    have h0 : ops[k]? = some o := by simpa using (hl 0).symm
    simp only [List.length_cons, Region.lexFrom, Bool.and_eq_true] at hB
    obtain ⟨⟨hr, hf⟩, hB'⟩ := hB
    have hr' : k ∈ Region.ready md ops ls := by simpa using hr
    obtain ⟨v, hy, hK⟩ := h
    exact anyL_first h0 (Region.noSelect_spec hsel) l.length ls a (Region.free_spec h0 hf) hr' hy (ih (k + 1) _ _ (fun j => by have := hl (j + 1); simpa [Nat.add_assoc, Nat.add_comm 1 j] using this) hB' hK)
end
theorem region_any {P : Program} {id : Nat} {Q : Exit → Act → World → Prop} {a : Act} {w : World} {l : List Oper} (C : Array Bool → World → Prop) (hm : P.follows .mixedOrders = true) (hB : Region.lexB .any l.toArray = true) (hC : C (Array.replicate l.length false) w.drew)
    (h : wpL P l.toArray .any C (fun a' => ∀ w', C (finL 0 l.length (Array.replicate l.length false)) w' → Q .normal a' w') 0 l a) : (Code.region id l.toArray true).wp P Q a w := by
  simp only [Region.lexB, Bool.and_eq_true] at hB
  have hz : l.toArray.size = l.length := by simp
  have H := anyL_lex (md := .any) hB.1 l 0 (Array.replicate l.length false) a (fun j => by simp) (by have := hB.2; rwa [hz] at this) h
  have := any_of_anyL (Q' := Q) (fun ls a' w' hw' hq => hq.2 w' (hq.1 ▸ hw')) _ _ _ w.drew hC H
  rw [← hz] at this
  exact wp_region_any hm (by rwa [hz] at this ⊢)
end Go.Proofs.YtbcnkcndhgihaaaDoor

namespace Go.Proofs.YtbcnkcndhgihaaaDoor
open Go

/-- The world is w1 as soon as operation k has come up, and w0 before. -/
def LastC (w0 w1 : World) (k : Nat) (ls : Array Bool) (w' : World) : Prop := (ls.getD k false = false → w' = w0) ∧ (ls.getD k false = true → w' = w1)
theorem LastC.or {w0 w1 w' : World} {k : Nat} {ls : Array Bool} (h : LastC w0 w1 k ls w') : w' = w0 ∨ w' = w1 := by
  cases hb : ls.getD k false with
  | false => exact .inl (h.1 hb)
  | true => exact .inr (h.2 hb)
theorem LastC.other {w0 w1 w' : World} {k i : Nat} {ls : Array Bool} (h : LastC w0 w1 k ls w') (hi : i ≠ k) : LastC w0 w1 k (ls.setIfInBounds i true) w' := by
  unfold LastC
  rw [getD_set_ne false hi]
  exact h
theorem LastC.start {w0 w1 : World} {k n : Nat} : LastC w0 w1 k (Array.replicate n false) w0 := by
  refine ⟨fun _ => rfl, fun h => ?_⟩
  rw [Array.getD_eq_getD_getElem?, Array.getElem?_replicate] at h
  split at h <;> simp at h
theorem LastC.set {w0 w1 w' : World} {k : Nat} {ls : Array Bool} (h : LastC w0 w1 k ls w') (hr : ls.getD k true = false) : w' = w0 ∧ LastC w0 w1 k (ls.setIfInBounds k true) w1 := by
  refine ⟨h.1 (getD_both hr), ?_⟩
  have hk : k < ls.size := by
    rcases Nat.lt_or_ge k ls.size with h | h
    · exact h
    · rw [Array.getD_eq_getD_getElem?, Array.getElem?_eq_none h] at hr
      cases hr
  have : (ls.setIfInBounds k true).getD k false = true := by
    rw [Array.getD_eq_getD_getElem?, Array.getElem?_setIfInBounds]
    simp [hk]
  exact ⟨fun h => (by rw [this] at h; cases h), fun _ => rfl⟩
section
variable {P : Program} {ops : Array Oper} {md : Region.Mode} {w0 w1 : World} {k i : Nat} {o : Oper} {rest : List Oper} {a : Act} {Q : Act → Prop}
theorem l_read {v : Value} (hw : Region.wanted o (yielded ops a.tmps) = true) (hi : i ≠ k) (hrun : ∀ ls w', LastC w0 w1 k ls w' → (execOp a.eval o).run P w' = .ok (.value v) w')
    (hn : wpL P ops md (LastC w0 w1 k) Q (i + 1) rest (a.put o.dst v)) : wpL P ops md (LastC w0 w1 k) Q i (o :: rest) a :=
  ⟨v, .inl ⟨hw, fun ls w' _ hC => by rw [hrun ls w' hC]; exact ⟨hC.other hi, rfl⟩⟩, hn⟩
theorem l_skip (hw : Region.wanted o (yielded ops a.tmps) = false) (hi : i ≠ k)
    (hn : wpL P ops md (LastC w0 w1 k) Q (i + 1) rest (a.put o.dst undef)) : wpL P ops md (LastC w0 w1 k) Q i (o :: rest) a :=
  ⟨undef, .inr ⟨hw, rfl, fun _ _ _ hC => hC.other hi⟩, hn⟩
theorem l_nil {C : Array Bool → World → Prop} (h : Q a) : wpL P ops md C Q i [] a := h
theorem l_put (hw : Region.wanted o (yielded ops a.tmps) = true) (hrun : (execOp a.eval o).run P w0 = .ok .skip w1)
    (hn : wpL P ops md (LastC w0 w1 k) Q (k + 1) rest (a.put o.dst undef)) : wpL P ops md (LastC w0 w1 k) Q k (o :: rest) a :=
  ⟨undef, .inl ⟨hw, fun ls w' hr hC => by
    obtain ⟨rfl, h2⟩ := hC.set (mem_ready.1 hr).1
    rw [hrun]
    exact ⟨h2, rfl⟩⟩, hn⟩
end
theorem region_last {P : Program} {id : Nat} {Q : Exit → Act → World → Prop} {a : Act} {w : World} {l : List Oper} (k : Nat) (w1 : World) (hm : P.follows .mixedOrders = true) (hB : Region.lexB .any l.toArray = true) (hk : (finL 0 l.length (Array.replicate l.length false)).getD k false = true)
    (h : wpL P l.toArray .any (LastC w.drew w1 k) (fun a' => Q .normal a' w1) 0 l a) : (Code.region id l.toArray true).wp P Q a w := by
  refine region_any (LastC w.drew w1 k) hm hB LastC.start ?_
  have mono : ∀ (l' : List Oper) (n : Nat) (a : Act), wpL P l.toArray .any (LastC w.drew w1 k) (fun a' => Q .normal a' w1) n l' a → wpL P l.toArray .any (LastC w.drew w1 k) (fun a' => ∀ w', LastC w.drew w1 k (finL 0 l.length (Array.replicate l.length false)) w' → Q .normal a' w') n l' a := by
    intro l'
    induction l' with
    | nil => intro n a h w' hC; rw [hC.2 hk]; exact h
    | cons o l' ih => intro n a ⟨v, hy, hn⟩; exact ⟨v, hy, ih _ _ hn⟩
  exact mono l 0 a h
section
variable {P : Program} {ops : Array Oper} {md : Region.Mode} {w0 : World} {i : Nat} {o : Oper} {rest : List Oper} {a : Act} {Q : Act → Prop}
/-- The world stays as it is. -/
def ConstC (w0 : World) (_ : Array Bool) (w' : World) : Prop := w' = w0
theorem k_read {v : Value} (hw : Region.wanted o (yielded ops a.tmps) = true) (hrun : (execOp a.eval o).run P w0 = .ok (.value v) w0)
    (hn : wpL P ops md (ConstC w0) Q (i + 1) rest (a.put o.dst v)) : wpL P ops md (ConstC w0) Q i (o :: rest) a :=
  ⟨v, .inl ⟨hw, fun ls w' _ hC => by obtain rfl : w' = w0 := hC; rw [hrun]; exact ⟨rfl, rfl⟩⟩, hn⟩
theorem k_call {v : Value} {f : Nat} {args : Array Value} (hw : Region.wanted o (yielded ops a.tmps) = true) (hrun : (execOp a.eval o).run P w0 = .ok (.enter f args) w0) (hc : Calls P f args w0 (fun e w'' => e = .returned v ∧ w'' = w0))
    (hn : wpL P ops md (ConstC w0) Q (i + 1) rest (a.put o.dst v)) : wpL P ops md (ConstC w0) Q i (o :: rest) a :=
  ⟨v, .inl ⟨hw, fun ls w' _ hC => by obtain rfl : w' = w0 := hC; rw [hrun]; exact hc⟩, hn⟩
theorem k_skip (hw : Region.wanted o (yielded ops a.tmps) = false)
    (hn : wpL P ops md (ConstC w0) Q (i + 1) rest (a.put o.dst undef)) : wpL P ops md (ConstC w0) Q i (o :: rest) a :=
  ⟨undef, .inr ⟨hw, rfl, fun _ _ _ hC => hC⟩, hn⟩
end
theorem region_const {P : Program} {id : Nat} {Q : Exit → Act → World → Prop} {a : Act} {w : World} {l : List Oper} (hm : P.follows .mixedOrders = true) (hB : Region.lexB .any l.toArray = true)
    (h : wpL P l.toArray .any (ConstC w.drew) (fun a' => Q .normal a' w.drew) 0 l a) : (Code.region id l.toArray true).wp P Q a w := by
  refine region_any (ConstC w.drew) hm hB rfl ?_
  have mono : ∀ (l' : List Oper) (n : Nat) (a : Act), wpL P l.toArray .any (ConstC w.drew) (fun a' => Q .normal a' w.drew) n l' a → wpL P l.toArray .any (ConstC w.drew) (fun a' => ∀ w', ConstC w.drew (finL 0 l.length (Array.replicate l.length false)) w' → Q .normal a' w') n l' a := by
    intro l'
    induction l' with
    | nil => intro n a h w' hC; obtain rfl : w' = w.drew := hC; exact h
    | cons o l' ih => intro n a ⟨v, hy, hn⟩; exact ⟨v, hy, ih _ _ hn⟩
  exact mono l 0 a h
end Go.Proofs.YtbcnkcndhgihaaaDoor

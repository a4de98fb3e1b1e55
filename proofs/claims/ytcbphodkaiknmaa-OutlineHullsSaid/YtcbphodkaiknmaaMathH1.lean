/- Hulls: what the chain of a sorted list is. -/
import Derived.Test.YtcbphodkaiknmaaMathA
namespace Go.Proofs.Ytcbphodkaiknmaa
open Go.RowKit

/-- A half of all ways: one of each two opposite ones. -/
structure Half (U : XY → Prop) : Prop where
  tr : ∀ {u v w : XY}, U u → U v → U w → 0 ≤ vx u v → 0 ≤ vx v w → 0 ≤ vx u w ∧ (0 < vx u v ∨ 0 < vx v w → 0 < vx u w)
  tot : ∀ {a b : XY}, a ≠ b → U (sb a b) ∨ U (sb b a)
  add : ∀ {a b c : XY}, U (sb a b) → U (sb b c) → U (sb a c)
  irr : ∀ a : XY, ¬ U (sb a a)
theorem half_up : Half up where
  tr := tr_up
  tot := fun {a b} h => by
    by_cases hx : (sb a b).X ≠ 0 ∨ (sb a b).Y ≠ 0
    · rcases up_or _ hx with h1 | h1
      · exact .inl h1
      · refine .inr ?_
        have e : ng (sb a b) = sb b a := by unfold ng sb; simp only; congr 1 <;> omega
        rwa [e] at h1
    · exfalso
      apply h
      unfold sb at hx
      simp only at hx
      cases a; cases b
      simp only at hx
      congr 1 <;> omega
  add := fun {a b c} h k => by unfold up sb at *; simp only at *; omega
  irr := fun a h => by unfold up sb at h; simp only at h; omega
theorem half_low : Half (fun v => up (ng v)) where
  tr := fun {u v w} hu hv hw h1 h2 => by
    have := tr_up hu hv hw (by rw [vx_ng2]; exact h1) (by rw [vx_ng2]; exact h2)
    rw [vx_ng2, vx_ng2, vx_ng2] at this
    exact this
  tot := fun {a b} h => by
    have e1 : ng (sb a b) = sb b a := by unfold ng sb; simp only; congr 1 <;> omega
    have e2 : ng (sb b a) = sb a b := by unfold ng sb; simp only; congr 1 <;> omega
    show up (ng (sb a b)) ∨ up (ng (sb b a))
    rw [e1, e2]
    exact (half_up.tot h).symm
  add := fun {a b c} h k => by unfold up ng sb at *; simp only at *; omega
  irr := fun a h => by unfold up ng sb at h; simp only at h; omega
theorem vx_via (a b x : XY) : vx (sb a b) (sb a x) = vx (sb a b) (sb b x) := by unfold vx sb; grind
theorem vx_split (u : XY) (a b x : XY) : vx u (sb a x) = vx u (sb a b) + vx u (sb b x) := by unfold vx sb; grind
theorem vx_back (u a b : XY) : vx u (sb a b) = vx (sb b a) u := by unfold vx sb; grind
/-- The places of the chain so far, the last one first. -/
def Good (U : XY → Prop) (pre : List XY) : List XY → Prop
  | [] => False
  | [a] => a ∈ pre ∧ ∀ x ∈ pre, x = a ∨ U (sb a x)
  | b :: a :: r => (b ∈ pre ∧ U (sb a b)) ∧ (∀ x ∈ pre, 0 ≤ vx (sb a b) (sb a x)) ∧ (∀ z, r.head? = some z → 0 < vx (sb z a) (sb a b)) ∧ Good U pre (a :: r)
theorem Good.mem {U : XY → Prop} {pre : List XY} {b : XY} : ∀ {r : List XY}, Good U pre (b :: r) → b ∈ pre
  | [], h => h.1
  | _ :: _, h => h.1.1
def popS : List XY → XY → List XY
  | b :: a :: r, p => if vx (sb a b) (sb a p) ≤ 0 then popS (a :: r) p else b :: a :: r
  | st, _ => st
theorem good_ext {U : XY → Prop} (H : Half U) {pre : List XY} {p : XY} (hp : ∀ x ∈ pre, U (sb x p)) : ∀ st, Good U pre st → (∀ b a r, st = b :: a :: r → 0 < vx (sb a b) (sb b p)) → Good U (pre ++ [p]) st
  | [], h, _ => h
  | [a], h, _ => by
    refine ⟨List.mem_append_left _ h.1, fun x hx => ?_⟩
    rcases List.mem_append.1 hx with hx | hx
    · exact h.2 x hx
    · simp at hx; subst hx; exact .inr (hp a h.1)
  | b :: a :: r, h, ht => by
    obtain ⟨⟨hb, hU⟩, hs, hz, hg⟩ := h
    have h0 := ht b a r rfl
    refine ⟨⟨List.mem_append_left _ hb, hU⟩, fun x hx => ?_, hz, good_ext H hp (a :: r) hg ?_⟩
    · rcases List.mem_append.1 hx with hx | hx
      · exact hs x hx
      · simp at hx; subst hx; rw [vx_via]; omega
    · intro b' a' r' e
      injection e with e1 e2
      subst e1
      subst e2
      have hz' := hz a' rfl
      have hg' : U (sb a' a) := hg.1.2
      have := (H.tr hg' hU (hp b hb) (by omega) (by omega)).2 (.inl hz')
      rw [vx_split _ a b p]
      omega
theorem good_pop {U : XY → Prop} (H : Half U) {pre : List XY} {p : XY} (hp : ∀ x ∈ pre, U (sb x p)) : ∀ st, Good U pre st → (∀ b r, st = b :: r → ∀ x ∈ pre, U (sb b x) → 0 ≤ vx (sb b p) (sb b x)) → Good U (pre ++ [p]) (p :: popS st p)
  | [], h, _ => h.elim
  | [b], h, hb => by
    have hg := good_ext H hp [b] h (fun b' a' r' e => by injection e with _ e2; cases e2)
    refine ⟨⟨by simp, hp b h.1⟩, fun x hx => ?_, (fun z hz => by cases hz), hg⟩
    rcases List.mem_append.1 hx with hx | hx
    · rcases h.2 x hx with e | e
      · subst e; unfold vx sb; simp only; grind
      · exact hb b [] rfl x hx e
    · simp at hx; subst hx; rw [vx_self]; exact Int.le_refl _
  | b :: a :: r, h, hb => by
    obtain ⟨⟨hbm, hU⟩, hs, hz, hg⟩ := h
    have ham := Good.mem hg
    unfold popS
    split
    · next hle =>
      refine good_pop H hp (a :: r) hg ?_
      intro b' r' e x hx hax
      injection e with e1 _
      subst e1
      have h1 := hs x hx
      have h2 : 0 ≤ vx (sb a p) (sb a b) := by rw [vx_swap]; omega
      exact (H.tr (hp a ham) hU hax h2 h1).1
    · next hgt =>
      have h0 : 0 < vx (sb a b) (sb b p) := by rw [← vx_via]; omega
      have hg2 := good_ext H hp (b :: a :: r) ⟨⟨hbm, hU⟩, hs, hz, hg⟩ (fun b' a' r' e => by
        injection e with e1 e2
        injection e2 with e2 _
        subst e1 e2
        exact h0)
      refine ⟨⟨by simp, hp b hbm⟩, fun x hx => ?_, (fun z hz' => by injection hz' with hz'; subst hz'; exact h0), hg2⟩
      rcases List.mem_append.1 hx with hx | hx
      · by_cases e : b = x
        · subst e; unfold vx sb; simp only; grind
        · rcases H.tot e with e1 | e1
          · exact hb b _ rfl x hx e1
          · have h1 := hs x hx
            rw [vx_via, vx_back] at h1
            have h2 := (H.tr e1 hU (hp b hbm) h1 (by omega)).1
            rw [vx_back]
            exact h2
      · simp at hx; subst hx; rw [vx_self]; exact Int.le_refl _
def chainS (S : List XY) : List XY := S.foldl (fun st p => p :: popS st p) []
theorem chain_snoc (S : List XY) (p : XY) : chainS (S ++ [p]) = p :: popS (chainS S) p := by unfold chainS; rw [List.foldl_append]; rfl
/-- The chain of a sorted list. -/
theorem good_chain_n {U : XY → Prop} (H : Half U) : ∀ (n : Nat) (S : List XY), S.length = n → S ≠ [] → S.Pairwise (fun a b => U (sb a b)) → Good U S (chainS S) ∧ ∃ q r, chainS S = q :: r ∧ S.getLast? = some q ∧ ∀ x ∈ S, x = q ∨ U (sb x q) := by
  intro n
  induction n with
  | zero => intro S hn h; exact absurd (List.length_eq_zero_iff.1 hn) h
  | succ n ih' =>
    intro S0 hn hne hs
    obtain ⟨S, p, rfl⟩ : ∃ S p, S0 = S ++ [p] := ⟨S0.dropLast, S0.getLast hne, (List.dropLast_concat_getLast hne).symm⟩
    have ih := ih' S (by simp at hn; exact hn)
    rw [List.pairwise_append] at hs
    have hp : ∀ x ∈ S, U (sb x p) := fun x hx => hs.2.2 x hx p (by simp)
    have hlast : (S ++ [p]).getLast? = some p := by simp
    have hmax : ∀ x ∈ S ++ [p], x = p ∨ U (sb x p) := fun x hx => by
      rcases List.mem_append.1 hx with hx | hx
      · exact .inr (hp x hx)
      · simp at hx; exact .inl hx
    rw [chain_snoc]
    by_cases h0 : S = []
    · subst h0
      exact ⟨⟨by simp, fun x hx => by simp at hx; exact .inl hx⟩, p, [], rfl, hlast, hmax⟩
    · obtain ⟨hg, q, r, e, _, hq⟩ := ih h0 hs.1
      refine ⟨good_pop H hp _ hg ?_, p, _, rfl, hlast, hmax⟩
      intro b r' e' x hx hbx
      rw [e] at e'
      injection e' with e1 _
      subst e1
      rcases hq x hx with e2 | e2
      · subst e2; exact absurd hbx (H.irr _)
      · exact absurd (H.add hbx e2) (H.irr _)
theorem good_chain {U : XY → Prop} (H : Half U) (S : List XY) (h : S ≠ []) (hs : S.Pairwise (fun a b => U (sb a b))) : Good U S (chainS S) ∧ ∃ q r, chainS S = q :: r ∧ S.getLast? = some q ∧ ∀ x ∈ S, x = q ∨ U (sb x q) := good_chain_n H S.length S rfl h hs
theorem good_get {U : XY → Prop} {pre : List XY} : ∀ {st : List XY} (_ : Good U pre st) {j : Nat} {a b : XY}, st[j]? = some b → st[j + 1]? = some a → U (sb a b) ∧ (∀ x ∈ pre, 0 ≤ vx (sb a b) (sb a x)) ∧ ∀ z, st[j + 2]? = some z → 0 < vx (sb z a) (sb a b)
  | [], h, _, _, _, _, _ => h.elim
  | [_], _, 0, _, _, _, h1 => by simp at h1
  | [_], _, _ + 1, _, _, h0, _ => by simp at h0
  | b :: a :: r, h, 0, a', b', h0, h1 => by
    simp at h0 h1
    subst h0 h1
    refine ⟨h.1.2, h.2.1, fun z hz => h.2.2.1 z ?_⟩
    cases r with
    | nil => simp at hz
    | cons y r => simpa using hz
  | b :: a :: r, h, j + 1, a', b', h0, h1 => by
    have := good_get (st := a :: r) h.2.2.2 (j := j) (a := a') (b := b') (by simpa using h0) (by simpa using h1)
    exact ⟨this.1, this.2.1, fun z hz => this.2.2 z (by simpa using hz)⟩
theorem good_mem {U : XY → Prop} {pre : List XY} : ∀ {st : List XY} (_ : Good U pre st) {x : XY}, x ∈ st → x ∈ pre
  | [], h, _, _ => h.elim
  | [a], h, x, hx => by simp at hx; subst hx; exact h.1
  | b :: a :: r, h, x, hx => by
    rcases List.mem_cons.1 hx with e | e
    · subst e; exact h.1.1
    · exact good_mem (st := a :: r) h.2.2.2 e
theorem good_last {U : XY → Prop} {pre : List XY} : ∀ {st : List XY} (_ : Good U pre st), ∃ a, st.getLast? = some a ∧ a ∈ pre ∧ ∀ x ∈ pre, x = a ∨ U (sb a x)
  | [], h => h.elim
  | [a], h => ⟨a, rfl, h.1, h.2⟩
  | b :: a :: r, h => by
    obtain ⟨z, hz, hz2⟩ := good_last (st := a :: r) h.2.2.2
    exact ⟨z, by rw [List.getLast?_cons_cons]; exact hz, hz2⟩
end Go.Proofs.Ytcbphodkaiknmaa

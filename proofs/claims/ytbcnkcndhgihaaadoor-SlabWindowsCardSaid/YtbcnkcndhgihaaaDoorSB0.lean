/- Blocks: built: what its steps bring. -/
import Derived.Test.YtbcnkcndhgihaaaDoorSOwn
import Derived.Test.YtbcnkcndhgihaaaDoorSWT
import Derived.ChangeKeysEq
namespace Go.Proofs.YtbcnkcndhgihaaaDoor
open Go.RowKit

/-- What built returns. -/
def BuiltR (b : BT) (w : World) (e : Ending) (w' : World) : Prop := Below w.heap.size w w' ∧ ∃ v er, e = .returned (.tuple #[v, .int .i64 er]) ∧ (∀ s, builtS b = .ok s → v = s.val ∧ er = 0) ∧ (∀ x, builtS b = .error x → er = x)
theorem built_fin {b : BT} {S : Sh} {N : T3} (h : builtS b = if fitsS N = 0 then .ok S else .error (fitsS N)) : (∀ s, builtS b = .ok s → S.val = s.val ∧ fitsS N = 0) ∧ (∀ x, builtS b = .error x → fitsS N = x) := by
  by_cases hf : fitsS N = 0
  · rw [if_pos hf] at h
    refine ⟨fun s hs => ?_, fun x hx => ?_⟩
    · rw [h] at hs; injection hs with hs; rw [hs]; exact ⟨rfl, hf⟩
    · rw [h] at hx; cases hx
  · rw [if_neg hf] at h
    refine ⟨fun s hs => ?_, fun x hx => ?_⟩
    · rw [h] at hs; cases hs
    · rw [h] at hx; injection hx
theorem built_ok1 {b : BT} {S : Sh} (h : builtS b = .ok S) : (∀ s, builtS b = .ok s → S.val = s.val ∧ (0 : Int) = 0) ∧ (∀ x, builtS b = .error x → (0 : Int) = x) := by
  refine ⟨fun s hs => ?_, fun x hx => ?_⟩
  · rw [h] at hs; injection hs with hs; rw [hs]; exact ⟨rfl, rfl⟩
  · rw [h] at hx; cases hx
theorem built_er1 {b : BT} {v : Value} {er : Int} (h : builtS b = .error er) : (∀ s, builtS b = .ok s → v = s.val ∧ er = 0) ∧ (∀ x, builtS b = .error x → er = x) := by
  refine ⟨fun s hs => ?_, fun x hx => ?_⟩
  · rw [h] at hs; cases hs
  · rw [h] at hx; injection hx
theorem built_ok2 {b : BT} {S : Sh} {v : Value} (h : builtS b = .ok S) (hv : v = S.val) : (∀ s, builtS b = .ok s → v = s.val ∧ (0 : Int) = 0) ∧ (∀ x, builtS b = .error x → (0 : Int) = x) := by
  subst hv; exact built_ok1 h
theorem built_fin2 {b : BT} {S : Sh} {N : T3} {v : Value} (h : builtS b = if fitsS N = 0 then .ok S else .error (fitsS N)) (hv : v = S.val) : (∀ s, builtS b = .ok s → v = s.val ∧ fitsS N = 0) ∧ (∀ x, builtS b = .error x → fitsS N = x) := by
  subst hv; exact built_fin h
theorem turn_val (n : T3) (a : Int) (s : Sh) : (Sh.turn n a s).val = .iface 121 (.agg #[.int .i64 n.x, .int .i64 n.y, .int .i64 n.z, .int .i64 a, .iface s.ty (.agg s.ag)]) := by
  show Value.iface _ (.agg #[_, _, _, _, s.val]) = _; rw [s.val_eq]
theorem flip_val (n : T3) (a : Int) (s : Sh) : (Sh.flip n a s).val = .iface 84 (.agg #[.int .i64 n.x, .int .i64 n.y, .int .i64 n.z, .int .i64 a, .iface s.ty (.agg s.ag)]) := by
  show Value.iface _ (.agg #[_, _, _, _, s.val]) = _; rw [s.val_eq]
theorem rep_val (n : T3) (a : Int) (s : Sh) : (Sh.rep n a s).val = .iface 124 (.agg #[.int .i64 n.x, .int .i64 n.y, .int .i64 n.z, .int .i64 a, .iface s.ty (.agg s.ag)]) := by
  show Value.iface _ (.agg #[_, _, _, _, s.val]) = _; rw [s.val_eq]
theorem slice_val (n : T3) (a o : Int) (s : Sh) : (Sh.slice n a o s).val = .iface 123 (.agg #[.int .i64 n.x, .int .i64 n.y, .int .i64 n.z, .int .i64 a, .int .i64 o, .iface s.ty (.agg s.ag)]) := by
  show Value.iface _ (.agg #[_, _, _, _, _, s.val]) = _; rw [s.val_eq]
theorem stack_val (n : T3) (a : Int) (s t : Sh) : (Sh.stack n a s t).val = .iface 120 (.agg #[.int .i64 n.x, .int .i64 n.y, .int .i64 n.z, .int .i64 a, .iface s.ty (.agg s.ag), .iface t.ty (.agg t.ag)]) := by
  show Value.iface _ (.agg #[_, _, _, _, s.val, t.val]) = _; rw [s.val_eq, t.val_eq]
theorem builtL_cons (p : BT) (ps : List BT) : builtL (p :: ps) = (match builtS p with | .error e => .error e | .ok s => match builtL ps with | .error e => .error e | .ok l => .ok (s :: l)) := rfl
theorem builtL_snoc : ∀ (l : List BT) (m : List Sh) (p : BT) (s : Sh), builtL l = .ok m → builtS p = .ok s → builtL (l ++ [p]) = .ok (m ++ [s])
  | [], m, p, s, h, hs => by
    have : m = [] := by injection h with h; exact h.symm
    subst this
    rw [List.nil_append, builtL_cons, hs]; rfl
  | q :: l, m, p, s, h, hs => by
    rw [builtL_cons] at h
    cases hq : builtS q with
    | error e => rw [hq] at h; cases h
    | ok t =>
      rw [hq] at h
      cases hl : builtL l with
      | error e => rw [hl] at h; cases h
      | ok k =>
        rw [hl] at h
        injection h with h
        subst h
        rw [List.cons_append, builtL_cons, hq, builtL_snoc l k p s hl hs]; rfl
theorem builtL_err : ∀ (l : List BT) (r : List BT) (m : List Sh) (p : BT) (x : Int), builtL l = .ok m → builtS p = .error x → builtL (l ++ p :: r) = .error x
  | [], r, m, p, x, h, hs => by rw [List.nil_append, builtL_cons, hs]
  | q :: l, r, m, p, x, h, hs => by
    rw [builtL_cons] at h
    cases hq : builtS q with
    | error e => rw [hq] at h; cases h
    | ok t =>
      rw [hq] at h
      cases hl : builtL l with
      | error e => rw [hl] at h; cases h
      | ok k => rw [List.cons_append, builtL_cons, hq, builtL_err l r k p x hl hs]
theorem builtL_at_err {b : BT} {k : Nat} {p : BT} {m : List Sh} {x : Int} (hp : b.ps[k]? = some p) (h : builtL (b.ps.take k) = .ok m) (hs : builtS p = .error x) : builtS b = .error x := by
  have e : b.ps = b.ps.take k ++ p :: b.ps.drop (k + 1) := by
    obtain ⟨hk, hp⟩ := List.getElem?_eq_some_iff.1 hp
    rw [← hp, List.getElem_cons_drop, List.take_append_drop]
  rw [builtS_eq, e, builtL_err _ _ m p x h hs]
theorem builtL_at {b : BT} {k : Nat} {p : BT} {m : List Sh} {s : Sh} (hp : b.ps[k]? = some p) (h : builtL (b.ps.take k) = .ok m) (hs : builtS p = .ok s) : builtL (b.ps.take (k + 1)) = .ok (m ++ [s]) := by
  rw [take_succ_of hp]
  exact builtL_snoc _ _ _ _ h hs
theorem builtL_len : ∀ (l : List BT) (m : List Sh), builtL l = .ok m → m.length = l.length
  | [], m, h => by injection h with h; subst h; rfl
  | p :: l, m, h => by
    rw [builtL_cons] at h
    cases hq : builtS p with
    | error e => rw [hq] at h; cases h
    | ok t =>
      rw [hq] at h
      cases hl : builtL l with
      | error e => rw [hl] at h; cases h
      | ok k =>
        rw [hl] at h
        injection h with h
        subst h
        rw [List.length_cons, List.length_cons, builtL_len l k hl]
theorem fits_or (n : T3) : fitsS n = 0 ∨ fitsS n = 4 := by
  unfold fitsS
  split
  · exact .inr rfl
  · split
    · exact .inr rfl
    · exact .inl rfl
/-- The errors of what is right by itself. -/
theorem built_err : ∀ b : BT, wholeS b = true → ∀ x, builtS b = .error x → x = 4 ∨ x = 21 := by
  refine BT.ind ?_
  intro b ih hw x hx
  obtain ⟨h1, hps⟩ := whole_parts hw
  rw [builtS_eq] at hx
  have hL : ∀ (l : List BT), (∀ p ∈ l, p ∈ b.ps) → ∀ x, builtL l = .error x → x = 4 ∨ x = 21 := by
    intro l
    induction l with
    | nil => intro _ x h; cases h
    | cons p l ihl =>
      intro hl x h
      rw [builtL_cons] at h
      cases hq : builtS p with
      | error e =>
        rw [hq] at h
        injection h with h
        subst h
        exact ih p (hl p (by simp)) (hps p (hl p (by simp))) e hq
      | ok t =>
        rw [hq] at h
        cases hl2 : builtL l with
        | error e =>
          rw [hl2] at h
          injection h with h
          subst h
          exact ihl (fun q hq => hl q (by simp [hq])) e hl2
        | ok k => rw [hl2] at h; cases h
  cases hb : builtL b.ps with
  | error e =>
    rw [hb] at hx
    injection hx with hx
    subst hx
    exact hL b.ps (fun p hp => hp) e hb
  | ok m =>
    rw [hb] at hx
    have hlen := builtL_len _ _ hb
    simp only at hx
    unfold joinS at hx
    rcases one_facts h1 with ⟨o, hp, _⟩ | ⟨ha, _, hn2, ⟨o, ⟨p, q, hp⟩, hn⟩ | ⟨p, hp, h⟩⟩
    · rw [if_pos o] at hx
      split at hx
      · cases hx
      · injection hx with hx
        rcases fits_or ⟨b.n0, b.n1, b.n2⟩ with h | h <;> omega
    · rw [hp] at hlen
      match m, hlen with
      | [s, t], _ =>
        rw [if_neg (by omega)] at hx
        simp only [if_pos o] at hx
        split at hx
        · split at hx
          · cases hx
          · injection hx with hx
            rcases fits_or (s.ext.set b.ax (s.ext.get b.ax + t.ext.get b.ax)) with h | h <;> omega
        · injection hx with hx; omega
    · rw [hp] at hlen
      match m, hlen with
      | [s], _ =>
        rcases h with ⟨o, _⟩ | ⟨o, k1, k2, k3⟩ | ⟨o, _⟩ | ⟨o, k1, k2⟩
        · rw [if_neg (by omega)] at hx
          simp only at hx
          rw [if_neg (by omega), if_pos o] at hx
          cases hx
        · rw [if_neg (by omega)] at hx
          simp only at hx
          rw [if_neg (by omega), if_neg (by omega), if_pos o] at hx
          split at hx
          · injection hx with hx; omega
          · cases hx
        · rw [if_neg (by omega)] at hx
          simp only at hx
          rw [if_neg (by omega), if_neg (by omega), if_neg (by omega), if_pos o] at hx
          cases hx
        · rw [if_neg (by omega)] at hx
          simp only at hx
          rw [if_neg (by omega), if_neg (by omega), if_neg (by omega), if_neg (by omega)] at hx
          split at hx
          · cases hx
          · injection hx with hx
            rcases fits_or (s.ext.set b.ax (s.ext.get b.ax * b.n0)) with h | h <;> omega
theorem in3 (p q : T3) (w : World) : (Op.equalIn 10000 22 (val3 p) (val3 q)).run Tryd.prog w = .ok (decide (p = q)) w := by
  have hj0 : (Tryd.prog.info? 3).isSome = true := by kernel_rfl
  obtain ⟨j, hj⟩ := Option.isSome_iff_exists.1 hj0
  have hc : Tryd.prog.cellsOf 3 = 1 := by kernel_rfl
  have u3 := Tryd.underlying3
  have a3 := Tryd.isAgg3
  have z3 := Tryd.sizeOf3
  obtain ⟨px, py, pz⟩ := p
  obtain ⟨qx, qy, qz⟩ := q
  rw [show (10000 : Nat) = 9999 + 1 from rfl, run_equalIn_array w 9999 _ _ Tryd.underlying22 hj, hc, show List.range 3 = [0, 1, 2] from rfl]
  simp only [Op.eqItems]
  go_simp
  by_cases h1 : px = qx <;> by_cases h2 : py = qy <;> by_cases h3 : pz = qz <;> simp [h1, h2, h3]
theorem run_ne3 (p q : T3) (w : World) : (binOp .neq 22 (val3 p) (val3 q)).run Tryd.prog w = .ok (.bool (!decide (p = q))) w := by
  rw [run_neq_struct, in3]; rfl
theorem run_eq3 (p q : T3) (w : World) : (binOp .eql 22 (val3 p) (val3 q)).run Tryd.prog w = .ok (.bool (decide (p = q))) w := by
  rw [run_eql_struct, in3]; rfl
theorem built_one {b p : BT} (hp : b.ps = [p]) {S : Sh} (hS : builtS b = .ok S) : ∃ s, builtS p = .ok s ∧ joinS b [s] = .ok S := by
  rw [builtS_eq, hp, builtL_cons] at hS
  cases hq : builtS p with
  | error e => rw [hq] at hS; cases hS
  | ok s => rw [hq] at hS; exact ⟨s, rfl, hS⟩
theorem built_two {b p q : BT} (hp : b.ps = [p, q]) {S : Sh} (hS : builtS b = .ok S) : ∃ s t, builtS p = .ok s ∧ builtS q = .ok t ∧ joinS b [s, t] = .ok S := by
  rw [builtS_eq, hp, builtL_cons] at hS
  cases hq : builtS p with
  | error e => rw [hq] at hS; cases hS
  | ok s =>
    rw [hq, builtL_cons] at hS
    cases hq2 : builtS q with
    | error e => rw [hq2] at hS; cases hS
    | ok t => rw [hq2] at hS; exact ⟨s, t, rfl, rfl, hS⟩
theorem join1 {b : BT} {S : Sh} {l : List Sh} (o : b.op = 1) (h : joinS b l = .ok S) : S = .solid ⟨b.n0, b.n1, b.n2⟩ b.co := by
  unfold joinS at h
  rw [if_pos o] at h
  split at h
  · injection h with h; exact h.symm
  · cases h
theorem join2 {b : BT} {s t S : Sh} (o : b.op = 2) (h : joinS b [s, t] = .ok S) : ∃ n, S = .stack n b.ax s t := by
  unfold joinS at h
  rw [if_neg (by omega)] at h
  simp only [if_pos o] at h
  split at h
  · split at h
    · injection h with h; exact ⟨_, h.symm⟩
    · cases h
  · cases h
theorem join3 {b : BT} {s S : Sh} (o : b.op = 3) (h : joinS b [s] = .ok S) : ∃ n, S = .turn n b.ax s := by
  unfold joinS at h
  rw [if_neg (by omega)] at h
  simp only at h
  rw [if_neg (by omega), if_pos o] at h
  injection h with h; exact ⟨_, h.symm⟩
theorem join4 {b : BT} {s S : Sh} (o : b.op = 4) (h : joinS b [s] = .ok S) : ∃ n, S = .slice n b.ax b.n0 s := by
  unfold joinS at h
  rw [if_neg (by omega)] at h
  simp only at h
  rw [if_neg (by omega), if_neg (by omega), if_pos o] at h
  split at h
  · cases h
  · injection h with h; exact ⟨_, h.symm⟩
theorem join5 {b : BT} {s S : Sh} (o : b.op = 5) (h : joinS b [s] = .ok S) : S = .flip s.ext b.ax s := by
  unfold joinS at h
  rw [if_neg (by omega)] at h
  simp only at h
  rw [if_neg (by omega), if_neg (by omega), if_neg (by omega), if_pos o] at h
  injection h with h; exact h.symm
theorem join6 {b : BT} {s S : Sh} (o : b.op = 6) (h : joinS b [s] = .ok S) : ∃ n, S = .rep n b.ax s := by
  unfold joinS at h
  rw [if_neg (by omega)] at h
  simp only at h
  rw [if_neg (by omega), if_neg (by omega), if_neg (by omega), if_neg (by omega)] at h
  split at h
  · injection h with h; exact ⟨_, h.symm⟩
  · cases h
theorem ine_bd {n c : T3} (h : InE n c) (hn : ExtOk n) : (0 ≤ c.x ∧ c.x ≤ 1000) ∧ (0 ≤ c.y ∧ c.y ≤ 1000) ∧ 0 ≤ c.z ∧ c.z ≤ 1000 := by
  obtain ⟨a, b, d⟩ := h
  obtain ⟨e, f, g, _⟩ := hn
  omega
theorem ext_bd3 {n : T3} (hn : ExtOk n) : (1 ≤ n.x ∧ n.x ≤ 200) ∧ (1 ≤ n.y ∧ n.y ≤ 200) ∧ 1 ≤ n.z ∧ n.z ≤ 200 := ⟨hn.1, hn.2.1, hn.2.2.1⟩
theorem join2v {b : BT} {s t S : Sh} (o : b.op = 2) (h : joinS b [s, t] = .ok S) : S = .stack (s.ext.set b.ax (s.ext.get b.ax + t.ext.get b.ax)) b.ax s t := by
  unfold joinS at h
  rw [if_neg (by omega)] at h
  simp only [if_pos o] at h
  split at h
  · split at h
    · injection h with h; exact h.symm
    · cases h
  · cases h
theorem join3v {b : BT} {s S : Sh} (o : b.op = 3) (h : joinS b [s] = .ok S) : S = .turn (exch s.ext b.ax) b.ax s := by
  unfold joinS at h
  rw [if_neg (by omega)] at h
  simp only at h
  rw [if_neg (by omega), if_pos o] at h
  injection h with h; exact h.symm
theorem join4v {b : BT} {s S : Sh} (o : b.op = 4) (h : joinS b [s] = .ok S) : S = .slice (s.ext.set b.ax b.n1) b.ax b.n0 s ∧ b.n0 + b.n1 ≤ s.ext.get b.ax := by
  unfold joinS at h
  rw [if_neg (by omega)] at h
  simp only at h
  rw [if_neg (by omega), if_neg (by omega), if_pos o] at h
  split at h
  · cases h
  · injection h with h; exact ⟨h.symm, by omega⟩
theorem join6v {b : BT} {s S : Sh} (o : b.op = 6) (h : joinS b [s] = .ok S) : ∃ n, S = .rep n b.ax s ∧ n = s.ext.set b.ax (s.ext.get b.ax * b.n0) := by
  unfold joinS at h
  rw [if_neg (by omega)] at h
  simp only at h
  rw [if_neg (by omega), if_neg (by omega), if_neg (by omega), if_neg (by omega)] at h
  split at h
  · injection h with h; exact ⟨_, h.symm, rfl⟩
  · cases h
end Go.Proofs.YtbcnkcndhgihaaaDoor

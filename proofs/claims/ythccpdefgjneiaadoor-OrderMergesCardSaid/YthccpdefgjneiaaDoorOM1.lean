/- Which list has no name and day twice: the program's map of what it has met: the walks. -/
import Derived.Test.YthccpdefgjneiaaDoorOIdx
import Derived.Maps.OwnOps
import Derived.Maps.Views
import Derived.DeepKeys4
namespace Go.Proofs.YthccpdefgjneiaaDoor
open Go.RowKit Go.Shelf Go.Maps

/-- A name and a day. -/
structure NK where
  s : ByteArray
  d : Int
  deriving DecidableEq
abbrev valK (p : NK) : Value := .agg #[.string p.s, .int .i64 p.d]
def OkK (p : NK) : Prop := p.s.size ≤ maxLen ∧ (Lit.int .i64 p.d).wf = true
theorem Tryd.kSize : ∃ m, Tryd.prog.types.size = m + 2 := ⟨Tryd.prog.types.size - 2, by kernel_rfl⟩
theorem keyK : Keyed Tryd.prog 102 := Keyed.of_law (deep_law_laid (m := 5) (by kernel_rfl) (by decide) (of_decide_eq_true (by kernel_rfl)) (by kernel_rfl) (by kernel_rfl))
theorem key_some {p : NK} (h : OkK p) : keyOf Tryd.prog 102 (valK p) = some (.string (keyBytes [.string p.s.data.toList, .int .i64 p.d])) := by
  have hkt : Tryd.prog.keyType 102 = true := by kernel_rfl
  have hc : Tryd.prog.cellsOf 102 = 2 := by kernel_rfl
  have c1 : Tryd.prog.cellsOf 9 = 1 := by kernel_rfl
  have c2 : Tryd.prog.cellsOf 3 = 1 := by kernel_rfl
  obtain ⟨m, hm⟩ := Tryd.kSize
  unfold keyOf
  simp only [Tryd.underlying102]
  rw [if_pos (by simp [hkt, Value.formed, Tryd.underlying102, hc]), hm]
  unfold Program.keyLits
  simp only [Tryd.underlying102, Value.cells]
  rw [if_pos (by rw [hc]; exact ⟨rfl, by kernel_rfl⟩)]
  simp [c1, c2, Program.keyLits, Tryd.underlying9, Tryd.underlying3, h.1, h.2]
def kl (p : NK) : Lit := .string (keyBytes [.string p.s.data.toList, .int .i64 p.d])
theorem kl_inj {p q : NK} (h : OkK p) (h' : OkK q) (e : kl p = kl q) : p = q := by
  have h1 := key_some h
  have h2 := key_some h'
  have := keyK.inj h1 (by rw [h2]; exact congrArg some e.symm)
  simp only [Value.agg.injEq, Array.mk.injEq, List.cons.injEq, Value.string.injEq, Value.int.injEq, true_and, and_true] at this
  cases p; cases q
  simp only [NK.mk.injEq]
  exact this
def KS (l : List NK) (k : Nat) : DataW Unit := setOf (.lit (.bool true)) ((l.take k).map kl)
theorem KS_succ {l : List NK} {k : Nat} {p : NK} (h : l[k]? = some p) : KS l (k + 1) = (KS l k).put (kl p) (.lit (.bool true)) := by
  unfold KS
  rw [take_succ_of h, List.map_append]
  exact setOf_snoc _ _ _
open Classical in
theorem atKey_setOf (u z : DataW Unit) (k : Lit) : ∀ (acc : List Lit) (m : DataW Unit), IsMap m → (∀ x ∈ acc, WideAt.IsKeyLit x) → (acc.foldl (fun m x => m.put x u) m).atKey k z = if k ∈ acc then u else m.atKey k z
  | [], m, _, _ => by simp
  | x :: acc, m, hm, h => by
    rw [List.foldl_cons, atKey_setOf u z k acc _ (hm.put x u) (fun y hy => h y (List.mem_cons_of_mem _ hy))]
    by_cases h1 : k ∈ acc
    · rw [if_pos h1, if_pos (List.mem_cons_of_mem _ h1)]
    · rw [if_neg h1]
      by_cases h2 : k = x
      · subst h2
        rw [if_pos List.mem_cons_self, atKey_put_same hm (h k List.mem_cons_self)]
      · rw [if_neg (by simp [h1, h2]), atKey_put_other h2]
theorem KS_at {l : List NK} {k : Nat} {p : NK} (hl : ∀ q ∈ l, OkK q) (hp : OkK p) : (KS l k).atKey (kl p) (.lit (.bool false)) = .lit (.bool (decide (p ∈ l.take k))) := by
  unfold KS setOf
  rw [atKey_setOf _ _ _ _ _ isMap_empty (fun x hx => by obtain ⟨q, _, rfl⟩ := List.mem_map.1 hx; trivial)]
  by_cases h : p ∈ l.take k
  · rw [if_pos (List.mem_map.2 ⟨p, h, rfl⟩), decide_eq_true h]
  · rw [if_neg, decide_eq_false h]
    · rfl
    · intro hc
      obtain ⟨q, hq, e⟩ := List.mem_map.1 hc
      have := kl_inj (hl q (List.mem_of_mem_take hq)) hp e
      subst this
      exact h hq
theorem plainElem_bool_inv {H : Type} {P : Program} {e : TypeId} (he : P.underlying e = some .bool) {v : Value} {z : DataW H × List MemPlace} (h : plainElem P e v = some z) : ∃ b, v = .bool b ∧ z = (.lit (.bool b), []) := by
  unfold plainElem at h
  rw [he] at h
  cases v <;> simp_all
theorem wpList_lookup_own_bool {H : Type} {P : Program} (w : World) {ops : Array Oper} {rest : List Oper} {o : Oper} {a : Act} {Q : Exit → Act → World → Prop}
    (hg : o.guard = none) (m x : Operand) (t : TypeId) (hop : o.op = Op.lookup t m x false)
    (k e : TypeId) (K : Keyed P k) (ht : P.underlying t = some (.map k e)) (he : P.underlying e = some .bool) (hz : (zeroValue e).run P w = .ok (.bool false) w) (b n : Nat) (D : DataW H)
    (hm : a.eval m = .map (some b)) (hown : w.ownsMap P k (plainElem P e) b n D) (key : Value) (kl : Lit) (hx : a.eval x = key) (hkey : keyOf P k key = some kl)
    (hK : ∀ c : Bool, D.atKey kl (.lit (.bool false)) = .lit (.bool c) → wpList P ops Q rest (a.put o.dst (.bool c)) w) :
    wpList P ops Q (o :: rest) a w := by
  refine wpList_plain hg fun K' hK' => ?_
  obtain ⟨v, ps, hrun, hv⟩ := hown.lookup K ht hz (plainElem_bool he false) hkey
  obtain ⟨c, rfl, hc⟩ := plainElem_bool_inv he hv
  simp only [Prod.mk.injEq] at hc
  unfold Oper.wp
  simp [execOp, hop, hm, hx, hrun, Result.andThen]
  exact hK' _ _ (hK c hc.1)
theorem zeroB (w : World) : (zeroValue 4).run Tryd.prog w = .ok (.bool false) w := by kernel_rfl

theorem money_any (r : RT) (w : World) : Calls Tryd.prog 46 #[valT r] w (Ret (valK ⟨r.c, r.d⟩) w) := by
  go_enter Tryd.func46, Tryd.ntmps46
  go_wp2
  refine bodyPost_ret (v := valK ⟨r.c, r.d⟩) (by simp [results, Tryd.results46, go_sem]) rfl ?_
  exact Ret.mk rfl (by (repeat (first | exact Below.refl _ _ | assumption | refine Below.alloc ?_ (by first | exact Nat.le_refl _ | exact Below.size (by assumption) | omega | (simp <;> omega)) _ | refine Below.setCell ?_ (by first | exact Nat.le_refl _ | exact Below.size (by assumption) | omega | (simp <;> omega)) _ | refine below_drewN ?_ _ | refine Below.drew ?_)))
theorem model_any (r : QT) (w : World) : Calls Tryd.prog 59 #[valQ r] w (Ret (valK ⟨r.m, r.d⟩) w) := by
  go_enter Tryd.func59, Tryd.ntmps59
  go_wp2
  refine bodyPost_ret (v := valK ⟨r.m, r.d⟩) (by simp [results, Tryd.results59, go_sem]) rfl ?_
  exact Ret.mk rfl (by (repeat (first | exact Below.refl _ _ | assumption | refine Below.alloc ?_ (by first | exact Nat.le_refl _ | exact Below.size (by assumption) | omega | (simp <;> omega)) _ | refine Below.setCell ?_ (by first | exact Nat.le_refl _ | exact Below.size (by assumption) | omega | (simp <;> omega)) _ | refine below_drewN ?_ _ | refine Below.drew ?_)))
end Go.Proofs.YthccpdefgjneiaaDoor

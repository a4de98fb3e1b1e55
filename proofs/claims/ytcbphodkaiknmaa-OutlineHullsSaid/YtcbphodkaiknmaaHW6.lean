/- The program's Hull: the walk. -/
import Derived.Test.YtcbphodkaiknmaaHW3
import Derived.Test.YtcbphodkaiknmaaHW5
import Derived.Test.YtcbphodkaiknmaaMathH5
import Derived.Test.YtcbphodkaiknmaaWC
import Derived.Laws.AppendOwnNone
namespace Go.Proofs.Ytcbphodkaiknmaa
open Go.RowKit
set_option linter.unusedSimpArgs false

theorem wpList_append_any9 {P : Program} {w : World} {ops : Array Oper} {rest : List Oper} {o : Oper} {a : Act} {Q : Exit → Act → World → Prop} (hgd : o.guard = none) (s x : Operand) (t : TypeId)
    (ho : o.op = .call { callee := .builtin .append, args := #[s, x], argTypes := #[t, t] })
    (base : Nat) (e : TypeId) (i : TypeInfo) (z : Value) (size bytes : Nat) (ht : P.underlying t = some (.slice e)) (hi : P.info? e = some i) (hz : i.zero = some z)
    (hsize : i.size = size) (hby : i.bytes = bytes) (hzs : z.cells.size = size) (hsz : 0 < size)
    (v : Value) (n : Nat) (xs : List Value) (hs : a.eval s = v) (hown : w.ownsRow base e size v n xs)
    (A : Option Addr) (m c : Nat) (news : List Value) (hx : a.eval x = .slice A m c) (hA : A = none → m = 0 ∧ c = 0) (hl : news.length = m * size) (hnews : ∀ ad, A = some ad → ∀ j u, news[j]? = some u → w.cell? (ad.add j) = some u) (h1 : ∀ u ∈ news, u.oneCell' = true)
    (h63 : n + m ≤ maxLen) (hbytes : (n + m) * bytes ≤ 140737488355328) (hbase : base ≤ w.heap.size)
    (h : ∀ v' w', w'.ownsRow base e size v' (n + m) (xs ++ news) → w.grownBy w' v.ownBlock → wpList P ops Q rest (a.put o.dst v') w') : wpList P ops Q (o :: rest) a w := by
  cases A with
  | some ad => exact wpList_append_own w hgd s x t ho base e i z size bytes ht hi hz hsize hby hzs hsz v n xs hs hown ad m c news hx hl (hnews ad rfl) h1 h63 hbytes hbase (fun v' w' h1 h2 _ => h v' w' h1 h2)
  | none =>
    obtain ⟨rfl, rfl⟩ := hA rfl
    obtain rfl : news = [] := List.length_eq_zero_iff.1 (by omega)
    exact wpList_append_own_none hgd s x t ho base e i size ht hi v n xs hs hown hx (h v w (by simpa using hown) (World.grownBy.refl _ _))
/-- What an own list is as a value. -/
theorem own_plain {w : World} {B : Nat} {v : Value} {l : List XY} (h : OwnL w B v l) : ∃ A c, v = .slice A l.length c ∧ Rd w w.heap.size A l ∧ l.length ≤ c ∧ (A = none → l.length = 0 ∧ c = 0) ∧ (∀ a, A = some a → ∃ b, a = ⟨b, 0, none⟩ ∧ B ≤ b) ∧ ∀ a, A = some a → ∀ j u, (flat l)[j]? = some u → w.cell? (a.add j) = some u := by
  have h' := h
  unfold OwnL at h'
  obtain ⟨A, c, hv, hr, hc⟩ := own_rdc h
  refine ⟨A, c, hv, hr, hc, ?_⟩
  rcases h'.2 with ⟨e, hn⟩ | ⟨g, cap, cur, e, hB, hg, _⟩
  · rw [hv] at e
    injection e with e1 e2 e3
    subst e1 e3
    exact ⟨fun _ => ⟨e2, rfl⟩, (fun a ha => by cases ha), fun a ha => by cases ha⟩
  · rw [hv] at e
    injection e with e1 e2 e3
    subst e1
    refine ⟨fun ha => (by cases ha), fun a ha => (by cases ha; exact ⟨g, rfl, hB⟩), fun a ha j u hj => ?_⟩
    cases ha
    rw [hv] at h'
    exact h'.cells (g := g) rfl j u hj
theorem hull1_any (p : XY) (w : World) : Calls Try.prog 10 #[xyv p] w (Ret (.bool (!rangedB p)) w) := by
  go_enter Try.func10, Try.ntmps10
  go_wp2_with fail
  refine (ranged_any p _).mono ?_
  rintro e w2 ⟨rfl, hb2⟩
  go_wp2
  go_ret
  exact Ret.mk rfl (Below.trans (by (repeat (first | exact Below.refl _ _ | assumption | refine Below.alloc ?_ (by first | exact Nat.le_refl _ | exact Below.size (by assumption) | omega | (simp <;> omega)) _ | refine Below.setCell ?_ (by first | exact Nat.le_refl _ | exact Below.size (by assumption) | omega | (simp <;> omega)) _ | refine below_drewN ?_ _ | refine Below.drew ?_))) (hb2.mono (by simp)))
theorem comp_all {l : List XY} : compL l = compL (l.take l.length) := by rw [List.take_length]
theorem hull_sorted {l L : List XY} (hp : L.Perm l) (hs : L.Pairwise (fun a b => ¬ lx b a)) : (compL L).Pairwise (fun a b => up (sb a b)) ∧ (∀ x, x ∈ compL L ↔ x ∈ l) ∧ (compL L).length ≤ l.length := by
  have h1 := comp_sorted hs L.length (Nat.le_refl _)
  have h2 := comp_mem L L.length (Nat.le_refl _)
  have h3 := comp_len L L.length (Nat.le_refl _)
  rw [List.take_length] at h1 h2 h3
  exact ⟨h1, fun x => (h2 x).trans hp.mem_iff, by rw [← hp.length_eq]; exact h3⟩
end Go.Proofs.Ytcbphodkaiknmaa

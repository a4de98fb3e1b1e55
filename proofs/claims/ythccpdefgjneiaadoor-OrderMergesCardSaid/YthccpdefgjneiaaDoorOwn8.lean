/- Lists of prices and of lines that a function owns; append of what may be nil. Printed by genown8.py. -/
import Derived.Test.YthccpdefgjneiaaDoorOIdx
import Derived.Test.YthccpdefgjneiaaDoorOM5
import Derived.Laws.AppendOwnNone
namespace Go.Proofs.YthccpdefgjneiaaDoor
open Go.RowKit Go.Shelf

theorem wpList_append_any8 {P : Program} {w : World} {ops : Array Oper} {rest : List Oper} {o : Oper} {a : Act} {Q : Exit → Act → World → Prop} (hgd : o.guard = none) (s x : Operand) (t : TypeId)
    (ho : o.op = .call { callee := .builtin .append, args := #[s, x], argTypes := #[t, t] })
    (base : Nat) (e : TypeId) (i : TypeInfo) (z : Value) (size bytes : Nat) (ht : P.underlying t = some (.slice e)) (hi : P.info? e = some i) (hz : i.zero = some z)
    (hsize : i.size = size) (hby : i.bytes = bytes) (hzs : z.cells.size = size) (hsz : 0 < size)
    (v : Value) (n : Nat) (xs : List Value) (hs : a.eval s = v) (hown : w.ownsRow base e size v n xs)
    (A : Option Addr) (m c : Nat) (news : List Value) (hx : a.eval x = .slice A m c) (hA : A = none → m = 0 ∧ c = 0) (hl : news.length = m * size) (hnews : ∀ ad, A = some ad → ∀ j u, news[j]? = some u → w.cell? (ad.add j) = some u) (h1 : ∀ u ∈ news, u.oneCell' = true)
    (h63 : n + m ≤ maxLen) (hbytes : (n + m) * bytes ≤ 140737488355328) (hbase : base ≤ w.heap.size)
    (h : ∀ v' w', w'.ownsRow base e size v' (n + m) (xs ++ news) → w.grownBy w' v.ownBlock → wpList P ops Q rest (a.put o.dst v') w') : wpList P ops Q (o :: rest) a w := by
  cases A with
  | some ad => exact wpList_append_own w hgd s x t ho base e i z size bytes ht hi hz hsize hby hzs hsz v n xs hs hown ad m c news hx hl (hnews ad rfl) h1 h63 hbytes hbase (fun v' w' h1 h2 _ => h v' w' h1 h2)
  | none =>
    obtain ⟨rfl, rfl⟩ := hA rfl
    obtain rfl : news = [] := List.length_eq_zero_iff.1 (by omega)
    exact wpList_append_own_none hgd s x t ho base e i size ht hi v n xs hs hown hx (h v w (by simpa using hown) (World.grownBy.refl _ _))
theorem own_below8 {w w' : World} {B e size n : Nat} {v : Value} {xs : List Value} (h : w.ownsRow B e size v n xs) (hb : Below w.heap.size w w') : w'.ownsRow B e size v n xs := by
  refine ⟨h.1, ?_⟩
  rcases h.2 with hn | ⟨g, cap, cur, rfl, hg, hgg, rest⟩
  · exact .inl hn
  · exact .inr ⟨g, cap, cur, rfl, hg, by rw [hb.block g (Array.getElem?_eq_some_iff.1 hgg).1]; exact hgg, rest⟩

def flatQ (l : List QT) : List Value := l.flatMap fun p => [.string p.m, .int .i64 p.d, .slice p.A p.st.length p.cp]
theorem flatQ_nil : flatQ [] = [] := rfl
theorem flatQ_cons (p : QT) (l : List QT) : flatQ (p :: l) = .string p.m :: .int .i64 p.d :: .slice p.A p.st.length p.cp :: flatQ l := rfl
theorem flatQ_append (a b : List QT) : flatQ (a ++ b) = flatQ a ++ flatQ b := List.flatMap_append
theorem flatQ_length (l : List QT) : (flatQ l).length = l.length * 3 := by
  induction l with
  | nil => rfl
  | cons p l ih => rw [flatQ_cons]; simp only [List.length_cons, ih]; omega
theorem flatQ_one {l : List QT} {u : Value} (h : u ∈ flatQ l) : u.oneCell' = true := by
  obtain ⟨p, _, hp⟩ := List.mem_flatMap.1 h
  simp at hp
  rcases hp with rfl | rfl | rfl <;> rfl
theorem flatQ_get : ∀ {l : List QT} {i : Nat} {p : QT}, l[i]? = some p → (flatQ l)[i * 3]? = some (.string p.m) ∧ (flatQ l)[i * 3 + 1]? = some (.int .i64 p.d) ∧ (flatQ l)[i * 3 + 2]? = some (.slice p.A p.st.length p.cp)
  | [], i, p, h => by simp at h
  | q :: l, 0, p, h => by simp at h; subst h; exact ⟨rfl, rfl, rfl⟩
  | q :: l, i + 1, p, h => by
    rw [flatQ_cons, show (i + 1) * 3 = i * 3 + 3 by omega, show i * 3 + 3 + 1 = i * 3 + 1 + 3 by omega, show i * 3 + 3 + 2 = i * 3 + 2 + 3 by omega]
    exact flatQ_get (by simpa using h)
theorem Tryd.info8Q : (Tryd.prog.info? 54).map (fun i => (i.zero, i.size, i.bytes)) = some (some (.agg #[.string ⟨#[]⟩, .int .i64 0, .slice none 0 0]), 3, 48) := by kernel_rfl
theorem info8_partsQ {i : Option TypeInfo} (h : i.map (fun i => (i.zero, i.size, i.bytes)) = some (some (.agg #[.string ⟨#[]⟩, .int .i64 0, .slice none 0 0]), 3, 48)) : ∃ i0, i = some i0 ∧ i0.zero = some (.agg #[.string ⟨#[]⟩, .int .i64 0, .slice none 0 0]) ∧ i0.size = 3 ∧ i0.bytes = 48 := by
  cases i with
  | none => simp at h
  | some i0 => simp at h; exact ⟨i0, rfl, h.1, h.2.1, h.2.2⟩
abbrev Own8Q (w : World) (B : Nat) (v : Value) (l : List QT) : Prop := w.ownsRow B 54 3 v l.length (flatQ l)
theorem own_rd8Q {w : World} {B : Nat} {v : Value} {l : List QT} (h : Own8Q w B v l) : ∃ A c, v = .slice A l.length c ∧ RdQ w w.heap.size A l ∧ l.length ≤ c ∧ ∀ a, A = some a → B ≤ a.block := by
  rcases h.2 with ⟨rfl, hn⟩ | ⟨g, cap, cur, rfl, hB, hg, h1, h2, h3, h4⟩
  · obtain rfl : l = [] := List.length_eq_zero_iff.1 hn
    exact ⟨none, 0, rfl, fun i p hp => by simp at hp, Nat.le_refl _, fun a h => by cases h⟩
  · refine ⟨some ⟨g, 0, none⟩, cap, rfl, fun i p hp => ?_, h1, fun a h => by cases h; exact hB⟩
    obtain ⟨f0, f1, f2⟩ := flatQ_get hp
    have c0 := h.cells (g := g) rfl _ _ f0
    have c1 := h.cells (g := g) rfl _ _ f1
    have c2 := h.cells (g := g) rfl _ _ f2
    rw [add_none] at c0 c1 c2
    simp only [← Nat.add_assoc] at c1 c2
    exact ⟨g, 0, rfl, (Array.getElem?_eq_some_iff.1 hg).1, c0, c1, c2⟩
theorem own8Q_snoc {w : World} {B : Nat} {v : Value} {R R' : List QT} {p : QT} (h : w.ownsRow B 54 3 v (R.length + 1) (flatQ R ++ [.string p.m, .int .i64 p.d, .slice p.A p.st.length p.cp])) (e : R' = R ++ [p]) : Own8Q w B v R' := by
  subst e
  show w.ownsRow B 54 3 v (R ++ [p]).length (flatQ (R ++ [p]))
  rw [flatQ_append, List.length_append]
  exact h
/-- The cells of a list that lies at an address. -/
theorem RdQ.all {w : World} {B : Nat} {a : Addr} {l : List QT} (h : RdQ w B (some a) l) : ∀ j u, (flatQ l)[j]? = some u → w.cell? (a.add j) = some u := by
  intro j u hj
  have hlt : j < l.length * 3 := by have := (List.getElem?_eq_some_iff.1 hj).1; rwa [flatQ_length] at this
  obtain ⟨p, hp⟩ := getElem?_of_lt (show j / 3 < l.length by omega)
  obtain ⟨b, off, ha, _, d0, d1, d2⟩ := h _ p hp
  injection ha with ha
  subst ha
  obtain ⟨f0, f1, f2⟩ := flatQ_get hp
  rw [add_none]
  have hjm := Nat.div_add_mod j 3
  have hm := Nat.mod_lt j (show 0 < 3 by omega)
  match hq : j % 3, hm with
  | 0, _ =>
    have e : j = j / 3 * 3 := by omega
    rw [e] at hj ⊢
    rw [f0] at hj
    rw [← Option.some.inj hj]; exact d0
  | 1, _ =>
    have e : j = j / 3 * 3 + 1 := by omega
    rw [e] at hj ⊢
    rw [f1] at hj
    rw [← Option.some.inj hj, ← Nat.add_assoc]; exact d1
  | 2, _ =>
    have e : j = j / 3 * 3 + 2 := by omega
    rw [e] at hj ⊢
    rw [f2] at hj
    rw [← Option.some.inj hj, ← Nat.add_assoc]; exact d2
  | m + 3, h => omega
def flatG (l : List GT) : List Value := l.flatMap fun p => [.string p.m, .int .i64 p.c, .int .i64 p.z, .int .i64 p.n]
theorem flatG_nil : flatG [] = [] := rfl
theorem flatG_cons (p : GT) (l : List GT) : flatG (p :: l) = .string p.m :: .int .i64 p.c :: .int .i64 p.z :: .int .i64 p.n :: flatG l := rfl
theorem flatG_append (a b : List GT) : flatG (a ++ b) = flatG a ++ flatG b := List.flatMap_append
theorem flatG_length (l : List GT) : (flatG l).length = l.length * 4 := by
  induction l with
  | nil => rfl
  | cons p l ih => rw [flatG_cons]; simp only [List.length_cons, ih]; omega
theorem flatG_one {l : List GT} {u : Value} (h : u ∈ flatG l) : u.oneCell' = true := by
  obtain ⟨p, _, hp⟩ := List.mem_flatMap.1 h
  simp at hp
  rcases hp with rfl | rfl | rfl | rfl <;> rfl
theorem flatG_get : ∀ {l : List GT} {i : Nat} {p : GT}, l[i]? = some p → (flatG l)[i * 4]? = some (.string p.m) ∧ (flatG l)[i * 4 + 1]? = some (.int .i64 p.c) ∧ (flatG l)[i * 4 + 2]? = some (.int .i64 p.z) ∧ (flatG l)[i * 4 + 3]? = some (.int .i64 p.n)
  | [], i, p, h => by simp at h
  | q :: l, 0, p, h => by simp at h; subst h; exact ⟨rfl, rfl, rfl, rfl⟩
  | q :: l, i + 1, p, h => by
    rw [flatG_cons, show (i + 1) * 4 = i * 4 + 4 by omega, show i * 4 + 4 + 1 = i * 4 + 1 + 4 by omega, show i * 4 + 4 + 2 = i * 4 + 2 + 4 by omega, show i * 4 + 4 + 3 = i * 4 + 3 + 4 by omega]
    exact flatG_get (by simpa using h)
theorem Tryd.info8G : (Tryd.prog.info? 64).map (fun i => (i.zero, i.size, i.bytes)) = some (some (.agg #[.string ⟨#[]⟩, .int .i64 0, .int .i64 0, .int .i64 0]), 4, 40) := by kernel_rfl
theorem info8_partsG {i : Option TypeInfo} (h : i.map (fun i => (i.zero, i.size, i.bytes)) = some (some (.agg #[.string ⟨#[]⟩, .int .i64 0, .int .i64 0, .int .i64 0]), 4, 40)) : ∃ i0, i = some i0 ∧ i0.zero = some (.agg #[.string ⟨#[]⟩, .int .i64 0, .int .i64 0, .int .i64 0]) ∧ i0.size = 4 ∧ i0.bytes = 40 := by
  cases i with
  | none => simp at h
  | some i0 => simp at h; exact ⟨i0, rfl, h.1, h.2.1, h.2.2⟩
abbrev Own8G (w : World) (B : Nat) (v : Value) (l : List GT) : Prop := w.ownsRow B 64 4 v l.length (flatG l)
theorem own_rd8G {w : World} {B : Nat} {v : Value} {l : List GT} (h : Own8G w B v l) : ∃ A c, v = .slice A l.length c ∧ RdG w w.heap.size A l ∧ l.length ≤ c ∧ ∀ a, A = some a → B ≤ a.block := by
  rcases h.2 with ⟨rfl, hn⟩ | ⟨g, cap, cur, rfl, hB, hg, h1, h2, h3, h4⟩
  · obtain rfl : l = [] := List.length_eq_zero_iff.1 hn
    exact ⟨none, 0, rfl, fun i p hp => by simp at hp, Nat.le_refl _, fun a h => by cases h⟩
  · refine ⟨some ⟨g, 0, none⟩, cap, rfl, fun i p hp => ?_, h1, fun a h => by cases h; exact hB⟩
    obtain ⟨f0, f1, f2, f3⟩ := flatG_get hp
    have c0 := h.cells (g := g) rfl _ _ f0
    have c1 := h.cells (g := g) rfl _ _ f1
    have c2 := h.cells (g := g) rfl _ _ f2
    have c3 := h.cells (g := g) rfl _ _ f3
    rw [add_none] at c0 c1 c2 c3
    simp only [← Nat.add_assoc] at c1 c2 c3
    exact ⟨g, 0, rfl, (Array.getElem?_eq_some_iff.1 hg).1, c0, c1, c2, c3⟩
theorem own8G_snoc {w : World} {B : Nat} {v : Value} {R R' : List GT} {p : GT} (h : w.ownsRow B 64 4 v (R.length + 1) (flatG R ++ [.string p.m, .int .i64 p.c, .int .i64 p.z, .int .i64 p.n])) (e : R' = R ++ [p]) : Own8G w B v R' := by
  subst e
  show w.ownsRow B 64 4 v (R ++ [p]).length (flatG (R ++ [p]))
  rw [flatG_append, List.length_append]
  exact h
/-- The cells of a list that lies at an address. -/
theorem RdG.all {w : World} {B : Nat} {a : Addr} {l : List GT} (h : RdG w B (some a) l) : ∀ j u, (flatG l)[j]? = some u → w.cell? (a.add j) = some u := by
  intro j u hj
  have hlt : j < l.length * 4 := by have := (List.getElem?_eq_some_iff.1 hj).1; rwa [flatG_length] at this
  obtain ⟨p, hp⟩ := getElem?_of_lt (show j / 4 < l.length by omega)
  obtain ⟨b, off, ha, _, d0, d1, d2, d3⟩ := h _ p hp
  injection ha with ha
  subst ha
  obtain ⟨f0, f1, f2, f3⟩ := flatG_get hp
  rw [add_none]
  have hjm := Nat.div_add_mod j 4
  have hm := Nat.mod_lt j (show 0 < 4 by omega)
  match hq : j % 4, hm with
  | 0, _ =>
    have e : j = j / 4 * 4 := by omega
    rw [e] at hj ⊢
    rw [f0] at hj
    rw [← Option.some.inj hj]; exact d0
  | 1, _ =>
    have e : j = j / 4 * 4 + 1 := by omega
    rw [e] at hj ⊢
    rw [f1] at hj
    rw [← Option.some.inj hj, ← Nat.add_assoc]; exact d1
  | 2, _ =>
    have e : j = j / 4 * 4 + 2 := by omega
    rw [e] at hj ⊢
    rw [f2] at hj
    rw [← Option.some.inj hj, ← Nat.add_assoc]; exact d2
  | 3, _ =>
    have e : j = j / 4 * 4 + 3 := by omega
    rw [e] at hj ⊢
    rw [f3] at hj
    rw [← Option.some.inj hj, ← Nat.add_assoc]; exact d3
  | m + 4, h => omega
end Go.Proofs.YthccpdefgjneiaaDoor

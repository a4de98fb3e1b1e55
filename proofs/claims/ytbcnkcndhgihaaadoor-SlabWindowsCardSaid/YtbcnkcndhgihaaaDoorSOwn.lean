/- Lists that a function owns: extents, shapes, bytes, texts, blocks. Printed by genowns.py. -/
import Derived.Test.YtbcnkcndhgihaaaDoorSW2
import Derived.Laws.AppendOwnNone
namespace Go.Proofs.YtbcnkcndhgihaaaDoor
open Go.RowKit Go.Shelf

theorem own_belowS {w w' : World} {B e size n : Nat} {v : Value} {xs : List Value} (h : w.ownsRow B e size v n xs) (hb : Below w.heap.size w w') : w'.ownsRow B e size v n xs := by
  refine ⟨h.1, ?_⟩
  rcases h.2 with hn | ⟨g, cap, cur, rfl, hg, hgg, rest⟩
  · exact .inl hn
  · exact .inr ⟨g, cap, cur, rfl, hg, by rw [hb.block g (Array.getElem?_eq_some_iff.1 hgg).1]; exact hgg, rest⟩

def flatV (l : List T3) : List Value := l.flatMap fun p => [.int .i64 p.x, .int .i64 p.y, .int .i64 p.z]
theorem flatV_nil : flatV [] = [] := rfl
theorem flatV_cons (p : T3) (l : List T3) : flatV (p :: l) = .int .i64 p.x :: .int .i64 p.y :: .int .i64 p.z :: flatV l := rfl
theorem flatV_append (a b : List T3) : flatV (a ++ b) = flatV a ++ flatV b := List.flatMap_append
theorem flatV_length (l : List T3) : (flatV l).length = l.length * 3 := by
  induction l with
  | nil => rfl
  | cons p l ih => rw [flatV_cons]; simp only [List.length_cons, ih]; omega
theorem flatV_one {l : List T3} {u : Value} (h : u ∈ flatV l) : u.oneCell' = true := by
  obtain ⟨p, _, hp⟩ := List.mem_flatMap.1 h
  simp only [List.mem_cons, List.not_mem_nil, or_false] at hp
  rcases hp with rfl | rfl | rfl <;> exact rfl
theorem flatV_get : ∀ {l : List T3} {i : Nat} {p : T3}, l[i]? = some p → (flatV l)[i * 3]? = some (.int .i64 p.x) ∧ (flatV l)[i * 3 + 1]? = some (.int .i64 p.y) ∧ (flatV l)[i * 3 + 2]? = some (.int .i64 p.z)
  | [], i, p, h => by simp at h
  | q :: l, 0, p, h => by simp at h; subst h; exact ⟨rfl, rfl, rfl⟩
  | q :: l, i + 1, p, h => by
    rw [flatV_cons, show (i + 1) * 3 = i * 3 + 3 by omega, show i * 3 + 3 + 1 = i * 3 + 1 + 3 by omega, show i * 3 + 3 + 2 = i * 3 + 2 + 3 by omega]
    exact flatV_get (by simpa using h)
theorem Tryd.infoSV : (Tryd.prog.info? 22).map (fun i => (i.zero, i.size, i.bytes)) = some (some (.agg #[.int .i64 0, .int .i64 0, .int .i64 0]), 3, 24) := by kernel_rfl
theorem infoS_partsV {i : Option TypeInfo} (h : i.map (fun i => (i.zero, i.size, i.bytes)) = some (some (.agg #[.int .i64 0, .int .i64 0, .int .i64 0]), 3, 24)) : ∃ i0, i = some i0 ∧ i0.zero = some (.agg #[.int .i64 0, .int .i64 0, .int .i64 0]) ∧ i0.size = 3 ∧ i0.bytes = 24 := by
  cases i with
  | none => simp at h
  | some i0 => simp at h; exact ⟨i0, rfl, h.1, h.2.1, h.2.2⟩
def RdSV (w : World) (B : Nat) (A : Option Addr) (l : List T3) : Prop := ∀ i p, l[i]? = some p → ∃ b off, A = some ⟨b, off, none⟩ ∧ b < B ∧ w.cell? ⟨b, off + i * 3, none⟩ = some (.int .i64 p.x) ∧ w.cell? ⟨b, off + i * 3 + 1, none⟩ = some (.int .i64 p.y) ∧ w.cell? ⟨b, off + i * 3 + 2, none⟩ = some (.int .i64 p.z)
abbrev OwnSV (w : World) (B : Nat) (v : Value) (l : List T3) : Prop := w.ownsRow B 22 3 v l.length (flatV l)
theorem own_rdSV {w : World} {B : Nat} {v : Value} {l : List T3} (h : OwnSV w B v l) : ∃ A c, v = .slice A l.length c ∧ RdSV w w.heap.size A l ∧ l.length ≤ c ∧ (∀ a, A = some a → B ≤ a.block) ∧ (A = none → c = 0) := by
  rcases h.2 with ⟨rfl, hn⟩ | ⟨g, cap, cur, rfl, hB, hg, h1, h2, h3, h4⟩
  · obtain rfl : l = [] := List.length_eq_zero_iff.1 hn
    exact ⟨none, 0, rfl, fun i p hp => by simp at hp, Nat.le_refl _, (fun a h => nomatch h), fun _ => rfl⟩
  · refine ⟨some ⟨g, 0, none⟩, cap, rfl, fun i p hp => ?_, h1, (fun a h => by cases h; exact hB), fun h => nomatch h⟩
    obtain ⟨f0, f1, f2⟩ := flatV_get hp
    have c0 := h.cells (g := g) rfl _ _ f0
    have c1 := h.cells (g := g) rfl _ _ f1
    have c2 := h.cells (g := g) rfl _ _ f2
    rw [add_none] at c0 c1 c2
    simp only [← Nat.add_assoc] at c1 c2
    exact ⟨g, 0, rfl, (Array.getElem?_eq_some_iff.1 hg).1, c0, c1, c2⟩
theorem ownSV_snoc {w : World} {B : Nat} {v : Value} {R R' : List T3} {p : T3} (h : w.ownsRow B 22 3 v (R.length + 1) (flatV R ++ [.int .i64 p.x, .int .i64 p.y, .int .i64 p.z])) (e : R' = R ++ [p]) : OwnSV w B v R' := by
  subst e
  show w.ownsRow B 22 3 v (R ++ [p]).length (flatV (R ++ [p]))
  rw [flatV_append, List.length_append]
  exact h
def flatH (l : List Sh) : List Value := l.flatMap fun p => [p.val]
theorem flatH_nil : flatH [] = [] := rfl
theorem flatH_cons (p : Sh) (l : List Sh) : flatH (p :: l) = p.val :: flatH l := rfl
theorem flatH_append (a b : List Sh) : flatH (a ++ b) = flatH a ++ flatH b := List.flatMap_append
theorem flatH_length (l : List Sh) : (flatH l).length = l.length * 1 := by
  induction l with
  | nil => rfl
  | cons p l ih => rw [flatH_cons]; simp only [List.length_cons, ih]; omega
theorem flatH_one {l : List Sh} {u : Value} (h : u ∈ flatH l) : u.oneCell' = true := by
  obtain ⟨p, _, hp⟩ := List.mem_flatMap.1 h
  simp only [List.mem_cons, List.not_mem_nil, or_false] at hp
  subst hp; exact (by rw [Sh.val_eq]; rfl)
theorem flatH_get : ∀ {l : List Sh} {i : Nat} {p : Sh}, l[i]? = some p → (flatH l)[i]? = some (p.val)
  | [], i, p, h => by simp at h
  | q :: l, 0, p, h => by simp at h; subst h; exact rfl
  | q :: l, i + 1, p, h => by
    rw [flatH_cons, List.getElem?_cons_succ]
    exact flatH_get (by simpa using h)
theorem Tryd.infoSH : (Tryd.prog.info? 70).map (fun i => (i.zero, i.size, i.bytes)) = some (some (.nilIface), 1, 16) := by kernel_rfl
theorem infoS_partsH {i : Option TypeInfo} (h : i.map (fun i => (i.zero, i.size, i.bytes)) = some (some (.nilIface), 1, 16)) : ∃ i0, i = some i0 ∧ i0.zero = some (.nilIface) ∧ i0.size = 1 ∧ i0.bytes = 16 := by
  cases i with
  | none => simp at h
  | some i0 => simp at h; exact ⟨i0, rfl, h.1, h.2.1, h.2.2⟩
def RdSH (w : World) (B : Nat) (A : Option Addr) (l : List Sh) : Prop := ∀ i p, l[i]? = some p → ∃ b off, A = some ⟨b, off, none⟩ ∧ b < B ∧ w.cell? ⟨b, off + i, none⟩ = some (p.val)
abbrev OwnSH (w : World) (B : Nat) (v : Value) (l : List Sh) : Prop := w.ownsRow B 70 1 v l.length (flatH l)
theorem own_rdSH {w : World} {B : Nat} {v : Value} {l : List Sh} (h : OwnSH w B v l) : ∃ A c, v = .slice A l.length c ∧ RdSH w w.heap.size A l ∧ l.length ≤ c ∧ (∀ a, A = some a → B ≤ a.block) ∧ (A = none → c = 0) := by
  rcases h.2 with ⟨rfl, hn⟩ | ⟨g, cap, cur, rfl, hB, hg, h1, h2, h3, h4⟩
  · obtain rfl : l = [] := List.length_eq_zero_iff.1 hn
    exact ⟨none, 0, rfl, fun i p hp => by simp at hp, Nat.le_refl _, (fun a h => nomatch h), fun _ => rfl⟩
  · refine ⟨some ⟨g, 0, none⟩, cap, rfl, fun i p hp => ?_, h1, (fun a h => by cases h; exact hB), fun h => nomatch h⟩
    obtain f0 := flatH_get hp
    have c0 := h.cells (g := g) rfl _ _ f0
    rw [add_none] at c0
    exact ⟨g, 0, rfl, (Array.getElem?_eq_some_iff.1 hg).1, c0⟩
theorem ownSH_snoc {w : World} {B : Nat} {v : Value} {R R' : List Sh} {p : Sh} (h : w.ownsRow B 70 1 v (R.length + 1) (flatH R ++ [p.val])) (e : R' = R ++ [p]) : OwnSH w B v R' := by
  subst e
  show w.ownsRow B 70 1 v (R ++ [p]).length (flatH (R ++ [p]))
  rw [flatH_append, List.length_append]
  exact h
def flatY (l : List Int) : List Value := l.flatMap fun p => [.int .u8 p]
theorem flatY_nil : flatY [] = [] := rfl
theorem flatY_cons (p : Int) (l : List Int) : flatY (p :: l) = .int .u8 p :: flatY l := rfl
theorem flatY_append (a b : List Int) : flatY (a ++ b) = flatY a ++ flatY b := List.flatMap_append
theorem flatY_length (l : List Int) : (flatY l).length = l.length * 1 := by
  induction l with
  | nil => rfl
  | cons p l ih => rw [flatY_cons]; simp only [List.length_cons, ih]; omega
theorem flatY_one {l : List Int} {u : Value} (h : u ∈ flatY l) : u.oneCell' = true := by
  obtain ⟨p, _, hp⟩ := List.mem_flatMap.1 h
  simp only [List.mem_cons, List.not_mem_nil, or_false] at hp
  subst hp; exact rfl
theorem flatY_get : ∀ {l : List Int} {i : Nat} {p : Int}, l[i]? = some p → (flatY l)[i]? = some (.int .u8 p)
  | [], i, p, h => by simp at h
  | q :: l, 0, p, h => by simp at h; subst h; exact rfl
  | q :: l, i + 1, p, h => by
    rw [flatY_cons, List.getElem?_cons_succ]
    exact flatY_get (by simpa using h)
theorem Tryd.infoSY : (Tryd.prog.info? 5).map (fun i => (i.zero, i.size, i.bytes)) = some (some (.int .u8 0), 1, 1) := by kernel_rfl
theorem infoS_partsY {i : Option TypeInfo} (h : i.map (fun i => (i.zero, i.size, i.bytes)) = some (some (.int .u8 0), 1, 1)) : ∃ i0, i = some i0 ∧ i0.zero = some (.int .u8 0) ∧ i0.size = 1 ∧ i0.bytes = 1 := by
  cases i with
  | none => simp at h
  | some i0 => simp at h; exact ⟨i0, rfl, h.1, h.2.1, h.2.2⟩
def RdSY (w : World) (B : Nat) (A : Option Addr) (l : List Int) : Prop := ∀ i p, l[i]? = some p → ∃ b off, A = some ⟨b, off, none⟩ ∧ b < B ∧ w.cell? ⟨b, off + i, none⟩ = some (.int .u8 p)
abbrev OwnSY (w : World) (B : Nat) (v : Value) (l : List Int) : Prop := w.ownsRow B 5 1 v l.length (flatY l)
theorem own_rdSY {w : World} {B : Nat} {v : Value} {l : List Int} (h : OwnSY w B v l) : ∃ A c, v = .slice A l.length c ∧ RdSY w w.heap.size A l ∧ l.length ≤ c ∧ (∀ a, A = some a → B ≤ a.block) ∧ (A = none → c = 0) := by
  rcases h.2 with ⟨rfl, hn⟩ | ⟨g, cap, cur, rfl, hB, hg, h1, h2, h3, h4⟩
  · obtain rfl : l = [] := List.length_eq_zero_iff.1 hn
    exact ⟨none, 0, rfl, fun i p hp => by simp at hp, Nat.le_refl _, (fun a h => nomatch h), fun _ => rfl⟩
  · refine ⟨some ⟨g, 0, none⟩, cap, rfl, fun i p hp => ?_, h1, (fun a h => by cases h; exact hB), fun h => nomatch h⟩
    obtain f0 := flatY_get hp
    have c0 := h.cells (g := g) rfl _ _ f0
    rw [add_none] at c0
    exact ⟨g, 0, rfl, (Array.getElem?_eq_some_iff.1 hg).1, c0⟩
theorem ownSY_snoc {w : World} {B : Nat} {v : Value} {R R' : List Int} {p : Int} (h : w.ownsRow B 5 1 v (R.length + 1) (flatY R ++ [.int .u8 p])) (e : R' = R ++ [p]) : OwnSY w B v R' := by
  subst e
  show w.ownsRow B 5 1 v (R ++ [p]).length (flatY (R ++ [p]))
  rw [flatY_append, List.length_append]
  exact h
def flatT (l : List ByteArray) : List Value := l.flatMap fun p => [.string p]
theorem flatT_nil : flatT [] = [] := rfl
theorem flatT_cons (p : ByteArray) (l : List ByteArray) : flatT (p :: l) = .string p :: flatT l := rfl
theorem flatT_append (a b : List ByteArray) : flatT (a ++ b) = flatT a ++ flatT b := List.flatMap_append
theorem flatT_length (l : List ByteArray) : (flatT l).length = l.length * 1 := by
  induction l with
  | nil => rfl
  | cons p l ih => rw [flatT_cons]; simp only [List.length_cons, ih]; omega
theorem flatT_one {l : List ByteArray} {u : Value} (h : u ∈ flatT l) : u.oneCell' = true := by
  obtain ⟨p, _, hp⟩ := List.mem_flatMap.1 h
  simp only [List.mem_cons, List.not_mem_nil, or_false] at hp
  subst hp; exact rfl
theorem flatT_get : ∀ {l : List ByteArray} {i : Nat} {p : ByteArray}, l[i]? = some p → (flatT l)[i]? = some (.string p)
  | [], i, p, h => by simp at h
  | q :: l, 0, p, h => by simp at h; subst h; exact rfl
  | q :: l, i + 1, p, h => by
    rw [flatT_cons, List.getElem?_cons_succ]
    exact flatT_get (by simpa using h)
theorem Tryd.infoST : (Tryd.prog.info? 9).map (fun i => (i.zero, i.size, i.bytes)) = some (some (.string ⟨#[]⟩), 1, 16) := by kernel_rfl
theorem infoS_partsT {i : Option TypeInfo} (h : i.map (fun i => (i.zero, i.size, i.bytes)) = some (some (.string ⟨#[]⟩), 1, 16)) : ∃ i0, i = some i0 ∧ i0.zero = some (.string ⟨#[]⟩) ∧ i0.size = 1 ∧ i0.bytes = 16 := by
  cases i with
  | none => simp at h
  | some i0 => simp at h; exact ⟨i0, rfl, h.1, h.2.1, h.2.2⟩
def RdST (w : World) (B : Nat) (A : Option Addr) (l : List ByteArray) : Prop := ∀ i p, l[i]? = some p → ∃ b off, A = some ⟨b, off, none⟩ ∧ b < B ∧ w.cell? ⟨b, off + i, none⟩ = some (.string p)
abbrev OwnST (w : World) (B : Nat) (v : Value) (l : List ByteArray) : Prop := w.ownsRow B 9 1 v l.length (flatT l)
theorem own_rdST {w : World} {B : Nat} {v : Value} {l : List ByteArray} (h : OwnST w B v l) : ∃ A c, v = .slice A l.length c ∧ RdST w w.heap.size A l ∧ l.length ≤ c ∧ (∀ a, A = some a → B ≤ a.block) ∧ (A = none → c = 0) := by
  rcases h.2 with ⟨rfl, hn⟩ | ⟨g, cap, cur, rfl, hB, hg, h1, h2, h3, h4⟩
  · obtain rfl : l = [] := List.length_eq_zero_iff.1 hn
    exact ⟨none, 0, rfl, fun i p hp => by simp at hp, Nat.le_refl _, (fun a h => nomatch h), fun _ => rfl⟩
  · refine ⟨some ⟨g, 0, none⟩, cap, rfl, fun i p hp => ?_, h1, (fun a h => by cases h; exact hB), fun h => nomatch h⟩
    obtain f0 := flatT_get hp
    have c0 := h.cells (g := g) rfl _ _ f0
    rw [add_none] at c0
    exact ⟨g, 0, rfl, (Array.getElem?_eq_some_iff.1 hg).1, c0⟩
theorem ownST_snoc {w : World} {B : Nat} {v : Value} {R R' : List ByteArray} {p : ByteArray} (h : w.ownsRow B 9 1 v (R.length + 1) (flatT R ++ [.string p])) (e : R' = R ++ [p]) : OwnST w B v R' := by
  subst e
  show w.ownsRow B 9 1 v (R ++ [p]).length (flatT (R ++ [p]))
  rw [flatT_append, List.length_append]
  exact h
def flatB (l : List BT) : List Value := l.flatMap fun p => [.int .i64 p.op, .int .i64 p.ax, .int .u8 p.co, .int .i64 p.n0, .int .i64 p.n1, .int .i64 p.n2, .slice p.A p.ps.length p.cp]
theorem flatB_nil : flatB [] = [] := rfl
theorem flatB_cons (p : BT) (l : List BT) : flatB (p :: l) = .int .i64 p.op :: .int .i64 p.ax :: .int .u8 p.co :: .int .i64 p.n0 :: .int .i64 p.n1 :: .int .i64 p.n2 :: .slice p.A p.ps.length p.cp :: flatB l := rfl
theorem flatB_append (a b : List BT) : flatB (a ++ b) = flatB a ++ flatB b := List.flatMap_append
theorem flatB_length (l : List BT) : (flatB l).length = l.length * 7 := by
  induction l with
  | nil => rfl
  | cons p l ih => rw [flatB_cons]; simp only [List.length_cons, ih]; omega
theorem flatB_one {l : List BT} {u : Value} (h : u ∈ flatB l) : u.oneCell' = true := by
  obtain ⟨p, _, hp⟩ := List.mem_flatMap.1 h
  simp only [List.mem_cons, List.not_mem_nil, or_false] at hp
  rcases hp with rfl | rfl | rfl | rfl | rfl | rfl | rfl <;> exact rfl
theorem flatB_get : ∀ {l : List BT} {i : Nat} {p : BT}, l[i]? = some p → (flatB l)[i * 7]? = some (.int .i64 p.op) ∧ (flatB l)[i * 7 + 1]? = some (.int .i64 p.ax) ∧ (flatB l)[i * 7 + 2]? = some (.int .u8 p.co) ∧ (flatB l)[i * 7 + 3]? = some (.int .i64 p.n0) ∧ (flatB l)[i * 7 + 4]? = some (.int .i64 p.n1) ∧ (flatB l)[i * 7 + 5]? = some (.int .i64 p.n2) ∧ (flatB l)[i * 7 + 6]? = some (.slice p.A p.ps.length p.cp)
  | [], i, p, h => by simp at h
  | q :: l, 0, p, h => by simp at h; subst h; exact ⟨rfl, rfl, rfl, rfl, rfl, rfl, rfl⟩
  | q :: l, i + 1, p, h => by
    rw [flatB_cons, show (i + 1) * 7 = i * 7 + 7 by omega, show i * 7 + 7 + 1 = i * 7 + 1 + 7 by omega, show i * 7 + 7 + 2 = i * 7 + 2 + 7 by omega, show i * 7 + 7 + 3 = i * 7 + 3 + 7 by omega, show i * 7 + 7 + 4 = i * 7 + 4 + 7 by omega, show i * 7 + 7 + 5 = i * 7 + 5 + 7 by omega, show i * 7 + 7 + 6 = i * 7 + 6 + 7 by omega]
    exact flatB_get (by simpa using h)
theorem Tryd.infoSB : (Tryd.prog.info? 25).map (fun i => (i.zero, i.size, i.bytes)) = some (some (.agg #[.int .i64 0, .int .i64 0, .int .u8 0, .int .i64 0, .int .i64 0, .int .i64 0, .slice none 0 0]), 7, 72) := by kernel_rfl
theorem infoS_partsB {i : Option TypeInfo} (h : i.map (fun i => (i.zero, i.size, i.bytes)) = some (some (.agg #[.int .i64 0, .int .i64 0, .int .u8 0, .int .i64 0, .int .i64 0, .int .i64 0, .slice none 0 0]), 7, 72)) : ∃ i0, i = some i0 ∧ i0.zero = some (.agg #[.int .i64 0, .int .i64 0, .int .u8 0, .int .i64 0, .int .i64 0, .int .i64 0, .slice none 0 0]) ∧ i0.size = 7 ∧ i0.bytes = 72 := by
  cases i with
  | none => simp at h
  | some i0 => simp at h; exact ⟨i0, rfl, h.1, h.2.1, h.2.2⟩
def RdSB (w : World) (B : Nat) (A : Option Addr) (l : List BT) : Prop := ∀ i p, l[i]? = some p → ∃ b off, A = some ⟨b, off, none⟩ ∧ b < B ∧ w.cell? ⟨b, off + i * 7, none⟩ = some (.int .i64 p.op) ∧ w.cell? ⟨b, off + i * 7 + 1, none⟩ = some (.int .i64 p.ax) ∧ w.cell? ⟨b, off + i * 7 + 2, none⟩ = some (.int .u8 p.co) ∧ w.cell? ⟨b, off + i * 7 + 3, none⟩ = some (.int .i64 p.n0) ∧ w.cell? ⟨b, off + i * 7 + 4, none⟩ = some (.int .i64 p.n1) ∧ w.cell? ⟨b, off + i * 7 + 5, none⟩ = some (.int .i64 p.n2) ∧ w.cell? ⟨b, off + i * 7 + 6, none⟩ = some (.slice p.A p.ps.length p.cp)
abbrev OwnSB (w : World) (B : Nat) (v : Value) (l : List BT) : Prop := w.ownsRow B 25 7 v l.length (flatB l)
theorem own_rdSB {w : World} {B : Nat} {v : Value} {l : List BT} (h : OwnSB w B v l) : ∃ A c, v = .slice A l.length c ∧ RdSB w w.heap.size A l ∧ l.length ≤ c ∧ (∀ a, A = some a → B ≤ a.block) ∧ (A = none → c = 0) := by
  rcases h.2 with ⟨rfl, hn⟩ | ⟨g, cap, cur, rfl, hB, hg, h1, h2, h3, h4⟩
  · obtain rfl : l = [] := List.length_eq_zero_iff.1 hn
    exact ⟨none, 0, rfl, fun i p hp => by simp at hp, Nat.le_refl _, (fun a h => nomatch h), fun _ => rfl⟩
  · refine ⟨some ⟨g, 0, none⟩, cap, rfl, fun i p hp => ?_, h1, (fun a h => by cases h; exact hB), fun h => nomatch h⟩
    obtain ⟨f0, f1, f2, f3, f4, f5, f6⟩ := flatB_get hp
    have c0 := h.cells (g := g) rfl _ _ f0
    have c1 := h.cells (g := g) rfl _ _ f1
    have c2 := h.cells (g := g) rfl _ _ f2
    have c3 := h.cells (g := g) rfl _ _ f3
    have c4 := h.cells (g := g) rfl _ _ f4
    have c5 := h.cells (g := g) rfl _ _ f5
    have c6 := h.cells (g := g) rfl _ _ f6
    rw [add_none] at c0 c1 c2 c3 c4 c5 c6
    simp only [← Nat.add_assoc] at c1 c2 c3 c4 c5 c6
    exact ⟨g, 0, rfl, (Array.getElem?_eq_some_iff.1 hg).1, c0, c1, c2, c3, c4, c5, c6⟩
theorem ownSB_snoc {w : World} {B : Nat} {v : Value} {R R' : List BT} {p : BT} (h : w.ownsRow B 25 7 v (R.length + 1) (flatB R ++ [.int .i64 p.op, .int .i64 p.ax, .int .u8 p.co, .int .i64 p.n0, .int .i64 p.n1, .int .i64 p.n2, .slice p.A p.ps.length p.cp])) (e : R' = R ++ [p]) : OwnSB w B v R' := by
  subst e
  show w.ownsRow B 25 7 v (R ++ [p]).length (flatB (R ++ [p]))
  rw [flatB_append, List.length_append]
  exact h
def flatI (l : List Int) : List Value := l.flatMap fun p => [.int .i64 p]
theorem flatI_nil : flatI [] = [] := rfl
theorem flatI_cons (p : Int) (l : List Int) : flatI (p :: l) = .int .i64 p :: flatI l := rfl
theorem flatI_append (a b : List Int) : flatI (a ++ b) = flatI a ++ flatI b := List.flatMap_append
theorem flatI_length (l : List Int) : (flatI l).length = l.length * 1 := by
  induction l with
  | nil => rfl
  | cons p l ih => rw [flatI_cons]; simp only [List.length_cons, ih]; omega
theorem flatI_one {l : List Int} {u : Value} (h : u ∈ flatI l) : u.oneCell' = true := by
  obtain ⟨p, _, hp⟩ := List.mem_flatMap.1 h
  simp only [List.mem_cons, List.not_mem_nil, or_false] at hp
  subst hp; exact rfl
theorem flatI_get : ∀ {l : List Int} {i : Nat} {p : Int}, l[i]? = some p → (flatI l)[i]? = some (.int .i64 p)
  | [], i, p, h => by simp at h
  | q :: l, 0, p, h => by simp at h; subst h; exact rfl
  | q :: l, i + 1, p, h => by
    rw [flatI_cons, List.getElem?_cons_succ]
    exact flatI_get (by simpa using h)
theorem Tryd.infoSI : (Tryd.prog.info? 3).map (fun i => (i.zero, i.size, i.bytes)) = some (some (.int .i64 0), 1, 8) := by kernel_rfl
theorem infoS_partsI {i : Option TypeInfo} (h : i.map (fun i => (i.zero, i.size, i.bytes)) = some (some (.int .i64 0), 1, 8)) : ∃ i0, i = some i0 ∧ i0.zero = some (.int .i64 0) ∧ i0.size = 1 ∧ i0.bytes = 8 := by
  cases i with
  | none => simp at h
  | some i0 => simp at h; exact ⟨i0, rfl, h.1, h.2.1, h.2.2⟩
def RdSI (w : World) (B : Nat) (A : Option Addr) (l : List Int) : Prop := ∀ i p, l[i]? = some p → ∃ b off, A = some ⟨b, off, none⟩ ∧ b < B ∧ w.cell? ⟨b, off + i, none⟩ = some (.int .i64 p)
abbrev OwnSI (w : World) (B : Nat) (v : Value) (l : List Int) : Prop := w.ownsRow B 3 1 v l.length (flatI l)
theorem own_rdSI {w : World} {B : Nat} {v : Value} {l : List Int} (h : OwnSI w B v l) : ∃ A c, v = .slice A l.length c ∧ RdSI w w.heap.size A l ∧ l.length ≤ c ∧ (∀ a, A = some a → B ≤ a.block) ∧ (A = none → c = 0) := by
  rcases h.2 with ⟨rfl, hn⟩ | ⟨g, cap, cur, rfl, hB, hg, h1, h2, h3, h4⟩
  · obtain rfl : l = [] := List.length_eq_zero_iff.1 hn
    exact ⟨none, 0, rfl, fun i p hp => by simp at hp, Nat.le_refl _, (fun a h => nomatch h), fun _ => rfl⟩
  · refine ⟨some ⟨g, 0, none⟩, cap, rfl, fun i p hp => ?_, h1, (fun a h => by cases h; exact hB), fun h => nomatch h⟩
    obtain f0 := flatI_get hp
    have c0 := h.cells (g := g) rfl _ _ f0
    rw [add_none] at c0
    exact ⟨g, 0, rfl, (Array.getElem?_eq_some_iff.1 hg).1, c0⟩
theorem ownSI_snoc {w : World} {B : Nat} {v : Value} {R R' : List Int} {p : Int} (h : w.ownsRow B 3 1 v (R.length + 1) (flatI R ++ [.int .i64 p])) (e : R' = R ++ [p]) : OwnSI w B v R' := by
  subst e
  show w.ownsRow B 3 1 v (R ++ [p]).length (flatI (R ++ [p]))
  rw [flatI_append, List.length_append]
  exact h
end Go.Proofs.YtbcnkcndhgihaaaDoor

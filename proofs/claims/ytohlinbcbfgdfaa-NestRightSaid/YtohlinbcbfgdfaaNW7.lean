/- Lists of places that a call made itself; Rows, in the program: the walk. -/
import Derived.Test.YtohlinbcbfgdfaaMathNC
import Derived.Deep.RegionLaw
import Derived.Deep.DeepCutAuto
namespace Go.Proofs.Ytohlinbcbfgdfaa
open Go.RowKit

def flatP (l : List PL) : List Value := l.flatMap fun p => [.int .i64 p.part, .int .i64 p.X, .int .i64 p.Y, .bool p.t]
theorem flatP_nil : flatP [] = [] := rfl
theorem flatP_cons (p : PL) (l : List PL) : flatP (p :: l) = .int .i64 p.part :: .int .i64 p.X :: .int .i64 p.Y :: .bool p.t :: flatP l := rfl
theorem flatP_append (a b : List PL) : flatP (a ++ b) = flatP a ++ flatP b := List.flatMap_append
theorem flatP_length (l : List PL) : (flatP l).length = l.length * 4 := by
  induction l with
  | nil => rfl
  | cons p l ih => rw [flatP_cons]; simp only [List.length_cons, ih]; omega
theorem flatP_one {l : List PL} {u : Value} (h : u ∈ flatP l) : u.oneCell' = true := by
  obtain ⟨p, _, hp⟩ := List.mem_flatMap.1 h
  simp at hp
  rcases hp with rfl | rfl | rfl | rfl <;> rfl
theorem flatP_get : ∀ {l : List PL} {i : Nat} {p : PL}, l[i]? = some p → (flatP l)[i * 4]? = some (.int .i64 p.part) ∧ (flatP l)[i * 4 + 1]? = some (.int .i64 p.X) ∧ (flatP l)[i * 4 + 2]? = some (.int .i64 p.Y) ∧ (flatP l)[i * 4 + 3]? = some (.bool p.t)
  | [], i, p, h => by simp at h
  | q :: l, 0, p, h => by simp at h; subst h; exact ⟨rfl, rfl, rfl, rfl⟩
  | q :: l, i + 1, p, h => by
    rw [flatP_cons, show (i + 1) * 4 = i * 4 + 4 by omega, show i * 4 + 4 + 1 = i * 4 + 1 + 4 by omega, show i * 4 + 4 + 2 = i * 4 + 2 + 4 by omega, show i * 4 + 4 + 3 = i * 4 + 3 + 4 by omega]
    exact flatP_get (by simpa using h)
theorem Try.infoPlace : (Try.prog.info? 52).map (fun i => (i.zero, i.size, i.bytes)) = some (some (.agg #[.int .i64 0, .int .i64 0, .int .i64 0, .bool false]), 4, 32) := by kernel_rfl
theorem info_partsP {i : Option TypeInfo} (h : i.map (fun i => (i.zero, i.size, i.bytes)) = some (some (.agg #[.int .i64 0, .int .i64 0, .int .i64 0, .bool false]), 4, 32)) : ∃ i0, i = some i0 ∧ i0.zero = some (.agg #[.int .i64 0, .int .i64 0, .int .i64 0, .bool false]) ∧ i0.size = 4 ∧ i0.bytes = 32 := by
  cases i with
  | none => simp at h
  | some i0 => simp at h; exact ⟨i0, rfl, h.1, h.2.1, h.2.2⟩
abbrev OwnP (w : World) (B : Nat) (v : Value) (l : List PL) : Prop := w.ownsRow B 52 4 v l.length (flatP l)
theorem own_rdP {w : World} {B : Nat} {v : Value} {l : List PL} (h : OwnP w B v l) : ∃ A c, v = .slice A l.length c ∧ RdL w w.heap.size A l := by
  rcases h.2 with ⟨rfl, hn⟩ | ⟨g, cap, cur, rfl, hB, hg, h1, h2, h3, h4⟩
  · obtain rfl : l = [] := List.length_eq_zero_iff.1 hn
    exact ⟨none, 0, rfl, fun i p hp => by simp at hp⟩
  · refine ⟨some ⟨g, 0, none⟩, cap, rfl, fun i p hp => ?_⟩
    obtain ⟨f0, f1, f2, f3⟩ := flatP_get hp
    have c0 := h.cells (g := g) rfl _ _ f0
    have c1 := h.cells (g := g) rfl _ _ f1
    have c2 := h.cells (g := g) rfl _ _ f2
    have c3 := h.cells (g := g) rfl _ _ f3
    rw [add_none] at c0 c1 c2 c3
    simp only [← Nat.add_assoc] at c1 c2 c3
    exact ⟨g, 0, rfl, (Array.getElem?_eq_some_iff.1 hg).1, c0, c1, c2, c3⟩
theorem own_belowP {w w' : World} {B e size n : Nat} {v : Value} {xs : List Value} (h : w.ownsRow B e size v n xs) (hb : Below w.heap.size w w') : w'.ownsRow B e size v n xs := by
  refine ⟨h.1, ?_⟩
  rcases h.2 with hn | ⟨g, cap, cur, rfl, hg, hgg, rest⟩
  · exact .inl hn
  · exact .inr ⟨g, cap, cur, rfl, hg, by rw [hb.block g (Array.getElem?_eq_some_iff.1 hgg).1]; exact hgg, rest⟩
/-- The call returns a list of places of its own, and a number. -/
def RetP2 (l : List PL) (z : Int) (w : World) (e : Ending) (w' : World) : Prop := ∃ v, e = .returned (.tuple #[v, .int .i64 z]) ∧ OwnP w' w.heap.size v l ∧ Below w.heap.size w w'

set_option maxRecDepth 100000 in
set_option maxHeartbeats 1000000 in
theorem Rows_no (b : BD) (A A2 : Option Addr) (c c2 : Nat) (ps : List PT) (part : Int) (w : World) (hF : RdR w w.heap.size A b.F) (hp : RdPP w w.heap.size A2 ps) (hm : ps.length ≤ 1000000)
    (h : (boardB b && partsB ps) = false ∨ ((boardB b && partsB ps) = true ∧ (part < 0 ∨ (ps.length : Int) ≤ part))) :
    Calls Try.prog 25 #[bdv b A c, .slice A2 ps.length c2, .int .i64 part] w (RetP2 (rowsS b ps part).1 (rowsS b ps part).2 w) := by
  have HF := Lib.hid hF; clear hF
  have HP := Lib.hid hp; clear hp
  have hB0 : Below w.heap.size w (w.alloc (.cells #[.int .i64 b.W, .int .i64 b.H, .int .i64 b.G, .slice A b.F.length c] 24)) := by (repeat (first | exact Below.refl _ _ | assumption | refine Below.alloc ?_ (by first | exact Nat.le_refl _ | exact Below.size (by assumption) | omega | (simp <;> omega)) _ | refine Below.setCell ?_ (by first | exact Nat.le_refl _ | exact Below.size (by assumption) | omega | (simp <;> omega)) _ | refine below_drewN ?_ _ | refine Below.drew ?_))
  rcases h with hv | ⟨hv, hr⟩
  · have HS : Hid (rowsS b ps part = ([], 70)) := by unfold Hid rowsS; rw [hv]; rfl
    have HV := Lib.hid hv; clear hv
    go_enter Try.func25, Try.ntmps25
    go_wp2_with fail
    refine (nvalid_any b A A2 c c2 ps _ (HF.out.now hB0) (HP.out.now hB0)).mono ?_
    rintro e w2 ⟨rfl, hb2⟩
    rw [HV.out]
    go_wp2
    go_ret2
    rw [HS.out]
    exact ⟨_, rfl, World.ownsRow_nil _ _ _ _, hB0.trans (hb2.mono hB0.size)⟩
  · have HS : Hid (rowsS b ps part = ([], 2)) := by
      unfold Hid rowsS
      rw [hv]
      cases hk : ps[part.toNat]? with
      | none => rfl
      | some pt =>
        have := (List.getElem?_eq_some_iff.1 hk).1
        have : part < 0 := by omega
        simp [this]
    have HV := Lib.hid hv; clear hv
    have e1 : IntKind.i64.wrap ((ps.length : Int) - 1) = (ps.length : Int) - 1 := IntWalk.i64_in _ (by omega)
    have hbt : betw 0 part ((ps.length : Int) - 1) = false := by unfold betw; simp; omega
    have HBT := Lib.hid hbt; clear hbt
    clear hr
    go_enter Try.func25, Try.ntmps25
    go_wp2_with fail
    refine (nvalid_any b A A2 c c2 ps _ (HF.out.now hB0) (HP.out.now hB0)).mono ?_
    rintro e w2 ⟨rfl, hb2⟩
    rw [HV.out]
    go_wp2_with fail
    refine (between_any 0 part ((ps.length : Int) - 1) _).mono ?_
    rintro e w3 ⟨rfl, rfl⟩
    rw [HBT.out]
    go_wp2
    go_ret2
    rw [HS.out]
    exact ⟨_, rfl, World.ownsRow_nil _ _ _ _, hB0.trans (hb2.mono hB0.size)⟩
end Go.Proofs.Ytohlinbcbfgdfaa

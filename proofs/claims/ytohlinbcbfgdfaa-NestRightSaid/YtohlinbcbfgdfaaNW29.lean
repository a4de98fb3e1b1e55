/- Count and Waste2, of both; equal lists of numbers: the walks. -/
import Derived.Test.YtohlinbcbfgdfaaWJ
import Derived.Laws.OwnMore
import Derived.OwnWalk
namespace Go.Proofs.Ytohlinbcbfgdfaa
open Go.RowKit Go.Shelf

/-- A list of numbers in a block of its own. -/
def RowI (w : World) (g : Nat) (l : List Int) : Prop := w.heap[g]? = some (.cells (l.map (.int .i64)).toArray 3 (0, 0))
theorem RowI.c {w : World} {g : Nat} {l : List Int} (h : RowI w g l) {i : Nat} {v : Int} (hi : l[i]? = some v) : w.cell? ⟨g, i, none⟩ = some (.int .i64 v) := by
  unfold RowI at h; simp [World.cell?, h, hi]
theorem RowI.f {w : World} {g : Nat} {l : List Int} (h : RowI w g l) (i : Nat) : w.frozen? ⟨g, i, none⟩ = false := by
  unfold RowI at h; simp [World.frozen?, h]
theorem RowI.below {w w' : World} {B C : Nat} {l : List Int} (h : RowI w B l) (hb : Below C w w') (hB : B < C) : RowI w' B l := (hb.block B hB).trans h
theorem RowI.put {w : World} {g : Nat} {l : List Int} (h : RowI w g l) (i : Nat) (v : Int) : RowI (w.setCell ⟨g, i, none⟩ (.int .i64 v)) g (l.set i v) := by
  unfold RowI at h ⊢
  simp [World.setCell, Array.getElem?_modify, h, List.map_set]
def RdN (w : World) (B : Nat) (A : Option Addr) (l : List Int) : Prop := ∀ i v, l[i]? = some v → ∃ b off, A = some ⟨b, off, none⟩ ∧ b < B ∧ w.cell? ⟨b, off + i, none⟩ = some (.int .i64 v)
theorem RdN.now {w w' : World} {A : Option Addr} {l : List Int} (h : RdN w w.heap.size A l) (hb : Below w.heap.size w w') : RdN w' w'.heap.size A l := by
  intro i v hi
  obtain ⟨b, off, hA, hbb, hc⟩ := h i v hi
  exact ⟨b, off, hA, Nat.lt_of_lt_of_le hbb hb.size, (hb.cell (p := ⟨b, off + i, none⟩) hbb).trans hc⟩
theorem RdN.below {w w' : World} {B : Nat} {A : Option Addr} {l : List Int} (h : RdN w B A l) (hb : Below B w w') : RdN w' B A l := by
  intro i v hi
  obtain ⟨b, off, hA, hbb, hc⟩ := h i v hi
  exact ⟨b, off, hA, hbb, (hb.cell (p := ⟨b, off + i, none⟩) hbb).trans hc⟩
theorem RowI.rd {w : World} {g : Nat} {l : List Int} (h : RowI w g l) : RdN w w.heap.size (some ⟨g, 0, none⟩) l := fun i v hi =>
  ⟨g, 0, rfl, (Array.getElem?_eq_some_iff.1 h).1, by rw [Nat.zero_add]; exact h.c hi⟩
/-- The call returns a list of numbers, and a number. -/
def RetN2 (l : List Int) (z : Int) (w : World) (e : Ending) (w' : World) : Prop := ∃ A c, e = .returned (.tuple #[.slice A l.length c, .int .i64 z]) ∧ RdN w' w'.heap.size A l ∧ Below w.heap.size w w'

theorem Try.infoInt2 : (Try.prog.info? 3).map (fun i => (i.zero, i.size, i.bytes)) = some (some (.int .i64 0), 1, 8) := by kernel_rfl
theorem eq_of_takesI {α : Type} {l m : List α} (hlen : l.length = m.length) (h : ∀ i, i < l.length → l[i]? = m[i]?) : l = m := by
  apply List.ext_getElem?
  intro i
  by_cases hi : i < l.length
  · exact h i hi
  · rw [List.getElem?_eq_none (by omega), List.getElem?_eq_none (by omega)]
def cntTo (n : Nat) (L : List PL) (k : Nat) : List Int := (L.take k).foldl (fun l p => l.set p.part.toNat (wrap64 (((l[p.part.toNat]?).getD 0) + 1))) (List.replicate n 0)
theorem cntTo_succ {n : Nat} {L : List PL} {k : Nat} {p : PL} (h : L[k]? = some p) : cntTo n L (k + 1) = (cntTo n L k).set p.part.toNat (wrap64 ((((cntTo n L k)[p.part.toNat]?).getD 0) + 1)) := by
  unfold cntTo; rw [take_succ_of h, List.foldl_append]; rfl
theorem cntTo_len (n : Nat) (L : List PL) : ∀ k, k ≤ L.length → (cntTo n L k).length = n
  | 0, _ => by unfold cntTo; simp
  | k + 1, h => by
    obtain ⟨p, hp⟩ := getElem?_of_lt (show k < L.length by omega)
    rw [cntTo_succ hp, List.length_set]
    exact cntTo_len n L k (by omega)
def countS (b : BD) (ps : List PT) (L : List PL) : List Int × Int := if (checkS b ps L).2 = 0 then (cntTo ps.length L L.length, 0) else ([], (checkS b ps L).2)
def wasTo (b : BD) (ps : List PT) (L : List PL) (k : Nat) : Int := (L.take k).foldl (fun n p => wrap64 (n - areaW (partAt ps p.part).o)) (2 * b.W * b.H)
theorem wasTo_succ {b : BD} {ps : List PT} {L : List PL} {k : Nat} {p : PL} (h : L[k]? = some p) : wasTo b ps L (k + 1) = wrap64 (wasTo b ps L k - areaW (partAt ps p.part).o) := by
  unfold wasTo; rw [take_succ_of h, List.foldl_append]; rfl
def wasteS (b : BD) (ps : List PT) (L : List PL) : Int × Int := if (checkS b ps L).2 = 0 then (wasTo b ps L L.length, 0) else (0, (checkS b ps L).2)


set_option maxRecDepth 100000 in
set_option maxHeartbeats 2000000 in
theorem Count_any (b : BD) (A A2 A3 : Option Addr) (c c2 c3 : Nat) (ps : List PT) (L : List PL) (w : World) (hF : RdR w w.heap.size A b.F) (hp : RdPP w w.heap.size A2 ps) (hl : RdL w w.heap.size A3 L) :
    Calls Try.prog 17 #[bdv b A c, .slice A2 ps.length c2, .slice A3 L.length c3] w (RetN2 (countS b ps L).1 (countS b ps L).2 w) := by
  have HF := Lib.hid hF; clear hF
  have HP := Lib.hid hp; clear hp
  have HL := Lib.hid hl; clear hl
  obtain ⟨w0, hw0⟩ : ∃ w0, w.alloc (.cells #[.int .i64 b.W, .int .i64 b.H, .int .i64 b.G, .slice A b.F.length c] 24) = w0 := ⟨_, rfl⟩
  have hB0 : Below w.heap.size w w0 := by rw [← hw0]; (repeat (first | exact Below.refl _ _ | assumption | refine Below.alloc ?_ (by first | exact Nat.le_refl _ | exact Below.size (by assumption) | omega | (simp <;> omega)) _ | refine Below.setCell ?_ (by first | exact Nat.le_refl _ | exact Below.size (by assumption) | omega | (simp <;> omega)) _ | refine below_drewN ?_ _ | refine Below.drew ?_))
  have hz0 : w0.heap.size = w.heap.size + 1 := by rw [← hw0]; simp
  have HBD := Lib.hid (show BdAt w0 w.heap.size b A c by rw [← hw0]; exact BdAt.new w b A c)
  obtain ⟨k0, k1, k2, k3⟩ := HBD.out
  have hok := fun h => checkS_ok (b := b) (ps := ps) (L := L) h
  have hs : countS b ps L = if (checkS b ps L).2 = 0 then (cntTo ps.length L L.length, 0) else ([], (checkS b ps L).2) := rfl
  obtain ⟨⟨n, f⟩, hn⟩ : ∃ r, checkS b ps L = r := ⟨_, rfl⟩
  rw [hn] at hs hok
  dsimp only at hs hok
  have HN := Lib.hid hn; clear hn
  have HSA := Lib.hid hs; clear hs
  have HOK := Lib.hid hok; clear hok
  go_enter Try.func17, Try.ntmps17
  go_wp2_with fail
  clear hw0
  refine (Check_any b A A2 A3 c c2 c3 ps L _ (HF.out.now hB0) (HP.out.now hB0) (HL.out.now hB0)).mono ?_
  rintro e w2 ⟨rfl, hb2⟩
  rw [HN.out]
  have hB2 := hB0.trans (hb2.mono hB0.size)
  have hs2 := hb2.size
  clear k0 k1 k2 k3
  by_cases hf : f = 0
  case neg =>
    have hs := HSA.out
    rw [if_neg hf] at hs
    have HS := Lib.hid hs; clear hs HSA
    go_wp2
    go_ret2
    rw [HS.out]; exact ⟨_, _, rfl, fun i v hi => by simp at hi, hB2⟩
  subst hf
  have HRL := Lib.hid (HOK.out rfl)
  have hlL := HRL.out.hl
  have hps := partsB_len HRL.out.hp
  have hs := HSA.out
  rw [if_pos rfl] at hs
  have HS := Lib.hid hs; clear hs HSA
  obtain ⟨i0, hi0, hz0', hz1, hz2⟩ : ∃ i0, Try.prog.info? 3 = some i0 ∧ i0.zero = some (.int .i64 0) ∧ i0.size = 1 ∧ i0.bytes = 8 := by
    obtain ⟨i0, h1, h2⟩ := Option.map_eq_some_iff.1 Try.infoInt2
    simp at h2
    exact ⟨i0, h1, h2.1, h2.2.1, h2.2.2⟩
  have HJ := Lib.hid hi0; clear hi0
  go_wp2_with (at_make; refine wpList_make_full _ rfl _ _ 45 rfl w2.heap.size 3 i0 (.int .i64 0) 1 Try.underlying45 HJ.out hz0' hz1 _ _ _ _ ps.length rfl rfl rfl rfl (by rw [hz2]; omega) (by unfold Go.maxLen; omega) (Nat.le_refl _) ?_; intro w6 hown6 hgrow6)
  have hb6 : Below w2.heap.size w2 w6 := below_grown (Below.refl _ _) hgrow6 (fun k h => by cases h) (Nat.le_refl _)
  have HRI : Hid (RowI w6 w2.heap.size (List.replicate ps.length 0) ∧ w2.heap.size < w6.heap.size) := by
    rcases hown6.2 with ⟨e, _⟩ | ⟨g, cap, cur, e, _, hg, _, _, hcs, htk⟩
    · cases e
    · injection e with e1 e2 e3
      injection e1 with e1
      injection e1 with e4 e5 e6
      subst e4 e3
      refine ⟨?_, (Array.getElem?_eq_some_iff.1 hg).1⟩
      unfold RowI
      rw [hg]
      have hz : (Value.int IntKind.i64 0).cells = #[.int .i64 0] := rfl
      rw [hz, toList_madeCells_one, List.take_of_length_le (by simp; omega)] at htk
      have : cur = (List.map (Value.int IntKind.i64) (List.replicate ps.length 0)).toArray := by
        apply Array.toList_inj.1
        rw [htk]; simp
      rw [this]
  clear hown6 hgrow6
  have hB6 := hB2.trans (hb6.mono hB2.size)
  have hw6 := HRI.out.2
  go_wp2
  go_loopw [12, 28] (fun _ i wr => ∃ k : Nat, k ≤ L.length ∧ i = .int .i64 k ∧ RowI wr w2.heap.size (cntTo ps.length L k) ∧ w2.heap.size < wr.heap.size ∧ Below w2.heap.size w2 wr) (fun _ i _ => L.length - (intOf i).toNat)
  case atStart => exact ⟨0, Nat.zero_le _, rfl, HRI.out.1, hw6, hb6⟩
  case round =>
    obtain ⟨k, hk, rfl, hrow, hsz, hB⟩ := hrel
    have HR := Lib.hid hrow; clear hrow
    by_cases hlt : k < L.length
    · obtain ⟨q, hq⟩ := getElem?_of_lt hlt
      obtain ⟨bb, off, hA, hbb, d0, d1, d2, d3⟩ := (HL.out.below (hB2.trans (hB.mono hB2.size))) k q hq
      subst hA
      have hpl := rightB_placed (HRL.out.hr q (List.mem_of_getElem? hq))
      obtain ⟨m, pt, hpm, hpt, _, _⟩ := placed_get hpl
      have hml : m < ps.length := (List.getElem?_eq_some_iff.1 hpt).1
      have hsu := cntTo_succ (n := ps.length) hq
      have hcl := cntTo_len ps.length L k hk
      obtain ⟨v, hv⟩ := getElem?_of_lt (show m < (cntTo ps.length L k).length by omega)
      rw [hpm, show (m : Int).toNat = m from rfl, hv] at hsu
      have hsu2 : cntTo ps.length L (k + 1) = (cntTo ps.length L k).set m (wrap64 (v + 1)) := hsu
      rw [hpm] at d0
      have HV := Lib.hid hv
      have HSU := Lib.hid hsu2
      clear hsu hsu2 hcl hpl hpt hq hv
      have c0 : wr.cell? ⟨w2.heap.size, m, none⟩ = some (.int .i64 v) := HR.out.c HV.out
      have f0 : wr.frozen? ⟨w2.heap.size, m, none⟩ = false := HR.out.f m
      have HPM := Lib.hid hpm; clear hpm
      have hmI : (m : Int) < (ps.length : Int) := by omega
      have hbw : bb < wr.heap.size := by have := hB.size; omega
      have hne : ¬ wr.heap.size = w2.heap.size := by omega
      obtain ⟨wa, hwa⟩ : ∃ wa, wr.alloc (.cells #[.int .i64 (m : Int), .int .i64 q.X, .int .i64 q.Y, .bool q.t] 52) = wa := ⟨_, rfl⟩
      have hba : Below wr.heap.size wr wa := by rw [← hwa]; (repeat (first | exact Below.refl _ _ | assumption | refine Below.alloc ?_ (by first | exact Nat.le_refl _ | exact Below.size (by assumption) | omega | (simp <;> omega)) _ | refine Below.setCell ?_ (by first | exact Nat.le_refl _ | exact Below.size (by assumption) | omega | (simp <;> omega)) _ | refine below_drewN ?_ _ | refine Below.drew ?_))
      have hza : wa.heap.size = wr.heap.size + 1 := by rw [← hwa]; simp
      have hia : wa.cell? ⟨wr.heap.size, 0, none⟩ = some (.int .i64 (m : Int)) := by rw [← hwa]; simp
      have HRA := Lib.hid (HR.out.below hba hsz)
      have HWA := Lib.hid hwa; clear hwa c0 f0
      have hBa := hB.trans (hba.mono hB.size)
      go_upto_region 8 with fail
      have hwa := HWA.out
      rw [HPM.out] at *
      rw [hwa]
      clear hwa HWA
      have c0 : wa.cell? ⟨w2.heap.size, m, none⟩ = some (.int .i64 v) := HRA.out.c HV.out
      have f0 : wa.frozen? ⟨w2.heap.size, m, none⟩ = false := HRA.out.f m
      have HPUT := Lib.hid (HRA.out.put m (wrap64 (v + 1)))
      have hBs : Below w2.heap.size w2 (wa.setCell ⟨w2.heap.size, m, none⟩ (.int .i64 (wrap64 (v + 1)))) := by (repeat (first | exact Below.refl _ _ | assumption | refine Below.alloc ?_ (by first | exact Nat.le_refl _ | exact Below.size (by assumption) | omega | (simp <;> omega)) _ | refine Below.setCell ?_ (by first | exact Nat.le_refl _ | exact Below.size (by assumption) | omega | (simp <;> omega)) _ | refine below_drewN ?_ _ | refine Below.drew ?_))
      have HBS := Lib.hid hBs; clear hBs
      go_wp2
      go_roundw
      case rel => exact ⟨k + 1, by omega, by go_num, by rw [HSU.out]; exact HPUT.out, by simp; omega, HBS.out⟩
      case measure => simp [intOf]; omega
    · obtain rfl : k = L.length := by omega
      have hlen := cntTo_len ps.length L L.length (Nat.le_refl _)
      go_wp2
      go_ret2
      rw [HS.out]
      refine ⟨some ⟨w2.heap.size, 0, none⟩, ps.length, ?_, HR.out.rd, hB2.trans (hB.mono hB2.size)⟩
      dsimp only
      rw [hlen]
      rfl

set_option maxRecDepth 100000 in
set_option maxHeartbeats 2000000 in
theorem Waste_any (b : BD) (A A2 A3 : Option Addr) (c c2 c3 : Nat) (ps : List PT) (L : List PL) (w : World) (hF : RdR w w.heap.size A b.F) (hp : RdPP w w.heap.size A2 ps) (hl : RdL w w.heap.size A3 L) :
    Calls Try.prog 13 #[bdv b A c, .slice A2 ps.length c2, .slice A3 L.length c3] w (Ret (.tuple #[.int .i64 (wasteS b ps L).1, .int .i64 (wasteS b ps L).2]) w) := by
  have HF := Lib.hid hF; clear hF
  have HP := Lib.hid hp; clear hp
  have HL := Lib.hid hl; clear hl
  obtain ⟨w0, hw0⟩ : ∃ w0, w.alloc (.cells #[.int .i64 b.W, .int .i64 b.H, .int .i64 b.G, .slice A b.F.length c] 24) = w0 := ⟨_, rfl⟩
  have hB0 : Below w.heap.size w w0 := by rw [← hw0]; (repeat (first | exact Below.refl _ _ | assumption | refine Below.alloc ?_ (by first | exact Nat.le_refl _ | exact Below.size (by assumption) | omega | (simp <;> omega)) _ | refine Below.setCell ?_ (by first | exact Nat.le_refl _ | exact Below.size (by assumption) | omega | (simp <;> omega)) _ | refine below_drewN ?_ _ | refine Below.drew ?_))
  have hz0 : w0.heap.size = w.heap.size + 1 := by rw [← hw0]; simp
  have HBD := Lib.hid (show BdAt w0 w.heap.size b A c by rw [← hw0]; exact BdAt.new w b A c)
  obtain ⟨k0, k1, k2, k3⟩ := HBD.out
  have hok := fun h => checkS_ok (b := b) (ps := ps) (L := L) h
  have hs : wasteS b ps L = if (checkS b ps L).2 = 0 then (wasTo b ps L L.length, 0) else (0, (checkS b ps L).2) := rfl
  obtain ⟨⟨n, f⟩, hn⟩ : ∃ r, checkS b ps L = r := ⟨_, rfl⟩
  rw [hn] at hs hok
  dsimp only at hs hok
  have HN := Lib.hid hn; clear hn
  have HSA := Lib.hid hs; clear hs
  have HOK := Lib.hid hok; clear hok
  go_enter Try.func13, Try.ntmps13
  go_wp2_with fail
  clear hw0
  refine (Check_any b A A2 A3 c c2 c3 ps L _ (HF.out.now hB0) (HP.out.now hB0) (HL.out.now hB0)).mono ?_
  rintro e w2 ⟨rfl, hb2⟩
  rw [HN.out]
  have hB2 := hB0.trans (hb2.mono hB0.size)
  have hs2 := hb2.size
  clear k0 k1 k2 k3
  by_cases hf : f = 0
  case neg =>
    have hs := HSA.out
    rw [if_neg hf] at hs
    have HS := Lib.hid hs; clear hs HSA
    go_wp2
    go_ret2
    exact Ret.mk (by rw [HS.out]; rfl) hB2
  subst hf
  have HRL := Lib.hid (HOK.out rfl)
  have hlL := HRL.out.hl
  have hps := partsB_len HRL.out.hp
  have hs := HSA.out
  rw [if_pos rfl] at hs
  have HS := Lib.hid hs; clear hs HSA
  obtain ⟨b1, b2, b3, b4, _, _, _⟩ := boardB_facts HRL.out.hb
  have hmul := mul_bd (a := 2 * b.W) (b := b.H) (A := 120000) (B := 60000) (by omega) (by omega) (by omega) (by omega)
  obtain ⟨P, hP⟩ : ∃ P, 2 * b.W * b.H = P := ⟨_, rfl⟩
  rw [hP] at hmul
  have m1 : wrap64 (2 * b.W) = 2 * b.W := w64_id (by omega) (by omega)
  have m2 : wrap64 (2 * b.W * b.H) = P := by rw [hP]; exact w64_id (by omega) (by omega)
  have m3 : wrap64 P = P := w64_id (by omega) (by omega)
  have hst : wasTo b ps L 0 = P := by unfold wasTo; simp [hP]
  have HST := Lib.hid hst; clear hst
  obtain ⟨k0, k1, k2, k3⟩ := HBD.out.below hb2 (by omega)
  have hww : w.heap.size < w2.heap.size := by omega
  go_wp2
  clear k0 k1 k2 k3 m1 m2 m3 hP hmul
  go_loopw [10, 12, 13, 14, 33] (fun n _ _ _ i wr => ∃ k : Nat, k ≤ L.length ∧ i = .int .i64 k ∧ n = .int .i64 (wasTo b ps L k) ∧ Below w2.heap.size w2 wr) (fun _ _ _ _ i _ => L.length - (intOf i).toNat)
  case atStart => exact ⟨0, Nat.zero_le _, rfl, by rw [HST.out], Below.refl _ _⟩
  case round =>
    obtain ⟨k, hk, rfl, rfl, hB⟩ := hrel
    have hBw := hB2.trans (hB.mono hB2.size)
    by_cases hlt : k < L.length
    · obtain ⟨q, hq⟩ := getElem?_of_lt hlt
      obtain ⟨bb, off, hA, hbb, d0, d1, d2, d3⟩ := (HL.out.below hBw) k q hq
      subst hA
      have hpl := rightB_placed (HRL.out.hr q (List.mem_of_getElem? hq))
      obtain ⟨m, pt, hpm, hpt, hat, _⟩ := placed_get hpl
      have hml : m < ps.length := (List.getElem?_eq_some_iff.1 hpt).1
      have hmem : pt ∈ ps := List.mem_of_getElem? hpt
      have hv := partsB_each HRL.out.hp hmem
      obtain ⟨b5, off5, hA5, hb5, p0, p1⟩ := (HP.out.flat.below hBw) m pt hpt
      subst hA5
      have hpe := HP.out.each pt hmem
      have hsu := wasTo_succ (b := b) (ps := ps) hq
      rw [hat] at hsu
      obtain ⟨v, hvv⟩ : ∃ v, wasTo b ps L k = v := ⟨_, rfl⟩
      obtain ⟨ar, har⟩ : ∃ ar, areaW pt.o = ar := ⟨_, rfl⟩
      rw [hvv, har] at hsu
      rw [hvv]
      have has : area2S pt.o = (ar, 0) := by unfold area2S; rw [if_pos hv, har]
      have har2 : ∀ W : World, Rd W W.heap.size pt.A pt.o → Calls Try.prog 29 #[.slice pt.A pt.o.length pt.c] W (Ret (.tuple #[.int .i64 ar, .int .i64 0]) W) := fun W h => by
        have := Area2_any pt.A pt.c pt.o W h
        rwa [has] at this
      have HAR := Lib.hid har2; clear har2 has
      have HPE := Lib.hid hpe.1
      have HSU := Lib.hid hsu
      rw [hpm] at d0
      have HPM := Lib.hid hpm
      clear hsu hpl hpt hq hpm hat hpe hvv hv har
      have hbw : bb < wr.heap.size := by have := hBw.size; omega
      have hbw5 : b5 < wr.heap.size := by have := hBw.size; omega
      have hmI : (m : Int) < (ps.length : Int) := by omega
      have hBa : Below w2.heap.size w2 (wr.alloc (.cells #[.int .i64 (m : Int), .int .i64 q.X, .int .i64 q.Y, .bool q.t] 52)) := by (repeat (first | exact Below.refl _ _ | assumption | refine Below.alloc ?_ (by first | exact Nat.le_refl _ | exact Below.size (by assumption) | omega | (simp <;> omega)) _ | refine Below.setCell ?_ (by first | exact Nat.le_refl _ | exact Below.size (by assumption) | omega | (simp <;> omega)) _ | refine below_drewN ?_ _ | refine Below.drew ?_))
      have HBA := Lib.hid hBa; clear hBa
      go_wp2_with fail
      refine (HAR.out _ (HPE.out.now (hB2.trans (HBA.out.mono hB2.size)))).mono ?_
      rintro e w5 ⟨rfl, hb5'⟩
      have hB5 := HBA.out.trans (hb5'.mono HBA.out.size)
      go_wp2
      go_roundw
      case rel => exact ⟨k + 1, by omega, by go_num, by rw [HSU.out], hB5⟩
      case measure => simp [intOf]; omega
    · obtain rfl : k = L.length := by omega
      go_wp2
      go_ret2
      exact Ret.mk (by rw [HS.out]; rfl) hBw

end Go.Proofs.Ytohlinbcbfgdfaa

/- The law's measure of size: the walk; the law OrderConverts: the walk. -/
import Derived.Test.YthccpdefgjneiaaDoorOM8
namespace Go.Proofs.YthccpdefgjneiaaDoor
open Go.RowKit Go.Shelf Go.Maps

/-- The call returns some bool. -/
def RetAny (w : World) (e : Ending) (w' : World) : Prop := ∃ b, e = .returned (.bool b) ∧ Below w.heap.size w w'
structure FT where
  cu : ByteArray
  d : Int
  cr : ByteArray
  A : Option Addr
  cp : Nat
  ls : List GT
abbrev valF (p : FT) : Value := .agg #[.string p.cu, .int .i64 p.d, .string p.cr, .slice p.A p.ls.length p.cp]
def zeroF : FT := ⟨⟨#[]⟩, 0, ⟨#[]⟩, none, 0, []⟩
set_option maxRecDepth 100000 in
set_option maxHeartbeats 2000000 in
theorem Wide_any (Ap Ar : Option Addr) (cp cr : Nat) (lp : List QT) (lr : List RT) (f : FT) (w : World) (hp : RdQ w w.heap.size Ap lp) (hr : RdT w w.heap.size Ar lr) (hf : RdG w w.heap.size f.A f.ls) :
    Calls Tryd.prog 13 #[.agg #[.slice Ap lp.length cp, .slice Ar lr.length cr], valF f] w (RetAny w) := by
  have HP := Lib.hid hp; clear hp
  have HR := Lib.hid hr; clear hr
  have HF := Lib.hid hf; clear hf
  obtain ⟨w0, hw0⟩ : ∃ w0, (w.alloc (.cells #[.slice Ap lp.length cp, .slice Ar lr.length cr] 25)).alloc (.cells #[.string f.cu, .int .i64 f.d, .string f.cr, .slice f.A f.ls.length f.cp] 30) = w0 := ⟨_, rfl⟩
  have hB0 : Below w.heap.size w w0 := by rw [← hw0]; (repeat (first | exact Below.refl _ _ | assumption | refine Below.alloc ?_ (by first | exact Nat.le_refl _ | exact Below.size (by assumption) | omega | (simp <;> omega)) _ | refine Below.setCell ?_ (by first | exact Nat.le_refl _ | exact Below.size (by assumption) | omega | (simp <;> omega)) _ | refine below_drewN ?_ _ | refine Below.drew ?_))
  have hz0 : w0.heap.size = w.heap.size + 2 := by rw [← hw0]; simp
  have m0 : w0.cell? ⟨w.heap.size, 0, none⟩ = some (.slice Ap lp.length cp) := by rw [← hw0]; simp
  have m1 : w0.cell? ⟨w.heap.size, 1, none⟩ = some (.slice Ar lr.length cr) := by rw [← hw0]; simp
  have f0 : w0.cell? ⟨w.heap.size + 1, 0, none⟩ = some (.string f.cu) := by rw [← hw0]; simp
  have f2 : w0.cell? ⟨w.heap.size + 1, 2, none⟩ = some (.string f.cr) := by rw [← hw0]; simp
  have f3 : w0.cell? ⟨w.heap.size + 1, 3, none⟩ = some (.slice f.A f.ls.length f.cp) := by rw [← hw0]; simp
  go_enter Tryd.func13, Tryd.ntmps13
  go_wp2
  all_goals first | (go_ret; exact ⟨_, rfl, hB0⟩) | skip
  clear hw0
  go_loopw [5] (fun i wr => ∃ k : Nat, k ≤ lp.length ∧ i = .int .i64 k ∧ wr = w0) (fun i _ => lp.length - (intOf i).toNat)
  case atStart => exact ⟨0, Nat.zero_le _, rfl, rfl⟩
  case round =>
    obtain ⟨k, hk, rfl, rfl⟩ := hrel
    by_cases hlt : k < lp.length
    · obtain ⟨p, hp⟩ := getElem?_of_lt hlt
      obtain ⟨b, off, hA, hb, d0, d1, d2⟩ := (HP.out.now hB0) k p hp
      subst hA
      clear hp
      go_wp2
      all_goals first | (go_ret; exact ⟨_, rfl, hB0⟩) | skip
      go_roundw
      case rel => exact ⟨k + 1, by omega, by go_num, trivial⟩
      case measure => simp [intOf]; omega
    · obtain rfl : k = lp.length := by omega
      go_wp2
      clear hk hlt
      obtain ⟨wo, rfl⟩ : ∃ wo : World, wo = wr := ⟨_, rfl⟩
      go_loopw [6] (fun i wr => ∃ k : Nat, k ≤ lr.length ∧ i = .int .i64 k ∧ wr = wo) (fun i _ => lr.length - (intOf i).toNat)
      case atStart => exact ⟨0, Nat.zero_le _, rfl, rfl⟩
      case round =>
        obtain ⟨k, hk, rfl, rfl⟩ := hrel
        by_cases hlt : k < lr.length
        · obtain ⟨p, hp⟩ := getElem?_of_lt hlt
          obtain ⟨b, off, hA, hb, d0, d1, d2, d3⟩ := (HR.out.now hB0) k p hp
          subst hA
          clear hp
          go_wp2
          all_goals first | (go_ret; exact ⟨_, rfl, hB0⟩) | skip
          go_roundw
          case rel => exact ⟨k + 1, by omega, by go_num, trivial⟩
          case measure => simp [intOf]; omega
        · obtain rfl : k = lr.length := by omega
          go_wp2
          clear hk hlt
          obtain ⟨wq, rfl⟩ : ∃ wq : World, wq = wr := ⟨_, rfl⟩
          go_loopw [7] (fun i wr => ∃ k : Nat, k ≤ f.ls.length ∧ i = .int .i64 k ∧ wr = wq) (fun i _ => f.ls.length - (intOf i).toNat)
          case atStart => exact ⟨0, Nat.zero_le _, rfl, rfl⟩
          case round =>
            obtain ⟨k, hk, rfl, rfl⟩ := hrel
            by_cases hlt : k < f.ls.length
            · obtain ⟨p, hp⟩ := getElem?_of_lt hlt
              obtain ⟨b, off, hA, hb, d0, d1, d2, d3⟩ := (HF.out.now hB0) k p hp
              clear hp
              rw [hA] at f3
              go_wp2
              all_goals first | (go_ret; exact ⟨_, rfl, hB0⟩) | skip
              go_roundw
              case rel => exact ⟨k + 1, by omega, by go_num, trivial⟩
              case measure => simp [intOf]; omega
            · obtain rfl : k = f.ls.length := by omega
              go_wp2
              go_ret
              exact ⟨_, rfl, hB0⟩

set_option maxRecDepth 100000 in
set_option maxHeartbeats 2000000 in
theorem lawConverts_any (Ap Ar : Option Addr) (cp cr : Nat) (lp : List QT) (lr : List RT) (s : ByteArray) (day am : Int) (w : World) (ho : OkT lr) (hs : s.size ≤ 9223372036854775807) (hp : RdQ w w.heap.size Ap lp) (hr : RdT w w.heap.size Ar lr) :
    Calls Tryd.prog 3 #[.agg #[.slice Ap lp.length cp, .slice Ar lr.length cr], .string s, .agg #[.int .i64 day, .int .i64 am]] w (Ret (.bool true) w) := by
  have HP := Lib.hid hp; clear hp
  have HR := Lib.hid hr; clear hr
  have HOK := Lib.hid ho; clear ho
  have hmx : Tryd.prog.follows .mixedOrders = true := by kernel_rfl
  obtain ⟨w0, hw0⟩ : ∃ w0, (w.alloc (.cells #[.slice Ap lp.length cp, .slice Ar lr.length cr] 25)).alloc (.cells #[.int .i64 day, .int .i64 am] 26) = w0 := ⟨_, rfl⟩
  have hB0 : Below w.heap.size w w0 := by rw [← hw0]; (repeat (first | exact Below.refl _ _ | assumption | refine Below.alloc ?_ (by first | exact Nat.le_refl _ | exact Below.size (by assumption) | omega | (simp <;> omega)) _ | refine Below.setCell ?_ (by first | exact Nat.le_refl _ | exact Below.size (by assumption) | omega | (simp <;> omega)) _ | refine below_drewN ?_ _ | refine Below.drew ?_))
  have hz0 : w0.heap.size = w.heap.size + 2 := by rw [← hw0]; simp
  have m0 : w0.cell? ⟨w.heap.size, 0, none⟩ = some (.slice Ap lp.length cp) := by rw [← hw0]; simp
  have m1 : w0.cell? ⟨w.heap.size, 1, none⟩ = some (.slice Ar lr.length cr) := by rw [← hw0]; simp
  have a0 : w0.cell? ⟨w.heap.size + 1, 0, none⟩ = some (.int .i64 day) := by rw [← hw0]; simp
  have a1 : w0.cell? ⟨w.heap.size + 1, 1, none⟩ = some (.int .i64 am) := by rw [← hw0]; simp
  obtain ⟨⟨x, e⟩, hx⟩ : ∃ r, convS lr s day am = r := ⟨_, rfl⟩
  have HX := Lib.hid hx; clear hx
  have HM := Lib.hid (And.intro m0 m1)
  go_enter Tryd.func3, Tryd.ntmps3
  go_wp2
  clear hw0
  go_quiet (fail)
  clear a0 a1
  go_wp2_with fail
  refine (Wide_any Ap Ar cp cr lp lr zeroF _ ((HP.out.now hB0).now (by (repeat (first | exact Below.refl _ _ | assumption | refine Below.alloc ?_ (by first | exact Nat.le_refl _ | exact Below.size (by assumption) | omega | (simp <;> omega)) _ | refine Below.setCell ?_ (by first | exact Nat.le_refl _ | exact Below.size (by assumption) | omega | (simp <;> omega)) _ | refine below_drewN ?_ _ | refine Below.drew ?_)))) ((HR.out.now hB0).now (by (repeat (first | exact Below.refl _ _ | assumption | refine Below.alloc ?_ (by first | exact Nat.le_refl _ | exact Below.size (by assumption) | omega | (simp <;> omega)) _ | refine Below.setCell ?_ (by first | exact Nat.le_refl _ | exact Below.size (by assumption) | omega | (simp <;> omega)) _ | refine below_drewN ?_ _ | refine Below.drew ?_)))) (fun i p hp => by simp [zeroF] at hp)).mono ?_
  rintro e' w1 ⟨b, rfl, hb1⟩
  have hb01 : Below w0.heap.size w0 w1 := Below.trans (by (repeat (first | exact Below.refl _ _ | assumption | refine Below.alloc ?_ (by first | exact Nat.le_refl _ | exact Below.size (by assumption) | omega | (simp <;> omega)) _ | refine Below.setCell ?_ (by first | exact Nat.le_refl _ | exact Below.size (by assumption) | omega | (simp <;> omega)) _ | refine below_drewN ?_ _ | refine Below.drew ?_))) hb1
  have hB1 := hB0.trans (hb01.mono hB0.size)
  have hz1 : w.heap.size < w1.heap.size := by have := hb01.size; omega
  obtain ⟨n0, n1⟩ : w1.cell? ⟨w.heap.size, 0, none⟩ = some (.slice Ap lp.length cp) ∧ w1.cell? ⟨w.heap.size, 1, none⟩ = some (.slice Ar lr.length cr) :=
    ⟨(hb01.cell (p := ⟨w.heap.size, 0, none⟩) (by show w.heap.size < _; omega)).trans HM.out.1, (hb01.cell (p := ⟨w.heap.size, 1, none⟩) (by show w.heap.size < _; omega)).trans HM.out.2⟩
  clear m0 m1
  have hsane : ∀ (w2 : World), Below w.heap.size w w2 → Calls Tryd.prog 14 #[] w2 (fun e w' => e = .returned (.bool true) ∧ Below w.heap.size w w') := fun w2 h2 => (sane_any w2).mono fun e w' h => ⟨h.1, h2.trans (h.2.mono h2.size)⟩
  have HSA := Lib.hid hsane; clear hsane
  cases b
  case true =>
    go_wp2_with fail
    refine (HSA.out _ hB1).mono ?_
    rintro e' w2 ⟨rfl, hb2⟩
    go_wp2
    go_ret
    exact Ret.mk rfl hb2
  by_cases h40 : 40 < s.size
  · have h40I : (40 : Int) < (s.size : Int) := by omega
    go_wp2_with fail
    refine (HSA.out _ hB1).mono ?_
    rintro e' w2 ⟨rfl, hb2⟩
    go_wp2
    go_ret
    exact Ret.mk rfl hb2
  have h40I : ¬ (40 : Int) < (s.size : Int) := by omega
  go_wp2_with fail
  refine (Convert_any Ar cr lr s day am _ HOK.out hs (HR.out.now hB1)).mono ?_
  rintro e' w2 ⟨rfl, hb2⟩
  rw [HX.out]
  have hB2 := hB1.trans (hb2.mono hB1.size)
  have hb02 := hb01.trans (hb2.mono hb01.size)
  have hz2 : w.heap.size < w2.heap.size := by have := hb02.size; omega
  clear n0 n1
  have n1 : w2.cell? ⟨w.heap.size, 1, none⟩ = some (.slice Ar lr.length cr) := (hb02.cell (p := ⟨w.heap.size, 1, none⟩) (by show w.heap.size < _; omega)).trans HM.out.2
  go_wp2_with fail
  refine (Convert2_any Ar cr lr s day am _ HOK.out hs (HR.out.now hB2)).mono ?_
  rintro e' w3 ⟨rfl, hb3⟩
  rw [HX.out]
  have hB3 := hB2.trans (hb3.mono hB2.size)
  go_wp2_with fail
  refine (HSA.out _ hB3).mono ?_
  rintro e' w4 ⟨rfl, hb4⟩
  go_wp2
  go_ret
  exact Ret.mk rfl hb4
end Go.Proofs.YthccpdefgjneiaaDoor

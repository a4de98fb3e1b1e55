/- OrderTurns: the walk up to the two invoices. -/
import Derived.Test.YthccpdefgjneiaaDoorOP21
import Derived.Test.YthccpdefgjneiaaDoorWide2
import Derived.Test.YthccpdefgjneiaaDoorOwn8
namespace Go.Proofs.YthccpdefgjneiaaDoor
open Go.RowKit Go.Shelf Go.Maps
set_option linter.unusedSimpArgs false

theorem step_append_own8 {P : Program} (w : World) {ops : Array Oper} {o : Oper} {a : Act} {K : Act → World → Prop} {Q : Exit → Act → World → Prop} {E : Prop} (hgd : o.guard = none) (s x : Operand) (t : TypeId)
    (ho : o.op = .call { callee := .builtin .append, args := #[s, x], argTypes := #[t, t] })
    (base : Nat) (e : TypeId) (i : TypeInfo) (z : Value) (size bytes : Nat) (ht : P.underlying t = some (.slice e)) (hi : P.info? e = some i) (hz : i.zero = some z)
    (hsize : i.size = size) (hby : i.bytes = bytes) (hzs : z.cells.size = size) (hsz : 0 < size)
    (v : Value) (n : Nat) (xs : List Value) (hs : a.eval s = v) (hown : w.ownsRow base e size v n xs)
    (ad : Addr) (m c : Nat) (news : List Value) (hx : a.eval x = .slice (some ad) m c) (hl : news.length = m * size) (hnews : ∀ j u, news[j]? = some u → w.cell? (ad.add j) = some u) (h1 : ∀ u ∈ news, u.oneCell' = true)
    (h63 : n + m ≤ maxLen) (hbytes : (n + m) * bytes ≤ 140737488355328) (hbase : base ≤ w.heap.size)
    (h : ∀ v' w', w'.ownsRow base e size v' (n + m) (xs ++ news) → w.grownBy w' v.ownBlock → (v' = .slice none 0 0 ↔ v = .slice none 0 0 ∧ m = 0) → K (a.put o.dst v') w') :
    if Region.wanted o (yielded ops a.tmps) = true then Oper.wp P o a w K Q else E := by
  have hw : Region.wanted o (yielded ops a.tmps) = true := by simp [Region.wanted, hgd]
  rw [if_pos hw]
  exact wp_append_own w s x t ho base e i z size bytes ht hi hz hsize hby hzs hsz v n xs hs hown ad m c news hx hl hnews h1 h63 hbytes hbase h
/-- A form alone in its block, its lines a value. -/
def BlF (w : World) (B : Nat) (f : FT) (v : Value) : Prop := w.heap[B]? = some (.cells #[.string f.cu, .int .i64 f.d, .string f.cr, v] 30 (0, 0))
theorem BlF.c {w : World} {B : Nat} {f : FT} {v : Value} (h : BlF w B f v) : w.cell? ⟨B, 0, none⟩ = some (.string f.cu) ∧ w.cell? ⟨B, 1, none⟩ = some (.int .i64 f.d) ∧ w.cell? ⟨B, 2, none⟩ = some (.string f.cr) ∧ w.cell? ⟨B, 3, none⟩ = some v := by
  unfold BlF at h; exact ⟨by simp [World.cell?, h], by simp [World.cell?, h], by simp [World.cell?, h], by simp [World.cell?, h]⟩
theorem BlF.f {w : World} {B : Nat} {f : FT} {v : Value} (h : BlF w B f v) : w.frozen? ⟨B, 3, none⟩ = false := by
  unfold BlF at h; simp [World.frozen?, h]
theorem BlF.put {w : World} {B : Nat} {f : FT} {v : Value} (h : BlF w B f v) (u : Value) : BlF (w.setCell ⟨B, 3, none⟩ u) B f u := by
  unfold BlF at h ⊢
  simp [World.setCell, Array.getElem?_modify, h]
theorem BlF.grown {w w' : World} {B : Nat} {row : Option Nat} {f : FT} {v : Value} (h : BlF w B f v) (hg : w.grownBy w' row) (hne : some B ≠ row) : BlF w' B f v := (hg.block B (Array.getElem?_eq_some_iff.1 h).1 hne).trans h
theorem BlF.below {w w' : World} {B C : Nat} {f : FT} {v : Value} (h : BlF w B f v) (hb : Below C w w') (hB : B < C) : BlF w' B f v := (hb.block B hB).trans h
theorem BlF.new (w : World) (f : FT) (v : Value) : BlF (w.alloc (.cells #[.string f.cu, .int .i64 f.d, .string f.cr, v] 30)) w.heap.size f v := heap_alloc_new w _
theorem own_set9 {w : World} {B e size n k : Nat} {v : Value} {xs : List Value} (h : w.ownsRow B e size v n xs) (a : Addr) (ha : a.block = k) (hk : k < B) (x : Value) : (w.setCell a x).ownsRow B e size v n xs := by
  refine ⟨h.1, ?_⟩
  rcases h.2 with hn | ⟨g, cap, cur, rfl, hg, hgg, rest⟩
  · exact .inl hn
  · refine .inr ⟨g, cap, cur, rfl, hg, ?_, rest⟩
    have : a.block ≠ g := by omega
    simp [World.setCell, Array.getElem?_modify, this, hgg]

set_option maxRecDepth 100000 in
set_option maxHeartbeats 4000000 in
theorem lawTurns_any (Ap Ar : Option Addr) (cp cr : Nat) (lp : List QT) (lr : List RT) (f : FT) (t : Int) (w : World) (h : OkA w Ap Ar lp lr f) (ht0 : 0 ≤ t) (ht1 : t ≤ 255) :
    Calls Tryd.prog 11 #[.agg #[.slice Ap lp.length cp, .slice Ar lr.length cr], valF f, .int .u8 t] w (Ret (.bool true) w) := by
  have HA := Lib.hid h; clear h
  have hmx : Tryd.prog.follows .mixedOrders = true := by kernel_rfl
  obtain ⟨i0, hi0, hz0', hz1', hz2'⟩ := info8_partsG Tryd.info8G
  have HJ := Lib.hid hi0; clear hi0
  obtain ⟨w0, hw0⟩ : ∃ w0, (w.alloc (.cells #[.slice Ap lp.length cp, .slice Ar lr.length cr] 25)).alloc (.cells #[.string f.cu, .int .i64 f.d, .string f.cr, .slice f.A f.ls.length f.cp] 30) = w0 := ⟨_, rfl⟩
  have hB0 : Below w.heap.size w w0 := by rw [← hw0]; (repeat (first | exact Below.refl _ _ | assumption | refine Below.alloc ?_ (by first | exact Nat.le_refl _ | exact Below.size (by assumption) | omega | (simp <;> omega)) _ | refine Below.setCell ?_ (by first | exact Nat.le_refl _ | exact Below.size (by assumption) | omega | (simp <;> omega)) _ | refine below_drewN ?_ _ | refine Below.drew ?_))
  have hz0 : w0.heap.size = w.heap.size + 2 := by rw [← hw0]; simp
  have m0 : w0.cell? ⟨w.heap.size, 0, none⟩ = some (.slice Ap lp.length cp) := by rw [← hw0]; simp
  have m1 : w0.cell? ⟨w.heap.size, 1, none⟩ = some (.slice Ar lr.length cr) := by rw [← hw0]; simp
  have f0 : w0.cell? ⟨w.heap.size + 1, 0, none⟩ = some (.string f.cu) := by rw [← hw0]; simp
  have f1 : w0.cell? ⟨w.heap.size + 1, 1, none⟩ = some (.int .i64 f.d) := by rw [← hw0]; simp
  have f2 : w0.cell? ⟨w.heap.size + 1, 2, none⟩ = some (.string f.cr) := by rw [← hw0]; simp
  have f3 : w0.cell? ⟨w.heap.size + 1, 3, none⟩ = some (.slice f.A f.ls.length f.cp) := by rw [← hw0]; simp
  have HM := Lib.hid (And.intro m0 (And.intro m1 (And.intro f0 (And.intro f1 (And.intro f2 f3)))))
  have HC : Hid (∀ w', Below w0.heap.size w0 w' → w'.cell? ⟨w.heap.size, 0, none⟩ = some (.slice Ap lp.length cp) ∧ w'.cell? ⟨w.heap.size, 1, none⟩ = some (.slice Ar lr.length cr) ∧ w'.cell? ⟨w.heap.size + 1, 0, none⟩ = some (.string f.cu) ∧ w'.cell? ⟨w.heap.size + 1, 1, none⟩ = some (.int .i64 f.d) ∧ w'.cell? ⟨w.heap.size + 1, 2, none⟩ = some (.string f.cr) ∧ w'.cell? ⟨w.heap.size + 1, 3, none⟩ = some (.slice f.A f.ls.length f.cp)) := fun w' h =>
    ⟨(h.cell (p := ⟨w.heap.size, 0, none⟩) (by show w.heap.size < _; omega)).trans HM.out.1, (h.cell (p := ⟨w.heap.size, 1, none⟩) (by show w.heap.size < _; omega)).trans HM.out.2.1,
     (h.cell (p := ⟨w.heap.size + 1, 0, none⟩) (by show w.heap.size + 1 < _; omega)).trans HM.out.2.2.1, (h.cell (p := ⟨w.heap.size + 1, 1, none⟩) (by show w.heap.size + 1 < _; omega)).trans HM.out.2.2.2.1,
     (h.cell (p := ⟨w.heap.size + 1, 2, none⟩) (by show w.heap.size + 1 < _; omega)).trans HM.out.2.2.2.2.1, (h.cell (p := ⟨w.heap.size + 1, 3, none⟩) (by show w.heap.size + 1 < _; omega)).trans HM.out.2.2.2.2.2⟩
  have hsane : ∀ (w2 : World), Below w.heap.size w w2 → Calls Tryd.prog 14 #[] w2 (fun e w' => e = .returned (.bool true) ∧ Below w.heap.size w w') := fun w2 h2 => (sane_any w2).mono fun e w' h => ⟨h.1, h2.trans (h.2.mono h2.size)⟩
  have HSA := Lib.hid hsane; clear hsane
  have hlm : (f.ls.length : Int) ≤ 9223372036854775807 := by have := HA.out.f.len; unfold maxLen at this; omega
  go_enter Tryd.func11, Tryd.ntmps11
  go_wp2_with fail
  clear hw0
  refine (Wide2_any Ap Ar cp cr lp lr f _ (HA.out.p.now hB0) (HA.out.r.now hB0) (HA.out.f.rd.now hB0)).mono ?_
  rintro e' w1 ⟨b, rfl, hbd, hb1⟩
  have HBD := Lib.hid hbd; clear hbd
  have hB1 := hB0.trans (hb1.mono hB0.size)
  clear m0 m1 f0 f1 f2 f3
  cases b
  case true =>
    go_wp2_with fail
    refine (HSA.out _ hB1).mono ?_
    rintro e' w2 ⟨rfl, hb2⟩
    go_wp2
    go_ret
    exact Ret.mk rfl hb2
  obtain ⟨m0, m1, f0, f1, f2, f3⟩ := HC.out w1 hb1
  by_cases hn0 : (f.ls.length : Int) = 0
  · have hnb : ((f.ls.length : Int) == 0) = true := by simpa using hn0
    go_wp2_with fail
    refine (HSA.out _ hB1).mono ?_
    rintro e' w2 ⟨rfl, hb2⟩
    go_wp2
    go_ret
    exact Ret.mk rfl hb2
  have hnb : ((f.ls.length : Int) == 0) = false := by simpa using hn0
  have h70 := (HBD.out rfl).2.2
  have hne : ¬ f.ls = [] := fun h => by rw [h] at hn0; exact hn0 rfl
  have hs1 : w.heap.size + 1 < w1.heap.size := by have := hb1.size; omega
  obtain ⟨w2, hw2⟩ : ∃ w2, w1.alloc (.cells #[.string f.cu, .int .i64 f.d, .string f.cr, .slice none 0 0] 30) = w2 := ⟨_, rfl⟩
  have hb2 : Below w1.heap.size w1 w2 := by rw [← hw2]; (repeat (first | exact Below.refl _ _ | assumption | refine Below.alloc ?_ (by first | exact Nat.le_refl _ | exact Below.size (by assumption) | omega | (simp <;> omega)) _ | refine Below.setCell ?_ (by first | exact Nat.le_refl _ | exact Below.size (by assumption) | omega | (simp <;> omega)) _ | refine below_drewN ?_ _ | refine Below.drew ?_))
  have HB2 := Lib.hid (show BlF w2 w1.heap.size f (.slice none 0 0) by rw [← hw2]; exact BlF.new w1 f _)
  have hz2 : w2.heap.size = w1.heap.size + 1 := by rw [← hw2]; simp
  have HW2 := Lib.hid hw2; clear hw2
  obtain ⟨T, rfl⟩ : ∃ T : Nat, t = (T : Int) := ⟨t.toNat, by omega⟩
  have hb02 := hb1.trans (hb2.mono hb1.size)
  have hB2 := hB0.trans (hb02.mono hB0.size)
  go_wp2
  rw [HW2.out]
  clear m0 m1 f0 f1 f2 f3
  go_loopw [9] (fun i wr => ∃ (k : Nat) (v : Value), i = .int .i64 k ∧ k ≤ f.ls.length ∧ BlF wr w1.heap.size f v ∧ Own8G wr (w1.heap.size + 1) v ((rotL f.ls T).take k) ∧ Below w1.heap.size w1 wr) (fun i _ => f.ls.length - (intOf i).toNat)
  case atStart => exact ⟨0, _, rfl, Nat.zero_le _, HB2.out, World.ownsRow_nil _ _ _ _, hb2⟩
  case round =>
    obtain ⟨k, v, rfl, hk, hbl, hown, hB⟩ := hrel
    have HBL := Lib.hid hbl; clear hbl
    have HOW := Lib.hid hown; clear hown
    have hbw := hb1.trans (hB.mono hb1.size)
    have hBw := hB0.trans (hbw.mono hB0.size)
    have hsB := hB.size
    have hzB : w1.heap.size < wr.heap.size := (Array.getElem?_eq_some_iff.1 HBL.out).1
    by_cases hlt : k < f.ls.length
    · have hr := Nat.mod_lt (k + T) (show 0 < f.ls.length by omega)
      obtain ⟨g, hg⟩ := getElem?_of_lt hr
      have HSN := Lib.hid (take_succ_of ((rot_get f.ls T hlt).trans hg))
      obtain ⟨q, hq⟩ : ∃ q, k + T = q := ⟨_, rfl⟩
      obtain ⟨r, hrr⟩ : ∃ r, q % f.ls.length = r := ⟨_, rfl⟩
      rw [hq, hrr] at hr hg
      have e0 : IntKind.i64.wrap (T : Int) = (T : Int) := IntWalk.i64_in _ (by omega)
      have e1 : IntKind.i64.wrap ((k : Int) + (T : Int)) = (q : Int) := by rw [IntWalk.i64_in _ (by omega)]; omega
      have e2 : (q : Int).tmod (f.ls.length : Int) = (r : Int) := by rw [← hrr]; rfl
      have e3 : IntKind.i64.wrap (r : Int) = (r : Int) := IntWalk.i64_in _ (by omega)
      obtain ⟨b, off, hA, hbb, d0, d1, d2, d3⟩ := (HA.out.f.rd.now hBw) r g hg
      obtain ⟨_, _, _, _, _, f3⟩ := HC.out wr hbw
      obtain ⟨_, _, _, x3⟩ := HBL.out.c
      have hfr := HBL.out.f
      have hs2 : w.heap.size + 1 < wr.heap.size := by omega
      have HLE : Hid (((rotL f.ls T).take k).length = k) := by show _ = _; rw [List.length_take, rot_len]; omega
      obtain ⟨M, hM⟩ : ∃ M, (rotL f.ls T).take (k + 1) = M := ⟨_, rfl⟩
      rw [hM] at HSN
      have HMM := Lib.hid hM; clear hM
      obtain ⟨R, hR⟩ : ∃ R, (rotL f.ls T).take k = R := ⟨_, rfl⟩
      rw [hR] at HSN HOW HLE
      rw [hA] at f3
      clear hq hrr hg hA hR
      go_wp2
      go_region_law (first | (refine step_append_own8 _ rfl (.tmp 39) (.tmp 50) 28 rfl (w1.heap.size + 1) 64 i0 _ 4 40 Tryd.underlying28 HJ.out hz0' hz1' hz2' rfl (by decide) _ R.length (flatG R) rfl (HOW.out.drew.alloc (.cells #[.string g.m, .int .i64 g.c, .int .i64 g.z, .int .i64 g.n] 64)) ⟨wr.heap.size, 0, none⟩ 1 1 [.string g.m, .int .i64 g.c, .int .i64 g.z, .int .i64 g.n] rfl rfl (by intro j u hj; match j, hj with | 0, hj => (simp at hj; subst hj; simp [Addr.add]) | 1, hj => (simp at hj; subst hj; simp [Addr.add]) | 2, hj => (simp at hj; subst hj; simp [Addr.add]) | 3, hj => (simp at hj; subst hj; simp [Addr.add]) | j + 4, hj => simp at hj) (by intro u hu; simp at hu; rcases hu with rfl | rfl | rfl | rfl <;> rfl) (by rw [HLE.out]; unfold maxLen; omega) (by rw [HLE.out]; omega) (by simp; omega) ?_; intro v' w3 hown' hgrow _; have hb3 : Below w1.heap.size w1 w3 := below_grown (w1 := (wr.alloc (.cells #[.string g.m, .int .i64 g.c, .int .i64 g.z, .int .i64 g.n] 64)).drew) (by (repeat (first | exact Below.refl _ _ | assumption | refine Below.alloc ?_ (by first | exact Nat.le_refl _ | exact Below.size (by assumption) | omega | (simp <;> omega)) _ | refine Below.setCell ?_ (by first | exact Nat.le_refl _ | exact Below.size (by assumption) | omega | (simp <;> omega)) _ | refine below_drewN ?_ _ | refine Below.drew ?_))) hgrow (fun j hj => by have := (HOW.out.lt j hj).1; omega) (by simp; omega); have HB3 : Hid (BlF w3 w1.heap.size f v) := ((HBL.out.below ((Below.refl wr.heap.size wr).alloc (Nat.le_refl _) (.cells #[.string g.m, .int .i64 g.c, .int .i64 g.z, .int .i64 g.n] 64)) hzB).below (Below.refl wr.heap.size (wr.alloc (.cells #[.string g.m, .int .i64 g.c, .int .i64 g.z, .int .i64 g.n] 64))).drew hzB).grown hgrow (fun e => by have := (HOW.out.lt _ e.symm).1; omega); have hfr3 := HB3.out.f; obtain ⟨_, _, _, y3⟩ := HB3.out.c; have hz3 : w1.heap.size < w3.heap.size := (Array.getElem?_eq_some_iff.1 HB3.out).1; have own3 := own8G_snoc hown' HSN.out; have HOW3 := Lib.hid own3; clear own3 hown' hgrow; obtain ⟨A7, c7, hvv, _, _, _⟩ := own_rd8G HOW3.out; subst hvv) | (go_simp; done))
      all_goals
        go_wp2
        go_roundw
        case rel => exact ⟨k + 1, _, by go_num, by omega, HB3.out.put _, by rw [HMM.out]; exact own_set9 HOW3.out _ rfl (Nat.lt_succ_self _) _, by (repeat (first | exact Below.refl _ _ | assumption | refine Below.alloc ?_ (by first | exact Nat.le_refl _ | exact Below.size (by assumption) | omega | (simp <;> omega)) _ | refine Below.setCell ?_ (by first | exact Nat.le_refl _ | exact Below.size (by assumption) | omega | (simp <;> omega)) _ | refine below_drewN ?_ _ | refine Below.drew ?_))⟩
        case measure => simp [intOf]; omega
    · obtain rfl : k = f.ls.length := by omega
      have htk : (rotL f.ls T).take f.ls.length = rotL f.ls T := List.take_of_length_le (by rw [rot_len]; exact Nat.le_refl _)
      rw [htk] at HOW
      clear htk
      obtain ⟨A9, c9, hv9, hr9, _, _⟩ := own_rd8G HOW.out
      subst hv9
      have hml : ∀ g ∈ rotL f.ls T, g.m.size ≤ 9223372036854775807 := fun g hg => HA.out.f.ml g ((rot_perm f.ls T).mem_iff.1 hg)
      have hG : Hid (OkA wr Ap Ar lp lr (withL f A9 c9 (rotL f.ls T))) := ⟨HA.out.q.now hBw, HA.out.t, HA.out.p.now hBw, HA.out.r.now hBw, ⟨HA.out.f.cu, HA.out.f.cr, hml, by show (rotL f.ls T).length ≤ maxLen; rw [rot_len]; exact HA.out.f.len, hr9⟩⟩
      clear hr9 hml HOW
      obtain ⟨lw1, lw2⟩ := turns_law lp lr f A9 c9 T (by omega)
      obtain ⟨⟨R1, s1, e1⟩, h1⟩ : ∃ r, invV lp lr f = r := ⟨_, rfl⟩
      obtain ⟨⟨R2, s2, e2⟩, h2⟩ : ∃ r, invV lp lr (withL f A9 c9 (rotL f.ls T)) = r := ⟨_, rfl⟩
      rw [h1, h2] at lw1 lw2
      dsimp only at lw1 lw2
      have LW1 := Lib.hid lw1
      have LW2 := Lib.hid lw2
      have HI1 := Lib.hid h1
      have HI2 := Lib.hid h2
      clear lw1 lw2 h1 h2
      obtain ⟨M, hM⟩ : ∃ M, rotL f.ls T = M := ⟨_, rfl⟩
      rw [hM] at HBL hG HI2 ⊢
      clear hM
      obtain ⟨m0, m1, f0, f1, f2, f3⟩ := HC.out wr hbw
      have hs2 : w.heap.size + 1 < wr.heap.size := by omega
      go_wp2_with fail
      refine (Invoice_any Ap Ar cp cr lp lr f _ (HA.out.now hBw)).mono ?_
      rintro e' w4 ⟨A4, c4, rfl, hr4, _, hb4⟩
      rw [HI1.out] at hr4 ⊢
      have HR4 := Lib.hid hr4; clear hr4
      have hb04 := hbw.trans (hb4.mono hbw.size)
      have hB4 := hB0.trans (hb04.mono hB0.size)
      clear m0 m1 f0 f1 f2 f3
      obtain ⟨m0, m1, f0, f1, f2, f3⟩ := HC.out w4 hb04
      obtain ⟨x0, x1, x2, x3⟩ := (HBL.out.below hb4 hzB).c
      have hs4 : w1.heap.size < w4.heap.size := by have := hb4.size; omega
      go_wp2_with fail
      refine (Invoice_any Ap Ar cp cr lp lr (withL f A9 c9 M) _ (hG.out.now hb4)).mono ?_
      rintro e' w5 ⟨A5, c5, rfl, hr5, _, hb5⟩
      rw [HI2.out] at hr5 ⊢
      have HR5 := Lib.hid hr5; clear hr5
      have hb05 := hb04.trans (hb5.mono hb04.size)
      have hB5 := hB0.trans (hb05.mono hB0.size)
      clear m0 m1 f0 f1 f2 f3 x0 x1 x2 x3
      dsimp only
      by_cases he : e1 = 0
      case neg =>
        obtain ⟨hR1, hR2⟩ := LW1.out.2 he
        have he2 : ¬ e2 = 0 := fun h => he (LW1.out.1.2 h)
        subst hR1 hR2
        have q1 : (e1 != 0) = true := by simpa using he
        have q2 : (e1 == 0) = false := by simpa using he
        have q3 : (e2 == 0) = false := by simpa using he2
        clear he he2
        go_wp2_with fail
        refine (HSA.out _ hB5).mono ?_
        rintro e' w6 ⟨rfl, hb6⟩
        go_wp2
        go_ret
        exact Ret.mk rfl hb6
      have he2 : e2 = 0 := LW1.out.1.1 he
      obtain ⟨hl1, hR2, hs12, hws⟩ := LW2.out he
      subst he he2 hs12
      have HL1 := Lib.hid hl1
      have HL2 : Hid (R2.length = f.ls.length) := by show _ = _; rw [hR2, rot_len, hl1]
      have HR2 := Lib.hid hR2
      have HWS := Lib.hid hws
      clear hl1 hR2 hws
      rw [HL1.out, HL2.out]
      have ss : (s2 != s2) = false := by simp
      have nn : ((f.ls.length : Int) != (f.ls.length : Int)) = false := by simp
      go_wp2
      clear ss nn
      obtain ⟨wo, hwo⟩ : ∃ wo : World, wo = w5 := ⟨_, rfl⟩
      go_loopw [16, 17] (fun s i wl => ∃ k : Nat, k ≤ f.ls.length ∧ i = .int .i64 k ∧ s = .int .i64 (wsum (R1.take k)) ∧ Below w5.heap.size w5 wl) (fun _ i _ => f.ls.length - (intOf i).toNat)
      case atStart => exact ⟨0, Nat.zero_le _, rfl, by unfold wsum; rfl, Below.refl _ _⟩
      case round =>
        obtain ⟨k, hk, rfl, rfl, hB9⟩ := hrel
        have hBw9 := hB5.trans (hB9.mono hB5.size)
        have hb49 := hb5.trans (hB9.mono hb5.size)
        by_cases hlt : k < f.ls.length
        · have hr := Nat.mod_lt (k + T) (show 0 < f.ls.length by omega)
          obtain ⟨x, hx⟩ := getElem?_of_lt (show (k + T) % f.ls.length < R1.length by rw [HL1.out]; exact hr)
          have hx2 : R2[k]? = some x := by rw [HR2.out, rot_get _ _ (by rw [HL1.out]; exact hlt), HL1.out]; exact hx
          obtain ⟨y, hy⟩ := getElem?_of_lt (show k < R1.length by rw [HL1.out]; exact hlt)
          have HSN : Hid (wsum (R1.take (k + 1)) = wrap64 (wsum (R1.take k) + y)) := by show _ = _; rw [take_succ_of hy, wsum_snoc]
          obtain ⟨q, hq⟩ : ∃ q, k + T = q := ⟨_, rfl⟩
          obtain ⟨r, hrr⟩ : ∃ r, q % f.ls.length = r := ⟨_, rfl⟩
          rw [hq, hrr] at hr hx
          have e0 : IntKind.i64.wrap (T : Int) = (T : Int) := IntWalk.i64_in _ (by omega)
          have e1 : IntKind.i64.wrap ((k : Int) + (T : Int)) = (q : Int) := by rw [IntWalk.i64_in _ (by omega)]; omega
          have e2 : (q : Int).tmod (f.ls.length : Int) = (r : Int) := by rw [← hrr]; rfl
          have e3 : IntKind.i64.wrap (r : Int) = (r : Int) := IntWalk.i64_in _ (by omega)
          obtain ⟨b4, off4, hA4, hbb4, v4⟩ := (HR4.out.now hb49) k y hy
          obtain ⟨b6, off6, hA6, hbb6, v6⟩ := (HR4.out.now hb49) r x hx
          obtain ⟨rfl, rfl⟩ : b4 = b6 ∧ off4 = off6 := by rw [hA4] at hA6; simpa using hA6
          obtain ⟨b5, off5, hA5, hbb5, v5⟩ := (HR5.out.now hB9) k x hx2
          subst hA4 hA5
          have HCC : Hid (∀ w', Below wr.heap.size wr w' → w'.cell? ⟨b4, off4 + k, none⟩ = some (.int .i64 y) ∧ w'.cell? ⟨b4, off4 + r, none⟩ = some (.int .i64 x) ∧ w'.cell? ⟨b5, off5 + k, none⟩ = some (.int .i64 x)) := fun w' hC =>
            ⟨(hC.cell (p := ⟨b4, off4 + k, none⟩) hbb4).trans v4, (hC.cell (p := ⟨b4, off4 + r, none⟩) hbb4).trans v6, (hC.cell (p := ⟨b5, off5 + k, none⟩) hbb5).trans v5⟩
          have sx : (x != x) = false := by simp
          clear hq hrr hx hx2 hy v4 v5 v6 hA6
          go_wp2
          refine region_qw (fun w' => Below wr.heap.size wr w') hmx (by kernel_rfl) (by (repeat (first | exact Below.refl _ _ | assumption | refine Below.alloc ?_ (by first | exact Nat.le_refl _ | exact Below.size (by assumption) | omega | (simp <;> omega)) _ | refine Below.setCell ?_ (by first | exact Nat.le_refl _ | exact Below.size (by assumption) | omega | (simp <;> omega)) _ | refine below_drewN ?_ _ | refine Below.drew ?_))) ?_
          repeat (first | (refine qw_read rfl (fun w' hC => by obtain ⟨v4, v6, v5⟩ := HCC.out w' hC; clear hC; go_simp; rfl) ?_; simp only [Act.put, List.setIfInBounds_toArray, List.set_cons_succ, List.set_cons_zero]) | (refine qw_pass (by first | (simp [Region.wanted, yielded]; done) | (simp [Region.wanted, yielded]; intro h; cases h)) ?_; simp only [Act.put, List.setIfInBounds_toArray, List.set_cons_succ, List.set_cons_zero]))
          refine qw_nil ?_
          intro w9 hb9
          obtain ⟨v4, _, _⟩ := HCC.out w9 hb9
          go_wp2
          go_roundw
          case rel => exact ⟨k + 1, by omega, by go_num, by rw [HSN.out], hB9.trans (hb9.mono hB9.size)⟩
          case measure => simp [intOf]; omega
        · obtain rfl : k = f.ls.length := by omega
          have htk : wsum (R1.take f.ls.length) = s2 := by rw [List.take_of_length_le (by rw [HL1.out]; exact Nat.le_refl _)]; exact HWS.out
          rw [htk]
          clear htk
          have ss : (s2 == s2) = true := by simp
          go_wp2_with fail
          refine (HSA.out _ hBw9).mono ?_
          rintro e' w6 ⟨rfl, hb6⟩
          go_wp2
          go_ret
          exact Ret.mk rfl hb6
end Go.Proofs.YthccpdefgjneiaaDoor

/- The law NestLaid: the walk. -/
import Derived.Test.YtcbiehnaomcfbaaMathNF
import Derived.Test.YtcbiehnaomcfbaaNW17
import Derived.Deep.Upon
import Derived.Lib.AppendZeros
namespace Go.Proofs.Ytcbiehnaomcfbaa
open Go.RowKit Go.Shelf

theorem laid_nums {b : BD} {ps : List PT} {part : Int} (h : (rowsS b ps part).2 = 0) : (boundS b ps part).2 = 0 ∧ ((rowsS b ps part).1.length : Int) ≤ (boundS b ps part).1 ∧ (checkS b ps (rowsS b ps part).1).2 = 0 := by
  cases hok : okPart b ps part
  · rw [rowsS_no hok] at h
    unfold badErr at h
    cases hv : boardB b && partsB ps <;> rw [hv] at h <;> simp at h
  · have hb2 : boundS b ps part = ((2 * b.W * b.H).tdiv (areaW (((ps[part.toNat]?).map (·.o)).getD [])), 0) := by unfold boundS; rw [hok]; rfl
    obtain ⟨k, pt, rfl, hk, h1, h2, h3⟩ := okPart_get hok
    have e : (((ps[(k : Int).toNat]?).map (·.o)).getD []) = pt.o := by rw [show (k : Int).toNat = k from rfl, hk]; rfl
    rw [e] at hb2
    rw [rowsS_yes hk h1 h2] at h ⊢
    rw [hb2]
    exact ⟨rfl, rows_bound h1 h3 h, rows_right h1 h2 hk⟩
theorem free_err {b : BD} {ps : List PT} {L : List PL} {p : PL} (h : (freeS b ps L p).2 ≠ 0) : (freeS b ps L p).1 = false := by
  unfold freeS at h ⊢
  by_cases hc : (checkS b ps L).2 = 0
  · rw [if_pos hc] at h; exact absurd rfl h
  · rw [if_neg hc]
theorem free_ok {b : BD} {ps : List PT} {L : List PL} {p : PL} (h : (freeS b ps L p).2 = 0) : L.length ≤ 200 ∧ ((checkS b ps (L ++ [p])).2 = 0 ↔ (freeS b ps L p).1 = true) := by
  unfold freeS at h ⊢
  by_cases hc : (checkS b ps L).2 = 0
  · rw [if_pos hc]
    exact ⟨(checkS_ok hc).hl, check_append hc⟩
  · rw [if_neg hc] at h; exact absurd h hc
theorem step_append_nil {P : Program} (w : World) {ops : Array Oper} {o : Oper} {a : Act} {K : Act → World → Prop} {Q : Exit → Act → World → Prop} {E : Prop} (hgd : o.guard = none) (s x : Operand) (t : TypeId)
    (ho : o.op = .call { callee := .builtin .append, args := #[s, x], argTypes := #[t, t] }) (e : TypeId) (i : TypeInfo) (ht : P.underlying t = some (.slice e)) (hi : P.info? e = some i)
    (base : Option Addr) (sLen sCap : Nat) (hle : sLen ≤ sCap) (hs : a.eval s = .slice base sLen sCap) (c : Nat) (hx : a.eval x = .slice none 0 c) (h : K (a.put o.dst (.slice base sLen sCap)) w) :
    if Region.wanted o (yielded ops a.tmps) = true then Oper.wp P o a w K Q else E := by
  have hw : Region.wanted o (yielded ops a.tmps) = true := by simp [Region.wanted, hgd]
  rw [if_pos hw]
  exact Lib.wp_append_run w s x t t ho _ _ hs hx _ _ (run_append_nothing w t t o.type e i ht hi base sLen sCap hle _ (Src.ofNil w ht c)) h
theorem own_built (w : World) (B : Nat) (h : B ≤ w.heap.size) : (w.alloc (.cells #[] 48)).ownsRow B 48 4 (.slice (some ⟨w.heap.size, 0, none⟩) 0 0) 0 [] :=
  ⟨rfl, .inr ⟨w.heap.size, 0, #[], rfl, h, heap_alloc_new w _, Nat.le_refl _, Nat.zero_le _, rfl, rfl⟩⟩
theorem own_built2 (w : World) (o : Obj) : ((w.alloc o).alloc (.cells #[] 48)).ownsRow w.heap.size 48 4 (.slice (some ⟨w.heap.size + 1, 0, none⟩) 0 0) 0 [] := by
  have := own_built (w.alloc o) w.heap.size (by simp)
  rwa [World.size_alloc] at this
theorem PlAt.drew {w : World} {B : Nat} {p : PL} (h : PlAt w B p) : PlAt w.drew B p := ⟨h.c0, h.c1, h.c2, h.c3⟩
theorem pl_kept {w w' : World} {row : Option Nat} {B : Nat} {p : PL} (hg : w.grownBy w' row) (h : PlAt w B p) (hne : row ≠ some B) : PlAt w' B p :=
  ⟨hg.cell h.c0 (fun e => hne e.symm), hg.cell h.c1 (fun e => hne e.symm), hg.cell h.c2 (fun e => hne e.symm), hg.cell h.c3 (fun e => hne e.symm)⟩
abbrev plObj (p : PL) : Obj := .cells #[.int .i64 p.part, .int .i64 p.X, .int .i64 p.Y, .bool p.t] 48
theorem pl_new1d (w : World) (p : PL) : PlAt ((w.alloc (.cells #[] 48)).drew.alloc (plObj p)) (w.heap.size + 1) p := by
  have := PlAt.new (w.alloc (.cells #[] 48)).drew p
  rwa [show (w.alloc (.cells #[] 48)).drew.heap.size = w.heap.size + 1 from World.size_alloc _ _] at this
theorem pl_new1 (w : World) (p : PL) : PlAt ((w.alloc (.cells #[] 48)).alloc (plObj p)).drew (w.heap.size + 1) p := by
  have := PlAt.new (w.alloc (.cells #[] 48)) p
  rw [World.size_alloc] at this
  exact this.drew
theorem pl_new2 (w : World) (p : PL) : PlAt ((w.alloc (plObj p)).alloc (.cells #[] 48)).drew w.heap.size p :=
  ((PlAt.new w p).below (C := w.heap.size + 1) (by (repeat (first | exact Below.refl _ _ | assumption | refine Below.alloc ?_ (by first | exact Nat.le_refl _ | exact Below.size (by assumption) | omega | (simp <;> omega)) _ | refine Below.setCell ?_ (by first | exact Nat.le_refl _ | exact Below.size (by assumption) | omega | (simp <;> omega)) _ | refine below_drewN ?_ _ | refine Below.drew ?_))) (by omega)).drew
theorem pl_new2d (w : World) (p : PL) : PlAt ((w.alloc (plObj p)).drew.alloc (.cells #[] 48)) w.heap.size p :=
  ((PlAt.new w p).drew).below (C := w.heap.size + 1) (by (repeat (first | exact Below.refl _ _ | assumption | refine Below.alloc ?_ (by first | exact Nat.le_refl _ | exact Below.size (by assumption) | omega | (simp <;> omega)) _ | refine Below.setCell ?_ (by first | exact Nat.le_refl _ | exact Below.size (by assumption) | omega | (simp <;> omega)) _ | refine below_drewN ?_ _ | refine Below.drew ?_))) (by omega)
theorem ne1 (w : World) : (some w.heap.size : Option Nat) ≠ some (w.heap.size + 1) := by simp
theorem ne2 (w : World) : (some (w.heap.size + 1) : Option Nat) ≠ some w.heap.size := by simp
theorem pl_cells {w : World} {B : Nat} {p : PL} (h : PlAt w B p) : ∀ j u, [Value.int .i64 p.part, .int .i64 p.X, .int .i64 p.Y, .bool p.t][j]? = some u → w.cell? ((⟨B, 0, none⟩ : Addr).add j) = some u := by
  intro j u hj
  rw [add_none, Nat.zero_add]
  match j, hj with
  | 0, hj => obtain rfl := Option.some.inj hj; exact h.c0
  | 1, hj => obtain rfl := Option.some.inj hj; exact h.c1
  | 2, hj => obtain rfl := Option.some.inj hj; exact h.c2
  | 3, hj => obtain rfl := Option.some.inj hj; exact h.c3
  | j + 4, hj => simp at hj
theorem rdl_cells {w : World} {B b off : Nat} {l : List PL} (h : RdL w B (some ⟨b, off, none⟩) l) : ∀ j u, (flatP l)[j]? = some u → w.cell? ((⟨b, off, none⟩ : Addr).add j) = some u := by
  intro j u hj
  have hjl : j < (flatP l).length := (List.getElem?_eq_some_iff.1 hj).1
  rw [flatP_length] at hjl
  obtain ⟨p, hp⟩ := getElem?_of_lt (show j / 4 < l.length by omega)
  obtain ⟨b', off', hA, hb, c0, c1, c2, c3⟩ := h (j / 4) p hp
  obtain ⟨rfl, rfl⟩ : b = b' ∧ off = off' := by simpa using hA
  obtain ⟨f0, f1, f2, f3⟩ := flatP_get hp
  rw [add_none]
  have hm := Nat.mod_lt j (show 0 < 4 by omega)
  have hd := Nat.div_add_mod j 4
  generalize j / 4 = q at *
  generalize hr : j % 4 = r at *
  obtain rfl : j = q * 4 + r := by omega
  match r, hm with
  | 0, _ => rw [Nat.add_zero] at hj ⊢; rw [f0] at hj; obtain rfl := Option.some.inj hj; exact c0
  | 1, _ => rw [f1] at hj; obtain rfl := Option.some.inj hj; rw [← Nat.add_assoc]; exact c1
  | 2, _ => rw [f2] at hj; obtain rfl := Option.some.inj hj; rw [← Nat.add_assoc]; exact c2
  | 3, _ => rw [f3] at hj; obtain rfl := Option.some.inj hj; rw [← Nat.add_assoc]; exact c3


set_option maxRecDepth 100000 in
set_option maxHeartbeats 8000000 in
theorem lawLaid_any (b : BD) (A A2 A3 : Option Addr) (c c2 c3 : Nat) (ps : List PT) (L : List PL) (part : Int) (p : PL) (w : World) (hF : RdR w w.heap.size A b.F) (hp : RdPP w w.heap.size A2 ps) (hl : RdL w w.heap.size A3 L) :
    Calls Try.prog 10 #[deskw b A c A2 ps.length c2 A3 L.length c3, .int .i64 part, valL p] w (Ret (.bool true) w) := by
  have HF := Lib.hid hF; clear hF
  have HP := Lib.hid hp; clear hp
  have HL := Lib.hid hl; clear hl
  obtain ⟨w0, hw0⟩ : ∃ w0, (w.alloc (.cells #[.int .i64 b.W, .int .i64 b.H, .int .i64 b.G, .slice A b.F.length c, .slice A2 ps.length c2, .slice A3 L.length c3] 39)).alloc (.cells #[.int .i64 p.part, .int .i64 p.X, .int .i64 p.Y, .bool p.t] 48) = w0 := ⟨_, rfl⟩
  have hB0 : Below w.heap.size w w0 := by rw [← hw0]; (repeat (first | exact Below.refl _ _ | assumption | refine Below.alloc ?_ (by first | exact Nat.le_refl _ | exact Below.size (by assumption) | omega | (simp <;> omega)) _ | refine Below.setCell ?_ (by first | exact Nat.le_refl _ | exact Below.size (by assumption) | omega | (simp <;> omega)) _ | refine below_drewN ?_ _ | refine Below.drew ?_))
  have hz0 : w0.heap.size = w.heap.size + 2 := by rw [← hw0]; simp
  have HDK := Lib.hid (show DkAt w0 w.heap.size b A c A2 ps.length c2 A3 L.length c3 by rw [← hw0]; exact (DkAt.new w b A A2 A3 c _ c2 _ c3).below (C := w.heap.size + 1) (by (repeat (first | exact Below.refl _ _ | assumption | refine Below.alloc ?_ (by first | exact Nat.le_refl _ | exact Below.size (by assumption) | omega | (simp <;> omega)) _ | refine Below.setCell ?_ (by first | exact Nat.le_refl _ | exact Below.size (by assumption) | omega | (simp <;> omega)) _ | refine below_drewN ?_ _ | refine Below.drew ?_))) (by omega))
  have HPL := Lib.hid (show PlAt w0 (w.heap.size + 1) p by
    rw [← hw0]
    have := PlAt.new (w.alloc (.cells #[.int .i64 b.W, .int .i64 b.H, .int .i64 b.G, .slice A b.F.length c, .slice A2 ps.length c2, .slice A3 L.length c3] 39)) p
    rwa [World.size_alloc] at this)
  obtain ⟨k0, k1, k2, k3, k4, k5⟩ := HDK.out
  have hln := fun h => laid_nums (b := b) (ps := ps) (part := part) h
  have hlen := rowsS_len b ps part
  obtain ⟨⟨R, e⟩, hR⟩ : ∃ r, rowsS b ps part = r := ⟨_, rfl⟩
  obtain ⟨⟨n, f⟩, hN⟩ : ∃ r, boundS b ps part = r := ⟨_, rfl⟩
  rw [hR, hN] at hln
  rw [hR] at hlen
  dsimp only at hln hlen
  have HRW := Lib.hid hR; clear hR
  have HN := Lib.hid hN; clear hN
  have HLN := Lib.hid hln; clear hln
  have hfe := fun h => free_err (b := b) (ps := ps) (L := L) (p := p) h
  have hfo := fun h => free_ok (b := b) (ps := ps) (L := L) (p := p) h
  obtain ⟨⟨x, g⟩, hx⟩ : ∃ r, freeS b ps L p = r := ⟨_, rfl⟩
  rw [hx] at hfe hfo
  dsimp only at hfe hfo
  have HX := Lib.hid hx; clear hx
  have HFE := Lib.hid hfe; clear hfe
  have HFO := Lib.hid hfo; clear hfo
  have hmx : Try.prog.follows .mixedOrders = true := by kernel_rfl
  obtain ⟨i0, hi0, hz0', hz1', hz2'⟩ := info_partsP Try.infoPlace
  have HJ := Lib.hid hi0; clear hi0
  go_enter Try.func10, Try.ntmps10
  go_wp2_with fail
  clear hw0
  refine (few_any b A A2 A3 c c2 c3 ps L _ (HP.out.now hB0) (HL.out.now hB0)).mono ?_
  rintro e' w1 ⟨rfl, hb1⟩
  have hB1 := hB0.trans (hb1.mono hB0.size)
  have hs1 := hb1.size
  clear k0 k1 k2 k3 k4 k5
  cases hf : fewB ps L
  · have HFW := Lib.hid hf; clear hf
    go_wp2_with fail
    refine (nawake_any _).mono ?_
    rintro e' w2 ⟨rfl, hb2⟩
    go_wp2
    go_ret
    exact Ret.mk rfl (hB1.trans (hb2.mono hB1.size))
  have HFW := Lib.hid hf; clear hf
  obtain ⟨k0, k1, k2, k3, k4, k5⟩ := HDK.out.below hb1 (by omega)
  have hz1 : w.heap.size < w1.heap.size := by omega
  go_wp2_with fail
  refine (Rows_any b A A2 c c2 ps part _ (HF.out.now hB1) (HP.out.now hB1)).mono ?_
  rintro e' w2 ⟨v2, rfl, hown2, hb2⟩
  obtain ⟨Ar, cr, rfl, hr2⟩ := own_rdP hown2
  rw [HRW.out] at hr2 ⊢
  dsimp only at hr2 ⊢
  have HR2 := Lib.hid hr2; clear hr2 hown2
  have hb02 := hb1.trans (hb2.mono hb1.size)
  have hB2 := hB1.trans (hb2.mono hB1.size)
  have hs2 := hb02.size
  clear k0 k1 k2 k3 k4 k5
  obtain ⟨k0, k1, k2, k3, k4, k5⟩ := HDK.out.below hb02 (by omega)
  have hz2 : w.heap.size < w2.heap.size := by omega
  go_wp2_with fail
  refine (Bound_any b A A2 c c2 ps part _ (HF.out.now hB2) (HP.out.now hB2)).mono ?_
  rintro e' w3 ⟨rfl, hb3⟩
  rw [HN.out]
  have hb03 := hb02.trans (hb3.mono hb02.size)
  have hB3 := hB2.trans (hb3.mono hB2.size)
  have hs3 := hb03.size
  clear k0 k1 k2 k3 k4 k5
  obtain ⟨k0, k1, k2, k3, k4, k5⟩ := HDK.out.below hb03 (by omega)
  obtain ⟨q0, q1, q2, q3⟩ := HPL.out.below hb03 (by omega)
  have hz3 : w.heap.size < w3.heap.size := by omega
  have hy3 : w.heap.size + 1 < w3.heap.size := by omega
  have HRI := Lib.hid hlen; clear hlen
  by_cases he : e = 0
  · subst he
    obtain ⟨hf0, hn0, hck⟩ := HLN.out rfl
    subst hf0
    have hnI : ¬ n < (R.length : Int) := by omega
    have HCK := Lib.hid hck; clear hck hn0
    by_cases h12 : R.length ≤ 12
    · have h12I : (R.length : Int) ≤ 12 := by omega
      go_wp2_with fail
      refine (Check_any b A A2 Ar c c2 cr ps R _ (HF.out.now hB3) (HP.out.now hB3) (HR2.out.now hb3)).mono ?_
      rintro e' w3' ⟨rfl, hb3'⟩
      obtain ⟨⟨nn, ff⟩, hnn⟩ : ∃ r, checkS b ps R = r := ⟨_, rfl⟩
      have hck2 := HCK.out
      rw [hnn] at hck2 ⊢
      dsimp only at hck2
      subst hck2
      clear hnn
      have hb03' := hb03.trans (hb3'.mono hb03.size)
      have hB3' := hB3.trans (hb3'.mono hB3.size)
      clear k0 k1 k2 k3 k4 k5 q0 q1 q2 q3 hb03 hB3 hs3 hz3 hy3
      have hb03 := hb03'
      have hB3 := hB3'
      have hs3 := hb03.size
      obtain ⟨k0, k1, k2, k3, k4, k5⟩ := HDK.out.below hb03 (by omega)
      obtain ⟨q0, q1, q2, q3⟩ := HPL.out.below hb03 (by omega)
      have hz3 : w.heap.size < w3'.heap.size := by omega
      have hy3 : w.heap.size + 1 < w3'.heap.size := by omega
      go_wp2_with fail
      refine (Free_any b A A2 A3 c c2 c3 ps L p _ (HF.out.now hB3) (HP.out.now hB3) (HL.out.now hB3)).mono ?_
      rintro e' w4 ⟨rfl, hb4⟩
      rw [HX.out]
      have hB4 := hB3.trans (hb4.mono hB3.size)
      have hb04 := hb03.trans (hb4.mono hb03.size)
      have hs4 := hb04.size
      clear k0 k1 k2 k3 k4 k5 q0 q1 q2 q3
      by_cases hg : g = 0
      case neg =>
        obtain rfl : x = false := HFE.out hg
        go_wp2_with fail
        refine (nawake_any _).mono ?_
        rintro e' w5 ⟨rfl, hb5⟩
        go_wp2
        go_ret
        exact Ret.mk rfl (hB4.trans (hb5.mono hB4.size))
      subst hg
      obtain ⟨hL200, hiff⟩ := HFO.out rfl
      have HIFF := Lib.hid hiff; clear hiff
      have hz4 : w.heap.size < w4.heap.size := by omega
      have hy4 : w.heap.size + 1 < w4.heap.size := by omega
      have HKP : Hid (∀ w', Below w4.heap.size w4 w' → w'.cell? ⟨w.heap.size, 0, none⟩ = some (.int .i64 b.W) ∧ w'.cell? ⟨w.heap.size, 1, none⟩ = some (.int .i64 b.H) ∧ w'.cell? ⟨w.heap.size, 2, none⟩ = some (.int .i64 b.G) ∧ w'.cell? ⟨w.heap.size, 3, none⟩ = some (.slice A b.F.length c) ∧ w'.cell? ⟨w.heap.size, 4, none⟩ = some (.slice A2 ps.length c2) ∧ w'.cell? ⟨w.heap.size, 5, none⟩ = some (.slice A3 L.length c3) ∧ w'.cell? ⟨w.heap.size + 1, 0, none⟩ = some (.int .i64 p.part) ∧ w'.cell? ⟨w.heap.size + 1, 1, none⟩ = some (.int .i64 p.X) ∧ w'.cell? ⟨w.heap.size + 1, 2, none⟩ = some (.int .i64 p.Y) ∧ w'.cell? ⟨w.heap.size + 1, 3, none⟩ = some (.bool p.t)) := fun w' hC => by
        obtain ⟨a0, a1, a2, a3, a4, a5⟩ := HDK.out.below (hb04.trans (hC.mono hs4)) (by omega)
        obtain ⟨d0, d1, d2, d3⟩ := HPL.out.below (hb04.trans (hC.mono hs4)) (by omega)
        exact ⟨a0, a1, a2, a3, a4, a5, d0, d1, d2, d3⟩
      have hdr : Below w4.heap.size w4 w4.drew := (Below.refl _ _).drew
      have hb44 : Below w4.heap.size w4 w4 := Below.refl _ _
      obtain ⟨M, hM⟩ : ∃ M, L ++ [p] = M := ⟨_, rfl⟩
      have HM := Lib.hid hM; clear hM
      go_wp2
      go_cut [10] (fun v wx' => ∃ h : Int, v = .int .i64 h ∧ (h = 0 ↔ x = true) ∧ Below w4.heap.size w4 wx')
      case first =>
        cases A3 with
        | none =>
          obtain rfl : L = [] := by
            cases L with
            | nil => rfl
            | cons y L =>
              obtain ⟨b', off', hA, _⟩ := HL.out 0 y rfl
              cases hA
          go_region_held3 (fun w' => w'.cell? ⟨w.heap.size, 0, none⟩ = some (.int .i64 b.W) ∧ w'.cell? ⟨w.heap.size, 1, none⟩ = some (.int .i64 b.H) ∧ w'.cell? ⟨w.heap.size, 2, none⟩ = some (.int .i64 b.G) ∧ w'.cell? ⟨w.heap.size, 3, none⟩ = some (.slice A b.F.length c) ∧ w'.cell? ⟨w.heap.size, 4, none⟩ = some (.slice A2 ps.length c2) ∧ w'.cell? ⟨w.heap.size, 5, none⟩ = some (.slice none 0 c3) ∧ w'.cell? ⟨w.heap.size + 1, 0, none⟩ = some (.int .i64 p.part) ∧ w'.cell? ⟨w.heap.size + 1, 1, none⟩ = some (.int .i64 p.X) ∧ w'.cell? ⟨w.heap.size + 1, 2, none⟩ = some (.int .i64 p.Y) ∧ w'.cell? ⟨w.heap.size + 1, 3, none⟩ = some (.bool p.t)) (first | exact HKP.out _ hb9' | exact HKP.out _ hb6' | exact HKP.out _ (by (repeat (first | exact Below.refl _ _ | assumption | refine Below.alloc ?_ (by first | exact Nat.le_refl _ | exact Below.size (by assumption) | omega | (simp <;> omega)) _ | refine Below.setCell ?_ (by first | exact Nat.le_refl _ | exact Below.size (by assumption) | omega | (simp <;> omega)) _ | refine below_drewN ?_ _ | refine Below.drew ?_)))) (first | (go_at_call 34; refine (Check_any b A A2 A6 c c2 c6 ps M _ (HF.out.now (hB4.trans (hb6'.mono hB4.size))) (HP.out.now (hB4.trans (hb6'.mono hB4.size))) HR6.out).mono ?_; rintro e9 w9 ⟨rfl, hb9⟩; have hb9' := hb6'.trans (hb9.mono hb6'.size)) | (have hguard := hseen; clear hguard; refine step_append_own _ rfl _ _ 37 rfl w4.heap.size 48 i0 (.agg #[.int .i64 0, .int .i64 0, .int .i64 0, .bool false]) 4 32 Try.underlying37 HJ.out hz0' hz1' hz2' rfl (by decide) _ 0 [] rfl (by first | exact own_built w4 _ (Nat.le_refl _) | exact (own_built w4 _ (Nat.le_refl _)).alloc _ | exact own_built2 w4 _) _ 1 1 [.int .i64 p.part, .int .i64 p.X, .int .i64 p.Y, .bool p.t] rfl rfl (by first | exact pl_cells (pl_new1 w4 p) | exact pl_cells (pl_new1d w4 p) | exact pl_cells (pl_new2 w4 p) | exact pl_cells (pl_new2d w4 p)) (by intro u hu; simp at hu; rcases hu with rfl | rfl | rfl | rfl <;> rfl) (by unfold Go.maxLen; omega) (by omega) (by first | (simp; done) | (simp; omega)) ?_; intro v6 w6 hown6 hgrow6 _; have hb6' : Below w4.heap.size w4 w6 := below_grown (by (repeat (first | exact Below.refl _ _ | assumption | refine Below.alloc ?_ (by first | exact Nat.le_refl _ | exact Below.size (by assumption) | omega | (simp <;> omega)) _ | refine Below.setCell ?_ (by first | exact Nat.le_refl _ | exact Below.size (by assumption) | omega | (simp <;> omega)) _ | refine below_drewN ?_ _ | refine Below.drew ?_))) hgrow6 (fun k hk => by first | exact ((own_built w4 w4.heap.size (Nat.le_refl _)).lt k hk).1 | exact ((own_built2 w4 (.cells #[] 48)).lt k hk).1) (by first | (simp; done) | (simp; omega)); have own6 : OwnP w6 w4.heap.size v6 M := ownP_snoc (R := []) hown6 HM.out.symm; obtain ⟨A6, c6, hvv, hr6⟩ := own_rdP own6; subst hvv; have HR6 := Lib.hid hr6; clear hr6 own6 hown6 hgrow6) | (refine step_append_nil _ rfl _ _ 37 rfl 48 i0 Try.underlying37 HJ.out _ 0 0 (Nat.le_refl _) rfl _ rfl ?_; have hseen : True := trivial))
          all_goals
            go_wp2_with fail
            go_meet
            exact ⟨_, rfl, by rw [← HM.out]; exact HIFF.out, hb9'⟩
        | some a3 =>
          obtain ⟨bL, offL, hcells⟩ : ∃ bL offL, (∀ W, Below w.heap.size w W → ∀ j u, (flatP L)[j]? = some u → W.cell? (a3.add j) = some u) ∧ True ∧ (0 : Nat) = bL ∧ (0 : Nat) = offL := by
            refine ⟨0, 0, fun W hW j u hj => ?_, trivial, rfl, rfl⟩
            have hjl : j < (flatP L).length := (List.getElem?_eq_some_iff.1 hj).1
            rw [flatP_length] at hjl
            obtain ⟨y, hy⟩ := getElem?_of_lt (show 0 < L.length by omega)
            obtain ⟨b', off', hA, _⟩ := HL.out 0 y hy
            obtain rfl : a3 = ⟨b', off', none⟩ := by simpa using hA
            exact rdl_cells (HL.out.below hW) j u hj
          have HCE := Lib.hid hcells.1; clear hcells
          go_region_held3 (fun w' => w'.cell? ⟨w.heap.size, 0, none⟩ = some (.int .i64 b.W) ∧ w'.cell? ⟨w.heap.size, 1, none⟩ = some (.int .i64 b.H) ∧ w'.cell? ⟨w.heap.size, 2, none⟩ = some (.int .i64 b.G) ∧ w'.cell? ⟨w.heap.size, 3, none⟩ = some (.slice A b.F.length c) ∧ w'.cell? ⟨w.heap.size, 4, none⟩ = some (.slice A2 ps.length c2) ∧ w'.cell? ⟨w.heap.size, 5, none⟩ = some (.slice (some a3) L.length c3) ∧ w'.cell? ⟨w.heap.size + 1, 0, none⟩ = some (.int .i64 p.part) ∧ w'.cell? ⟨w.heap.size + 1, 1, none⟩ = some (.int .i64 p.X) ∧ w'.cell? ⟨w.heap.size + 1, 2, none⟩ = some (.int .i64 p.Y) ∧ w'.cell? ⟨w.heap.size + 1, 3, none⟩ = some (.bool p.t)) (first | exact HKP.out _ hb9' | exact HKP.out _ hb6' | exact HKP.out _ hb5' | exact HKP.out _ (by (repeat (first | exact Below.refl _ _ | assumption | refine Below.alloc ?_ (by first | exact Nat.le_refl _ | exact Below.size (by assumption) | omega | (simp <;> omega)) _ | refine Below.setCell ?_ (by first | exact Nat.le_refl _ | exact Below.size (by assumption) | omega | (simp <;> omega)) _ | refine below_drewN ?_ _ | refine Below.drew ?_)))) (first | (go_at_call 34; refine (Check_any b A A2 A6 c c2 c6 ps M _ (HF.out.now (hB4.trans (hb6'.mono hB4.size))) (HP.out.now (hB4.trans (hb6'.mono hB4.size))) HR6.out).mono ?_; rintro e9 w9 ⟨rfl, hb9⟩; have hb9' := hb6'.trans (hb9.mono hb6'.size)) | (have hguard := HO5.out; clear hguard; refine step_append_own _ rfl _ _ 37 rfl w4.heap.size 48 i0 (.agg #[.int .i64 0, .int .i64 0, .int .i64 0, .bool false]) 4 32 Try.underlying37 HJ.out hz0' hz1' hz2' rfl (by decide) _ _ _ rfl (by first | exact HO5.out | exact HO5.out.alloc _) _ 1 1 [.int .i64 p.part, .int .i64 p.X, .int .i64 p.Y, .bool p.t] rfl rfl (by first | exact pl_cells hpl5 | exact pl_cells (PlAt.new w5 p)) (by intro u hu; simp at hu; rcases hu with rfl | rfl | rfl | rfl <;> rfl) (by unfold Go.maxLen; omega) (by omega) (by have := hb5'.size; first | omega | (simp; omega)) ?_; intro v6 w6 hown6 hgrow6 _; have hb6' : Below w4.heap.size w4 w6 := below_grown (by (repeat (first | exact Below.refl _ _ | assumption | refine Below.alloc ?_ (by first | exact Nat.le_refl _ | exact Below.size (by assumption) | omega | (simp <;> omega)) _ | refine Below.setCell ?_ (by first | exact Nat.le_refl _ | exact Below.size (by assumption) | omega | (simp <;> omega)) _ | refine below_drewN ?_ _ | refine Below.drew ?_))) hgrow6 (fun k hk => (HO5.out.lt k hk).1) (by have := hb5'.size; first | omega | (simp; omega)); have own6 : OwnP w6 w4.heap.size v6 M := (by have e := hown6; simp only [List.nil_append, Nat.zero_add] at e; exact ownP_snoc e HM.out.symm); obtain ⟨A6, c6, hvv, hr6⟩ := own_rdP own6; subst hvv; have HR6 := Lib.hid hr6; clear hr6 own6 hown6 hgrow6) | (refine step_append_own _ rfl _ _ 37 rfl w4.heap.size 48 i0 (.agg #[.int .i64 0, .int .i64 0, .int .i64 0, .bool false]) 4 32 Try.underlying37 HJ.out hz0' hz1' hz2' rfl (by decide) _ 0 [] rfl (by first | exact own_built w4 _ (Nat.le_refl _) | exact (own_built w4 _ (Nat.le_refl _)).alloc _ | exact own_built2 w4 _) a3 L.length c3 (flatP L) rfl (flatP_length _) (HCE.out _ (by (repeat (first | exact Below.refl _ _ | assumption | refine Below.alloc ?_ (by first | exact Nat.le_refl _ | exact Below.size (by assumption) | omega | (simp <;> omega)) _ | refine Below.setCell ?_ (by first | exact Nat.le_refl _ | exact Below.size (by assumption) | omega | (simp <;> omega)) _ | refine below_drewN ?_ _ | refine Below.drew ?_)))) (fun u hu => flatP_one hu) (by unfold Go.maxLen; omega) (by omega) (by first | (simp; done) | (simp; omega)) ?_; intro v5 w5 hown5 hgrow5 _; have hb5' : Below w4.heap.size w4 w5 := below_grown (by (repeat (first | exact Below.refl _ _ | assumption | refine Below.alloc ?_ (by first | exact Nat.le_refl _ | exact Below.size (by assumption) | omega | (simp <;> omega)) _ | refine Below.setCell ?_ (by first | exact Nat.le_refl _ | exact Below.size (by assumption) | omega | (simp <;> omega)) _ | refine below_drewN ?_ _ | refine Below.drew ?_))) hgrow5 (fun k hk => by first | exact ((own_built w4 w4.heap.size (Nat.le_refl _)).lt k hk).1 | exact ((own_built2 w4 (.cells #[] 48)).lt k hk).1) (by first | (simp; done) | (simp; omega)); (first | (have hpl5 := pl_kept hgrow5 (pl_new1 w4 p) (ne1 w4)) | (have hpl5 := pl_kept hgrow5 (pl_new1d w4 p) (ne1 w4)) | (have hpl5 := pl_kept hgrow5 (pl_new2 w4 p) (ne2 w4)) | (have hpl5 := pl_kept hgrow5 (pl_new2d w4 p) (ne2 w4)) | skip); have HO5 := Lib.hid hown5; clear hown5 hgrow5))
          all_goals
            go_wp2_with fail
            go_meet
            exact ⟨_, rfl, by rw [← HM.out]; exact HIFF.out, hb9'⟩
      case rest =>
        obtain ⟨h, rfl, hh, hbx⟩ := hcut
        have hB5 := hB4.trans (hbx.mono hB4.size)
        have HH := Lib.hid hh; clear hh
        by_cases h0 : h = 0
        · obtain rfl : x = true := HH.out.1 h0
          subst h0
          go_wp2_with fail
          refine (nawake_any _).mono ?_
          rintro e' w9 ⟨rfl, hb9⟩
          go_wp2
          go_ret
          exact Ret.mk rfl (hB5.trans (hb9.mono hB5.size))
        · have hxf : x = false := by
            cases hx : x
            · rfl
            · exact absurd (HH.out.2 hx) h0
          subst hxf
          have hb0 : (h == (0 : Int)) = false := by simpa using h0
          go_wp2_with fail
          refine (nawake_any _).mono ?_
          rintro e' w9 ⟨rfl, hb9⟩
          go_wp2
          go_ret
          exact Ret.mk rfl (hB5.trans (hb9.mono hB5.size))

    · have h12I : ¬ (R.length : Int) ≤ 12 := by omega
      go_wp2_with fail
      refine (Free_any b A A2 A3 c c2 c3 ps L p _ (HF.out.now hB3) (HP.out.now hB3) (HL.out.now hB3)).mono ?_
      rintro e' w4 ⟨rfl, hb4⟩
      rw [HX.out]
      have hB4 := hB3.trans (hb4.mono hB3.size)
      have hb04 := hb03.trans (hb4.mono hb03.size)
      have hs4 := hb04.size
      clear k0 k1 k2 k3 k4 k5 q0 q1 q2 q3
      by_cases hg : g = 0
      case neg =>
        obtain rfl : x = false := HFE.out hg
        go_wp2_with fail
        refine (nawake_any _).mono ?_
        rintro e' w5 ⟨rfl, hb5⟩
        go_wp2
        go_ret
        exact Ret.mk rfl (hB4.trans (hb5.mono hB4.size))
      subst hg
      obtain ⟨hL200, hiff⟩ := HFO.out rfl
      have HIFF := Lib.hid hiff; clear hiff
      have hz4 : w.heap.size < w4.heap.size := by omega
      have hy4 : w.heap.size + 1 < w4.heap.size := by omega
      have HKP : Hid (∀ w', Below w4.heap.size w4 w' → w'.cell? ⟨w.heap.size, 0, none⟩ = some (.int .i64 b.W) ∧ w'.cell? ⟨w.heap.size, 1, none⟩ = some (.int .i64 b.H) ∧ w'.cell? ⟨w.heap.size, 2, none⟩ = some (.int .i64 b.G) ∧ w'.cell? ⟨w.heap.size, 3, none⟩ = some (.slice A b.F.length c) ∧ w'.cell? ⟨w.heap.size, 4, none⟩ = some (.slice A2 ps.length c2) ∧ w'.cell? ⟨w.heap.size, 5, none⟩ = some (.slice A3 L.length c3) ∧ w'.cell? ⟨w.heap.size + 1, 0, none⟩ = some (.int .i64 p.part) ∧ w'.cell? ⟨w.heap.size + 1, 1, none⟩ = some (.int .i64 p.X) ∧ w'.cell? ⟨w.heap.size + 1, 2, none⟩ = some (.int .i64 p.Y) ∧ w'.cell? ⟨w.heap.size + 1, 3, none⟩ = some (.bool p.t)) := fun w' hC => by
        obtain ⟨a0, a1, a2, a3, a4, a5⟩ := HDK.out.below (hb04.trans (hC.mono hs4)) (by omega)
        obtain ⟨d0, d1, d2, d3⟩ := HPL.out.below (hb04.trans (hC.mono hs4)) (by omega)
        exact ⟨a0, a1, a2, a3, a4, a5, d0, d1, d2, d3⟩
      have hdr : Below w4.heap.size w4 w4.drew := (Below.refl _ _).drew
      have hb44 : Below w4.heap.size w4 w4 := Below.refl _ _
      obtain ⟨M, hM⟩ : ∃ M, L ++ [p] = M := ⟨_, rfl⟩
      have HM := Lib.hid hM; clear hM
      go_wp2
      go_cut [10] (fun v wx' => ∃ h : Int, v = .int .i64 h ∧ (h = 0 ↔ x = true) ∧ Below w4.heap.size w4 wx')
      case first =>
        cases A3 with
        | none =>
          obtain rfl : L = [] := by
            cases L with
            | nil => rfl
            | cons y L =>
              obtain ⟨b', off', hA, _⟩ := HL.out 0 y rfl
              cases hA
          go_region_held3 (fun w' => w'.cell? ⟨w.heap.size, 0, none⟩ = some (.int .i64 b.W) ∧ w'.cell? ⟨w.heap.size, 1, none⟩ = some (.int .i64 b.H) ∧ w'.cell? ⟨w.heap.size, 2, none⟩ = some (.int .i64 b.G) ∧ w'.cell? ⟨w.heap.size, 3, none⟩ = some (.slice A b.F.length c) ∧ w'.cell? ⟨w.heap.size, 4, none⟩ = some (.slice A2 ps.length c2) ∧ w'.cell? ⟨w.heap.size, 5, none⟩ = some (.slice none 0 c3) ∧ w'.cell? ⟨w.heap.size + 1, 0, none⟩ = some (.int .i64 p.part) ∧ w'.cell? ⟨w.heap.size + 1, 1, none⟩ = some (.int .i64 p.X) ∧ w'.cell? ⟨w.heap.size + 1, 2, none⟩ = some (.int .i64 p.Y) ∧ w'.cell? ⟨w.heap.size + 1, 3, none⟩ = some (.bool p.t)) (first | exact HKP.out _ hb9' | exact HKP.out _ hb6' | exact HKP.out _ (by (repeat (first | exact Below.refl _ _ | assumption | refine Below.alloc ?_ (by first | exact Nat.le_refl _ | exact Below.size (by assumption) | omega | (simp <;> omega)) _ | refine Below.setCell ?_ (by first | exact Nat.le_refl _ | exact Below.size (by assumption) | omega | (simp <;> omega)) _ | refine below_drewN ?_ _ | refine Below.drew ?_)))) (first | (go_at_call 34; refine (Check_any b A A2 A6 c c2 c6 ps M _ (HF.out.now (hB4.trans (hb6'.mono hB4.size))) (HP.out.now (hB4.trans (hb6'.mono hB4.size))) HR6.out).mono ?_; rintro e9 w9 ⟨rfl, hb9⟩; have hb9' := hb6'.trans (hb9.mono hb6'.size)) | (have hguard := hseen; clear hguard; refine step_append_own _ rfl _ _ 37 rfl w4.heap.size 48 i0 (.agg #[.int .i64 0, .int .i64 0, .int .i64 0, .bool false]) 4 32 Try.underlying37 HJ.out hz0' hz1' hz2' rfl (by decide) _ 0 [] rfl (by first | exact own_built w4 _ (Nat.le_refl _) | exact (own_built w4 _ (Nat.le_refl _)).alloc _ | exact own_built2 w4 _) _ 1 1 [.int .i64 p.part, .int .i64 p.X, .int .i64 p.Y, .bool p.t] rfl rfl (by first | exact pl_cells (pl_new1 w4 p) | exact pl_cells (pl_new1d w4 p) | exact pl_cells (pl_new2 w4 p) | exact pl_cells (pl_new2d w4 p)) (by intro u hu; simp at hu; rcases hu with rfl | rfl | rfl | rfl <;> rfl) (by unfold Go.maxLen; omega) (by omega) (by first | (simp; done) | (simp; omega)) ?_; intro v6 w6 hown6 hgrow6 _; have hb6' : Below w4.heap.size w4 w6 := below_grown (by (repeat (first | exact Below.refl _ _ | assumption | refine Below.alloc ?_ (by first | exact Nat.le_refl _ | exact Below.size (by assumption) | omega | (simp <;> omega)) _ | refine Below.setCell ?_ (by first | exact Nat.le_refl _ | exact Below.size (by assumption) | omega | (simp <;> omega)) _ | refine below_drewN ?_ _ | refine Below.drew ?_))) hgrow6 (fun k hk => by first | exact ((own_built w4 w4.heap.size (Nat.le_refl _)).lt k hk).1 | exact ((own_built2 w4 (.cells #[] 48)).lt k hk).1) (by first | (simp; done) | (simp; omega)); have own6 : OwnP w6 w4.heap.size v6 M := ownP_snoc (R := []) hown6 HM.out.symm; obtain ⟨A6, c6, hvv, hr6⟩ := own_rdP own6; subst hvv; have HR6 := Lib.hid hr6; clear hr6 own6 hown6 hgrow6) | (refine step_append_nil _ rfl _ _ 37 rfl 48 i0 Try.underlying37 HJ.out _ 0 0 (Nat.le_refl _) rfl _ rfl ?_; have hseen : True := trivial))
          all_goals
            go_wp2_with fail
            go_meet
            exact ⟨_, rfl, by rw [← HM.out]; exact HIFF.out, hb9'⟩
        | some a3 =>
          obtain ⟨bL, offL, hcells⟩ : ∃ bL offL, (∀ W, Below w.heap.size w W → ∀ j u, (flatP L)[j]? = some u → W.cell? (a3.add j) = some u) ∧ True ∧ (0 : Nat) = bL ∧ (0 : Nat) = offL := by
            refine ⟨0, 0, fun W hW j u hj => ?_, trivial, rfl, rfl⟩
            have hjl : j < (flatP L).length := (List.getElem?_eq_some_iff.1 hj).1
            rw [flatP_length] at hjl
            obtain ⟨y, hy⟩ := getElem?_of_lt (show 0 < L.length by omega)
            obtain ⟨b', off', hA, _⟩ := HL.out 0 y hy
            obtain rfl : a3 = ⟨b', off', none⟩ := by simpa using hA
            exact rdl_cells (HL.out.below hW) j u hj
          have HCE := Lib.hid hcells.1; clear hcells
          go_region_held3 (fun w' => w'.cell? ⟨w.heap.size, 0, none⟩ = some (.int .i64 b.W) ∧ w'.cell? ⟨w.heap.size, 1, none⟩ = some (.int .i64 b.H) ∧ w'.cell? ⟨w.heap.size, 2, none⟩ = some (.int .i64 b.G) ∧ w'.cell? ⟨w.heap.size, 3, none⟩ = some (.slice A b.F.length c) ∧ w'.cell? ⟨w.heap.size, 4, none⟩ = some (.slice A2 ps.length c2) ∧ w'.cell? ⟨w.heap.size, 5, none⟩ = some (.slice (some a3) L.length c3) ∧ w'.cell? ⟨w.heap.size + 1, 0, none⟩ = some (.int .i64 p.part) ∧ w'.cell? ⟨w.heap.size + 1, 1, none⟩ = some (.int .i64 p.X) ∧ w'.cell? ⟨w.heap.size + 1, 2, none⟩ = some (.int .i64 p.Y) ∧ w'.cell? ⟨w.heap.size + 1, 3, none⟩ = some (.bool p.t)) (first | exact HKP.out _ hb9' | exact HKP.out _ hb6' | exact HKP.out _ hb5' | exact HKP.out _ (by (repeat (first | exact Below.refl _ _ | assumption | refine Below.alloc ?_ (by first | exact Nat.le_refl _ | exact Below.size (by assumption) | omega | (simp <;> omega)) _ | refine Below.setCell ?_ (by first | exact Nat.le_refl _ | exact Below.size (by assumption) | omega | (simp <;> omega)) _ | refine below_drewN ?_ _ | refine Below.drew ?_)))) (first | (go_at_call 34; refine (Check_any b A A2 A6 c c2 c6 ps M _ (HF.out.now (hB4.trans (hb6'.mono hB4.size))) (HP.out.now (hB4.trans (hb6'.mono hB4.size))) HR6.out).mono ?_; rintro e9 w9 ⟨rfl, hb9⟩; have hb9' := hb6'.trans (hb9.mono hb6'.size)) | (have hguard := HO5.out; clear hguard; refine step_append_own _ rfl _ _ 37 rfl w4.heap.size 48 i0 (.agg #[.int .i64 0, .int .i64 0, .int .i64 0, .bool false]) 4 32 Try.underlying37 HJ.out hz0' hz1' hz2' rfl (by decide) _ _ _ rfl (by first | exact HO5.out | exact HO5.out.alloc _) _ 1 1 [.int .i64 p.part, .int .i64 p.X, .int .i64 p.Y, .bool p.t] rfl rfl (by first | exact pl_cells hpl5 | exact pl_cells (PlAt.new w5 p)) (by intro u hu; simp at hu; rcases hu with rfl | rfl | rfl | rfl <;> rfl) (by unfold Go.maxLen; omega) (by omega) (by have := hb5'.size; first | omega | (simp; omega)) ?_; intro v6 w6 hown6 hgrow6 _; have hb6' : Below w4.heap.size w4 w6 := below_grown (by (repeat (first | exact Below.refl _ _ | assumption | refine Below.alloc ?_ (by first | exact Nat.le_refl _ | exact Below.size (by assumption) | omega | (simp <;> omega)) _ | refine Below.setCell ?_ (by first | exact Nat.le_refl _ | exact Below.size (by assumption) | omega | (simp <;> omega)) _ | refine below_drewN ?_ _ | refine Below.drew ?_))) hgrow6 (fun k hk => (HO5.out.lt k hk).1) (by have := hb5'.size; first | omega | (simp; omega)); have own6 : OwnP w6 w4.heap.size v6 M := (by have e := hown6; simp only [List.nil_append, Nat.zero_add] at e; exact ownP_snoc e HM.out.symm); obtain ⟨A6, c6, hvv, hr6⟩ := own_rdP own6; subst hvv; have HR6 := Lib.hid hr6; clear hr6 own6 hown6 hgrow6) | (refine step_append_own _ rfl _ _ 37 rfl w4.heap.size 48 i0 (.agg #[.int .i64 0, .int .i64 0, .int .i64 0, .bool false]) 4 32 Try.underlying37 HJ.out hz0' hz1' hz2' rfl (by decide) _ 0 [] rfl (by first | exact own_built w4 _ (Nat.le_refl _) | exact (own_built w4 _ (Nat.le_refl _)).alloc _ | exact own_built2 w4 _) a3 L.length c3 (flatP L) rfl (flatP_length _) (HCE.out _ (by (repeat (first | exact Below.refl _ _ | assumption | refine Below.alloc ?_ (by first | exact Nat.le_refl _ | exact Below.size (by assumption) | omega | (simp <;> omega)) _ | refine Below.setCell ?_ (by first | exact Nat.le_refl _ | exact Below.size (by assumption) | omega | (simp <;> omega)) _ | refine below_drewN ?_ _ | refine Below.drew ?_)))) (fun u hu => flatP_one hu) (by unfold Go.maxLen; omega) (by omega) (by first | (simp; done) | (simp; omega)) ?_; intro v5 w5 hown5 hgrow5 _; have hb5' : Below w4.heap.size w4 w5 := below_grown (by (repeat (first | exact Below.refl _ _ | assumption | refine Below.alloc ?_ (by first | exact Nat.le_refl _ | exact Below.size (by assumption) | omega | (simp <;> omega)) _ | refine Below.setCell ?_ (by first | exact Nat.le_refl _ | exact Below.size (by assumption) | omega | (simp <;> omega)) _ | refine below_drewN ?_ _ | refine Below.drew ?_))) hgrow5 (fun k hk => by first | exact ((own_built w4 w4.heap.size (Nat.le_refl _)).lt k hk).1 | exact ((own_built2 w4 (.cells #[] 48)).lt k hk).1) (by first | (simp; done) | (simp; omega)); (first | (have hpl5 := pl_kept hgrow5 (pl_new1 w4 p) (ne1 w4)) | (have hpl5 := pl_kept hgrow5 (pl_new1d w4 p) (ne1 w4)) | (have hpl5 := pl_kept hgrow5 (pl_new2 w4 p) (ne2 w4)) | (have hpl5 := pl_kept hgrow5 (pl_new2d w4 p) (ne2 w4)) | skip); have HO5 := Lib.hid hown5; clear hown5 hgrow5))
          all_goals
            go_wp2_with fail
            go_meet
            exact ⟨_, rfl, by rw [← HM.out]; exact HIFF.out, hb9'⟩
      case rest =>
        obtain ⟨h, rfl, hh, hbx⟩ := hcut
        have hB5 := hB4.trans (hbx.mono hB4.size)
        have HH := Lib.hid hh; clear hh
        by_cases h0 : h = 0
        · obtain rfl : x = true := HH.out.1 h0
          subst h0
          go_wp2_with fail
          refine (nawake_any _).mono ?_
          rintro e' w9 ⟨rfl, hb9⟩
          go_wp2
          go_ret
          exact Ret.mk rfl (hB5.trans (hb9.mono hB5.size))
        · have hxf : x = false := by
            cases hx : x
            · rfl
            · exact absurd (HH.out.2 hx) h0
          subst hxf
          have hb0 : (h == (0 : Int)) = false := by simpa using h0
          go_wp2_with fail
          refine (nawake_any _).mono ?_
          rintro e' w9 ⟨rfl, hb9⟩
          go_wp2
          go_ret
          exact Ret.mk rfl (hB5.trans (hb9.mono hB5.size))

  · go_wp2_with fail
    refine (Free_any b A A2 A3 c c2 c3 ps L p _ (HF.out.now hB3) (HP.out.now hB3) (HL.out.now hB3)).mono ?_
    rintro e' w4 ⟨rfl, hb4⟩
    rw [HX.out]
    have hB4 := hB3.trans (hb4.mono hB3.size)
    have hb04 := hb03.trans (hb4.mono hb03.size)
    have hs4 := hb04.size
    clear k0 k1 k2 k3 k4 k5 q0 q1 q2 q3
    by_cases hg : g = 0
    case neg =>
      obtain rfl : x = false := HFE.out hg
      go_wp2_with fail
      refine (nawake_any _).mono ?_
      rintro e' w5 ⟨rfl, hb5⟩
      go_wp2
      go_ret
      exact Ret.mk rfl (hB4.trans (hb5.mono hB4.size))
    subst hg
    obtain ⟨hL200, hiff⟩ := HFO.out rfl
    have HIFF := Lib.hid hiff; clear hiff
    have hz4 : w.heap.size < w4.heap.size := by omega
    have hy4 : w.heap.size + 1 < w4.heap.size := by omega
    have HKP : Hid (∀ w', Below w4.heap.size w4 w' → w'.cell? ⟨w.heap.size, 0, none⟩ = some (.int .i64 b.W) ∧ w'.cell? ⟨w.heap.size, 1, none⟩ = some (.int .i64 b.H) ∧ w'.cell? ⟨w.heap.size, 2, none⟩ = some (.int .i64 b.G) ∧ w'.cell? ⟨w.heap.size, 3, none⟩ = some (.slice A b.F.length c) ∧ w'.cell? ⟨w.heap.size, 4, none⟩ = some (.slice A2 ps.length c2) ∧ w'.cell? ⟨w.heap.size, 5, none⟩ = some (.slice A3 L.length c3) ∧ w'.cell? ⟨w.heap.size + 1, 0, none⟩ = some (.int .i64 p.part) ∧ w'.cell? ⟨w.heap.size + 1, 1, none⟩ = some (.int .i64 p.X) ∧ w'.cell? ⟨w.heap.size + 1, 2, none⟩ = some (.int .i64 p.Y) ∧ w'.cell? ⟨w.heap.size + 1, 3, none⟩ = some (.bool p.t)) := fun w' hC => by
      obtain ⟨a0, a1, a2, a3, a4, a5⟩ := HDK.out.below (hb04.trans (hC.mono hs4)) (by omega)
      obtain ⟨d0, d1, d2, d3⟩ := HPL.out.below (hb04.trans (hC.mono hs4)) (by omega)
      exact ⟨a0, a1, a2, a3, a4, a5, d0, d1, d2, d3⟩
    have hdr : Below w4.heap.size w4 w4.drew := (Below.refl _ _).drew
    have hb44 : Below w4.heap.size w4 w4 := Below.refl _ _
    obtain ⟨M, hM⟩ : ∃ M, L ++ [p] = M := ⟨_, rfl⟩
    have HM := Lib.hid hM; clear hM
    go_wp2
    go_cut [10] (fun v wx' => ∃ h : Int, v = .int .i64 h ∧ (h = 0 ↔ x = true) ∧ Below w4.heap.size w4 wx')
    case first =>
      cases A3 with
      | none =>
        obtain rfl : L = [] := by
          cases L with
          | nil => rfl
          | cons y L =>
            obtain ⟨b', off', hA, _⟩ := HL.out 0 y rfl
            cases hA
        go_region_held3 (fun w' => w'.cell? ⟨w.heap.size, 0, none⟩ = some (.int .i64 b.W) ∧ w'.cell? ⟨w.heap.size, 1, none⟩ = some (.int .i64 b.H) ∧ w'.cell? ⟨w.heap.size, 2, none⟩ = some (.int .i64 b.G) ∧ w'.cell? ⟨w.heap.size, 3, none⟩ = some (.slice A b.F.length c) ∧ w'.cell? ⟨w.heap.size, 4, none⟩ = some (.slice A2 ps.length c2) ∧ w'.cell? ⟨w.heap.size, 5, none⟩ = some (.slice none 0 c3) ∧ w'.cell? ⟨w.heap.size + 1, 0, none⟩ = some (.int .i64 p.part) ∧ w'.cell? ⟨w.heap.size + 1, 1, none⟩ = some (.int .i64 p.X) ∧ w'.cell? ⟨w.heap.size + 1, 2, none⟩ = some (.int .i64 p.Y) ∧ w'.cell? ⟨w.heap.size + 1, 3, none⟩ = some (.bool p.t)) (first | exact HKP.out _ hb9' | exact HKP.out _ hb6' | exact HKP.out _ (by (repeat (first | exact Below.refl _ _ | assumption | refine Below.alloc ?_ (by first | exact Nat.le_refl _ | exact Below.size (by assumption) | omega | (simp <;> omega)) _ | refine Below.setCell ?_ (by first | exact Nat.le_refl _ | exact Below.size (by assumption) | omega | (simp <;> omega)) _ | refine below_drewN ?_ _ | refine Below.drew ?_)))) (first | (go_at_call 34; refine (Check_any b A A2 A6 c c2 c6 ps M _ (HF.out.now (hB4.trans (hb6'.mono hB4.size))) (HP.out.now (hB4.trans (hb6'.mono hB4.size))) HR6.out).mono ?_; rintro e9 w9 ⟨rfl, hb9⟩; have hb9' := hb6'.trans (hb9.mono hb6'.size)) | (have hguard := hseen; clear hguard; refine step_append_own _ rfl _ _ 37 rfl w4.heap.size 48 i0 (.agg #[.int .i64 0, .int .i64 0, .int .i64 0, .bool false]) 4 32 Try.underlying37 HJ.out hz0' hz1' hz2' rfl (by decide) _ 0 [] rfl (by first | exact own_built w4 _ (Nat.le_refl _) | exact (own_built w4 _ (Nat.le_refl _)).alloc _ | exact own_built2 w4 _) _ 1 1 [.int .i64 p.part, .int .i64 p.X, .int .i64 p.Y, .bool p.t] rfl rfl (by first | exact pl_cells (pl_new1 w4 p) | exact pl_cells (pl_new1d w4 p) | exact pl_cells (pl_new2 w4 p) | exact pl_cells (pl_new2d w4 p)) (by intro u hu; simp at hu; rcases hu with rfl | rfl | rfl | rfl <;> rfl) (by unfold Go.maxLen; omega) (by omega) (by first | (simp; done) | (simp; omega)) ?_; intro v6 w6 hown6 hgrow6 _; have hb6' : Below w4.heap.size w4 w6 := below_grown (by (repeat (first | exact Below.refl _ _ | assumption | refine Below.alloc ?_ (by first | exact Nat.le_refl _ | exact Below.size (by assumption) | omega | (simp <;> omega)) _ | refine Below.setCell ?_ (by first | exact Nat.le_refl _ | exact Below.size (by assumption) | omega | (simp <;> omega)) _ | refine below_drewN ?_ _ | refine Below.drew ?_))) hgrow6 (fun k hk => by first | exact ((own_built w4 w4.heap.size (Nat.le_refl _)).lt k hk).1 | exact ((own_built2 w4 (.cells #[] 48)).lt k hk).1) (by first | (simp; done) | (simp; omega)); have own6 : OwnP w6 w4.heap.size v6 M := ownP_snoc (R := []) hown6 HM.out.symm; obtain ⟨A6, c6, hvv, hr6⟩ := own_rdP own6; subst hvv; have HR6 := Lib.hid hr6; clear hr6 own6 hown6 hgrow6) | (refine step_append_nil _ rfl _ _ 37 rfl 48 i0 Try.underlying37 HJ.out _ 0 0 (Nat.le_refl _) rfl _ rfl ?_; have hseen : True := trivial))
        all_goals
          go_wp2_with fail
          go_meet
          exact ⟨_, rfl, by rw [← HM.out]; exact HIFF.out, hb9'⟩
      | some a3 =>
        obtain ⟨bL, offL, hcells⟩ : ∃ bL offL, (∀ W, Below w.heap.size w W → ∀ j u, (flatP L)[j]? = some u → W.cell? (a3.add j) = some u) ∧ True ∧ (0 : Nat) = bL ∧ (0 : Nat) = offL := by
          refine ⟨0, 0, fun W hW j u hj => ?_, trivial, rfl, rfl⟩
          have hjl : j < (flatP L).length := (List.getElem?_eq_some_iff.1 hj).1
          rw [flatP_length] at hjl
          obtain ⟨y, hy⟩ := getElem?_of_lt (show 0 < L.length by omega)
          obtain ⟨b', off', hA, _⟩ := HL.out 0 y hy
          obtain rfl : a3 = ⟨b', off', none⟩ := by simpa using hA
          exact rdl_cells (HL.out.below hW) j u hj
        have HCE := Lib.hid hcells.1; clear hcells
        go_region_held3 (fun w' => w'.cell? ⟨w.heap.size, 0, none⟩ = some (.int .i64 b.W) ∧ w'.cell? ⟨w.heap.size, 1, none⟩ = some (.int .i64 b.H) ∧ w'.cell? ⟨w.heap.size, 2, none⟩ = some (.int .i64 b.G) ∧ w'.cell? ⟨w.heap.size, 3, none⟩ = some (.slice A b.F.length c) ∧ w'.cell? ⟨w.heap.size, 4, none⟩ = some (.slice A2 ps.length c2) ∧ w'.cell? ⟨w.heap.size, 5, none⟩ = some (.slice (some a3) L.length c3) ∧ w'.cell? ⟨w.heap.size + 1, 0, none⟩ = some (.int .i64 p.part) ∧ w'.cell? ⟨w.heap.size + 1, 1, none⟩ = some (.int .i64 p.X) ∧ w'.cell? ⟨w.heap.size + 1, 2, none⟩ = some (.int .i64 p.Y) ∧ w'.cell? ⟨w.heap.size + 1, 3, none⟩ = some (.bool p.t)) (first | exact HKP.out _ hb9' | exact HKP.out _ hb6' | exact HKP.out _ hb5' | exact HKP.out _ (by (repeat (first | exact Below.refl _ _ | assumption | refine Below.alloc ?_ (by first | exact Nat.le_refl _ | exact Below.size (by assumption) | omega | (simp <;> omega)) _ | refine Below.setCell ?_ (by first | exact Nat.le_refl _ | exact Below.size (by assumption) | omega | (simp <;> omega)) _ | refine below_drewN ?_ _ | refine Below.drew ?_)))) (first | (go_at_call 34; refine (Check_any b A A2 A6 c c2 c6 ps M _ (HF.out.now (hB4.trans (hb6'.mono hB4.size))) (HP.out.now (hB4.trans (hb6'.mono hB4.size))) HR6.out).mono ?_; rintro e9 w9 ⟨rfl, hb9⟩; have hb9' := hb6'.trans (hb9.mono hb6'.size)) | (have hguard := HO5.out; clear hguard; refine step_append_own _ rfl _ _ 37 rfl w4.heap.size 48 i0 (.agg #[.int .i64 0, .int .i64 0, .int .i64 0, .bool false]) 4 32 Try.underlying37 HJ.out hz0' hz1' hz2' rfl (by decide) _ _ _ rfl (by first | exact HO5.out | exact HO5.out.alloc _) _ 1 1 [.int .i64 p.part, .int .i64 p.X, .int .i64 p.Y, .bool p.t] rfl rfl (by first | exact pl_cells hpl5 | exact pl_cells (PlAt.new w5 p)) (by intro u hu; simp at hu; rcases hu with rfl | rfl | rfl | rfl <;> rfl) (by unfold Go.maxLen; omega) (by omega) (by have := hb5'.size; first | omega | (simp; omega)) ?_; intro v6 w6 hown6 hgrow6 _; have hb6' : Below w4.heap.size w4 w6 := below_grown (by (repeat (first | exact Below.refl _ _ | assumption | refine Below.alloc ?_ (by first | exact Nat.le_refl _ | exact Below.size (by assumption) | omega | (simp <;> omega)) _ | refine Below.setCell ?_ (by first | exact Nat.le_refl _ | exact Below.size (by assumption) | omega | (simp <;> omega)) _ | refine below_drewN ?_ _ | refine Below.drew ?_))) hgrow6 (fun k hk => (HO5.out.lt k hk).1) (by have := hb5'.size; first | omega | (simp; omega)); have own6 : OwnP w6 w4.heap.size v6 M := (by have e := hown6; simp only [List.nil_append, Nat.zero_add] at e; exact ownP_snoc e HM.out.symm); obtain ⟨A6, c6, hvv, hr6⟩ := own_rdP own6; subst hvv; have HR6 := Lib.hid hr6; clear hr6 own6 hown6 hgrow6) | (refine step_append_own _ rfl _ _ 37 rfl w4.heap.size 48 i0 (.agg #[.int .i64 0, .int .i64 0, .int .i64 0, .bool false]) 4 32 Try.underlying37 HJ.out hz0' hz1' hz2' rfl (by decide) _ 0 [] rfl (by first | exact own_built w4 _ (Nat.le_refl _) | exact (own_built w4 _ (Nat.le_refl _)).alloc _ | exact own_built2 w4 _) a3 L.length c3 (flatP L) rfl (flatP_length _) (HCE.out _ (by (repeat (first | exact Below.refl _ _ | assumption | refine Below.alloc ?_ (by first | exact Nat.le_refl _ | exact Below.size (by assumption) | omega | (simp <;> omega)) _ | refine Below.setCell ?_ (by first | exact Nat.le_refl _ | exact Below.size (by assumption) | omega | (simp <;> omega)) _ | refine below_drewN ?_ _ | refine Below.drew ?_)))) (fun u hu => flatP_one hu) (by unfold Go.maxLen; omega) (by omega) (by first | (simp; done) | (simp; omega)) ?_; intro v5 w5 hown5 hgrow5 _; have hb5' : Below w4.heap.size w4 w5 := below_grown (by (repeat (first | exact Below.refl _ _ | assumption | refine Below.alloc ?_ (by first | exact Nat.le_refl _ | exact Below.size (by assumption) | omega | (simp <;> omega)) _ | refine Below.setCell ?_ (by first | exact Nat.le_refl _ | exact Below.size (by assumption) | omega | (simp <;> omega)) _ | refine below_drewN ?_ _ | refine Below.drew ?_))) hgrow5 (fun k hk => by first | exact ((own_built w4 w4.heap.size (Nat.le_refl _)).lt k hk).1 | exact ((own_built2 w4 (.cells #[] 48)).lt k hk).1) (by first | (simp; done) | (simp; omega)); (first | (have hpl5 := pl_kept hgrow5 (pl_new1 w4 p) (ne1 w4)) | (have hpl5 := pl_kept hgrow5 (pl_new1d w4 p) (ne1 w4)) | (have hpl5 := pl_kept hgrow5 (pl_new2 w4 p) (ne2 w4)) | (have hpl5 := pl_kept hgrow5 (pl_new2d w4 p) (ne2 w4)) | skip); have HO5 := Lib.hid hown5; clear hown5 hgrow5))
        all_goals
          go_wp2_with fail
          go_meet
          exact ⟨_, rfl, by rw [← HM.out]; exact HIFF.out, hb9'⟩
    case rest =>
      obtain ⟨h, rfl, hh, hbx⟩ := hcut
      have hB5 := hB4.trans (hbx.mono hB4.size)
      have HH := Lib.hid hh; clear hh
      by_cases h0 : h = 0
      · obtain rfl : x = true := HH.out.1 h0
        subst h0
        go_wp2_with fail
        refine (nawake_any _).mono ?_
        rintro e' w9 ⟨rfl, hb9⟩
        go_wp2
        go_ret
        exact Ret.mk rfl (hB5.trans (hb9.mono hB5.size))
      · have hxf : x = false := by
          cases hx : x
          · rfl
          · exact absurd (HH.out.2 hx) h0
        subst hxf
        have hb0 : (h == (0 : Int)) = false := by simpa using h0
        go_wp2_with fail
        refine (nawake_any _).mono ?_
        rintro e' w9 ⟨rfl, hb9⟩
        go_wp2
        go_ret
        exact Ret.mk rfl (hB5.trans (hb9.mono hB5.size))

end Go.Proofs.Ytcbiehnaomcfbaa

/- Rows, in the reference, where all is valid: the walk. -/
import Derived.Test.YtcbiehnaomcfbaaNW14
namespace Go.Proofs.Ytcbiehnaomcfbaa
open Go.RowKit

set_option maxRecDepth 100000 in
set_option maxHeartbeats 8000000 in
theorem Rows2_yes (b : BD) (A A2 : Option Addr) (c c2 : Nat) (ps : List PT) (k : Nat) (pt : PT) (w : World) (hF : RdR w w.heap.size A b.F) (hp : RdPP w w.heap.size A2 ps)
    (hbv : boardB b = true) (hpv : partsB ps = true) (hk : ps[k]? = some pt) (hv : validB pt.o = true) :
    Calls Try.prog 21 #[bdv b A c, .slice A2 ps.length c2, .int .i64 (k : Int)] w (RetP2 (rowsOf b pt k (nearW 1 0 (base0 pt)) (farW 1 0 (base0 pt)) (nearW 0 1 (base0 pt)) (farW 0 1 (base0 pt))).1 (rowsOf b pt k (nearW 1 0 (base0 pt)) (farW 1 0 (base0 pt)) (nearW 0 1 (base0 pt)) (farW 0 1 (base0 pt))).2 w) := by
  obtain ⟨q1, q2, q3, q4⟩ := canon_ends hv
  obtain ⟨n1, n2, n3, n4⟩ := ends_all (wd_valid hv)
  have hends := ends_facts hv
  rw [lyL_zero hv, q1, q2, q3, q4]
  clear q1 q2 q3 q4
  rw [← n1, ← n2, ← n3, ← n4] at hends ⊢
  clear n1 n2 n3 n4
  have hblen := validB_len' hv
  have hen : ∀ W : World, Rd W W.heap.size pt.A pt.o → Calls Try.prog 60 #[.slice pt.A pt.o.length pt.c] W (Ret (.tuple #[xyv (lowTo pt.o pt.o.length), xyv (highTo pt.o pt.o.length)]) W) := fun W h => Ends_any pt.A pt.c pt.o W (by omega) (by omega) h
  generalize lowTo pt.o pt.o.length = lo at hends hen ⊢
  generalize highTo pt.o pt.o.length = hi at hends hen ⊢
  obtain ⟨l1, l2, l3, l4, l5, l6⟩ := hends
  obtain ⟨w1, w2, h1, h2, g1, g2, f10⟩ := boardB_facts hbv
  have hps := partsB_len hpv
  have hkl : k < ps.length := (List.getElem?_eq_some_iff.1 hk).1
  have HF := Lib.hid hF; clear hF
  have HP := Lib.hid hp; clear hp
  have HEN := Lib.hid hen; clear hen
  have hmx : Try.prog.follows .mixedOrders = true := by kernel_rfl
  have hpe := HP.out.each pt (List.mem_of_getElem? hk)
  have HPE := Lib.hid hpe.1; clear hpe
  have hly : ∀ (x y : Int) (W : World), Below w.heap.size w W → Calls Try.prog 63 #[.slice A2 ps.length c2, .agg #[.int .i64 (k : Int), .int .i64 x, .int .i64 y, .bool false]] W (RetO (lyL pt.o x y false) W) := fun x y W h => lying2_any A2 c2 ps k x y false pt W hk hv (HP.out.now h)
  have HLY := Lib.hid hly; clear hly
  have hcl : ∀ (x y : Int) (A9 : Option Addr) (c9 : Nat) (W : World), Far x y → RdR W W.heap.size A b.F → Rd W W.heap.size A9 (lyL pt.o x y false) → Calls Try.prog 62 #[bdv b A c, .slice A9 (lyL pt.o x y false).length c9] W (Ret (.bool (!faultyB b.F (lyL pt.o x y false))) W) :=
    fun x y A9 c9 W hf h1 h2 => clear_any b A A9 c c9 _ W (by rw [ly_len hv]; omega) (by rw [ly_len hv]; omega) (by omega) (fun r hr => apart_lay (lay_ly hv hf false) (lay_rc hbv hr) (by omega) (by omega)) h1 h2
  have HCL := Lib.hid hcl; clear hcl
  obtain ⟨b5, off5, hA5, hb5, p0, p1⟩ := HP.out.flat k pt hk
  subst hA5
  have hva : (boardB b && partsB ps) = true := by rw [hbv, hpv]; rfl
  have HVA := Lib.hid hva; clear hva hk hv hbv hpv
  obtain ⟨wd, hwd⟩ : ∃ wd, hi.X - lo.X = wd := ⟨_, rfl⟩
  obtain ⟨tl, htl⟩ : ∃ tl, hi.Y - lo.Y = tl := ⟨_, rfl⟩
  have hwd1 : 1 ≤ wd := by omega
  have hwd2 : wd ≤ 10000 := by omega
  have htl1 : 1 ≤ tl := by omega
  have htl2 : tl ≤ 10000 := by omega
  have hx1 : ∀ W : World, Calls Try.prog 61 #[.int .i64 b.W, .int .i64 wd, .int .i64 b.G] W (Ret (.int .i64 (boxN b.W wd b.G : Nat)) W) := fun W => boxes_any b.W wd b.G W hwd1 (by omega) g1 g2 (by omega) w2
  have hx2 : ∀ W : World, Calls Try.prog 61 #[.int .i64 b.H, .int .i64 tl, .int .i64 b.G] W (Ret (.int .i64 (boxN b.H tl b.G : Nat)) W) := fun W => boxes_any b.H tl b.G W htl1 (by omega) g1 g2 (by omega) h2
  have hbn1 := boxN_le (len := b.W) (box := wd) (gap := b.G) (by omega) (by omega) g1
  have hbn2 := boxN_le (len := b.H) (box := tl) (gap := b.G) (by omega) (by omega) g1
  have hlt1 := fun j => boxN_lt (len := b.W) (box := wd) (gap := b.G) (by omega) g1 j
  have hlt2 := fun j => boxN_lt (len := b.H) (box := tl) (gap := b.G) (by omega) g1 j
  have hro : rowsOf b pt k lo.X hi.X lo.Y hi.Y = if 10000 < boxN b.W wd b.G * boxN b.H tl b.G then ([], 4) else (tkL (stand b.G lo.X lo.Y wd tl k) (free0 b.F pt) (boxN b.W wd b.G) (boxN b.H tl b.G) 0, 0) := by rw [← hwd, ← htl]; rfl
  generalize boxN b.W wd b.G = nx at *
  generalize boxN b.H tl b.G = ny at *
  have HX1 := Lib.hid hx1; clear hx1
  have HX2 := Lib.hid hx2; clear hx2
  have HL1 := Lib.hid hlt1; clear hlt1
  have HL2 := Lib.hid hlt2; clear hlt2
  have hm := mul_bd (a := (nx : Int)) (b := (ny : Int)) (A := 60001) (B := 60001) (by omega) (by omega) (by omega) (by omega)
  have n3 : IntKind.i64.wrap ((nx : Int) * (ny : Int)) = ((nx * ny : Nat) : Int) := by rw [IntWalk.i64_in _ (by omega)]; simp
  clear hm
  obtain ⟨mm, hmm⟩ : ∃ mm, nx * ny = mm := ⟨_, rfl⟩
  rw [hmm] at n3 hro
  clear hmm
  have HRO := Lib.hid hro; clear hro
  obtain ⟨w0, hw0⟩ : ∃ w0, w.alloc (.cells #[.int .i64 b.W, .int .i64 b.H, .int .i64 b.G, .slice A b.F.length c] 35) = w0 := ⟨_, rfl⟩
  have hB0 : Below w.heap.size w w0 := by rw [← hw0]; (repeat (first | exact Below.refl _ _ | assumption | refine Below.alloc ?_ (by first | exact Nat.le_refl _ | exact Below.size (by assumption) | omega | (simp <;> omega)) _ | refine Below.setCell ?_ (by first | exact Nat.le_refl _ | exact Below.size (by assumption) | omega | (simp <;> omega)) _ | refine below_drewN ?_ _ | refine Below.drew ?_))
  have hz0 : w0.heap.size = w.heap.size + 1 := by rw [← hw0]; simp
  have hbd : BdAt w0 w.heap.size b A c := by rw [← hw0]; exact BdAt.new w b A c
  have HBD := Lib.hid hbd
  obtain ⟨k0, k1, k2, k3⟩ := hbd
  have hk0 : (0 : Int) ≤ (k : Int) := by omega
  have hkI : (k : Int) < (ps.length : Int) := by omega
  have HW := Lib.hid (And.intro hwd htl); clear hwd htl
  go_enter Try.func21, Try.ntmps21
  go_wp2_with fail
  clear hw0
  refine (nvalid2_any b A _ c c2 ps _ (by unfold Go.maxLen; omega) (HF.out.now hB0) (HP.out.now hB0)).mono ?_
  rintro e w3 ⟨rfl, hb3⟩
  rw [HVA.out]
  have hB3 := hB0.trans (hb3.mono hB0.size)
  have hx0 := (hB3.cell (p := ⟨b5, off5 + k * 2, none⟩) hb5).trans p0
  have hbw3 : b5 < w3.heap.size := by have := hB3.size; omega
  clear p0 p1 k0 k1 k2 k3
  go_wp2_with fail
  refine (HEN.out _ (HPE.out.now hB3)).mono ?_
  rintro e w5 ⟨rfl, hb5'⟩
  have hB5 := hB3.trans (hb5'.mono hB3.size)
  have hb05 := hb3.trans (hb5'.mono hb3.size)
  clear hx0
  obtain ⟨w6, hw6⟩ : ∃ w6, (w5.alloc (.cells #[.int .i64 lo.X, .int .i64 lo.Y] 76)).alloc (.cells #[.int .i64 hi.X, .int .i64 hi.Y] 76) = w6 := ⟨_, rfl⟩
  have hb56 : Below w5.heap.size w5 w6 := by rw [← hw6]; (repeat (first | exact Below.refl _ _ | assumption | refine Below.alloc ?_ (by first | exact Nat.le_refl _ | exact Below.size (by assumption) | omega | (simp <;> omega)) _ | refine Below.setCell ?_ (by first | exact Nat.le_refl _ | exact Below.size (by assumption) | omega | (simp <;> omega)) _ | refine below_drewN ?_ _ | refine Below.drew ?_))
  have hz6 : w6.heap.size = w5.heap.size + 2 := by rw [← hw6]; simp
  have e0 : w6.cell? ⟨w5.heap.size, 0, none⟩ = some (.int .i64 lo.X) := by rw [← hw6]; simp
  have e1 : w6.cell? ⟨w5.heap.size, 1, none⟩ = some (.int .i64 lo.Y) := by rw [← hw6]; simp
  have e2 : w6.cell? ⟨w5.heap.size + 1, 0, none⟩ = some (.int .i64 hi.X) := by rw [← hw6]; simp
  have e3 : w6.cell? ⟨w5.heap.size + 1, 1, none⟩ = some (.int .i64 hi.Y) := by rw [← hw6]; simp
  have HW6 := Lib.hid hw6; clear hw6
  have hs5 := hb05.size
  have hb06 := hb05.trans (hb56.mono hb05.size)
  have hB6 := hB5.trans (hb56.mono hB5.size)
  go_upto_region 6 with fail
  rw [HW6.out]
  clear HW6
  go_quiet (fail)
  obtain ⟨w8, hw8⟩ : ∃ w8, w6.drewN nq = w8 := ⟨_, rfl⟩
  have hb68 : Below w6.heap.size w6 w8 := hw8 ▸ below_drewN (Below.refl _ _) nq
  rw [hw8, HW.out.1, HW.out.2]
  clear hw8
  have hb08 := hb06.trans (hb68.mono hb06.size)
  have hB8 := hB6.trans (hb68.mono hB6.size)
  have hs8 := hb68.size
  have HLO : Hid (w8.cell? ⟨w5.heap.size, 0, none⟩ = some (.int .i64 lo.X) ∧ w8.cell? ⟨w5.heap.size, 1, none⟩ = some (.int .i64 lo.Y)) :=
    ⟨(hb68.cell (p := ⟨w5.heap.size, 0, none⟩) (by show w5.heap.size < _; omega)).trans e0, (hb68.cell (p := ⟨w5.heap.size, 1, none⟩) (by show w5.heap.size < _; omega)).trans e1⟩
  clear e0 e1 e2 e3
  have HBD8 := Lib.hid (HBD.out.below hb08 (by omega))
  have HC : Hid (∀ w', Below w8.heap.size w8 w' → w'.cell? ⟨w.heap.size, 0, none⟩ = some (.int .i64 b.W) ∧ w'.cell? ⟨w.heap.size, 1, none⟩ = some (.int .i64 b.H) ∧ w'.cell? ⟨w.heap.size, 2, none⟩ = some (.int .i64 b.G)) := fun w' hC => by
    obtain ⟨a0, a1, a2, a3⟩ := HBD8.out.below hC (by omega)
    exact ⟨a0, a1, a2⟩
  have hww8 : w.heap.size < w8.heap.size := by omega
  go_wp2
  refine region_class (fun w' => Below w8.heap.size w8 w') hmx (by kernel_rfl) (by (repeat (first | exact Below.refl _ _ | assumption | refine Below.alloc ?_ (by first | exact Nat.le_refl _ | exact Below.size (by assumption) | omega | (simp <;> omega)) _ | refine Below.setCell ?_ (by first | exact Nat.le_refl _ | exact Below.size (by assumption) | omega | (simp <;> omega)) _ | refine below_drewN ?_ _ | refine Below.drew ?_))) ?_
  repeat (refine quiet_read rfl (fun w' hC => by obtain ⟨f0, f1, f2⟩ := HC.out w' hC; clear hC; go_simp; rfl) ?_; simp only [Act.put, List.setIfInBounds_toArray, List.set_cons_succ, List.set_cons_zero])
  (refine quiet_call rfl (fun w' hC => by (go_simp; try rfl)) (fun w' hC => (HX1.out w').mono (fun e w2 hr => ⟨hr.1, hC.trans (hr.2.mono hC.size)⟩)) ?_; simp only [Act.put, List.setIfInBounds_toArray, List.set_cons_succ, List.set_cons_zero])
  repeat (refine quiet_read rfl (fun w' hC => by obtain ⟨f0, f1, f2⟩ := HC.out w' hC; clear hC; go_simp; rfl) ?_; simp only [Act.put, List.setIfInBounds_toArray, List.set_cons_succ, List.set_cons_zero])
  (refine quiet_call rfl (fun w' hC => by (go_simp; try rfl)) (fun w' hC => (HX2.out w').mono (fun e w2 hr => ⟨hr.1, hC.trans (hr.2.mono hC.size)⟩)) ?_; simp only [Act.put, List.setIfInBounds_toArray, List.set_cons_succ, List.set_cons_zero])
  repeat (refine quiet_read rfl (fun w' hC => by obtain ⟨f0, f1, f2⟩ := HC.out w' hC; clear hC; go_simp; rfl) ?_; simp only [Act.put, List.setIfInBounds_toArray, List.set_cons_succ, List.set_cons_zero])
  refine wpQuiet_nil ?_
  intro w9 hb9
  have HB9 := Lib.hid (HBD8.out.below hb9 hww8)
  have hlo9 := And.intro ((hb9.cell (p := ⟨w5.heap.size, 0, none⟩) (by show w5.heap.size < _; omega)).trans HLO.out.1) ((hb9.cell (p := ⟨w5.heap.size, 1, none⟩) (by show w5.heap.size < _; omega)).trans HLO.out.2)
  have HLO9 := Lib.hid hlo9; clear hlo9 HLO
  have hB9 := hB8.trans (hb9.mono hB8.size)
  have hs9 := hb9.size
  have hz9 : w.heap.size < w9.heap.size := by omega
  have hz59 : w5.heap.size < w9.heap.size := by omega
  clear hs8 hs5 hz6 hww8 hbw3
  by_cases hbig : 10000 < mm
  · have HS := HRO.out
    rw [if_pos hbig] at HS
    have HSS := Lib.hid HS; clear HS HRO
    go_wp2
    go_ret2
    rw [HSS.out]
    exact ⟨_, rfl, World.ownsRow_nil _ _ _ _, hB9⟩
  · have HS := HRO.out
    rw [if_neg hbig] at HS
    have HSS := Lib.hid HS; clear HS HRO
    obtain ⟨f, hf⟩ : ∃ f, stand b.G lo.X lo.Y wd tl k = f := ⟨_, rfl⟩
    obtain ⟨ok, hok⟩ : ∃ ok, free0 b.F pt = ok := ⟨_, rfl⟩
    have hs2 := HSS.out
    rw [hf, hok] at hs2
    have HS3 := Lib.hid hs2; clear hs2 HSS
    have HFD := Lib.hid hf; clear hf
    have HOK := Lib.hid hok; clear hok
    obtain ⟨i0, hi, hz0', hz1, hz2⟩ := info_partsP Try.infoPlace
    have HJ := Lib.hid hi; clear hi
    go_wp2
    clear n3
    go_loopw [12, 13, 14, 15] (fun v yv _ _ wr => ∃ j : Nat, j ≤ ny ∧ yv = .int .i64 ((j : Int) * (tl + b.G)) ∧ OwnP wr w9.heap.size v (tkL f ok nx j 0) ∧ Below w9.heap.size w9 wr) (fun _ yv _ _ _ => (b.H + 100000 - intOf yv).toNat)
    case atStart => exact ⟨0, Nat.zero_le _, by simp, World.ownsRow_nil _ _ _ _, Below.refl _ _⟩
    case round =>
      obtain ⟨j, hj, rfl, hown, hB⟩ := hrel
      have HO := Lib.hid hown; clear hown
      have hyl := HL2.out j
      have hsucc : (((j + 1 : Nat) : Int)) * (tl + b.G) = (j : Int) * (tl + b.G) + (tl + b.G) := by rw [Int.natCast_add, Int.add_mul]; simp
      have hy0 : 0 ≤ (j : Int) * (tl + b.G) := Int.mul_nonneg (by omega) (by omega)
      have hst : ∀ i, f j i = ⟨k, (i : Int) * (wd + b.G) - lo.X, (j : Int) * (tl + b.G) - lo.Y, false⟩ := fun i => by rw [← HFD.out]; rfl
      have HST := Lib.hid hst; clear hst
      have hyz : j = 0 → (j : Int) * (tl + b.G) = 0 := fun h => by subst h; simp
      have hym : 0 < j → (j : Int) * (tl + b.G) = ((j - 1 : Nat) : Int) * (tl + b.G) + (tl + b.G) := fun h => by
        obtain ⟨m, rfl⟩ : ∃ m, j = m + 1 := ⟨j - 1, by omega⟩
        rw [Int.natCast_add, Int.add_mul]; simp
      obtain ⟨y, hy⟩ : ∃ y, (j : Int) * (tl + b.G) = y := ⟨_, rfl⟩
      have hst2 := HST.out
      rw [hy] at hyl hsucc hy0 hst2 hyz hym ⊢
      have HYO := Lib.hid hyz; clear hyz
      have HYM := Lib.hid hym; clear hym
      have HST2 := Lib.hid hst2; clear hst2 HST hy
      have HSU := Lib.hid hsucc; clear hsucc
      obtain ⟨k0, k1, k2, k3⟩ := HB9.out.below hB hz9
      have hsB := hB.size
      have hwr : w.heap.size < wr.heap.size := by omega
      by_cases hlt : j < ny
      · have hyb : y + tl ≤ b.H := hyl.1 hlt
        have s1 : wrap64 (y + tl) = y + tl := w64_id (by omega) (by omega)
        clear hyl
        obtain ⟨wo, rfl⟩ : ∃ wo : World, wo = wr := ⟨_, rfl⟩
        go_wp2
        clear s1
        go_loopw [12, 14, 15] (fun v xv _ wr => ∃ i : Nat, i ≤ nx ∧ xv = .int .i64 ((i : Int) * (wd + b.G)) ∧ OwnP wr w9.heap.size v (tkL f ok nx j i) ∧ Below w9.heap.size w9 wr) (fun _ xv _ _ => (b.W + 100000 - intOf xv).toNat)
        case atStart => exact ⟨0, Nat.zero_le _, by simp, HO.out, hB⟩
        case round =>
          clear hB HO k0 k1 k2 k3 hsB hwr
          obtain ⟨i, hi, rfl, hown, hB⟩ := hrel
          have hxl := HL1.out i
          have hsuc : (((i + 1 : Nat) : Int)) * (wd + b.G) = (i : Int) * (wd + b.G) + (wd + b.G) := by rw [Int.natCast_add, Int.add_mul]; simp
          have hx0 : 0 ≤ (i : Int) * (wd + b.G) := Int.mul_nonneg (by omega) (by omega)
          have hfi := HST2.out i
          have hnx := tk_next (f := f) (ok := ok) (nx := nx) j i
          have hlen := tk_len (f := f) (ok := ok) (nx := nx) j i
          have hxz : i = 0 → (i : Int) * (wd + b.G) = 0 := fun h => by subst h; simp
          have hxm : 0 < i → (i : Int) * (wd + b.G) = ((i - 1 : Nat) : Int) * (wd + b.G) + (wd + b.G) := fun h => by
            obtain ⟨m, rfl⟩ : ∃ m, i = m + 1 := ⟨i - 1, by omega⟩
            rw [Int.natCast_add, Int.add_mul]; simp
          obtain ⟨x, hx⟩ : ∃ x, (i : Int) * (wd + b.G) = x := ⟨_, rfl⟩
          rw [hx] at hxl hsuc hx0 hfi hxz hxm ⊢
          clear hx
          have HX0 := Lib.hid hxz; clear hxz
          have HXM := Lib.hid hxm; clear hxm
          have hokf : ok (f j i) = !faultyB b.F (lyL pt.o (x - lo.X) (y - lo.Y) false) := by rw [← HOK.out, hfi]; rfl
          have HSX := Lib.hid hsuc; clear hsuc
          have HFI := Lib.hid hfi; clear hfi
          have HNX := Lib.hid hnx; clear hnx
          have HOF := Lib.hid hokf; clear hokf
          obtain ⟨k0, k1, k2, k3⟩ := HB9.out.below hB hz9
          have hsB := hB.size
          have hwr : w.heap.size < wr.heap.size := by omega
          by_cases hlti : i < nx
          · have hxb : x + wd ≤ b.W := hxl.1 hlti
            have s1 : wrap64 (x + wd) = x + wd := w64_id (by omega) (by omega)
            have s4 : wrap64 (x - lo.X) = x - lo.X := w64_id (by omega) (by omega)
            have s5 : wrap64 (y - lo.Y) = y - lo.Y := w64_id (by omega) (by omega)
            clear hxl
            obtain ⟨wa, hwa⟩ : ∃ wa, wr.alloc (.cells #[.int .i64 (k : Int), .int .i64 (x - lo.X), .int .i64 (y - lo.Y), .bool false] 48) = wa := ⟨_, rfl⟩
            have hba : Below wr.heap.size wr wa := by rw [← hwa]; (repeat (first | exact Below.refl _ _ | assumption | refine Below.alloc ?_ (by first | exact Nat.le_refl _ | exact Below.size (by assumption) | omega | (simp <;> omega)) _ | refine Below.setCell ?_ (by first | exact Nat.le_refl _ | exact Below.size (by assumption) | omega | (simp <;> omega)) _ | refine below_drewN ?_ _ | refine Below.drew ?_))
            have hPA : PlAt wa wr.heap.size ⟨k, x - lo.X, y - lo.Y, false⟩ := by rw [← hwa]; exact PlAt.new wr ⟨k, x - lo.X, y - lo.Y, false⟩
            have hza : wa.heap.size = wr.heap.size + 1 := by rw [← hwa]; simp
            have HWA := Lib.hid hwa; clear hwa
            have hBa := hB9.trans ((hB.trans (hba.mono hsB)).mono hB9.size)
            have HBA := Lib.hid hBa; clear hBa
            have HPA := Lib.hid hPA; clear hPA
            have HBDA := Lib.hid ((HB9.out.below hB hz9).below hba hwr)
            have e0 := (hB.cell (p := ⟨w5.heap.size, 0, none⟩) hz59).trans HLO9.out.1
            have e1 := (hB.cell (p := ⟨w5.heap.size, 1, none⟩) hz59).trans HLO9.out.2
            have hz5r : w5.heap.size < wr.heap.size := by omega
            obtain ⟨T, hT⟩ : ∃ T, tkL f ok nx j i = T := ⟨_, rfl⟩
            have hnx2 := HNX.out
            rw [hT] at hlen hown hnx2
            obtain ⟨Av, cv, hvv, _⟩ := own_rdP hown
            subst hvv
            have HO := Lib.hid hown; clear hown
            clear hT
            have HN2 := Lib.hid hnx2; clear hnx2 HNX
            go_upto_region 17 with fail
            rw [HWA.out]
            clear HWA k0 k1 k2 k3 s1 s4 s5 e0 e1
            obtain ⟨k0, k1, k2, k3⟩ := HBDA.out
            obtain ⟨q0, q1, q2, q3⟩ := HPA.out
            have hwa : w.heap.size < wa.heap.size := by omega
            have HOA := Lib.hid (own_belowP HO.out hba)
            have hBwa := hB.trans (hba.mono hsB)
            by_cases h200 : T.length < 200
            · obtain ⟨L0, hL0⟩ : ∃ L0, lyL pt.o (x - lo.X) (y - lo.Y) false = L0 := ⟨_, rfl⟩
              have hlly := HLY.out (x - lo.X) (y - lo.Y)
              have hcll := fun A9 c9 W => HCL.out (x - lo.X) (y - lo.Y) A9 c9 W (by unfold Far; omega)
              have hof := HOF.out
              rw [hL0] at hlly hof
              simp only [hL0] at hcll
              have HL0 := Lib.hid hlly; clear hlly
              have HCL0 := Lib.hid hcll; clear hcll
              have HOF2 := Lib.hid hof; clear hof HOF hL0
              have h200I : (T.length : Int) < 200 := by omega
              go_cut [104] (fun v wx => v = .bool (!faultyB b.F L0) ∧ Below wa.heap.size wa wx)
              case first =>
                go_region_law (first | (go_simp; go_at_call 63; refine (HL0.out _ (below_drewN HBA.out 1)).mono ?_; rintro e w10 ⟨v10, rfl, hown10, hb10⟩; have hb10' : Below wa.heap.size wa w10 := below_of_drewN hb10; have hB10 := HBA.out.trans (hb10'.mono HBA.out.size); obtain ⟨m0, m1, m2, m3⟩ := HBDA.out.below hb10' hwa; obtain ⟨A10, c10, rfl, hr10⟩ := own_rd hown10; have HR10 := Lib.hid hr10; clear hr10 hown10 hb10) | (go_simp; go_at_call 62; refine (HCL0.out A10 c10 _ (HF.out.now hB10) HR10.out).mono ?_; rintro e w11 ⟨rfl, hb11⟩))
                all_goals
                  go_wp2_with fail
                  go_meet
                  exact ⟨rfl, hb10'.trans (hb11.mono hb10'.size)⟩
              case rest =>
                obtain ⟨rfl, hbx⟩ := hcut
                have HOX := Lib.hid (own_belowP HOA.out hbx)
                have hBx : Below w9.heap.size w9 wc := hBwa.trans (hbx.mono (by omega))
                have hzx := hbx.size
                clear k0 k1 k2 k3 q0 q1 q2 q3
                obtain ⟨k0, k1, k2, k3⟩ := HB9.out.below hBx hz9
                obtain ⟨q0, q1, q2, q3⟩ := HPA.out.below hbx (by omega)
                have hwc : w.heap.size < wc.heap.size := by omega
                have hwc2 : wr.heap.size < wc.heap.size := by omega
                have u4 : wrap64 (wd + b.G) = wd + b.G := w64_id (by omega) (by omega)
                have u5 : wrap64 (x + (wd + b.G)) = x + (wd + b.G) := w64_id (by omega) (by omega)
                cases hfa : faultyB b.F L0
                · have HFA := Lib.hid hfa; clear hfa
                  have hn2 := HN2.out
                  rw [HOF2.out, HFA.out, if_pos ⟨h200, rfl⟩, HFI.out] at hn2
                  have HN4 := Lib.hid hn2; clear hn2
                  go_wp2_with (at_builtin; refine wpList_append_own _ rfl _ _ 37 rfl w9.heap.size 48 i0 (.agg #[.int .i64 0, .int .i64 0, .int .i64 0, .bool false]) 4 32 Try.underlying37 HJ.out hz0' hz1 hz2 rfl (by decide) _ _ _ rfl (HOX.out.alloc _) ⟨wc.heap.size, 0, none⟩ 1 1 [.int .i64 (k : Int), .int .i64 (x - lo.X), .int .i64 (y - lo.Y), .bool false] rfl rfl (by intro j u hj; match j, hj with | 0, hj => (simp at hj; subst hj; simp [Addr.add]) | 1, hj => (simp at hj; subst hj; simp [Addr.add]) | 2, hj => (simp at hj; subst hj; simp [Addr.add]) | 3, hj => (simp at hj; subst hj; simp [Addr.add]) | j + 4, hj => simp at hj) (by intro u hu; simp at hu; rcases hu with rfl | rfl | rfl | rfl <;> rfl) (by unfold maxLen; omega) (by omega) (by simp; omega) ?_; intro v' w11 hown' hgrow _; have hB11 := below_grown (w1 := wc.alloc (.cells #[.int .i64 (k : Int), .int .i64 (x - lo.X), .int .i64 (y - lo.Y), .bool false] 48)) (hBx.alloc (by omega) _) hgrow (fun j hj => (HOX.out.lt j hj).1) (by simp; omega); clear k0 k1 k2 k3; obtain ⟨k0, k1, k2, k3⟩ := HB9.out.below hB11 hz9; have hw11 : w.heap.size < w11.heap.size := (by have := hB11.size; omega); have own12 := ownP_snoc (p := ⟨k, x - lo.X, y - lo.Y, false⟩) hown' HN4.out)
                  go_wp2
                  go_roundw
                  case rel => exact ⟨i + 1, by omega, by rw [HSX.out], own12, hB11⟩
                  case measure => simp [intOf]; omega
                · have HFA := Lib.hid hfa; clear hfa
                  have hn2 := HN2.out
                  rw [HOF2.out, HFA.out, if_neg (by simp)] at hn2
                  have HN3 := Lib.hid hn2; clear hn2
                  go_wp2
                  go_roundw
                  case rel => exact ⟨i + 1, by omega, by rw [HSX.out], by rw [HN3.out]; exact HOX.out, hBx⟩
                  case measure => simp [intOf]; omega
            · have h200I : ¬ (T.length : Int) < 200 := by omega
              have hn2 := HN2.out
              rw [if_neg (fun h => h200 h.1)] at hn2
              have HN3 := Lib.hid hn2; clear hn2
              go_quiet (fail)
              obtain ⟨wc, hwc⟩ : ∃ wc, wa.drewN nq = wc := ⟨_, rfl⟩
              have hbx : Below wa.heap.size wa wc := hwc ▸ below_drewN (Below.refl _ _) nq
              rw [hwc]
              clear hwc k0 k1 k2 k3 q0 q1 q2 q3
              have HOX := Lib.hid (own_belowP HOA.out hbx)
              have hBx : Below w9.heap.size w9 wc := hBwa.trans (hbx.mono (by omega))
              have hzx := hbx.size
              obtain ⟨k0, k1, k2, k3⟩ := HB9.out.below hBx hz9
              have hwc : w.heap.size < wc.heap.size := by omega
              have u4 : wrap64 (wd + b.G) = wd + b.G := w64_id (by omega) (by omega)
              have u5 : wrap64 (x + (wd + b.G)) = x + (wd + b.G) := w64_id (by omega) (by omega)
              go_wp2
              go_roundw
              case rel => exact ⟨i + 1, by omega, by rw [HSX.out], by rw [HN3.out]; exact HOX.out, hBx⟩
              case measure => simp [intOf]; omega
          · obtain rfl : i = nx := by omega
            have hxb : ¬ x + wd ≤ b.W := fun h => hlti (hxl.2 h)
            have hxe : x ≤ b.W + 12000 := by
              rcases Nat.eq_zero_or_pos i with h0 | h0
              · have := HX0.out h0; omega
              · have h3 := (HL1.out (i - 1)).1 (by omega)
                have h4 := HXM.out h0
                omega
            have s1 : wrap64 (x + wd) = x + wd := w64_id (by omega) (by omega)
            have u4 : wrap64 (tl + b.G) = tl + b.G := w64_id (by omega) (by omega)
            have u5 : wrap64 (y + (tl + b.G)) = y + (tl + b.G) := w64_id (by omega) (by omega)
            have hfu := tk_full (f := f) (ok := ok) (nx := i) hlt
            have hrw := tk_row (f := f) (ok := ok) (nx := i) j
            obtain ⟨T, hT⟩ : ∃ T, tkL f ok i j i = T := ⟨_, rfl⟩
            rw [hT] at hlen hown hfu hrw
            obtain ⟨Av, cv, hvv, _⟩ := own_rdP hown
            subst hvv
            have HO := Lib.hid hown; clear hown hT
            have HFU := Lib.hid hfu; clear hfu
            have HRW := Lib.hid hrw; clear hrw hxl
            by_cases h200 : 200 ≤ T.length
            · have h200I : 200 ≤ (T.length : Int) := by omega
              go_wp2
              go_ret2
              rw [HS3.out]
              refine ⟨_, rfl, ?_, hB9.trans (hB.mono hB9.size)⟩
              show OwnP _ _ _ (tkL f ok i ny 0)
              rw [HFU.out h200]
              exact own_base HO.out hB9.size
            · have h200I : ¬ 200 ≤ (T.length : Int) := by omega
              go_wp2
              go_roundw
              case rel => exact ⟨j + 1, by omega, by rw [HSU.out], by rw [← HRW.out]; exact HO.out, hB⟩
              case measure => simp [intOf]; omega
      · obtain rfl : j = ny := by omega
        have hyb : ¬ y + tl ≤ b.H := fun h => hlt (hyl.2 h)
        have hye : y ≤ b.H + 12000 := by
          rcases Nat.eq_zero_or_pos j with h0 | h0
          · have := HYO.out h0; omega
          · have h3 := (HL2.out (j - 1)).1 (by omega)
            have h4 := HYM.out h0
            omega
        have s1 : wrap64 (y + tl) = y + tl := w64_id (by omega) (by omega)
        clear hyl
        go_wp2
        go_ret2
        rw [HS3.out]
        exact ⟨_, rfl, own_base HO.out hB9.size, hB9.trans (hB.mono hB9.size)⟩
end Go.Proofs.Ytcbiehnaomcfbaa

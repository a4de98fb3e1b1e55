/- Rows, in the program: the walk, where all is valid. -/
import Derived.Test.YtohlinbcbfgdfaaNW7
import Derived.BigQuiet
namespace Go.Proofs.Ytohlinbcbfgdfaa
open Go.RowKit

theorem ownP_snoc {w : World} {B : Nat} {v : Value} {R R' : List PL} {p : PL} (h : w.ownsRow B 52 4 v (R.length + 1) (flatP R ++ [.int .i64 p.part, .int .i64 p.X, .int .i64 p.Y, .bool p.t])) (e : R' = R ++ [p]) : OwnP w B v R' := by
  subst e
  show w.ownsRow B 52 4 v (R ++ [p]).length (flatP (R ++ [p]))
  rw [flatP_append, List.length_append]
  exact h
theorem boardB_facts {b : BD} (h : boardB b = true) : 1 ≤ b.W ∧ b.W ≤ 60000 ∧ 1 ≤ b.H ∧ b.H ≤ 60000 ∧ 0 ≤ b.G ∧ b.G ≤ 2000 ∧ b.F.length ≤ 10 := by
  simp only [boardB, betw, Bool.and_eq_true, decide_eq_true_eq] at h
  omega

set_option maxRecDepth 100000 in
set_option maxHeartbeats 8000000 in
theorem Rows_yes (b : BD) (A A2 : Option Addr) (c c2 : Nat) (ps : List PT) (k : Nat) (pt : PT) (w : World) (hF : RdR w w.heap.size A b.F) (hp : RdPP w w.heap.size A2 ps)
    (hbv : boardB b = true) (hpv : partsB ps = true) (hk : ps[k]? = some pt) (hv : validB pt.o = true) :
    Calls Try.prog 25 #[bdv b A c, .slice A2 ps.length c2, .int .i64 (k : Int)] w (RetP2 (rowsOf b pt k (nearW 1 0 (base0 pt)) (farW 1 0 (base0 pt)) (nearW 0 1 (base0 pt)) (farW 0 1 (base0 pt))).1 (rowsOf b pt k (nearW 1 0 (base0 pt)) (farW 1 0 (base0 pt)) (nearW 0 1 (base0 pt)) (farW 0 1 (base0 pt))).2 w) := by
  have HF := Lib.hid hF; clear hF
  have HP := Lib.hid hp; clear hp
  have hmx : Try.prog.follows .mixedOrders = true := by kernel_rfl
  obtain ⟨w1, w2, h1, h2, g1, g2, f10⟩ := boardB_facts hbv
  have hps : ps.length ≤ 60 := by simp only [partsB, Bool.and_eq_true, decide_eq_true_eq] at hpv; exact hpv.1
  have hkl : k < ps.length := (List.getElem?_eq_some_iff.1 hk).1
  obtain ⟨hvb, hlb⟩ := lyB_valid hv false
  have hbv0 : validB (base0 pt) = true := by rw [lyL_zero hv]; exact hvb
  have hends := ends_facts hbv0
  have hblen := validB_len' hbv0
  have hsp1 : ∀ (A5 : Option Addr) (c5 : Nat) (W : World), Rd W W.heap.size A5 (base0 pt) → Calls Try.prog 63 #[.slice A5 (base0 pt).length c5, .int .i64 1, .int .i64 0] W (Ret (.tuple #[.int .i64 (nearW 1 0 (base0 pt)), .int .i64 (farW 1 0 (base0 pt))]) W) := fun A5 c5 W h => span_any 1 0 A5 c5 _ W (by omega) (by omega) h
  have hsp2 : ∀ (A5 : Option Addr) (c5 : Nat) (W : World), Rd W W.heap.size A5 (base0 pt) → Calls Try.prog 63 #[.slice A5 (base0 pt).length c5, .int .i64 0, .int .i64 1] W (Ret (.tuple #[.int .i64 (nearW 0 1 (base0 pt)), .int .i64 (farW 0 1 (base0 pt))]) W) := fun A5 c5 W h => span_any 0 1 A5 c5 _ W (by omega) (by omega) h
  have hly : ∀ (x y : Int) (W : World), Below w.heap.size w W → Calls Try.prog 62 #[.slice A2 ps.length c2, .agg #[.int .i64 (k : Int), .int .i64 x, .int .i64 y, .bool false]] W (RetO (lyL pt.o x y false) W) := fun x y W h => lying_any A2 c2 ps k x y false pt W hk hv (HP.out.now h)
  have hly0 : ∀ (W : World), Below w.heap.size w W → Calls Try.prog 62 #[.slice A2 ps.length c2, .agg #[.int .i64 (k : Int), .int .i64 0, .int .i64 0, .bool false]] W (RetO (base0 pt) W) := fun W h => hly 0 0 W h
  have HB0 := Lib.hid hly0; clear hly0
  have HLY := Lib.hid hly; clear hly
  have HS1 := Lib.hid hsp1; clear hsp1
  have HS2 := Lib.hid hsp2; clear hsp2
  have hlen2 : ∀ x y, (lyL pt.o x y false).length ≤ 64 ∧ 0 < (lyL pt.o x y false).length := fun x y => by
    show ((lyB pt.o false).map _).length ≤ 64 ∧ 0 < ((lyB pt.o false).map _).length
    have := validB_len' hvb
    rw [List.length_map]; omega
  have HLL := Lib.hid hlen2; clear hlen2
  clear hvb hlb hbv0
  have HVB := Lib.hid hbv; clear hbv
  have HVP := Lib.hid hpv; clear hpv
  obtain ⟨o5, ho5⟩ : ∃ o5, base0 pt = o5 := ⟨_, rfl⟩
  rw [ho5] at hends hblen HB0 HS1 HS2 ⊢
  clear ho5
  generalize nearW 1 0 o5 = left at *
  generalize farW 1 0 o5 = right at *
  generalize nearW 0 1 o5 = low at *
  generalize farW 0 1 o5 = high at *
  obtain ⟨l1, l2, l3, l4, l5, l6⟩ := hends
  clear hk hv
  obtain ⟨w0, hw0⟩ : ∃ w0, w.alloc (.cells #[.int .i64 b.W, .int .i64 b.H, .int .i64 b.G, .slice A b.F.length c] 24) = w0 := ⟨_, rfl⟩
  have hB0 : Below w.heap.size w w0 := by rw [← hw0]; (repeat (first | exact Below.refl _ _ | assumption | refine Below.alloc ?_ (by first | exact Nat.le_refl _ | exact Below.size (by assumption) | omega | (simp <;> omega)) _ | refine Below.setCell ?_ (by first | exact Nat.le_refl _ | exact Below.size (by assumption) | omega | (simp <;> omega)) _ | refine below_drewN ?_ _ | refine Below.drew ?_))
  have hz0 : w0.heap.size = w.heap.size + 1 := by rw [← hw0]; simp
  have hbd : BdAt w0 w.heap.size b A c := by rw [← hw0]; exact BdAt.new w b A c
  have HBD := Lib.hid hbd
  obtain ⟨k0, k1, k2, k3⟩ := hbd
  have e1 : IntKind.i64.wrap ((ps.length : Int) - 1) = (ps.length : Int) - 1 := IntWalk.i64_in _ (by omega)
  have hbt : betw 0 (k : Int) ((ps.length : Int) - 1) = true := by unfold betw; simp; omega
  have HBT := Lib.hid hbt; clear hbt
  have hva : (boardB b && partsB ps) = true := by rw [HVB.out, HVP.out]; rfl
  have HVA := Lib.hid hva; clear hva
  go_enter Try.func25, Try.ntmps25
  go_wp2_with fail
  clear hw0
  refine (nvalid_any b A A2 c c2 ps _ (HF.out.now hB0) (HP.out.now hB0)).mono ?_
  rintro e w3 ⟨rfl, hb3⟩
  rw [HVA.out]
  have hB3 := hB0.trans (hb3.mono hB0.size)
  go_wp2_with fail
  refine (between_any 0 (k : Int) ((ps.length : Int) - 1) _).mono ?_
  rintro e w4 ⟨rfl, rfl⟩
  rw [HBT.out]
  go_wp2_with fail
  refine (HB0.out _ hB3).mono ?_
  rintro e w5 ⟨v5, rfl, hown5, hb5⟩
  obtain ⟨A5, c5, rfl, hr5⟩ := own_rd hown5
  have hB5 := hB3.trans (hb5.mono hB3.size)
  have hb05 : Below w0.heap.size w0 w5 := hb3.trans (hb5.mono hb3.size)
  clear hown5 hb3 hb5
  have HR5 := Lib.hid hr5; clear hr5
  go_wp2_with fail
  refine (HS1.out A5 c5 _ HR5.out).mono ?_
  rintro e w6 ⟨rfl, hb6⟩
  go_wp2_with fail
  refine (HS2.out A5 c5 _ (HR5.out.now hb6)).mono ?_
  rintro e w7 ⟨rfl, hb7⟩
  have hb57 := hb6.trans (hb7.mono hb6.size)
  have hB7 := hB5.trans (hb57.mono hB5.size)
  have hb07 := hb05.trans (hb57.mono hb05.size)
  clear hb6 hb7 hb57 hb05 k0 k1 k2 k3
  have HB7 := Lib.hid (HBD.out.below hb07 (by omega))
  obtain ⟨k0, k1, k2, k3⟩ := HB7.out
  have hz7 : w.heap.size < w7.heap.size := by have := hb07.size; omega
  have t1 : IntKind.i64.wrap (b.W + b.G) = b.W + b.G := IntWalk.i64_in _ (by omega)
  have t2 : IntKind.i64.wrap (b.H + b.G) = b.H + b.G := IntWalk.i64_in _ (by omega)
  have t3 : IntKind.i64.wrap (right - left) = right - left := IntWalk.i64_in _ (by omega)
  have t4 : IntKind.i64.wrap (high - low) = high - low := IntWalk.i64_in _ (by omega)
  have t5 : IntKind.i64.wrap (right - left + b.G) = right - left + b.G := IntWalk.i64_in _ (by omega)
  have t6 : IntKind.i64.wrap (high - low + b.G) = high - low + b.G := IntWalk.i64_in _ (by omega)
  have t7 : (b.W + b.G).tdiv (right - left + b.G) = ((boxN b.W (right - left) b.G : Nat) : Int) := by rw [Int.tdiv_eq_ediv_of_nonneg (by omega)]; exact boxN_div (by omega) (by omega) (by omega)
  have t8 : (b.H + b.G).tdiv (high - low + b.G) = ((boxN b.H (high - low) b.G : Nat) : Int) := by rw [Int.tdiv_eq_ediv_of_nonneg (by omega)]; exact boxN_div (by omega) (by omega) (by omega)
  go_upto_region 8 with fail
  go_quiet (fail)
  have hbn1 := boxN_le (len := b.W) (box := right - left) (gap := b.G) (by omega) (by omega) g1
  have hbn2 := boxN_le (len := b.H) (box := high - low) (gap := b.G) (by omega) (by omega) g1
  have hlt1 := fun j => boxN_lt (len := b.W) (box := right - left) (gap := b.G) (by omega) g1 j
  have hlt2 := fun j => boxN_lt (len := b.H) (box := high - low) (gap := b.G) (by omega) g1 j
  have hro : rowsOf b pt k left right low high = if 10000 < boxN b.W (right - left) b.G * boxN b.H (high - low) b.G then ([], 4) else ((rowL (stand b.G left low (right - left) (high - low) k) (free0 b.F pt) (boxN b.W (right - left) b.G) (boxN b.H (high - low) b.G) 0).take 200, 0) := rfl
  clear t1 t2 t3 t4 t5 t6 t7 t8
  generalize boxN b.W (right - left) b.G = nx at *
  generalize boxN b.H (high - low) b.G = ny at *
  have HRO := Lib.hid hro; clear hro
  have HL1 := Lib.hid hlt1; clear hlt1
  have HL2 := Lib.hid hlt2; clear hlt2
  have hm := mul_bd (a := (nx : Int)) (b := (ny : Int)) (A := 60001) (B := 60001) (by omega) (by omega) (by omega) (by omega)
  have n1 : wrap64 (nx : Int) = nx := w64_id (by omega) (by omega)
  have n2 : wrap64 (ny : Int) = ny := w64_id (by omega) (by omega)
  have n3 : wrap64 ((nx : Int) * (ny : Int)) = ((nx * ny : Nat) : Int) := by rw [w64_id (by omega) (by omega)]; simp
  rw [n1, n2]
  clear n1 n2 hm
  obtain ⟨mm, hmm⟩ : ∃ mm, nx * ny = mm := ⟨_, rfl⟩
  rw [hmm] at n3
  have hro2 := HRO.out
  rw [hmm] at hro2
  have HRO := Lib.hid hro2; clear hro2 hmm
  obtain ⟨w8, hw8⟩ : ∃ w8, w7.drewN nq = w8 := ⟨_, rfl⟩
  have hB8 : Below w.heap.size w w8 := hw8 ▸ below_drewN hB7 nq
  have hb78 : Below w7.heap.size w7 w8 := hw8 ▸ below_drewN (Below.refl _ _) nq
  rw [hw8]
  clear hw8 k0 k1 k2 k3
  have hz8 : w.heap.size < w8.heap.size := by have := hb78.size; omega
  have HB8 := Lib.hid (HB7.out.below hb78 hz7)
  by_cases hbig : 10000 < mm
  · have HS := HRO.out
    rw [if_pos hbig] at HS
    have HSS := Lib.hid HS; clear HS HRO
    go_wp2
    go_ret2
    rw [HSS.out]
    exact ⟨_, rfl, World.ownsRow_nil _ _ _ _, hB8⟩
  · have HS := HRO.out
    rw [if_neg hbig] at HS
    have HSS := Lib.hid HS; clear HS HRO
    obtain ⟨f, hf⟩ : ∃ f, stand b.G left low (right - left) (high - low) k = f := ⟨_, rfl⟩
    obtain ⟨ok, hok⟩ : ∃ ok, free0 b.F pt = ok := ⟨_, rfl⟩
    have hs2 := HSS.out
    rw [hf, hok] at hs2
    have HS3 := Lib.hid hs2; clear hs2 HSS
    have HFD := Lib.hid hf; clear hf
    have HOK := Lib.hid hok; clear hok
    obtain ⟨i0, hi, hz0', hz1, hz2⟩ := info_partsP Try.infoPlace
    have HJ := Lib.hid hi; clear hi
    go_wp2
    clear n3
    go_loopw [15, 16, 17, 18] (fun v yv _ _ wr => ∃ j : Nat, j ≤ ny ∧ yv = .int .i64 ((j : Int) * (high - low + b.G)) ∧ OwnP wr w8.heap.size v (rowL f ok nx j 0) ∧ (rowL f ok nx j 0).length < 200 ∧ Below w8.heap.size w8 wr) (fun _ yv _ _ _ => (b.H + 100000 - intOf yv).toNat)
    case atStart => exact ⟨0, Nat.zero_le _, by simp, World.ownsRow_nil _ _ _ _, by simp [rowL], Below.refl _ _⟩
    case round =>
      obtain ⟨j, hj, rfl, hown, hlen, hB⟩ := hrel
      have HO := Lib.hid hown; clear hown
      have hyl := HL2.out j
      have hsucc : (((j + 1 : Nat) : Int)) * (high - low + b.G) = (j : Int) * (high - low + b.G) + (high - low + b.G) := by rw [Int.natCast_add, Int.add_mul]; simp
      have hy0 : 0 ≤ (j : Int) * (high - low + b.G) := Int.mul_nonneg (by omega) (by omega)
      have hst : ∀ i, f j i = ⟨k, (i : Int) * (right - left + b.G) - left, (j : Int) * (high - low + b.G) - low, false⟩ := fun i => by rw [← HFD.out]; rfl
      have HST := Lib.hid hst; clear hst
      have hyz : j = 0 → (j : Int) * (high - low + b.G) = 0 := fun h => by subst h; simp
      have hym : 0 < j → (j : Int) * (high - low + b.G) = ((j - 1 : Nat) : Int) * (high - low + b.G) + (high - low + b.G) := fun h => by
        obtain ⟨m, rfl⟩ : ∃ m, j = m + 1 := ⟨j - 1, by omega⟩
        rw [Int.natCast_add, Int.add_mul]; simp
      obtain ⟨y, hy⟩ : ∃ y, (j : Int) * (high - low + b.G) = y := ⟨_, rfl⟩
      have hst2 := HST.out
      rw [hy] at hyl hsucc hy0 hst2 hyz hym ⊢
      have HYO := Lib.hid hyz; clear hyz
      have HYM := Lib.hid hym; clear hym
      have HST2 := Lib.hid hst2; clear hst2 HST hy
      have HSU := Lib.hid hsucc; clear hsucc
      obtain ⟨k0, k1, k2, k3⟩ := HB8.out.below hB hz8
      have hsB := hB.size
      have hwr : w.heap.size < wr.heap.size := by omega
      by_cases hlt : j < ny
      · have hyb : y + (high - low) ≤ b.H := hyl.1 hlt
        have s1 : wrap64 (y + high) = y + high := w64_id (by omega) (by omega)
        have s2 : wrap64 (y + high - low) = y + high - low := w64_id (by omega) (by omega)
        have s3 : y + high - low ≤ b.H := by omega
        clear hyl
        have HY := Lib.hid (And.intro hy0 hyb); clear hyb
        obtain ⟨wo, rfl⟩ : ∃ wo : World, wo = wr := ⟨_, rfl⟩
        go_wp2
        clear s1 s2 s3
        go_loopw [15, 17, 18] (fun v xv _ wr => ∃ i : Nat, i ≤ nx ∧ xv = .int .i64 ((i : Int) * (right - left + b.G)) ∧ OwnP wr w8.heap.size v (rowL f ok nx j i) ∧ (rowL f ok nx j i).length < 200 ∧ Below w8.heap.size w8 wr) (fun _ xv _ _ => (b.W + 100000 - intOf xv).toNat)
        case atStart => exact ⟨0, Nat.zero_le _, by simp, HO.out, hlen, hB⟩
        case round =>
          clear hlen hB HO k0 k1 k2 k3 hsB hwr
          obtain ⟨i, hi, rfl, hown, hlen, hB⟩ := hrel
          have HO := Lib.hid hown; clear hown
          have hxl := HL1.out i
          have hsuc : (((i + 1 : Nat) : Int)) * (right - left + b.G) = (i : Int) * (right - left + b.G) + (right - left + b.G) := by rw [Int.natCast_add, Int.add_mul]; simp
          have hx0 : 0 ≤ (i : Int) * (right - left + b.G) := Int.mul_nonneg (by omega) (by omega)
          have hfi := HST2.out i
          have hnx := rowL_next (f := f) (ok := ok) (nx := nx) j i
          have hxz : i = 0 → (i : Int) * (right - left + b.G) = 0 := fun h => by subst h; simp
          have hxm : 0 < i → (i : Int) * (right - left + b.G) = ((i - 1 : Nat) : Int) * (right - left + b.G) + (right - left + b.G) := fun h => by
            obtain ⟨m, rfl⟩ : ∃ m, i = m + 1 := ⟨i - 1, by omega⟩
            rw [Int.natCast_add, Int.add_mul]; simp
          obtain ⟨x, hx⟩ : ∃ x, (i : Int) * (right - left + b.G) = x := ⟨_, rfl⟩
          rw [hx] at hxl hsuc hx0 hfi hxz hxm ⊢
          clear hx
          have HX0 := Lib.hid hxz; clear hxz
          have HXM := Lib.hid hxm; clear hxm
          have hokf : ok (f j i) = !faultyB b.F (lyL pt.o (x - left) (y - low) false) := by rw [← HOK.out, hfi]; rfl
          have HSX := Lib.hid hsuc; clear hsuc
          have HFI := Lib.hid hfi; clear hfi
          have HNX := Lib.hid hnx; clear hnx
          have HOF := Lib.hid hokf; clear hokf
          obtain ⟨k0, k1, k2, k3⟩ := HB8.out.below hB hz8
          have hsB := hB.size
          have hwr : w.heap.size < wr.heap.size := by omega
          have hyb := HY.out.2
          by_cases hlti : i < nx
          · have hxb : x + (right - left) ≤ b.W := hxl.1 hlti
            have s1 : wrap64 (x + right) = x + right := w64_id (by omega) (by omega)
            have s2 : wrap64 (x + right - left) = x + right - left := w64_id (by omega) (by omega)
            have s3 : x + right - left ≤ b.W := by omega
            have s4 : wrap64 (x - left) = x - left := w64_id (by omega) (by omega)
            have s5 : wrap64 (y - low) = y - low := w64_id (by omega) (by omega)
            have hBa : Below w.heap.size w (wr.alloc (.cells #[.int .i64 (k : Int), .int .i64 (x - left), .int .i64 (y - low), .bool false] 52)) := (hB8.trans (hB.mono hB8.size)).alloc (by have := hB8.size; omega) _
            obtain ⟨wa, hwa⟩ : ∃ wa, wr.alloc (.cells #[.int .i64 (k : Int), .int .i64 (x - left), .int .i64 (y - low), .bool false] 52) = wa := ⟨_, rfl⟩
            have hba : Below wr.heap.size wr wa := by rw [← hwa]; (repeat (first | exact Below.refl _ _ | assumption | refine Below.alloc ?_ (by first | exact Nat.le_refl _ | exact Below.size (by assumption) | omega | (simp <;> omega)) _ | refine Below.setCell ?_ (by first | exact Nat.le_refl _ | exact Below.size (by assumption) | omega | (simp <;> omega)) _ | refine below_drewN ?_ _ | refine Below.drew ?_))
            have hPA : PlAt wa wr.heap.size ⟨k, x - left, y - low, false⟩ := by rw [← hwa]; exact PlAt.new wr ⟨k, x - left, y - low, false⟩
            have hza : wa.heap.size = wr.heap.size + 1 := by rw [← hwa]; simp
            rw [hwa] at hBa
            have HWA := Lib.hid hwa; clear hwa
            have HBA := Lib.hid hBa; clear hBa
            have HPA := Lib.hid hPA; clear hPA
            have HBDA := Lib.hid ((HB8.out.below hB hz8).below hba hwr)
            go_upto_region 19 with fail
            rw [HWA.out]
            clear HWA k0 k1 k2 k3 s1 s2 s3 s4 s5 hxl
            obtain ⟨k0, k1, k2, k3⟩ := HBDA.out
            obtain ⟨q0, q1, q2, q3⟩ := HPA.out
            have hwa : w.heap.size < wa.heap.size := by omega
            obtain ⟨L0, hL0⟩ : ∃ L0, lyL pt.o (x - left) (y - low) false = L0 := ⟨_, rfl⟩
            have hlly := HLY.out (x - left) (y - low)
            have hLb := HLL.out (x - left) (y - low)
            have hof := HOF.out
            rw [hL0] at hlly hLb hof
            have HL0 := Lib.hid hlly; clear hlly
            have HOF2 := Lib.hid hof; clear hof HOF hL0
            go_cut [117] (fun v wx => v = .bool (faultyB b.F L0) ∧ Below wa.heap.size wa wx)
            case first =>
              go_region_law (first | (go_simp; go_at_call 62; refine (HL0.out _ (below_drewN HBA.out 1)).mono ?_; rintro e w9 ⟨v9, rfl, hown9, hb9⟩; have hb9' : Below wa.heap.size wa w9 := below_of_drewN hb9; have hB9 := HBA.out.trans (hb9'.mono HBA.out.size); obtain ⟨m0, m1, m2, m3⟩ := HBDA.out.below hb9' hwa; obtain ⟨A9, c9, rfl, hr9⟩ := own_rd hown9; have HR9 := Lib.hid hr9; clear hr9 hown9 hb9) | (go_simp; go_at_call 41; refine (faulty_any b A A9 c c9 L0 _ (by omega) (by omega) (by omega) (HF.out.now hB9) HR9.out).mono ?_; rintro e w10 ⟨rfl, hb10⟩))
              all_goals
                go_wp2_with fail
                go_meet
                exact ⟨rfl, hb9'.trans (hb10.mono hb9'.size)⟩
            case rest =>
              obtain ⟨rfl, hbx⟩ := hcut
              have HOX := Lib.hid (own_belowP HO.out (hba.trans (hbx.mono (by omega))))
              have hBx : Below w8.heap.size w8 wc := hB.trans ((hba.trans (hbx.mono (by omega))).mono hsB)
              have hzx := hbx.size
              clear k0 k1 k2 k3 q0 q1 q2 q3
              obtain ⟨k0, k1, k2, k3⟩ := HB8.out.below hBx hz8
              obtain ⟨q0, q1, q2, q3⟩ := HPA.out.below hbx (by omega)
              have hwc : w.heap.size < wc.heap.size := by omega
              have hwc2 : wr.heap.size < wc.heap.size := by omega
              have u3 : wrap64 (right - left) = right - left := w64_id (by omega) (by omega)
              have u4 : wrap64 (right - left + b.G) = right - left + b.G := w64_id (by omega) (by omega)
              have u5 : wrap64 (x + (right - left + b.G)) = x + (right - left + b.G) := w64_id (by omega) (by omega)
              cases hfa : faultyB b.F L0
              · have HFA := Lib.hid hfa; clear hfa
                have hn2 := HNX.out
                rw [HOF2.out, HFA.out] at hn2
                have HN2 := Lib.hid hn2; clear hn2
                obtain ⟨R, hR⟩ : ∃ R, rowL f ok nx j i = R := ⟨_, rfl⟩
                have hR2 := HOX.out
                rw [hR] at hR2 hlen
                have hn4 : rowL f ok nx j (i + 1) = R ++ [⟨k, x - left, y - low, false⟩] := by rw [HN2.out, hR, HFI.out]; rfl
                have hn5 : (rowL f ok nx j (i + 1)).length = R.length + 1 := by rw [hn4]; simp
                have htk : (rowL f ok nx j (i + 1)).length = 200 → (rowL f ok nx ny 0).take 200 = rowL f ok nx j (i + 1) := rowL_take hlt (by omega)
                obtain ⟨R1, hR1⟩ : ∃ R1, rowL f ok nx j (i + 1) = R1 := ⟨_, rfl⟩
                rw [hR1] at hn4 hn5 htk
                have HN4 := Lib.hid hn4; clear hn4 HN2
                have HN5 := Lib.hid hn5; clear hn5
                have HTK := Lib.hid htk; clear htk
                have HR1 := Lib.hid hR1; clear hR1
                have HRO2 := Lib.hid hR2; clear hR2 hR
                by_cases h200 : R1.length = 200
                · go_wp2_with (at_builtin; refine wpList_append_own _ rfl _ _ 26 rfl w8.heap.size 52 i0 (.agg #[.int .i64 0, .int .i64 0, .int .i64 0, .bool false]) 4 32 Try.underlying26 HJ.out hz0' hz1 hz2 rfl (by decide) _ _ _ rfl (HRO2.out.alloc _) ⟨wc.heap.size, 0, none⟩ 1 1 [.int .i64 (k : Int), .int .i64 (x - left), .int .i64 (y - low), .bool false] rfl rfl (by intro j u hj; match j, hj with | 0, hj => (simp at hj; subst hj; simp [Addr.add]) | 1, hj => (simp at hj; subst hj; simp [Addr.add]) | 2, hj => (simp at hj; subst hj; simp [Addr.add]) | 3, hj => (simp at hj; subst hj; simp [Addr.add]) | j + 4, hj => simp at hj) (by intro u hu; simp at hu; rcases hu with rfl | rfl | rfl | rfl <;> rfl) (by unfold maxLen; omega) (by omega) (by simp; omega) ?_; intro v' w11 hown' hgrow _; have hB11 := below_grown (w1 := wc.alloc (.cells #[.int .i64 (k : Int), .int .i64 (x - left), .int .i64 (y - low), .bool false] 52)) (hBx.alloc (by omega) _) hgrow (fun j hj => (HRO2.out.lt j hj).1) (by simp; omega); clear k0 k1 k2 k3; obtain ⟨k0, k1, k2, k3⟩ := HB8.out.below hB11 hz8; have hw11 : w.heap.size < w11.heap.size := (by have := hB11.size; omega); have own12 := ownP_snoc (p := ⟨k, x - left, y - low, false⟩) hown' HN4.out; obtain ⟨Av, cv, hvv, _⟩ := own_rdP own12; subst hvv)
                  go_wp2
                  go_ret2
                  rw [HS3.out]
                  refine ⟨_, rfl, ?_, hB8.trans (hB11.mono hB8.size)⟩
                  show OwnP _ _ _ ((rowL f ok nx ny 0).take 200)
                  rw [HTK.out h200]
                  rw [h200] at own12
                  exact own_base own12 hB8.size
                · go_wp2_with (at_builtin; refine wpList_append_own _ rfl _ _ 26 rfl w8.heap.size 52 i0 (.agg #[.int .i64 0, .int .i64 0, .int .i64 0, .bool false]) 4 32 Try.underlying26 HJ.out hz0' hz1 hz2 rfl (by decide) _ _ _ rfl (HRO2.out.alloc _) ⟨wc.heap.size, 0, none⟩ 1 1 [.int .i64 (k : Int), .int .i64 (x - left), .int .i64 (y - low), .bool false] rfl rfl (by intro j u hj; match j, hj with | 0, hj => (simp at hj; subst hj; simp [Addr.add]) | 1, hj => (simp at hj; subst hj; simp [Addr.add]) | 2, hj => (simp at hj; subst hj; simp [Addr.add]) | 3, hj => (simp at hj; subst hj; simp [Addr.add]) | j + 4, hj => simp at hj) (by intro u hu; simp at hu; rcases hu with rfl | rfl | rfl | rfl <;> rfl) (by unfold maxLen; omega) (by omega) (by simp; omega) ?_; intro v' w11 hown' hgrow _; have hB11 := below_grown (w1 := wc.alloc (.cells #[.int .i64 (k : Int), .int .i64 (x - left), .int .i64 (y - low), .bool false] 52)) (hBx.alloc (by omega) _) hgrow (fun j hj => (HRO2.out.lt j hj).1) (by simp; omega); clear k0 k1 k2 k3; obtain ⟨k0, k1, k2, k3⟩ := HB8.out.below hB11 hz8; have hw11 : w.heap.size < w11.heap.size := (by have := hB11.size; omega); have own12 := ownP_snoc (p := ⟨k, x - left, y - low, false⟩) hown' HN4.out; obtain ⟨Av, cv, hvv, _⟩ := own_rdP own12; subst hvv)
                  go_wp2
                  go_roundw
                  case rel => exact ⟨i + 1, by omega, by rw [HSX.out], by rw [HR1.out]; exact own12, by rw [HR1.out]; have := HN5.out; omega, hB11⟩
                  case measure => simp [intOf]; omega
              · have HFA := Lib.hid hfa; clear hfa
                have hn2 := HNX.out
                rw [HOF2.out, HFA.out] at hn2
                have hn3 : rowL f ok nx j (i + 1) = rowL f ok nx j i := by rw [hn2]; simp
                have HN3 := Lib.hid hn3; clear hn2 hn3
                go_wp2
                go_roundw
                case rel => exact ⟨i + 1, by omega, by rw [HSX.out], by rw [HN3.out]; exact HOX.out, by rw [HN3.out]; exact hlen, hBx⟩
                case measure => simp [intOf]; omega
          · obtain rfl : i = nx := by omega
            have hxb : ¬ x + (right - left) ≤ b.W := fun h => hlti (hxl.2 h)
            have hxe : x ≤ b.W + 12000 := by
              rcases Nat.eq_zero_or_pos i with h0 | h0
              · have := HX0.out h0; omega
              · have h3 := (HL1.out (i - 1)).1 (by omega)
                have h4 := HXM.out h0
                omega
            have s1 : wrap64 (x + right) = x + right := w64_id (by omega) (by omega)
            have s2 : wrap64 (x + right - left) = x + right - left := w64_id (by omega) (by omega)
            have s3 : ¬ x + right - left ≤ b.W := by omega
            have u3 : wrap64 (high - low) = high - low := w64_id (by omega) (by omega)
            have u4 : wrap64 (high - low + b.G) = high - low + b.G := w64_id (by omega) (by omega)
            have hy0 := HY.out.1
            have u5 : wrap64 (y + (high - low + b.G)) = y + (high - low + b.G) := w64_id (by omega) (by omega)
            rw [rowL_row] at hlen
            have hown2 := HO.out
            rw [rowL_row] at hown2
            have HO3 := Lib.hid hown2; clear hown2
            go_wp2
            go_roundw
            case rel => exact ⟨j + 1, by omega, by rw [HSU.out], HO3.out, hlen, hB⟩
            case measure => simp [intOf]; omega
      · obtain rfl : j = ny := by omega
        have hyb : ¬ y + (high - low) ≤ b.H := fun h => hlt (hyl.2 h)
        have hye : y ≤ b.H + 12000 := by
          rcases Nat.eq_zero_or_pos j with h0 | h0
          · have := HYO.out h0; omega
          · have h3 := (HL2.out (j - 1)).1 (by omega)
            have h4 := HYM.out h0
            omega
        have s1 : wrap64 (y + high) = y + high := w64_id (by omega) (by omega)
        have s2 : wrap64 (y + high - low) = y + high - low := w64_id (by omega) (by omega)
        have s3 : ¬ y + high - low ≤ b.H := by omega
        go_wp2
        go_ret2
        rw [HS3.out]
        refine ⟨_, rfl, ?_, hB8.trans (hB.mono hB8.size)⟩
        show OwnP _ _ _ ((rowL f ok nx j 0).take 200)
        rw [List.take_of_length_le (by omega)]
        exact own_base HO.out hB8.size
end Go.Proofs.Ytohlinbcbfgdfaa

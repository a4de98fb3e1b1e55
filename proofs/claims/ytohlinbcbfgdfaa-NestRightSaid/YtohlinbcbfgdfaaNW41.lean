/- The law NestRight: what is counted and left, and the walk. -/
import Derived.Test.YtohlinbcbfgdfaaMathNL
import Derived.Test.YtohlinbcbfgdfaaNW35
namespace Go.Proofs.Ytohlinbcbfgdfaa
open Go.RowKit Go.Shelf

theorem area_nonneg {o : List XY} (h : validB o = true) : 0 < areaW o := by rw [area_eq h]; exact (twice_pos h).1
theorem areas_take {ps : List PT} (hp : partsB ps = true) {L : List PL} (hr : ∀ p ∈ L, rightB ps p = true) : ∀ k, 0 ≤ ((L.take k).map fun p => areaW (partAt ps p.part).o).sum ∧ ((L.take k).map fun p => areaW (partAt ps p.part).o).sum ≤ (L.map fun p => areaW (partAt ps p.part).o).sum := by
  have key : ∀ M : List PL, (∀ p ∈ M, rightB ps p = true) → 0 ≤ (M.map fun p => areaW (partAt ps p.part).o).sum := by
    intro M
    induction M with
    | nil => intro _; exact Int.le_refl _
    | cons p M ih =>
      intro hM
      obtain ⟨j, pt, _, hk, hat, _⟩ := placed_get (rightB_placed (hM p List.mem_cons_self))
      have := area_nonneg (partsB_each hp (List.mem_of_getElem? hk))
      rw [List.map_cons, List.sum_cons, hat]
      have := ih (fun q hq => hM q (List.mem_cons_of_mem _ hq))
      omega
  intro k
  have h1 := key (L.take k) (fun p hp => hr p (List.mem_of_mem_take hp))
  have h2 := key (L.drop k) (fun p hp => hr p (List.mem_of_mem_drop hp))
  refine ⟨h1, ?_⟩
  conv => rhs; rw [← List.take_append_drop k L, List.map_append, List.sum_append]
  omega
theorem was_right {b : BD} {ps : List PT} {L : List PL} (h : (checkS b ps L).2 = 0) : (wasteS b ps L).2 = 0 ∧ 0 ≤ (wasteS b ps L).1 := by
  have hok := ok_of h
  have hle := areas_le hok
  obtain ⟨b1, b2, b3, b4, _, _, _⟩ := boardB_facts hok.hb
  have hm := mul_bd (a := 2 * b.W) (b := b.H) (A := 120000) (B := 60000) (by omega) (by omega) (by omega) (by omega)
  unfold wasteS
  rw [if_pos h]
  refine ⟨rfl, ?_⟩
  have hat := areas_take hok.hp (fun p hp => (hok.each p hp).1)
  have key : ∀ k, k ≤ L.length → wasTo b ps L k = 2 * b.W * b.H - ((L.take k).map fun p => areaW (partAt ps p.part).o).sum := by
    intro k
    induction k with
    | zero => intro _; show 2 * b.W * b.H = _ - 0; omega
    | succ k ih =>
      intro hk
      obtain ⟨p, hp⟩ := getElem?_of_lt (show k < L.length by omega)
      have h1 := hat (k + 1)
      rw [wasTo_succ hp, ih (by omega)]
      rw [take_succ_of hp, List.map_append, List.sum_append] at h1 ⊢
      simp only [List.map_cons, List.map_nil, List.sum_cons, List.sum_nil, Int.add_zero] at h1 ⊢
      have h2 := hat k
      rw [w64_id (by omega) (by omega)]
      omega
  rw [key _ (Nat.le_refl _), List.take_length]
  show 0 ≤ _
  omega
def ofPart (i : Nat) (L : List PL) : List PL := L.filter fun p => p.part.toNat == i
theorem cnt_eq {n : Nat} {L : List PL} (hL : L.length ≤ 200) (i : Nat) (hi : i < n) : ∀ k, k ≤ L.length → (cntTo n L k)[i]? = some ((ofPart i (L.take k)).length : Int)
  | 0, _ => by unfold cntTo ofPart; simp [hi]
  | k + 1, h => by
    obtain ⟨p, hp⟩ := getElem?_of_lt (show k < L.length by omega)
    have ih := cnt_eq hL i hi k (by omega)
    have hle : (ofPart i (L.take k)).length ≤ 200 := by
      have := List.length_filter_le (fun p : PL => p.part.toNat == i) (L.take k)
      unfold ofPart
      rw [List.length_take] at this
      omega
    rw [cntTo_succ hp]
    have hof : ofPart i (L.take (k + 1)) = ofPart i (L.take k) ++ (if p.part.toNat == i then [p] else []) := by
      unfold ofPart
      rw [take_succ_of hp, List.filter_append, List.filter_cons, List.filter_nil]
    rw [hof, List.length_append]
    by_cases hpi : p.part.toNat = i
    · rw [hpi, List.getElem?_set_self (by have := (List.getElem?_eq_some_iff.1 ih).1; exact this), ih]
      simp only [beq_self_eq_true, if_true, Option.getD_some, List.length_cons, List.length_nil]
      rw [w64_id (by omega) (by omega)]
      congr 1
    · rw [List.getElem?_set_ne hpi, ih, if_neg (by simpa using hpi)]
      simp
theorem count_areas {ps : List PT} (hp : partsB ps = true) {i : Nat} {pt : PT} (hi : ps[i]? = some pt) : ∀ L : List PL, (∀ p ∈ L, rightB ps p = true) → ((ofPart i L).length : Int) * areaW pt.o ≤ (L.map fun p => areaW (partAt ps p.part).o).sum
  | [], _ => by show (0 : Int) * _ ≤ 0; omega
  | p :: L, hr => by
    have ih := count_areas hp hi L (fun q hq => hr q (List.mem_cons_of_mem _ hq))
    obtain ⟨j, qt, hj, hk, hat, _⟩ := placed_get (rightB_placed (hr p List.mem_cons_self))
    have hpos := area_nonneg (partsB_each hp (List.mem_of_getElem? hk))
    rw [List.map_cons, List.sum_cons, hat]
    unfold ofPart at ih ⊢
    rw [List.filter_cons]
    by_cases h : p.part.toNat == i
    · rw [if_pos h, List.length_cons]
      have : j = i := by have := of_decide_eq_true (p := p.part.toNat = i) (by simpa using h); omega
      subst this
      rw [hi] at hk
      obtain rfl := Option.some.inj hk
      have e : (((List.filter (fun p => p.part.toNat == j) L).length + 1 : Nat) : Int) * areaW pt.o = ((List.filter (fun p => p.part.toNat == j) L).length : Int) * areaW pt.o + areaW pt.o := by push_cast; grind
      rw [e]
      omega
    · rw [if_neg h]
      omega
theorem count_right {b : BD} {ps : List PT} {L : List PL} (h : (checkS b ps L).2 = 0) : (countS b ps L).2 = 0 ∧ (countS b ps L).1.length = ps.length ∧ ∀ (i : Nat) (c : Int), (countS b ps L).1[i]? = some c → (boundS b ps (i : Int)).2 = 0 ∧ c ≤ (boundS b ps (i : Int)).1 := by
  have hok := ok_of h
  have hle := areas_le hok
  obtain ⟨b1, b2, b3, b4, _, _, _⟩ := boardB_facts hok.hb
  have hlen := cntTo_len ps.length L L.length (Nat.le_refl _)
  unfold countS
  rw [if_pos h]
  refine ⟨rfl, hlen, fun i c hc => ?_⟩
  have hi : i < ps.length := by have := (List.getElem?_eq_some_iff.1 hc).1; dsimp only at this; omega
  obtain ⟨pt, hpt⟩ := getElem?_of_lt hi
  have hv := partsB_each hok.hp (List.mem_of_getElem? hpt)
  have hpos := area_nonneg hv
  have hc2 := cnt_eq hok.hl i hi L.length (Nat.le_refl _)
  rw [List.take_length] at hc2
  have hca := count_areas hok.hp hpt L (fun p hp => (hok.each p hp).1)
  dsimp only at hc
  rw [hc2] at hc
  obtain rfl := Option.some.inj hc
  have hokp : okPart b ps (i : Int) = true := by unfold okPart; simp [hok.hb, hok.hp, hi]
  unfold boundS
  rw [if_pos hokp]
  refine ⟨rfl, ?_⟩
  rw [show (i : Int).toNat = i from rfl, hpt]
  show _ ≤ (2 * b.W * b.H).tdiv (areaW pt.o)
  have h0 : 0 ≤ 2 * b.W * b.H := Int.mul_nonneg (by omega) (by omega)
  rw [Int.tdiv_eq_ediv_of_nonneg h0]
  exact (Int.le_ediv_iff_mul_le hpos).2 (by omega)

theorem rdl_drop {w : World} {B b off : Nat} {l : List PL} (h : RdL w B (some ⟨b, off, none⟩) l) (k : Nat) : RdL w B (some ⟨b, off + k * 4, none⟩) (l.drop k) := by
  intro i p hp
  rw [List.getElem?_drop] at hp
  obtain ⟨b', off', hA, hb, h0, h1, h2, h3⟩ := h _ p hp
  obtain ⟨rfl, rfl⟩ : b = b' ∧ off = off' := by simpa using hA
  rw [show off + (k + i) * 4 = off + k * 4 + i * 4 by omega] at h0 h1 h2 h3
  exact ⟨b, off + k * 4, rfl, hb, h0, h1, h2, h3⟩
theorem rdl_take {w : World} {B : Nat} {A : Option Addr} {l : List PL} (h : RdL w B A l) (k : Nat) : RdL w B A (l.take k) := by
  intro i p hp
  have hp' : l[i]? = some p := by
    rw [List.getElem?_take] at hp
    split at hp
    · exact hp
    · cases hp
  exact h i p hp'
theorem own_turned {w : World} {B n m : Nat} {v : Value} {L M : List PL} (h : w.ownsRow B 52 4 v (0 + (L.length - m) + n) (([] ++ flatP (L.drop m)) ++ flatP (L.take n))) (hn : n ≤ L.length) (hm : n + 1 = m) (e : L.drop (n + 1) ++ L.take n = M) : OwnP w B v M := by
  subst hm e
  show w.ownsRow B 52 4 v (L.drop (n + 1) ++ L.take n).length (flatP (L.drop (n + 1) ++ L.take n))
  have e1 : (L.drop (n + 1) ++ L.take n).length = 0 + (L.length - (n + 1)) + n := by rw [List.length_append, List.length_drop, List.length_take]; omega
  rw [e1, flatP_append]
  exact h

theorem own_turned2 {w : World} {B n m : Nat} {v : Value} {L M : List PL} (h : w.ownsRow B 52 4 v (0 + 0 + n) (([] ++ []) ++ flatP (L.take n))) (hn : n ≤ L.length) (hm : n + 1 = m) (hl : L.length ≤ m) (e : L.drop (n + 1) ++ L.take n = M) : OwnP w B v M := by
  subst hm e
  have e0 : L.drop (n + 1) = [] := List.drop_eq_nil_of_le hl
  show w.ownsRow B 52 4 v (L.drop (n + 1) ++ L.take n).length (flatP (L.drop (n + 1) ++ L.take n))
  rw [e0]
  have e1 : ([] ++ L.take n).length = 0 + 0 + n := by rw [List.length_append, List.length_nil, List.length_take]; omega
  rw [e1]
  exact h
set_option maxRecDepth 100000 in
set_option maxHeartbeats 4000000 in
theorem lawRight_any (b : BD) (A A2 A3 : Option Addr) (c c2 c3 : Nat) (ps : List PT) (L : List PL) (n0 : Int) (w : World) (hn0 : 0 ≤ n0) (hn1 : n0 ≤ 255) (hc3 : L.length ≤ c3) (hF : RdR w w.heap.size A b.F) (hp : RdPP w w.heap.size A2 ps) (hl : RdL w w.heap.size A3 L) :
    Calls Try.prog 4 #[deskw b A c A2 ps.length c2 A3 L.length c3, .int .u8 n0] w (Ret (.bool true) w) := by
  have HF := Lib.hid hF; clear hF
  have HP := Lib.hid hp; clear hp
  have HL := Lib.hid hl; clear hl
  have hmx : Try.prog.follows .mixedOrders = true := by kernel_rfl
  obtain ⟨w0, hw0⟩ : ∃ w0, w.alloc (.cells #[.int .i64 b.W, .int .i64 b.H, .int .i64 b.G, .slice A b.F.length c, .slice A2 ps.length c2, .slice A3 L.length c3] 28) = w0 := ⟨_, rfl⟩
  have hB0 : Below w.heap.size w w0 := by rw [← hw0]; (repeat (first | exact Below.refl _ _ | assumption | refine Below.alloc ?_ (by first | exact Nat.le_refl _ | exact Below.size (by assumption) | omega | (simp <;> omega)) _ | refine Below.setCell ?_ (by first | exact Nat.le_refl _ | exact Below.size (by assumption) | omega | (simp <;> omega)) _ | refine below_drewN ?_ _ | refine Below.drew ?_))
  have hz0 : w0.heap.size = w.heap.size + 1 := by rw [← hw0]; simp
  have HDK := Lib.hid (show DkAt w0 w.heap.size b A c A2 ps.length c2 A3 L.length c3 by rw [← hw0]; exact DkAt.new w b A A2 A3 c _ c2 _ c3)
  obtain ⟨k0, k1, k2, k3, k4, k5⟩ := HDK.out
  obtain ⟨i0, hi0, hz0', hz1', hz2'⟩ := info_partsP Try.infoPlace
  have HJ := Lib.hid hi0; clear hi0
  obtain ⟨f, hf⟩ : ∃ f, (checkS b ps L).2 = f := ⟨_, rfl⟩
  have hfi : (f = 0 → (checkS b ps L).2 = 0) := fun h => by rw [hf, h]
  obtain ⟨⟨nn, ff⟩, hnn⟩ : ∃ r, checkS b ps L = r := ⟨_, rfl⟩
  rw [hnn] at hf
  dsimp only at hf
  subst hf
  have HFI := Lib.hid hfi; clear hfi
  have HNN := Lib.hid hnn; clear hnn
  go_enter Try.func4, Try.ntmps4
  go_wp2_with fail
  clear hw0
  refine (few_any b A A2 A3 c c2 c3 ps L _ (HP.out.now hB0) (HL.out.now hB0)).mono ?_
  rintro e' w1 ⟨rfl, hb1⟩
  have hB1 := hB0.trans (hb1.mono hB0.size)
  cases hfw : fewB ps L
  · have HFW := Lib.hid hfw; clear hfw
    go_wp2_with fail
    refine (nawake_any _).mono ?_
    rintro e' w2 ⟨rfl, hb2⟩
    go_wp2
    go_ret
    exact Ret.mk rfl (hB1.trans (hb2.mono hB1.size))
  have HFW := Lib.hid hfw; clear hfw k0 k1 k2 k3 k4 k5
  obtain ⟨k0, k1, k2, k3, k4, k5⟩ := HDK.out.below hb1 (by omega)
  have hz1 : w.heap.size < w1.heap.size := by have := hb1.size; omega
  go_wp2_with fail
  refine (Check_any b A A2 A3 c c2 c3 ps L _ (HF.out.now hB1) (HP.out.now hB1) (HL.out.now hB1)).mono ?_
  rintro e' w2 ⟨rfl, hb2⟩
  rw [HNN.out]
  have hb02 := hb1.trans (hb2.mono hb1.size)
  have hB2 := hB1.trans (hb2.mono hB1.size)
  clear k0 k1 k2 k3 k4 k5
  have hz2 : w.heap.size < w2.heap.size := by have := hb02.size; omega
  by_cases hf0 : ff = 0
  case neg =>
    have hf0b : (ff == (0 : Int)) = false := by simpa using hf0
    go_wp2_with fail
    refine (nawake_any _).mono ?_
    rintro e' w3 ⟨rfl, hb3⟩
    go_wp2
    go_ret
    exact Ret.mk rfl (hB2.trans (hb3.mono hB2.size))
  subst hf0
  have hck := HFI.out rfl
  have hwr := was_right hck
  have hcr := count_right hck
  have hrl := checkS_ok hck
  have hll := hrl.hl
  have hpl := partsB_len hrl.hp
  have hless := fun k p (hk : L[k]? = some p) => right_less hck hk
  obtain ⟨⟨z, g⟩, hZ⟩ : ∃ r, wasteS b ps L = r := ⟨_, rfl⟩
  obtain ⟨⟨N, h⟩, hN⟩ : ∃ r, countS b ps L = r := ⟨_, rfl⟩
  rw [hZ] at hwr
  rw [hN] at hcr
  dsimp only at hwr hcr
  obtain ⟨hg0, hz0z⟩ := hwr
  obtain ⟨hh0, hNl, hNb⟩ := hcr
  subst hg0 hh0
  have HZ := Lib.hid hZ; clear hZ
  have HN := Lib.hid hN; clear hN
  have HNL := Lib.hid hNl; clear hNl
  have HNB := Lib.hid hNb; clear hNb
  have HLS := Lib.hid hless; clear hless hck hrl
  have hznz : ¬ z < 0 := by omega
  obtain ⟨k0, k1, k2, k3, k4, k5⟩ := HDK.out.below hb02 (by omega)
  go_wp2_with fail
  refine (Waste_any b A A2 A3 c c2 c3 ps L _ (HF.out.now hB2) (HP.out.now hB2) (HL.out.now hB2)).mono ?_
  rintro e' w3 ⟨rfl, hb3⟩
  rw [HZ.out]
  have hb03 := hb02.trans (hb3.mono hb02.size)
  have hB3 := hB2.trans (hb3.mono hB2.size)
  have hz3 : w.heap.size < w3.heap.size := by have := hb03.size; omega
  clear k0 k1 k2 k3 k4 k5
  obtain ⟨k0, k1, k2, k3, k4, k5⟩ := HDK.out.below hb03 (by omega)
  go_wp2_with fail
  refine (Count_any b A A2 A3 c c2 c3 ps L _ (HF.out.now hB3) (HP.out.now hB3) (HL.out.now hB3)).mono ?_
  rintro e' w4 ⟨A5, c5, rfl, hr5, hb4⟩
  rw [HN.out] at hr5 ⊢
  dsimp only at hr5 ⊢
  have hb04 := hb03.trans (hb4.mono hb03.size)
  have hB4 := hB3.trans (hb4.mono hB3.size)
  have hz4 : w.heap.size < w4.heap.size := by have := hb04.size; omega
  have HR5 := Lib.hid hr5; clear hr5 k0 k1 k2 k3 k4 k5
  have HDK4 := Lib.hid (HDK.out.below hb04 (by omega))
  rw [HNL.out]
  obtain ⟨k0, k1, k2, k3, k4, k5⟩ := HDK4.out
  go_wp2
  clear k0 k1 k2 k3 k4 k5
  go_loopw [11, 12, 13, 14, 77] (fun _ _ _ _ i wr => ∃ k : Nat, k ≤ ps.length ∧ i = .int .i64 k ∧ Below w4.heap.size w4 wr) (fun _ _ _ _ i _ => ps.length - (intOf i).toNat)
  case atStart => exact ⟨0, Nat.zero_le _, rfl, Below.refl _ _⟩
  case round =>
    obtain ⟨k, hk, rfl, hB⟩ := hrel
    have hsB := hB.size
    have hBr := hB4.trans (hB.mono hB4.size)
    by_cases hlt : k < ps.length
    · obtain ⟨v, hv⟩ := getElem?_of_lt (show k < N.length by rw [HNL.out]; exact hlt)
      obtain ⟨b1, off, hA, hb1', d0⟩ := (HR5.out.now hB) k v hv
      have hbd := HNB.out k v hv
      subst hA
      obtain ⟨⟨q, g⟩, hq⟩ : ∃ r, boundS b ps (k : Int) = r := ⟨_, rfl⟩
      rw [hq] at hbd
      obtain ⟨hg0, hvq⟩ := hbd
      dsimp only at hg0 hvq
      subst hg0
      have hnvq : ¬ q < v := by omega
      have HQ := Lib.hid hq; clear hq hv
      obtain ⟨k0, k1, k2, k3, k4, k5⟩ := HDK4.out.below hB hz4
      have hzr : w.heap.size < wr.heap.size := by omega
      go_wp2_with fail
      refine (Bound_any b A A2 c c2 ps (k : Int) _ (HF.out.now hBr) (HP.out.now hBr)).mono ?_
      rintro e' w6 ⟨rfl, hb6⟩
      rw [HQ.out]
      clear k0 k1 k2 k3 k4 k5 d0
      go_wp2
      go_roundw
      case rel => exact ⟨k + 1, by omega, by go_num, hB.trans (hb6.mono hsB)⟩
      case measure => simp [intOf]; omega
    · obtain rfl : k = ps.length := by omega
      have HDKr := Lib.hid (HDK4.out.below hB hz4)
      have hzr : w.heap.size < wr.heap.size := by omega
      obtain ⟨k0, k1, k2, k3, k4, k5⟩ := HDKr.out
      by_cases hL0 : L.length = 0
      · have hLI : ((L.length : Int) == 0) = true := by simp [hL0]
        go_wp2_with fail
        refine (nawake_any _).mono ?_
        rintro e' w6 ⟨rfl, hb6⟩
        go_wp2
        go_ret
        exact Ret.mk rfl (hBr.trans (hb6.mono hBr.size))
      have hLI : ((L.length : Int) == 0) = false := by simp [hL0]
      obtain ⟨n, hn⟩ : ∃ n, n0.toNat % L.length = n := ⟨_, rfl⟩
      have hnl : n < L.length := by rw [← hn]; exact Nat.mod_lt _ (by omega)
      have e2 : n0.tmod (L.length : Int) = (n : Int) := by
        rw [tmod_pos hn0, ← hn, Int.natCast_emod]
        congr 1
        omega
      have HNn := Lib.hid hn; clear hn
      obtain ⟨p, hp⟩ := getElem?_of_lt hnl
      obtain ⟨l1, l2⟩ := HLS.out n p hp
      obtain ⟨bL, offL, hA3, hbL, p0, p1, p2, p3⟩ := HL.out n p hp
      subst hA3
      obtain ⟨M, hM⟩ : ∃ M, L.drop (n + 1) ++ L.take n = M := ⟨_, rfl⟩
      have hMl : M.length = L.length - 1 := by rw [← hM, List.length_append, List.length_drop, List.length_take]; omega
      rw [hM] at l1 l2
      have HM := Lib.hid hM; clear hM
      have HML := Lib.hid hMl; clear hMl
      have HL1 := Lib.hid l1; clear l1
      have HL2 := Lib.hid l2; clear l2
      have HP0 := Lib.hid (And.intro p0 (And.intro p1 (And.intro p2 p3))); clear p0 p1 p2 p3 hp
      have hb44 : Below wr.heap.size wr wr := Below.refl _ _
      have HKP : Hid (∀ w', Below wr.heap.size wr w' → w'.cell? ⟨w.heap.size, 5, none⟩ = some (.slice (some ⟨bL, offL, none⟩) L.length c3)) := fun w' hC => by obtain ⟨_, _, _, _, _, a5⟩ := HDKr.out.below hC hzr; exact a5
      have HRL := Lib.hid (HL.out.now hBr)
      obtain ⟨m, hm⟩ : ∃ m, n + 1 = m := ⟨_, rfl⟩
      have hk1 : m ≤ L.length := by omega
      have hk2 : m ≤ c3 := by omega
      have hI1 : IntKind.i64.wrap ((n : Int) + 1) = (m : Int) := by rw [← hm, IntKind.wrap_i64]; push_cast; omega
      have hI2 : (0 : Int) ≤ (m : Int) := by omega
      have hI3 : (m : Int) ≤ (L.length : Int) := by omega
      have hI4 : (m : Int) ≤ (c3 : Int) := by omega
      have hI5 : (0 : Int) ≤ (n : Int) := by omega
      have hI6 : (n : Int) ≤ (c3 : Int) := by omega
      have HMM := Lib.hid hm; clear hm
      have hk3 : n ≤ L.length := by omega
      have hk4 : n ≤ c3 := by omega
      go_wp2
      clear k0 k1 k2 k3 k4 k5
      go_cut [16] (fun v wx' => ∃ A6 c6, v = .slice A6 M.length c6 ∧ RdL wx' wx'.heap.size A6 M ∧ Below wr.heap.size wr wx')
      case first =>
        by_cases hne : c3 = m
        · subst hne
          go_region_held3 (fun w' => w'.cell? ⟨w.heap.size, 5, none⟩ = some (.slice (some ⟨bL, offL, none⟩) L.length c3)) (first | exact HKP.out _ hb6' | exact HKP.out _ hb5' | exact HKP.out _ (by (repeat (first | exact Below.refl _ _ | assumption | refine Below.alloc ?_ (by first | exact Nat.le_refl _ | exact Below.size (by assumption) | omega | (simp <;> omega)) _ | refine Below.setCell ?_ (by first | exact Nat.le_refl _ | exact Below.size (by assumption) | omega | (simp <;> omega)) _ | refine below_drewN ?_ _ | refine Below.drew ?_)))) (first | (have hguard := HO5.out; clear hguard; refine step_append_own _ rfl _ _ 26 rfl wr.heap.size 52 i0 (.agg #[.int .i64 0, .int .i64 0, .int .i64 0, .bool false]) 4 32 Try.underlying26 HJ.out hz0' hz1' hz2' rfl (by decide) _ _ _ rfl HO5.out ⟨bL, offL, none⟩ n c3 (flatP (L.take n)) rfl (by rw [flatP_length, List.length_take]; omega) (rdl_cells (rdl_take (HRL.out.below hb5') n)) (fun u hu => flatP_one hu) (by unfold Go.maxLen; omega) (by omega) (by have := hb5'.size; omega) ?_; intro v6 w6 hown6 hgrow6 _; have hb6' : Below wr.heap.size wr w6 := below_grown hb5' hgrow6 (fun k hk => (HO5.out.lt k hk).1) (by have := hb5'.size; omega); have own6 : OwnP w6 wr.heap.size v6 M := own_turned2 hown6 hk3 HMM.out hc3 HM.out; obtain ⟨A6, c6, hvv, hr6⟩ := own_rdP own6; subst hvv; have HR6 := Lib.hid hr6; clear hr6 own6 hown6 hgrow6) | (refine step_append_own _ rfl _ _ 26 rfl wr.heap.size 52 i0 (.agg #[.int .i64 0, .int .i64 0, .int .i64 0, .bool false]) 4 32 Try.underlying26 HJ.out hz0' hz1' hz2' rfl (by decide) _ 0 [] rfl (by first | exact own_built wr _ (Nat.le_refl _) | exact (own_built wr _ (Nat.le_refl _)).drew) ⟨bL, offL, none⟩ 0 0 [] rfl rfl (by intro j u hj; cases hj) (fun u hu => by cases hu) (by unfold Go.maxLen; omega) (by omega) (by first | (simp; done) | (simp; omega)) ?_; intro v5 w5 hown5 hgrow5 _; have hb5' : Below wr.heap.size wr w5 := below_grown (by (repeat (first | exact Below.refl _ _ | assumption | refine Below.alloc ?_ (by first | exact Nat.le_refl _ | exact Below.size (by assumption) | omega | (simp <;> omega)) _ | refine Below.setCell ?_ (by first | exact Nat.le_refl _ | exact Below.size (by assumption) | omega | (simp <;> omega)) _ | refine below_drewN ?_ _ | refine Below.drew ?_))) hgrow5 (fun k hk => by first | exact ((own_built wr wr.heap.size (Nat.le_refl _)).lt k hk).1) (by first | (simp; done) | (simp; omega)); have HO5 := Lib.hid hown5; clear hown5 hgrow5))
          all_goals
            go_wp2_with fail
            go_meet
            exact ⟨A6, c6, rfl, HR6.out, hb6'⟩
        · go_region_held3 (fun w' => w'.cell? ⟨w.heap.size, 5, none⟩ = some (.slice (some ⟨bL, offL, none⟩) L.length c3)) (first | exact HKP.out _ hb6' | exact HKP.out _ hb5' | exact HKP.out _ (by (repeat (first | exact Below.refl _ _ | assumption | refine Below.alloc ?_ (by first | exact Nat.le_refl _ | exact Below.size (by assumption) | omega | (simp <;> omega)) _ | refine Below.setCell ?_ (by first | exact Nat.le_refl _ | exact Below.size (by assumption) | omega | (simp <;> omega)) _ | refine below_drewN ?_ _ | refine Below.drew ?_)))) (first | (have hguard := HO5.out; clear hguard; refine step_append_own _ rfl _ _ 26 rfl wr.heap.size 52 i0 (.agg #[.int .i64 0, .int .i64 0, .int .i64 0, .bool false]) 4 32 Try.underlying26 HJ.out hz0' hz1' hz2' rfl (by decide) _ _ _ rfl HO5.out ⟨bL, offL, none⟩ n c3 (flatP (L.take n)) rfl (by rw [flatP_length, List.length_take]; omega) (rdl_cells (rdl_take (HRL.out.below hb5') n)) (fun u hu => flatP_one hu) (by unfold Go.maxLen; omega) (by omega) (by have := hb5'.size; omega) ?_; intro v6 w6 hown6 hgrow6 _; have hb6' : Below wr.heap.size wr w6 := below_grown hb5' hgrow6 (fun k hk => (HO5.out.lt k hk).1) (by have := hb5'.size; omega); have own6 : OwnP w6 wr.heap.size v6 M := own_turned hown6 hk3 HMM.out HM.out; obtain ⟨A6, c6, hvv, hr6⟩ := own_rdP own6; subst hvv; have HR6 := Lib.hid hr6; clear hr6 own6 hown6 hgrow6) | (refine step_append_own _ rfl _ _ 26 rfl wr.heap.size 52 i0 (.agg #[.int .i64 0, .int .i64 0, .int .i64 0, .bool false]) 4 32 Try.underlying26 HJ.out hz0' hz1' hz2' rfl (by decide) _ 0 [] rfl (by first | exact own_built wr _ (Nat.le_refl _) | exact (own_built wr _ (Nat.le_refl _)).drew) ⟨bL, offL + m * 4, none⟩ (L.length - m) (c3 - m) (flatP (L.drop m)) rfl (by rw [flatP_length, List.length_drop]) (rdl_cells (rdl_drop (HRL.out.below (by (repeat (first | exact Below.refl _ _ | assumption | refine Below.alloc ?_ (by first | exact Nat.le_refl _ | exact Below.size (by assumption) | omega | (simp <;> omega)) _ | refine Below.setCell ?_ (by first | exact Nat.le_refl _ | exact Below.size (by assumption) | omega | (simp <;> omega)) _ | refine below_drewN ?_ _ | refine Below.drew ?_)))) m)) (fun u hu => flatP_one hu) (by unfold Go.maxLen; omega) (by omega) (by first | (simp; done) | (simp; omega)) ?_; intro v5 w5 hown5 hgrow5 _; have hb5' : Below wr.heap.size wr w5 := below_grown (by (repeat (first | exact Below.refl _ _ | assumption | refine Below.alloc ?_ (by first | exact Nat.le_refl _ | exact Below.size (by assumption) | omega | (simp <;> omega)) _ | refine Below.setCell ?_ (by first | exact Nat.le_refl _ | exact Below.size (by assumption) | omega | (simp <;> omega)) _ | refine below_drewN ?_ _ | refine Below.drew ?_))) hgrow5 (fun k hk => by first | exact ((own_built wr wr.heap.size (Nat.le_refl _)).lt k hk).1) (by first | (simp; done) | (simp; omega)); have HO5 := Lib.hid hown5; clear hown5 hgrow5))
          all_goals
            go_wp2_with fail
            go_meet
            exact ⟨A6, c6, rfl, HR6.out, hb6'⟩
      case rest =>
        obtain ⟨A6, c6, rfl, hr6, hbx⟩ := hcut
        have HR6 := Lib.hid hr6; clear hr6
        have hBx := hBr.trans (hbx.mono hBr.size)
        have hzx : w.heap.size < wc.heap.size := by have := hbx.size; omega
        have HDKx := Lib.hid (HDKr.out.below hbx hzr)
        obtain ⟨⟨nm, fm⟩, hnm⟩ : ∃ r, checkS b ps M = r := ⟨_, rfl⟩
        have hfm := HL1.out
        rw [hnm] at hfm
        dsimp only at hfm
        subst hfm
        have HNM := Lib.hid hnm; clear hnm
        obtain ⟨k0, k1, k2, k3, k4, k5⟩ := HDKx.out
        go_wp2_with fail
        refine (Check_any b A A2 A6 c c2 c6 ps M _ (HF.out.now hBx) (HP.out.now hBx) HR6.out).mono ?_
        rintro e' y1 ⟨rfl, hy1⟩
        rw [HNM.out]
        have hBy := hBx.trans (hy1.mono hBx.size)
        have hby := hbx.trans (hy1.mono hbx.size)
        have hzy : w.heap.size < y1.heap.size := by have := hy1.size; omega
        have hbLy : bL < y1.heap.size := by have := hBy.size; omega
        clear k0 k1 k2 k3 k4 k5
        have HC : Hid (∀ w', Below y1.heap.size y1 w' → w'.cell? ⟨w.heap.size, 0, none⟩ = some (.int .i64 b.W) ∧ w'.cell? ⟨w.heap.size, 1, none⟩ = some (.int .i64 b.H) ∧ w'.cell? ⟨w.heap.size, 2, none⟩ = some (.int .i64 b.G) ∧ w'.cell? ⟨w.heap.size, 3, none⟩ = some (.slice A b.F.length c) ∧ w'.cell? ⟨w.heap.size, 4, none⟩ = some (.slice A2 ps.length c2) ∧ w'.cell? ⟨w.heap.size, 5, none⟩ = some (.slice (some ⟨bL, offL, none⟩) L.length c3)) := fun w' hC => by
          obtain ⟨a0, a1, a2, a3, a4, a5⟩ := HDKx.out.below (hy1.trans (hC.mono hy1.size)) hzx
          exact ⟨a0, a1, a2, a3, a4, a5⟩
        have HC2 : Hid (∀ w', Below y1.heap.size y1 w' → w'.cell? ⟨bL, offL + n * 4, none⟩ = some (.int .i64 p.part) ∧ w'.cell? ⟨bL, offL + n * 4 + 1, none⟩ = some (.int .i64 p.X) ∧ w'.cell? ⟨bL, offL + n * 4 + 2, none⟩ = some (.int .i64 p.Y) ∧ w'.cell? ⟨bL, offL + n * 4 + 3, none⟩ = some (.bool p.t)) := fun w' hC =>
          ⟨(hC.cell (p := ⟨bL, offL + n * 4, none⟩) hbLy).trans ((hBy.cell (p := ⟨bL, offL + n * 4, none⟩) hbL).trans HP0.out.1), (hC.cell (p := ⟨bL, offL + n * 4 + 1, none⟩) hbLy).trans ((hBy.cell (p := ⟨bL, offL + n * 4 + 1, none⟩) hbL).trans HP0.out.2.1), (hC.cell (p := ⟨bL, offL + n * 4 + 2, none⟩) hbLy).trans ((hBy.cell (p := ⟨bL, offL + n * 4 + 2, none⟩) hbL).trans HP0.out.2.2.1), (hC.cell (p := ⟨bL, offL + n * 4 + 3, none⟩) hbLy).trans ((hBy.cell (p := ⟨bL, offL + n * 4 + 3, none⟩) hbL).trans HP0.out.2.2.2)⟩
        go_wp2
        refine region_class (fun w' => Below y1.heap.size y1 w') hmx (by kernel_rfl) (by (repeat (first | exact Below.refl _ _ | assumption | refine Below.alloc ?_ (by first | exact Nat.le_refl _ | exact Below.size (by assumption) | omega | (simp <;> omega)) _ | refine Below.setCell ?_ (by first | exact Nat.le_refl _ | exact Below.size (by assumption) | omega | (simp <;> omega)) _ | refine below_drewN ?_ _ | refine Below.drew ?_))) ?_
        repeat (first | (refine quiet_read rfl (fun w' hC => by obtain ⟨f0, f1, f2, f3, f4, f5⟩ := HC.out w' hC; obtain ⟨g0, g1, g2, g3⟩ := HC2.out w' hC; clear hC; go_simp; rfl) ?_; simp only [Act.put, List.setIfInBounds_toArray, List.set_cons_succ, List.set_cons_zero]) | (refine quiet_pass rfl ?_; simp only [Act.put, List.setIfInBounds_toArray, List.set_cons_succ, List.set_cons_zero]))
        (refine quiet_call rfl (fun w' hC => by (go_simp; try rfl)) (fun w' hC => (Free_any b A A2 A6 c c2 c6 ps M p w' (HF.out.now (hBy.trans (hC.mono hBy.size))) (HP.out.now (hBy.trans (hC.mono hBy.size))) ((HR6.out.now hy1).now hC)).mono (fun e w2 hr => ⟨hr.1, hC.trans (hr.2.mono hC.size)⟩)) ?_; simp only [Act.put, List.setIfInBounds_toArray, List.set_cons_succ, List.set_cons_zero])
        rw [HL2.out]
        repeat (first | (refine quiet_read rfl (fun w' hC => by obtain ⟨f0, f1, f2, f3, f4, f5⟩ := HC.out w' hC; obtain ⟨g0, g1, g2, g3⟩ := HC2.out w' hC; clear hC; go_simp; rfl) ?_; simp only [Act.put, List.setIfInBounds_toArray, List.set_cons_succ, List.set_cons_zero]) | (refine quiet_pass rfl ?_; simp only [Act.put, List.setIfInBounds_toArray, List.set_cons_succ, List.set_cons_zero]))
        refine wpQuiet_nil ?_
        intro y2 hy2
        have hBy2 := hBy.trans (hy2.mono hBy.size)
        go_wp2_with fail
        refine (nawake_any _).mono ?_
        rintro e' y3 ⟨rfl, hy3⟩
        go_wp2
        go_ret
        exact Ret.mk rfl (hBy2.trans (hy3.mono hBy2.size))
end Go.Proofs.Ytohlinbcbfgdfaa

/- What the sum of two outlines is: the merged line of corners, in the program and in the reference. -/
import Derived.Test.YtcbphodkaiknmaaMathS
import Derived.Test.YtcbphodkaiknmaaMathQ
import Derived.Test.YtcbphodkaiknmaaWD
import Derived.Test.YtcbphodkaiknmaaW18
namespace Go.Proofs.Ytcbphodkaiknmaa
open Go.RowKit (wrap64)

def tnW (a b : List XY) (i k : Nat) : Int :=
  wrap64 (wrap64 (wrap64 ((cy a (i + 1)).X - (cy a i).X) * wrap64 ((cy b (k + 1)).Y - (cy b k).Y)) - wrap64 (wrap64 ((cy a (i + 1)).Y - (cy a i).Y) * wrap64 ((cy b (k + 1)).X - (cy b k).X)))
theorem tnW_eq {a b : List XY} (ha : ∀ j, Bd 5000 (cy a j)) (hb : ∀ j, Bd 5000 (cy b j)) (i k : Nat) : tnW a b i k = tn a b i k := by
  obtain ⟨a1, a2, a3, a4⟩ := ha i
  obtain ⟨b1, b2, b3, b4⟩ := ha (i + 1)
  obtain ⟨c1, c2, c3, c4⟩ := hb k
  obtain ⟨d1, d2, d3, d4⟩ := hb (k + 1)
  have m1 := mul_bd (a := (cy a (i + 1)).X - (cy a i).X) (b := (cy b (k + 1)).Y - (cy b k).Y) (A := 10000) (B := 10000) (by omega) (by omega) (by omega) (by omega)
  have m2 := mul_bd (a := (cy a (i + 1)).Y - (cy a i).Y) (b := (cy b (k + 1)).X - (cy b k).X) (A := 10000) (B := 10000) (by omega) (by omega) (by omega) (by omega)
  unfold tnW tn vx dd sb
  simp only
  rw [w64_id (n := (cy a (i + 1)).X - (cy a i).X) (by omega) (by omega), w64_id (n := (cy b (k + 1)).Y - (cy b k).Y) (by omega) (by omega), w64_id (n := (cy a (i + 1)).Y - (cy a i).Y) (by omega) (by omega), w64_id (n := (cy b (k + 1)).X - (cy b k).X) (by omega) (by omega),
    w64_id (n := ((cy a (i + 1)).X - (cy a i).X) * ((cy b (k + 1)).Y - (cy b k).Y)) (by omega) (by omega), w64_id (n := ((cy a (i + 1)).Y - (cy a i).Y) * ((cy b (k + 1)).X - (cy b k).X)) (by omega) (by omega), w64_id (by omega) (by omega)]

/-- The path through both canonical lists, of N steps. -/
structure SumPath (a b : List XY) (N : Nat) : Prop where
  hN : st a b N = (a.length, b.length)
  hu : ∀ j, j < N → (st a b j).1 < a.length ∨ (st a b j).2 < b.length
  hI : ∀ j, j ≤ N → Inv a b (st a b j).1 (st a b j).2
  lo : 3 ≤ N
  hi : N ≤ a.length + b.length

theorem sorted_canon {o : List XY} (h : validB o = true) : Sorted (canonL o) ∧ (∀ j, ¬ lx (cy (canonL o) j) (cy (canonL o) 0)) ∧ (∀ j, Bd 5000 (cy (canonL o) j)) ∧ (canonL o).length = o.length ∧ validB (canonL o) = true ∧
    (∀ x ∈ o, ∃ j, cy (canonL o) j = x) ∧ (∀ j, cy (canonL o) j ∈ o) ∧ ∃ k, k < o.length ∧ canonL o = rotL o k := by
  have hl := validB_len' h
  have h0 : 0 < o.length := by omega
  have hat := atTo_lt h0 o.length (Nat.le_refl _)
  have e := canon_rot h0 (bd_cy' h0 (validB_ranged h))
  have hv : validB (canonL o) = true := by rw [e]; exact valid_rot hat h
  have hlen : (canonL o).length = o.length := by rw [e, rotL_length]
  have hlow : ∀ j, ¬ lx (cy (canonL o) j) (cy (canonL o) 0) := fun j => by
    rw [e, cy_rot hat, cy_rot hat]
    have := (atTo_low h0 o.length (Nat.le_refl _)).1 ((atTo o o.length + j) % o.length) (Nat.mod_lt _ h0)
    rwa [cy_mod] at this
  have hv0 : 0 < (canonL o).length := by omega
  refine ⟨sorted_of (by omega) (validB_conv hv) hlow, hlow, fun j => bd_cy hv0 (validB_ranged hv) j, hlen, hv, fun x hx => ?_, fun j => by rw [e, cy_rot hat]; exact cy_mem h0 _, _, hat, e⟩
  obtain ⟨k, hk, rfl⟩ := mem_cy hx
  refine ⟨k + o.length - atTo o o.length, ?_⟩
  rw [e, cy_rot hat, show atTo o o.length + (k + o.length - atTo o o.length) = k + o.length by omega, cy_per]

theorem sum_path {a b : List XY} (ha : Sorted a) (hb : Sorted b) : ∃ N, SumPath a b N := by
  obtain ⟨N, hN, hu, hI⟩ := path ha hb
  have hle : ∀ j, j ≤ N → j ≤ (st a b j).1 + (st a b j).2 := fun j hj => (st_le ha hb hu hI j hj).2.2
  have h3 := (sum_conv ha hb hN hu hI).1
  have := hle N (Nat.le_refl _)
  rw [hN] at this
  exact ⟨N, hN, hu, hI, h3, this⟩

/-- All sums of a corner of the one and a corner of the other. -/
def sumsL (o p : List XY) : List XY := o.flatMap fun a => p.map (fShift a.X a.Y)
theorem fShift_ad {x y : XY} (hx : Bd 5000 x) (hy : Bd 5000 y) : fShift x.X x.Y y = ad x y := by
  obtain ⟨h1, h2, h3, h4⟩ := hx
  obtain ⟨k1, k2, k3, k4⟩ := hy
  unfold fShift ad
  rw [w64_id (by omega) (by omega), w64_id (by omega) (by omega)]
  congr 1 <;> omega
theorem ad_bd {x y : XY} (hx : Bd 5000 x) (hy : Bd 5000 y) : Bd 10000 (ad x y) := by
  obtain ⟨h1, h2, h3, h4⟩ := hx
  obtain ⟨k1, k2, k3, k4⟩ := hy
  unfold ad Bd
  simp only
  omega

theorem conv_inj {l : List XY} (h3 : 3 ≤ l.length) (hc : Conv l) {i j : Nat} (hlt : i < j) (hj : j < l.length) : cy l i ≠ cy l j := by
  intro e
  rcases Nat.lt_or_ge (j - i) 2 with h2 | h2
  · have := (once_of_convex h3 (cy_per l) hc).1 i
    have e2 : j = i + 1 := by omega
    rw [e2] at e
    unfold vx dd sb at this
    rw [← e] at this
    simp at this
  · have := hc i (j - i) h2 (by omega)
    rw [show i + (j - i) = j by omega, ← e] at this
    unfold vx sb at this
    simp at this

/-- What going around some places brings: a list of corners. -/
structure Wraps (l P : List XY) : Prop where
  first : hd P = hd (turnL l)
  pos : 0 < P.length
  next : ∀ i p q, P[i]? = some p → P[i + 1]? = some q → stepTo l p l.length = q ∧ q ≠ hd P ∧ q ≠ p
  last : ∀ p, P[P.length - 1]? = some p → stepTo l p l.length = hd P ∨ stepTo l p l.length = p

theorem hd_turn {l : List XY} (h0 : 0 < l.length) : hd (turnL l) = cy l (atTo l l.length) := by
  unfold hd turnL
  simp [h0]
theorem lx_anti {x y : XY} (h1 : ¬ lx x y) (h2 : ¬ lx y x) : x = y := by
  unfold lx at h1 h2
  cases x; cases y
  simp only at h1 h2
  congr 1 <;> omega

/-- What the sum of two outlines is. -/
theorem sum_facts {o p : List XY} (ho : validB o = true) (hp : validB p = true) {N : Nat} (S : SumPath (canonL o) (canonL p) N) :
    ∃ out, outL (canonL o) (canonL p) N = out ∧ out.length = N ∧ Conv out ∧ canonL out = out ∧ Wraps (sumsL o p) out ∧ (∀ j, Bd 10000 (cy out j)) ∧ (∀ x ∈ sumsL o p, Ins out x) ∧ (∀ j, ∃ i k, cy out j = ad (cy (canonL o) i) (cy (canonL p) k)) ∧ (∀ i k, Ins out (ad (cy (canonL o) i) (cy (canonL p) k))) := by
  obtain ⟨sa, la, ba, lena, va, ma, na, _⟩ := sorted_canon ho
  obtain ⟨sb', lb, bb, lenb, vb, mb, nb, _⟩ := sorted_canon hp
  have lo := validB_len' ho
  have lp := validB_len' hp
  have h3 := S.lo
  obtain ⟨_, hconv, _⟩ := sum_conv sa sb' S.hN S.hu S.hI
  have hins := sum_ins sa sb' S.hN S.hu S.hI
  have hlow := fun j => sum_low (a := canonL o) (b := canonL p) (N := N) (by omega) la lb j
  obtain ⟨out, hout⟩ : ∃ out, outL (canonL o) (canonL p) N = out := ⟨_, rfl⟩
  have hlen : out.length = N := by rw [← hout, outL_length]
  have hcor : ∀ j, ∃ i k, cy out j = ad (cy (canonL o) i) (cy (canonL p) k) := fun j => by
    have hm := Nat.mod_lt j (show 0 < N by omega)
    have e : cy out j = pt (canonL o) (canonL p) (st (canonL o) (canonL p) (j % N)) := by
      rw [← cy_mod, hlen, ← hout, outL_cy hm]
    exact ⟨_, _, e⟩
  have hbd : ∀ j, Bd 10000 (cy out j) := fun j => by
    obtain ⟨i, k, e⟩ := hcor j
    rw [e]; exact ad_bd (ba i) (bb k)
  rw [hout] at hconv hins hlow
  have hmem : ∀ x ∈ sumsL o p, ∃ i k, x = ad (cy (canonL o) i) (cy (canonL p) k) := fun x hx => by
    unfold sumsL at hx
    obtain ⟨y, hy, hx⟩ := List.mem_flatMap.1 hx
    obtain ⟨z, hz, rfl⟩ := List.mem_map.1 hx
    rw [fShift_ad (bd_mem (validB_ranged ho) hy) (bd_mem (validB_ranged hp) hz)]
    obtain ⟨i, rfl⟩ := ma y hy
    obtain ⟨k, rfl⟩ := mb z hz
    exact ⟨i, k, rfl⟩
  have hcorm : ∀ j, cy out j ∈ sumsL o p := fun j => by
    obtain ⟨i, k, e⟩ := hcor j
    rw [e]
    unfold sumsL
    refine List.mem_flatMap.2 ⟨_, na i, List.mem_map.2 ⟨_, nb k, fShift_ad (ba i) (bb k)⟩⟩
  have hin : ∀ x ∈ sumsL o p, Ins out x := fun x hx => by
    obtain ⟨i, k, rfl⟩ := hmem x hx
    exact hins i k
  have hbl : ∀ x ∈ sumsL o p, Bd 100000 x := fun x hx => by
    obtain ⟨i, k, rfl⟩ := hmem x hx
    exact (ad_bd (ba i) (bb k)).mono (by omega)
  have hout0 : 0 < out.length := by omega
  have hnext := wrap_next hbl (by omega) hconv hcorm hin
  have hlow2 : ∀ x ∈ sumsL o p, ¬ lx x (cy out 0) := fun x hx => by
    obtain ⟨i, k, rfl⟩ := hmem x hx
    have e : cy out 0 = ad (cy (canonL o) 0) (cy (canonL p) 0) := by rw [← hout, outL_cy (by omega)]; rfl
    rw [e]
    exact lx_ad (la i) (lb k)
  have h0s : 0 < (sumsL o p).length := List.length_pos_of_mem (hcorm 0)
  have ehd : hd out = cy out 0 := by
    obtain ⟨q, hq⟩ := getElem?_of_lt hout0
    rw [hd_of hq, cy_lt hq]
  refine ⟨out, hout, hlen, hconv, canon_low hout0 (fun j => (hbd j).mono (by omega)) hlow, ⟨?_, hout0, fun i q r hq hr => ?_, fun q hq => ?_⟩, hbd, hin, hcor, hins⟩
  · rw [ehd, hd_turn h0s]
    refine lx_anti ?_ ?_
    · have hm := cy_mem h0s (atTo (sumsL o p) (sumsL o p).length)
      obtain ⟨k, hk, e⟩ := mem_cy (hcorm 0)
      have := (atTo_low h0s _ (Nat.le_refl _)).1 k hk
      rwa [e] at this
    · exact hlow2 _ (cy_mem h0s _)
  · have hi : i + 1 < out.length := (List.getElem?_eq_some_iff.1 hr).1
    rw [← cy_lt hq, ← cy_lt hr, ehd]
    exact ⟨hnext i, fun e => conv_inj (by omega) hconv (show 0 < i + 1 by omega) hi e.symm, fun e => conv_inj (by omega) hconv (show i < i + 1 by omega) hi e.symm⟩
  · left
    rw [← cy_lt hq, ehd, hnext, show out.length - 1 + 1 = 0 + out.length by omega, cy_per]

/-- The reach of a sum. -/
theorem dotW_lin {u v : Int} (hu1 : -10000 ≤ u) (hu2 : u ≤ 10000) (hv1 : -10000 ≤ v) (hv2 : v ≤ 10000) {q : XY} (hq : Bd 10000 q) : dotW u v q = lin u v q := by
  obtain ⟨h1, h2, h3, h4⟩ := hq
  have m1 := mul_bd (a := u) (b := q.X) (A := 10000) (B := 10000) (by omega) (by omega) (by omega) (by omega)
  have m2 := mul_bd (a := v) (b := q.Y) (A := 10000) (B := 10000) (by omega) (by omega) (by omega) (by omega)
  unfold dotW lin
  rw [w64_id (n := u * q.X) (by omega) (by omega), w64_id (n := v * q.Y) (by omega) (by omega), w64_id (by omega) (by omega)]
theorem lin_ad (u v : Int) (x y : XY) : lin u v (ad x y) = lin u v x + lin u v y := by unfold lin ad; grind
theorem sum_reach {o p : List XY} (ho : validB o = true) (hp : validB p = true) {N : Nat} (S : SumPath (canonL o) (canonL p) N) {u v : Int} (hu1 : -10000 ≤ u) (hu2 : u ≤ 10000) (hv1 : -10000 ≤ v) (hv2 : v ≤ 10000) :
    farW u v (outL (canonL o) (canonL p) N) = farW u v o + farW u v p ∧ -1000000000 ≤ farW u v o ∧ farW u v o ≤ 1000000000 ∧ -1000000000 ≤ farW u v p ∧ farW u v p ≤ 1000000000 := by
  obtain ⟨out, e, hlen, hc, _, _, hbd, _, hcor, hins⟩ := sum_facts ho hp S
  rw [e]
  obtain ⟨sa, la, ba, lena, va, ma, na, ka, hka, ra⟩ := sorted_canon ho
  obtain ⟨sb', lb, bb, lenb, vb, mb, nb, kb, hkb, rb⟩ := sorted_canon hp
  have lo := validB_len' ho
  have lp := validB_len' hp
  have h3 := S.lo
  have t1 : Top (canonL o) (dotW u v) (farW u v o) := by rw [ra]; exact top_rot hka (far_top (by omega) u v)
  have t2 : Top (canonL p) (dotW u v) (farW u v p) := by rw [rb]; exact top_rot hkb (far_top (by omega) u v)
  have l1 := fun j => dotW_lin hu1 hu2 hv1 hv2 ((ba j).mono (show (5000 : Int) ≤ 10000 by omega))
  have l2 := fun j => dotW_lin hu1 hu2 hv1 hv2 ((bb j).mono (show (5000 : Int) ≤ 10000 by omega))
  have l3 := fun j => dotW_lin hu1 hu2 hv1 hv2 (hbd j)
  have hlb : ∀ q, Bd 10000 q → -1000000000 ≤ lin u v q ∧ lin u v q ≤ 1000000000 := fun q hq => by
    obtain ⟨h1, h2, h3, h4⟩ := hq
    have m1 := mul_bd (a := u) (b := q.X) (A := 10000) (B := 10000) (by omega) (by omega) (by omega) (by omega)
    have m2 := mul_bd (a := v) (b := q.Y) (A := 10000) (B := 10000) (by omega) (by omega) (by omega) (by omega)
    unfold lin; omega
  have T : Top out (dotW u v) (farW u v o + farW u v p) := by
    have up : ∀ j, dotW u v (cy out j) ≤ farW u v o + farW u v p := fun j => by
      obtain ⟨i, k, ej⟩ := hcor j
      have a1 := t1.1 i
      have a2 := t2.1 k
      rw [l3, ej, lin_ad, ← l1, ← l2]
      omega
    refine ⟨up, ?_⟩
    obtain ⟨i, hi⟩ := t1.2
    obtain ⟨k, hk⟩ := t2.2
    obtain ⟨j, hj⟩ := lin_in (by omega) hc (hins i k) (-u) (-v)
    refine ⟨j, ?_⟩
    have hn : ∀ x, lin (-u) (-v) x = -lin u v x := fun x => by unfold lin; grind
    rw [hn, hn, lin_ad, ← l1, ← l2, hi, hk] at hj
    have := up j
    rw [l3] at this ⊢
    omega
  refine ⟨(far_top (by omega) u v).unique T, ?_⟩
  obtain ⟨i, hi⟩ := t1.2
  obtain ⟨k, hk⟩ := t2.2
  have b1 := hlb _ ((ba i).mono (show (5000 : Int) ≤ 10000 by omega))
  have b2 := hlb _ ((bb k).mono (show (5000 : Int) ≤ 10000 by omega))
  rw [← l1, hi] at b1
  rw [← l2, hk] at b2
  omega

/-- The order plays no part. -/
theorem nxt_swap (a b : List XY) {s : Nat × Nat} (ha : s.1 ≤ a.length) (hb : s.2 ≤ b.length) (hne : s.1 < a.length ∨ s.2 < b.length) : nxt b a (s.2, s.1) = ((nxt a b s).2, (nxt a b s).1) := by
  unfold nxt
  simp only [tn_swap s.1 s.2]
  rcases Int.lt_trichotomy (tn a b s.1 s.2) 0 with h | h | h <;> (repeat' split) <;> first | rfl | (exfalso; omega)
theorem st_swap {a b : List XY} {N : Nat} (S : SumPath a b N) : ∀ j, j ≤ N → st b a j = ((st a b j).2, (st a b j).1)
  | 0, _ => rfl
  | j + 1, h => by
    have ih := st_swap S j (by omega)
    have hI := S.hI j (by omega)
    show nxt b a (st b a j) = _
    rw [ih, nxt_swap a b hI.ia hI.kb (S.hu j (by omega))]
    rfl
theorem path_swap {a b : List XY} {N : Nat} (S : SumPath a b N) : SumPath b a N := by
  refine ⟨by rw [st_swap S N (Nat.le_refl _), S.hN], fun j hj => ?_, fun j hj => ?_, S.lo, by have := S.hi; omega⟩
  · rw [st_swap S j (by omega)]; exact (S.hu j hj).symm
  · rw [st_swap S j hj]; exact (S.hI j hj).swap
theorem ad_comm (x y : XY) : ad x y = ad y x := by unfold ad; congr 1 <;> omega
theorem out_swap {a b : List XY} {N : Nat} (S : SumPath a b N) : outL b a N = outL a b N := by
  unfold outL
  apply List.map_congr_left
  intro j hj
  rw [st_swap S j (by have := List.mem_range.1 hj; omega)]
  exact ad_comm _ _

theorem pt_vx1 (x x' y : XY) : vx (ad x y) (ad x' y) = vx x x' + vx y (sb x x') := by unfold vx ad sb; grind
theorem pt_vx2 (x y y' : XY) : vx (ad x y) (ad x y') = vx y y' + vx x (sb y y') := by unfold vx ad sb; grind
theorem pt_vx3 (x x' y y' : XY) : vx (ad x y) (ad x' y') = vx x x' + vx y y' + vx y (sb x x') + vx x (sb y y') := by unfold vx ad sb; grind
theorem sb_step (z x0 x x' : XY) : vx z (sb x0 x') = vx z (sb x0 x) + vx z (sb x x') := by unfold vx sb; grind
theorem supp_flip {d y y0 : XY} (h : 0 ≤ vx d (sb y y0)) : vx y0 d ≤ vx y d := by
  have : vx d (sb y y0) = vx y d - vx y0 d := by unfold vx sb; grind
  omega

/-- The area of a sum. -/
theorem sum_area {o p : List XY} (ho : validB o = true) (hp : validB p = true) {N : Nat} (S : SumPath (canonL o) (canonL p) N) (hv : validB (outL (canonL o) (canonL p) N) = true) :
    areaW o + areaW p ≤ areaW (outL (canonL o) (canonL p) N) ∧ -4000000000 ≤ areaW o ∧ areaW o ≤ 4000000000 ∧ -4000000000 ≤ areaW p ∧ areaW p ≤ 4000000000 := by
  obtain ⟨sa, la, ba, lena, va, ma, na, ka, hka, ra⟩ := sorted_canon ho
  obtain ⟨sb', lb, bb, lenb, vb, mb, nb, kb, hkb, rb⟩ := sorted_canon hp
  have lo := validB_len' ho
  have lp := validB_len' hp
  have bnd : ∀ {l : List XY}, validB l = true → -4000000000 ≤ areaW l ∧ areaW l ≤ 4000000000 := fun {l} h => by
    have hl := validB_len' h
    obtain ⟨e, b1, b2⟩ := areaTo_shoe (l := l) (bd_cy (by omega) (validB_ranged h)) l.length hl.2
    unfold areaW
    rw [e]
    omega
  refine ⟨?_, (bnd ho).1, (bnd ho).2, (bnd hp).1, (bnd hp).2⟩
  have ea : areaW o = sides vx (canonL o) := by rw [area_sides ho, ra, sides_rot vx hka]
  have eb : areaW p = sides vx (canonL p) := by rw [area_sides hp, rb, sides_rot vx hkb]
  rw [area_sides hv, ea, eb]
  generalize canonL o = a at *
  generalize canonL p = b at *
  have key : ∀ j, j ≤ N → sumTo (fun i => vx (cy a i) (cy a (i + 1))) (st a b j).1 + sumTo (fun i => vx (cy b i) (cy b (i + 1))) (st a b j).2 + vx (cy b 0) (sb (cy a 0) (cy a (st a b j).1)) + vx (cy a 0) (sb (cy b 0) (cy b (st a b j).2)) ≤
      sumTo (fun j => vx (pt a b (st a b j)) (pt a b (st a b (j + 1)))) j := by
    intro j
    induction j with
    | zero =>
      intro _
      have z1 : vx (cy b 0) (sb (cy a 0) (cy a 0)) = 0 := by unfold vx sb; grind
      have z2 : vx (cy a 0) (sb (cy b 0) (cy b 0)) = 0 := by unfold vx sb; grind
      show 0 + 0 + vx (cy b 0) (sb (cy a 0) (cy a 0)) + vx (cy a 0) (sb (cy b 0) (cy b 0)) ≤ 0
      omega
    | succ j ih =>
      intro hj
      have ih := ih (by omega)
      have hI := S.hI j (by omega)
      have hu := S.hu j (by omega)
      have est : st a b (j + 1) = nxt a b ((st a b j).1, (st a b j).2) := rfl
      have hs : sumTo (fun j => vx (pt a b (st a b j)) (pt a b (st a b (j + 1)))) (j + 1) = sumTo (fun j => vx (pt a b (st a b j)) (pt a b (st a b (j + 1)))) j + vx (pt a b (st a b j)) (pt a b (st a b (j + 1))) := rfl
      rw [hs]
      clear hs
      generalize sumTo (fun j => vx (pt a b (st a b j)) (pt a b (st a b (j + 1)))) j = SS at ih ⊢
      obtain ⟨i, hi⟩ : ∃ i, (st a b j).1 = i := ⟨_, rfl⟩
      obtain ⟨k, hk⟩ : ∃ k, (st a b j).2 = k := ⟨_, rfl⟩
      have eij : st a b j = (i, k) := Prod.ext hi hk
      rw [hi, hk] at est hI hu ih
      rw [est, eij]
      have sa1 : sumTo (fun i => vx (cy a i) (cy a (i + 1))) (i + 1) = sumTo (fun i => vx (cy a i) (cy a (i + 1))) i + vx (cy a i) (cy a (i + 1)) := rfl
      have sb1 : sumTo (fun i => vx (cy b i) (cy b (i + 1))) (k + 1) = sumTo (fun i => vx (cy b i) (cy b (i + 1))) k + vx (cy b k) (cy b (k + 1)) := rfl
      rcases ways hI hu with ⟨e1, _, h1, h2⟩ | ⟨e1, _, h1, h2⟩ | ⟨e1, _, h1, h1', h2⟩
      · rw [e1]
        simp only
        rw [sa1]
        have q := supp_flip (suppA sa sb' hI h1 h2 0)
        unfold pt
        simp only
        rw [pt_vx1, sb_step _ _ (cy a i) (cy a (i + 1))]
        unfold dd at q
        omega
      · rw [e1]
        simp only
        rw [sb1]
        have q := supp_flip (suppA sb' sa hI.swap h1 (fun hh => by rw [tn_swap]; have := h2 hh; omega) 0)
        unfold pt
        simp only
        rw [pt_vx2, sb_step _ _ (cy b k) (cy b (k + 1))]
        unfold dd at q
        omega
      · rw [e1]
        simp only
        rw [sa1, sb1]
        have hh := (tn_spec sa sb' hI h1 h1').2.2 h2
        have h2' : vx (dd (cy b) k) (dd (cy a) i) = 0 := by unfold tn at h2; rw [vx_swap]; omega
        have ia := conv_ins sa.len sa.conv (cy_mem (by have := sa.len; omega) 0) i
        have ib := conv_ins sb'.len sb'.conv (cy_mem (by have := sb'.len; omega) 0) k
        have par : ∀ u v z : XY, Nz u → Nz v → (up u ↔ up v) → vx u v = 0 → 0 ≤ vx v z → 0 ≤ vx u z := fun u v z nu nv hh h0 hz => by
          refine Int.not_lt.1 fun hc => ?_
          have := par_pos nu nv hh h0 (w := ng z) (by rw [vx_ngr]; omega)
          rw [vx_ngr] at this
          omega
        have p1 := supp_flip (par _ _ _ (sa.nz i) (sb'.nz k) hh h2 ib)
        have p2 := supp_flip (par _ _ _ (sb'.nz k) (sa.nz i) hh.symm h2' ia)
        unfold pt
        simp only
        rw [pt_vx3, sb_step _ _ (cy a i) (cy a (i + 1)), sb_step _ _ (cy b k) (cy b (k + 1))]
        unfold dd at p1 p2
        omega
  have kN := key N (Nat.le_refl _)
  rw [S.hN] at kN
  simp only at kN
  have ca : cy a a.length = cy a 0 := by have := cy_per a 0; rwa [Nat.zero_add] at this
  have cb : cy b b.length = cy b 0 := by have := cy_per b 0; rwa [Nat.zero_add] at this
  have z1 : vx (cy b 0) (sb (cy a 0) (cy a 0)) = 0 := by unfold vx sb; grind
  have z2 : vx (cy a 0) (sb (cy b 0) (cy b 0)) = 0 := by unfold vx sb; grind
  rw [ca, cb, z1, z2] at kN
  have h3 := S.lo
  have eo : sides vx (outL a b N) = sumTo (fun j => vx (pt a b (st a b j)) (pt a b (st a b (j + 1)))) N := by
    unfold sides
    rw [outL_length]
    apply sumTo_congr
    intro i hi
    rw [outL_cy hi]
    congr 1
    rcases Nat.lt_or_ge (i + 1) N with h | h
    · rw [outL_cy h]
    · have e : i + 1 = N := by omega
      have := cy_per (outL a b N) 0
      rw [outL_length, Nat.zero_add] at this
      rw [e, this, outL_cy (by omega), S.hN, pt_end]; rfl
  rw [eo]
  unfold sides
  omega
end Go.Proofs.Ytcbphodkaiknmaa

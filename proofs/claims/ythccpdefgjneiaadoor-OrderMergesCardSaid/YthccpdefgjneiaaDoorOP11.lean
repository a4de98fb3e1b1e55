/- Cheapest of both: the walks. -/
import Derived.Test.YthccpdefgjneiaaDoorOP10
namespace Go.Proofs.YthccpdefgjneiaaDoor
open Go.RowKit Go.Shelf Go.Maps

def cheapF (n : Int) (b : Int × Int) (s : ST) : Int × Int := if n < s.n ∧ s.n * s.c < b.2 then (s.n, s.n * s.c) else b
def cheapK (l : List ST) (n c0 : Int) (k : Nat) : Int × Int := (l.take k).foldl (cheapF n) (n, n * c0)
def cheapV (l : List QT) (s : ByteArray) (day n : Int) : Int × Int × Int := match foundE l s day n with
  | (none, e) => (0, 0, e)
  | (some j, e) => ((cheapK (bestQ l (some j)).st n (centsP (bestQ l (some j)).st n) (bestQ l (some j)).st.length).1, (cheapK (bestQ l (some j)).st n (centsP (bestQ l (some j)).st n) (bestQ l (some j)).st.length).2, e)
theorem cheap_snoc {l : List ST} {k : Nat} {s : ST} (h : l[k]? = some s) (n c0 : Int) : cheapK l n c0 (k + 1) = cheapF n (cheapK l n c0 k) s := by
  unfold cheapK; rw [take_succ_of h, List.foldl_append]; rfl
theorem step_nums {l : List ST} (h : stepsB l = true) {k : Nat} {s : ST} (hs : l[k]? = some s) : 1 ≤ s.n ∧ s.n ≤ 100000 ∧ 0 ≤ s.c ∧ s.c ≤ 10000000 := by
  have := (steps_get h).2.2.2 k s hs
  unfold stepOk at this
  simp only [Bool.and_eq_true] at this
  have h1 := bet_iff.1 this.1
  have h2 := bet_iff.1 this.2.1
  omega
theorem cents_take_bd {l : List ST} (h : stepsB l = true) (n : Int) : ∀ k, k ≤ l.length → 0 ≤ centsP (l.take k) n ∧ centsP (l.take k) n ≤ 10000000
  | 0, _ => by unfold centsP; simp
  | k + 1, hk => by
    obtain ⟨s, hs⟩ := getElem?_of_lt (show k < l.length by omega)
    rw [cents_snoc hs]
    have := step_nums h hs
    split
    · omega
    · exact cents_take_bd h n k (by omega)
theorem cents_bd {l : List ST} (h : stepsB l = true) (n : Int) : 0 ≤ centsP l n ∧ centsP l n ≤ 10000000 := by
  have := cents_take_bd h n l.length (Nat.le_refl _)
  rwa [List.take_length] at this
theorem price_steps {p : QT} (h : priceB p = true) : stepsB p.st = true := by
  unfold priceB at h
  simp only [Bool.and_eq_true] at h
  exact h.2.2
theorem prod_bd {a b : Int} (h1 : 1 ≤ a) (h2 : a ≤ 100000) (h3 : 0 ≤ b) (h4 : b ≤ 10000000) : 0 ≤ a * b ∧ a * b ≤ 1000000000000 := by
  refine ⟨Int.mul_nonneg (by omega) h3, ?_⟩
  calc a * b ≤ 100000 * b := Int.mul_le_mul_of_nonneg_right h2 h3
    _ ≤ 100000 * 10000000 := Int.mul_le_mul_of_nonneg_left h4 (by omega)
    _ = 1000000000000 := by decide
set_option maxRecDepth 100000 in
set_option maxHeartbeats 2000000 in
theorem Cheapest_any (A : Option Addr) (c : Nat) (l : List QT) (s : ByteArray) (day n : Int) (w : World) (ho : OkQ w l) (hl : RdQ w w.heap.size A l) :
    Calls Tryd.prog 33 #[.slice A l.length c, .string s, .int .i64 day, .int .i64 n] w (Ret (.tuple #[.int .i64 (cheapV l s day n).1, .int .i64 (cheapV l s day n).2.1, .int .i64 (cheapV l s day n).2.2]) w) := by
  have HL := Lib.hid hl; clear hl
  have HO := Lib.hid ho; clear ho
  obtain ⟨⟨o, e0⟩, hf⟩ : ∃ r, foundE l s day n = r := ⟨_, rfl⟩
  have hfd := found_any A c l s day n w HO.out HL.out
  rw [hf] at hfd
  dsimp only at hfd
  have HFD := Lib.hid hfd; clear hfd
  cases o with
  | none =>
    have hne := found_none hf
    have HS := Lib.hid (show cheapV l s day n = (0, 0, e0) by unfold cheapV; rw [hf])
    clear hf
    go_enter Tryd.func33, Tryd.ntmps33
    go_wp2_with fail
    refine HFD.out.mono ?_
    rintro e w2 ⟨rfl, hb2⟩
    go_wp2
    go_ret3
    exact Ret.mk (by rw [HS.out] <;> rfl) (hb2.alloc (by exact hb2.size) _)
  | some j =>
    obtain ⟨rfl, hv, hn1, hn2, _, p, hp, hbp⟩ := found_inv hf
    have hps := price_steps ((validP_all hv).2 p (List.mem_of_getElem? hp))
    obtain ⟨hc1, hc2⟩ := cents_bd hps n
    have HPS := Lib.hid hps
    have HS := Lib.hid (show cheapV l s day n = ((cheapK p.st n (centsP p.st n) p.st.length).1, (cheapK p.st n (centsP p.st n) p.st.length).2, 0) by unfold cheapV; rw [hf]; show (_, _, _) = _; rw [hbp])
    rw [hbp] at HFD
    obtain ⟨hr, hlen⟩ := okQ_get HO.out hp
    have hlm : (p.st.length : Int) ≤ 9223372036854775807 := by unfold maxLen at hlen; omega
    have HR := Lib.hid hr
    have HN := Lib.hid hlen
    obtain ⟨c0, hc0⟩ : ∃ c0, centsP p.st n = c0 := ⟨_, rfl⟩
    have HC0 := Lib.hid hc0
    rw [hc0] at HS hc1 hc2
    obtain ⟨hx1, hx2⟩ := prod_bd hn1 hn2 hc1 hc2
    have e1 : wrap64 (n * c0) = n * c0 := w64_id (by omega) (by omega)
    clear hf hp hbp hr hlen hv hps hc0
    go_enter Tryd.func33, Tryd.ntmps33
    go_wp2_with fail
    refine HFD.out.mono ?_
    rintro e w2 ⟨rfl, hb2⟩
    obtain ⟨wz, hwz⟩ : ∃ wz, w2.alloc (.cells #[.string p.m, .int .i64 p.d, .slice p.A p.st.length p.cp] 54) = wz := ⟨_, rfl⟩
    have hbz : Below w2.heap.size w2 wz := by rw [← hwz]; (repeat (first | exact Below.refl _ _ | assumption | refine Below.alloc ?_ (by first | exact Nat.le_refl _ | exact Below.size (by assumption) | omega | (simp <;> omega)) _ | refine Below.setCell ?_ (by first | exact Nat.le_refl _ | exact Below.size (by assumption) | omega | (simp <;> omega)) _ | refine below_drewN ?_ _ | refine Below.drew ?_))
    have hBz := hb2.trans (hbz.mono hb2.size)
    have HZ := Lib.hid (show AtQ wz w2.heap.size p by rw [← hwz]; exact AtQ.new w2 p)
    have hzz : w2.heap.size < wz.heap.size := by rw [← hwz]; simp
    have HW := Lib.hid hwz; clear hwz
    go_upto_region 2 with fail
    rw [HW.out]
    obtain ⟨x0, x1, x2⟩ := HZ.out
    go_wp2_with fail
    refine (priced_any p n _ (HR.out.now hBz) HN.out).mono ?_
    rintro e w3 ⟨rfl, hb3⟩
    rw [HC0.out]
    have hB3 := hBz.trans (hb3.mono hBz.size)
    clear x0 x1 x2
    obtain ⟨x0, x1, x2⟩ := HZ.out.below hb3 hzz
    have hz3 : w2.heap.size < w3.heap.size := by have := hb3.size; omega
    go_wp2
    clear x0 x1 x2
    go_loopw [13, 14, 16, 17, 38] (fun u v _ _ i wr => ∃ k : Nat, k ≤ p.st.length ∧ i = .int .i64 k ∧ u = .int .i64 (cheapK p.st n c0 k).1 ∧ v = .int .i64 (cheapK p.st n c0 k).2 ∧ Below w3.heap.size w3 wr) (fun _ _ _ _ i _ => p.st.length - (intOf i).toNat)
    case atStart => exact ⟨0, Nat.zero_le _, rfl, by unfold cheapK; rfl, by unfold cheapK; rfl, Below.refl _ _⟩
    case round =>
      obtain ⟨k, hk, rfl, rfl, rfl, hB⟩ := hrel
      have hBw := hB3.trans (hB.mono hB3.size)
      have hsB := hB.size
      by_cases hlt : k < p.st.length
      · obtain ⟨t, ht⟩ := getElem?_of_lt hlt
        obtain ⟨b, off, hA, hb, d0, d1⟩ := (HR.out.now hBw) k t ht
        have HSN := Lib.hid (cheap_snoc ht n c0)
        obtain ⟨q1, q2, q3, q4⟩ := step_nums HPS.out ht
        clear ht
        obtain ⟨y1, y2⟩ := prod_bd q1 q2 q3 q4
        obtain ⟨⟨u, v⟩, huv⟩ : ∃ r, cheapK p.st n c0 k = r := ⟨_, rfl⟩
        rw [huv] at HSN
        simp only [huv]
        clear huv
        have e2 : wrap64 (t.n * t.c) = t.n * t.c := w64_id (by omega) (by omega)
        rw [hA]
        by_cases g1 : n < t.n
        case neg =>
          have HE : Hid (cheapK p.st n c0 (k + 1) = (u, v)) := HSN.out.trans (by unfold cheapF; rw [if_neg (fun h => g1 h.1)])
          go_wp2
          go_roundw
          case rel => exact ⟨k + 1, by omega, by go_num, by rw [HE.out], by rw [HE.out], by (repeat (first | exact Below.refl _ _ | assumption | refine Below.alloc ?_ (by first | exact Nat.le_refl _ | exact Below.size (by assumption) | omega | (simp <;> omega)) _ | refine Below.setCell ?_ (by first | exact Nat.le_refl _ | exact Below.size (by assumption) | omega | (simp <;> omega)) _ | refine below_drewN ?_ _ | refine Below.drew ?_))⟩
          case measure => simp [intOf]; omega
        have HX := Lib.hid e2; clear e2
        clear y1 y2
        by_cases g2 : wrap64 (t.n * t.c) < v
        · have HE : Hid (cheapK p.st n c0 (k + 1) = (t.n, wrap64 (t.n * t.c))) := HSN.out.trans (by unfold cheapF; rw [HX.out] at g2 ⊢; exact if_pos ⟨g1, g2⟩)
          go_wp2
          go_roundw
          case rel => exact ⟨k + 1, by omega, by go_num, by rw [HE.out], by rw [HE.out], by (repeat (first | exact Below.refl _ _ | assumption | refine Below.alloc ?_ (by first | exact Nat.le_refl _ | exact Below.size (by assumption) | omega | (simp <;> omega)) _ | refine Below.setCell ?_ (by first | exact Nat.le_refl _ | exact Below.size (by assumption) | omega | (simp <;> omega)) _ | refine below_drewN ?_ _ | refine Below.drew ?_))⟩
          case measure => simp [intOf]; omega
        · have HE : Hid (cheapK p.st n c0 (k + 1) = (u, v)) := HSN.out.trans (by unfold cheapF; rw [HX.out] at g2; exact if_neg (fun h => g2 h.2))
          go_wp2
          go_roundw
          case rel => exact ⟨k + 1, by omega, by go_num, by rw [HE.out], by rw [HE.out], by (repeat (first | exact Below.refl _ _ | assumption | refine Below.alloc ?_ (by first | exact Nat.le_refl _ | exact Below.size (by assumption) | omega | (simp <;> omega)) _ | refine Below.setCell ?_ (by first | exact Nat.le_refl _ | exact Below.size (by assumption) | omega | (simp <;> omega)) _ | refine below_drewN ?_ _ | refine Below.drew ?_))⟩
          case measure => simp [intOf]; omega
      · obtain rfl : k = p.st.length := by omega
        go_wp2
        go_ret3
        exact Ret.mk (by rw [HS.out] <;> rfl) hBw
end Go.Proofs.YthccpdefgjneiaaDoor

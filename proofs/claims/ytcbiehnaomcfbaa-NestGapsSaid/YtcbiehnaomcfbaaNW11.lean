/- The law NestGaps: less gaps, nothing lies strictly inside; the law's walk. -/
import Derived.Test.YtcbiehnaomcfbaaNW10
namespace Go.Proofs.Ytcbiehnaomcfbaa
open Go.RowKit

/-- A place lies strictly inside, as far as the first k sides tell. -/
def strictTo (l : List XY) (q : XY) (k : Nat) : Bool := (List.range k).all (fun i => decide (0 < cross2W (cy l i) (cy l (i + 1)) q))
theorem strictTo_succ (l : List XY) (q : XY) (k : Nat) : strictTo l q (k + 1) = (strictTo l q k && decide (0 < cross2W (cy l k) (cy l (k + 1)) q)) := by
  unfold strictTo; rw [List.range_succ, List.all_append]; simp
def stabsB (o p : List XY) : Bool := o.any (fun q => strictTo p q p.length)

theorem no_stab {o p : List XY} (ho : validB o = true) (hp : validB p = true) {g : Int} (h0 : 0 ≤ g) (h1 : g ≤ 2000) (h : apartB o p g = true) : stabsB o p = false := by
  have lo := validB_len' ho
  have lp := validB_len' hp
  rw [apart_iff (wd_valid ho) (wd_valid hp) (sd_valid ho) (sd_valid hp) h0 h1] at h
  obtain ⟨u, v, hd, hs⟩ := h
  have hne : u ≠ 0 ∨ v ≠ 0 := by
    have nz : ∀ {l : List XY}, validB l = true → ∀ i, dU l i ≠ 0 ∨ dV l i ≠ 0 := fun {l} hl i => by
      have := vx_ne ((once_of_convex (validB_len' hl).1 (cy_per l) (validB_conv hl)).1 i)
      rw [(dU_eq (wd_valid hl).2 i).1, (dU_eq (wd_valid hl).2 i).2]
      unfold dd sb at this
      simp only at this
      omega
    rcases hd with ⟨rfl, rfl⟩ | ⟨rfl, rfl⟩ | ⟨i, rfl, rfl⟩ | ⟨i, rfl, rfl⟩
    · omega
    · omega
    · exact nz ho i
    · exact nz hp i
  unfold stabsB
  rw [List.any_eq_false]
  intro q hq hc
  obtain ⟨i, _, rfl⟩ := mem_cy hq
  refine sep_stab (wd_valid ho) (wd_valid hp) lp.1 (validB_conv hp) (dir_dr (sd_valid ho) (sd_valid hp) hd) hne hs i (fun k => ?_)
  unfold strictTo at hc
  rw [List.all_eq_true] at hc
  have := hc (k % p.length) (List.mem_range.2 (Nat.mod_lt _ (by omega)))
  rw [decide_eq_true_eq, cross2W_eq (bd_cy' (by omega) (validB_ranged hp) _) (bd_cy' (by omega) (validB_ranged hp) _) (bd_cy' (by omega) (validB_ranged ho) _), cross_vx2] at this
  have h2 : 0 < vx (dd (cy p) (k % p.length)) (sb (cy p (k % p.length)) (cy o i)) := this
  rwa [dd_mod, cy_mod] at h2

set_option maxRecDepth 100000 in
set_option maxHeartbeats 4000000 in
theorem stabs_any (A A2 : Option Addr) (c c2 : Nat) (o p : List XY) (w : World) (hm : o.length ≤ 1000000) (hm2 : p.length ≤ 1000000) (hl : Rd w w.heap.size A o) (hl2 : Rd w w.heap.size A2 p) (hno : stabsB o p = false) :
    Calls Try.prog 18 #[.slice A o.length c, .slice A2 p.length c2] w (Ret (.bool false) w) := by
  have HL := Lib.hid hl; clear hl
  have HL2 := Lib.hid hl2; clear hl2
  have hmx : Try.prog.follows .mixedOrders = true := by kernel_rfl
  have hall : ∀ (k : Nat) q, o[k]? = some q → strictTo p q p.length = false := fun k q h => by
    have := List.any_eq_false.1 hno q (List.mem_of_getElem? h)
    simpa using this
  have HA := Lib.hid hall; clear hall hno
  go_enter Try.func18, Try.ntmps18
  go_wp2
  go_loopw [6, 7, 8, 9, 12] (fun _ _ _ _ i wr => ∃ k : Nat, k ≤ o.length ∧ i = .int .i64 k ∧ Below w.heap.size w wr) (fun _ _ _ _ i _ => o.length - (intOf i).toNat)
  case atStart => exact ⟨0, Nat.zero_le _, rfl, Below.refl _ _⟩
  case round =>
    obtain ⟨k, hk, rfl, hB⟩ := hrel
    by_cases hlt : k < o.length
    · obtain ⟨q, hq⟩ := getElem?_of_lt hlt
      obtain ⟨b, off, hA, hb, hcx, hcy⟩ := (HL.out.below hB) k q hq
      subst hA
      have hst := HA.out k q hq
      have HST := Lib.hid hst; clear hst hq
      have hsB := hB.size
      obtain ⟨wq, hwq⟩ : ∃ wq, wr.alloc (.cells #[.int .i64 q.X, .int .i64 q.Y] 76) = wq := ⟨_, rfl⟩
      have hBq : Below w.heap.size w wq := by rw [← hwq]; (repeat (first | exact Below.refl _ _ | assumption | refine Below.alloc ?_ (by first | exact Nat.le_refl _ | exact Below.size (by assumption) | omega | (simp <;> omega)) _ | refine Below.setCell ?_ (by first | exact Nat.le_refl _ | exact Below.size (by assumption) | omega | (simp <;> omega)) _ | refine below_drewN ?_ _ | refine Below.drew ?_))
      have hPq : Pt wq wr.heap.size q := by rw [← hwq]; exact ⟨by simp, by simp⟩
      have hzq : wq.heap.size = wr.heap.size + 1 := by rw [← hwq]; simp
      have HWQ := Lib.hid hwq; clear hwq
      have HPQ := Lib.hid hPq; clear hPq
      obtain ⟨wo, rfl⟩ : ∃ wo : World, wo = wr := ⟨_, rfl⟩
      go_wp2
      rw [HWQ.out]
      clear HWQ hcx hcy
      go_loopw [7, 8, 9, 18] (fun vin _ _ i ww => ∃ n : Nat, n ≤ p.length ∧ i = .int .i64 n ∧ vin = .bool (strictTo p q n) ∧ Below wq.heap.size wq ww) (fun _ _ _ i _ => p.length - (intOf i).toNat)
      case atStart => exact ⟨0, Nat.zero_le _, rfl, rfl, Below.refl _ _⟩
      case round =>
        obtain ⟨n, hn, rfl, rfl, hBn⟩ := hrel
        obtain ⟨ww, rfl⟩ : ∃ ww : World, ww = wr := ⟨_, rfl⟩
        have hsuc := strictTo_succ p q n
        by_cases hltn : n < p.length
        · obtain ⟨r, hr⟩ := getElem?_of_lt hltn
          have hBw := hBq.trans (hBn.mono hBq.size)
          obtain ⟨b2, off2, hA, hb2, hdx, hdy⟩ := (HL2.out.below hBw) n r hr
          subst hA
          have hlt2 : (n + 1) % p.length < p.length := Nat.mod_lt _ (by omega)
          obtain ⟨s, hs⟩ := getElem?_of_lt hlt2
          obtain ⟨b3, off3, hA, hb3, hex, hey⟩ := (HL2.out.below hBw) _ s hs
          obtain ⟨rfl, rfl⟩ : b2 = b3 ∧ off2 = off3 := by simpa using hA
          clear hA
          rw [cy_lt hr, cy_of hs] at hsuc
          have HSU := Lib.hid hsuc; clear hsuc hr hs
          have e1 : IntKind.i64.wrap ((n : Int) + 1) = (n : Int) + 1 := IntWalk.i64_in _ (by omega)
          have e2 : ((n : Int) + 1).tmod (p.length : Int) = ((n : Int) + 1) % (p.length : Int) := tmod_pos (by omega)
          obtain ⟨e4, e5⟩ := emod_bd (x := (n : Int) + 1) (n := p.length) (by omega)
          have e6 : (((n : Int) + 1) % (p.length : Int)).toNat = (n + 1) % p.length := emod_toNat rfl
          have e3 : ¬ p = [] := ne_nil_of_lt hltn
          have hsn := hBn.size
          have hbw : b2 < ww.heap.size := by have := hBw.size; omega
          obtain ⟨wz, hwz⟩ : ∃ wz, ww.alloc (.cells #[.int .i64 r.X, .int .i64 r.Y] 76) = wz := ⟨_, rfl⟩
          have hBz : Below wq.heap.size wq wz := by rw [← hwz]; (repeat (first | exact Below.refl _ _ | assumption | refine Below.alloc ?_ (by first | exact Nat.le_refl _ | exact Below.size (by assumption) | omega | (simp <;> omega)) _ | refine Below.setCell ?_ (by first | exact Nat.le_refl _ | exact Below.size (by assumption) | omega | (simp <;> omega)) _ | refine below_drewN ?_ _ | refine Below.drew ?_))
          have prx : wz.cell? ⟨ww.heap.size, 0, none⟩ = some (.int .i64 r.X) := by rw [← hwz]; simp
          have pry : wz.cell? ⟨ww.heap.size, 1, none⟩ = some (.int .i64 r.Y) := by rw [← hwz]; simp
          have psx : wz.cell? ⟨b2, off2 + (n + 1) % p.length * 2, none⟩ = some (.int .i64 s.X) := by rw [← hwz, World.cell?_alloc_lt _ _ _ hbw]; exact hex
          have psy : wz.cell? ⟨b2, off2 + (n + 1) % p.length * 2 + 1, none⟩ = some (.int .i64 s.Y) := by rw [← hwz, World.cell?_alloc_lt _ _ _ hbw]; exact hey
          have HWZ := Lib.hid hwz; clear hwz
          have HPX := Lib.hid (And.intro (And.intro prx pry) (And.intro psx psy)); clear prx pry psx psy
          go_upto_region 8 with fail
          rw [HWZ.out]
          clear HWZ hdx hdy hex hey
          obtain ⟨⟨prx, pry⟩, psx, psy⟩ := HPX.out
          obtain ⟨pqx, pqy⟩ := HPQ.out.below hBz (by omega)
          cases hst : strictTo p q n
          · have HS0 := Lib.hid hst; clear hst
            have hs2 := HSU.out
            rw [HS0.out, Bool.false_and] at hs2
            have HS2 := Lib.hid hs2; clear hs2
            go_region
            all_goals
              go_wp2
              go_roundw
              case rel => exact ⟨n + 1, by omega, by go_num, by rw [HS2.out], by (repeat (first | exact Below.refl _ _ | assumption | refine Below.alloc ?_ (by first | exact Nat.le_refl _ | exact Below.size (by assumption) | omega | (simp <;> omega)) _ | refine Below.setCell ?_ (by first | exact Nat.le_refl _ | exact Below.size (by assumption) | omega | (simp <;> omega)) _ | refine below_drewN ?_ _ | refine Below.drew ?_))⟩
              case measure => simp [intOf]; omega
          · have HS0 := Lib.hid hst; clear hst
            have hs2 := HSU.out
            rw [HS0.out, Bool.true_and] at hs2
            have HS2 := Lib.hid hs2; clear hs2
            go_still_tail 12, (by kernel_rfl)
            change wpList _ _ _ _ _ wz.drew
            go_wp2_with fail
            refine (cross2_any r s q _).mono ?_
            rintro e w5 ⟨rfl, hb5⟩
            have hb5' : Below wz.heap.size wz w5 := below_of_drew hb5
            go_wp2
            go_roundw
            case rel => exact ⟨n + 1, by omega, by go_num, by rw [HS2.out], hBz.trans (hb5'.mono hBz.size)⟩
            case measure => simp [intOf]; omega
        · obtain rfl : n = p.length := by omega
          rw [HST.out]
          go_wp2
          go_roundw
          case rel => exact ⟨k + 1, by omega, by go_num, hBq.trans (hBn.mono hBq.size)⟩
          case measure => simp [intOf]; omega
    · obtain rfl : k = o.length := by omega
      go_wp2
      go_ret
      exact Ret.mk rfl hB

set_option maxRecDepth 100000 in
set_option maxHeartbeats 4000000 in
theorem lawGaps_any (A A2 : Option Addr) (c c2 : Nat) (o p : List XY) (gap less : Int) (w : World) (hl : Rd w w.heap.size A o) (hl2 : Rd w w.heap.size A2 p) :
    Calls Try.prog 4 #[.slice A o.length c, .slice A2 p.length c2, .int .i64 gap, .int .i64 less] w (Ret (.bool true) w) := by
  have HL := Lib.hid hl; clear hl
  have HL2 := Lib.hid hl2; clear hl2
  have hsay := apartS_says o p gap
  by_cases hgo : apartS validB apartB o p gap = (true, 0)
  · have hs2 : apartB o p gap = true ∧ validB o = true ∧ validB p = true ∧ 0 ≤ gap ∧ gap ≤ 2000 := by
      rcases hsay with hz | ⟨hs, ho, hp, h0, h1⟩
      · rw [hgo] at hz; simp at hz
      · rw [hs] at hgo; exact ⟨by injection hgo, ho, hp, h0, h1⟩
    obtain ⟨hap, ho, hp, h0, h1⟩ := hs2
    have lo := validB_len' ho
    have lp := validB_len' hp
    have n1 := no_stab ho hp h0 h1 hap
    have n2 := no_stab hp ho h0 h1 (by rw [apart_comm (wd_valid hp) (wd_valid ho) (sd_valid hp) (sd_valid ho) h0 h1]; exact hap)
    have hless : 0 ≤ less → less ≤ gap → apartS validB apartB o p less = (true, 0) := fun a b => by
      rw [apartS_ok ho hp a (by omega), apart_less (wd_valid ho) (wd_valid hp) (sd_valid ho) (sd_valid hp) a b h1 hap]
    have HLE := Lib.hid hless; clear hless
    have H1 := Lib.hid hgo; clear hgo hsay
    have HN1 := Lib.hid n1; clear n1
    have HN2 := Lib.hid n2; clear n2
    clear ho hp hap h0 h1
    have hend : ∀ W, Below w.heap.size w W → Calls Try.prog 18 #[.slice A o.length c, .slice A2 p.length c2] W (Ret (.bool false) W) := fun W h => stabs_any A A2 c c2 o p W (by omega) (by omega) (HL.out.now h) (HL2.out.now h) HN1.out
    have hend2 : ∀ W, Below w.heap.size w W → Calls Try.prog 18 #[.slice A2 p.length c2, .slice A o.length c] W (Ret (.bool false) W) := fun W h => stabs_any A2 A c2 c p o W (by omega) (by omega) (HL2.out.now h) (HL.out.now h) HN2.out
    have HE := Lib.hid hend; clear hend
    have HE2 := Lib.hid hend2; clear hend2
    by_cases hle : 0 ≤ less ∧ less ≤ gap
    · obtain ⟨hle1, hle2⟩ := hle
      have H2 := Lib.hid (HLE.out hle1 hle2)
      go_enter Try.func4, Try.ntmps4
      go_wp2_with fail
      refine (Apart_any gap A A2 c c2 o p _ HL.out HL2.out).mono ?_
      rintro e' w1 ⟨rfl, hb1⟩
      rw [H1.out]
      go_wp2_with fail
      refine (Apart_any less A A2 c c2 o p _ (HL.out.now hb1) (HL2.out.now hb1)).mono ?_
      rintro e' w2 ⟨rfl, hb2⟩
      rw [H2.out]
      have hB2 := hb1.trans (hb2.mono hb1.size)
      go_wp2_with fail
      refine (HE.out _ hB2).mono ?_
      rintro e' w3 ⟨rfl, hb3⟩
      have hB3 := hB2.trans (hb3.mono hB2.size)
      go_wp2_with fail
      refine (HE2.out _ hB3).mono ?_
      rintro e' w4 ⟨rfl, hb4⟩
      have hB4 := hB3.trans (hb4.mono hB3.size)
      go_wp2_with fail
      refine (nawake_any _).mono ?_
      rintro e' w5 ⟨rfl, hb5⟩
      go_wp2
      go_ret
      exact Ret.mk rfl (hB4.trans (hb5.mono hB4.size))
    · have hcond : (decide (0 ≤ less) && decide (less ≤ gap)) = false := by simp; omega
      rcases (show less < 0 ∨ (0 ≤ less ∧ gap < less) by omega) with hneg | ⟨hpos, hgt⟩
      all_goals
        clear hle
        go_enter Try.func4, Try.ntmps4
        go_wp2_with fail
        refine (Apart_any gap A A2 c c2 o p _ HL.out HL2.out).mono ?_
        rintro e' w1 ⟨rfl, hb1⟩
        rw [H1.out]
        go_wp2_with fail
        refine (HE.out _ hb1).mono ?_
        rintro e' w3 ⟨rfl, hb3⟩
        have hB3 := hb1.trans (hb3.mono hb1.size)
        go_wp2_with fail
        refine (HE2.out _ hB3).mono ?_
        rintro e' w4 ⟨rfl, hb4⟩
        have hB4 := hB3.trans (hb4.mono hB3.size)
        go_wp2_with fail
        refine (nawake_any _).mono ?_
        rintro e' w5 ⟨rfl, hb5⟩
        go_wp2
        go_ret
        exact Ret.mk rfl (hB4.trans (hb5.mono hB4.size))
  · obtain ⟨⟨x, e⟩, hx⟩ : ∃ r, apartS validB apartB o p gap = r := ⟨_, rfl⟩
    rw [hx] at hgo
    have H1 := Lib.hid hx; clear hx hsay
    by_cases he : e = 0
    · subst he
      have hxf : x = false := by cases x with
        | false => rfl
        | true => exact absurd rfl hgo
      subst hxf
      clear hgo
      go_enter Try.func4, Try.ntmps4
      go_wp2_with fail
      refine (Apart_any gap A A2 c c2 o p _ HL.out HL2.out).mono ?_
      rintro e' w1 ⟨rfl, hb1⟩
      rw [H1.out]
      go_wp2_with fail
      refine (nawake_any _).mono ?_
      rintro e' w5 ⟨rfl, hb5⟩
      go_wp2
      go_ret
      exact Ret.mk rfl (hb1.trans (hb5.mono hb1.size))
    · clear hgo
      go_enter Try.func4, Try.ntmps4
      go_wp2_with fail
      refine (Apart_any gap A A2 c c2 o p _ HL.out HL2.out).mono ?_
      rintro e' w1 ⟨rfl, hb1⟩
      rw [H1.out]
      go_wp2_with fail
      refine (nawake_any _).mono ?_
      rintro e' w5 ⟨rfl, hb5⟩
      go_wp2
      go_ret
      exact Ret.mk rfl (hb1.trans (hb5.mono hb1.size))
end Go.Proofs.Ytcbiehnaomcfbaa

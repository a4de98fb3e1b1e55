/- Ovens: the program's Season, Allowance, Ready: the walks. -/
import Derived.Test.YtbcnkcndhgihaaaDoorSO1
import Derived.Test.YtbcnkcndhgihaaaDoorSearch
import Derived.Test.YtbcnkcndhgihaaaDoorRound5
namespace Go.Proofs.YtbcnkcndhgihaaaDoor
open Go.RowKit Go.Shelf Go.Lib Go.Sort
set_option linter.unusedSimpArgs false

set_option maxRecDepth 100000 in
set_option maxHeartbeats 1000000 in
theorem Season_any (A : Option Addr) (c : Nat) (s : Int) (l : List Int) (d : Int) (w : World) (hl : RdI w w.heap.size A l) (hm : l.length ≤ maxLen) (hc : l.length ≤ c) : Calls Tryd.prog 44 #[.int .i64 s, .slice A l.length c, .int .i64 d] w (Ret (.tuple #[.int .i64 (seasonB s l d).1, .int .i64 (seasonB s l d).2]) w) := by
  have HO := Lib.hid (oven_any A c s l d 0 w hl hm)
  by_cases h0 : ovenE s l d 0 = 0
  · have hok := oven_ok h0
    have HS := Lib.hid (show seasonB s l d = (shrD s l d, 0) by unfold seasonB; rw [if_pos h0])
    have HK := Lib.hid (fun W (hB : Below w.heap.size w W) => shrunk_any A c s l d W (by omega) hok.2.1 hok.2.2.2.1.1 (hl.now hB) hm hc)
    clear hl hm hc hok
    rw [h0] at HO
    clear h0
    go_enter Tryd.func44, Tryd.ntmps44
    go_wp2_with fail
    refine HO.out.mono ?_
    rintro e w2 ⟨rfl, hb2⟩
    go_wp2_with fail
    refine (HK.out _ hb2).mono ?_
    rintro e w3 ⟨rfl, rfl⟩
    go_wp2
    go_ret2
    exact Ret.mk (by rw [HS.out]; rfl) hb2
  · obtain ⟨x, hx⟩ : ∃ x, ovenE s l d 0 = x := ⟨_, rfl⟩
    have HS := Lib.hid (show seasonB s l d = (0, x) by unfold seasonB; rw [if_neg h0, hx])
    rw [hx] at HO h0
    have hne : (x != 0) = true := by simp; exact h0
    clear hl hm hc hx h0
    go_enter Tryd.func44, Tryd.ntmps44
    go_wp2_with fail
    refine HO.out.mono ?_
    rintro e w2 ⟨rfl, hb2⟩
    go_wp2
    go_ret2
    exact Ret.mk (by rw [HS.out]; rfl) hb2
theorem search_any (g : Nat) (cb : Array Value) (n : Nat) (p : Nat → Bool) (w : World) (eg : ∀ args w, (callFunc g args).run Tryd.prog w = .ok (.enter g args) w) (hsz : n < 4611686018427387904)
    (hf : ∀ (W : World) (i : Nat), i < n → Below w.heap.size w W → Calls Tryd.prog g (#[.int .i64 i] ++ cb) W fun e w' => e = .returned (.bool (p i)) ∧ ∃ q, w' = W.drewN q)
    (hmono : ∀ a b, a ≤ b → b < n → p a = true → p b = true) :
    Calls Tryd.prog 77 #[.int .i64 n, .func (.func g) #[] cb] w (Ret (.int .i64 (firstS p n : Nat)) w) := by
  have h := Any.sort_Search Tryd.search16 g cb n p w eg hsz (fun m os i hi => (hf _ i hi (below_grown_sl _ w m os (Nat.le_refl _))).mono fun _ _ ⟨he, q, hq⟩ => ⟨he, q, #[], by rw [hq, grow_empty]⟩) hmono
  rw [count_first n hmono] at h
  refine Calls.mono h ?_
  rintro e w' ⟨rfl, q, os, rfl⟩
  exact Ret.mk rfl (below_grown_sl _ w q os (Nat.le_refl _))
set_option maxRecDepth 100000 in
set_option maxHeartbeats 1000000 in
theorem allow1_any (bs bd bw : Nat) (A : Option Addr) (c : Nat) (want : Int) (l : List Int) (d : Int) (i : Nat) (W : World) (hi : i < 100000) (ht : TabOk l) (hd : 0 ≤ d ∧ d ≤ 1000) 
    (hl : RdI W W.heap.size A l) (hm : l.length ≤ maxLen) (hc : l.length ≤ c) (h1 : W.cell? ⟨bs, 0, none⟩ = some (.slice A l.length c)) (h2 : W.cell? ⟨bd, 0, none⟩ = some (.int .i64 d)) (h3 : W.cell? ⟨bw, 0, none⟩ = some (.int .i64 want)) :
    Calls Tryd.prog 79 (#[.int .i64 i] ++ #[.pointer (some ⟨bs, 0, none⟩), .pointer (some ⟨bd, 0, none⟩), .pointer (some ⟨bw, 0, none⟩)]) W fun e w' => e = .returned (.bool (enough want l d i)) ∧ ∃ q, w' = W.drewN q := by
  have HK := Lib.hid (shrunk_any A c ((i : Int) + 1) l d W.drew (by omega) ht hd.1 hl hm hc)
  have HE : Hid (enough want l d i = decide (want ≤ shrD ((i : Int) + 1) l d)) := rfl
  generalize shrD ((i : Int) + 1) l d = y at HK HE
  clear hl hm hc ht hd
  have hmx : Tryd.prog.follows .mixedOrders = true := by kernel_rfl
  have hw1 : IntKind.i64.wrap ((i : Int) + 1) = (i : Int) + 1 := IntWalk.i64_in _ (by omega)
  go_enter Tryd.func79, Tryd.ntmps79
  go_wp2
  refine region_const hmx (by kernel_rfl) ?_
  (refine k_read rfl (by skip; go_simp; rfl) ?_; simp only [Act.put, List.setIfInBounds_toArray, List.set_cons_succ, List.set_cons_zero])
  (refine k_read rfl (by skip; go_simp; rfl) ?_; simp only [Act.put, List.setIfInBounds_toArray, List.set_cons_succ, List.set_cons_zero])
  (refine k_read rfl (by skip; go_simp; rfl) ?_; simp only [Act.put, List.setIfInBounds_toArray, List.set_cons_succ, List.set_cons_zero])
  (refine k_read rfl (by skip; go_simp; rfl) ?_; simp only [Act.put, List.setIfInBounds_toArray, List.set_cons_succ, List.set_cons_zero])
  (refine k_call rfl (by (go_simp; try rfl)) (HK.out) ?_; simp only [Act.put, List.setIfInBounds_toArray, List.set_cons_succ, List.set_cons_zero])
  (refine k_read rfl (by skip; go_simp; rfl) ?_; simp only [Act.put, List.setIfInBounds_toArray, List.set_cons_succ, List.set_cons_zero])
  (refine k_read rfl (by skip; go_simp; rfl) ?_; simp only [Act.put, List.setIfInBounds_toArray, List.set_cons_succ, List.set_cons_zero])
  (refine k_read rfl (by skip; go_simp; rfl) ?_; simp only [Act.put, List.setIfInBounds_toArray, List.set_cons_succ, List.set_cons_zero])
  refine l_nil ?_
  go_wp2
  go_ret
  exact ⟨by rw [HE.out]; rfl, 1, rfl⟩
set_option maxRecDepth 100000 in
set_option maxHeartbeats 1000000 in
theorem ready1_any (bz bs be br : Nat) (A : Option Addr) (c : Nat) (s : Int) (l : List Int) (r : Int) (i : Nat) (W : World) (hl60 : l.length ≤ 60) (ht : TabOk l) (hs : 1 ≤ s ∧ s ≤ 100000)
    (hl : RdI W W.heap.size A l) (hc : l.length ≤ c) (h1 : W.cell? ⟨bz, 0, none⟩ = some (.int .i64 s)) (h2 : W.cell? ⟨bs, 0, none⟩ = some (.slice A l.length c)) (h3 : W.cell? ⟨be, 0, none⟩ = some (.int .i64 (shrS s l))) (h4 : W.cell? ⟨br, 0, none⟩ = some (.int .i64 r)) :
    Calls Tryd.prog 78 (#[.int .i64 i] ++ #[.pointer (some ⟨bz, 0, none⟩), .pointer (some ⟨bs, 0, none⟩), .pointer (some ⟨be, 0, none⟩), .pointer (some ⟨br, 0, none⟩)]) W fun e w' => e = .returned (.bool (rests s l r i)) ∧ ∃ q, w' = W.drewN q := by
  have HK := Lib.hid (shrunk_any A c s l i W.drew (by omega) ht (by omega) hl (by unfold maxLen; omega) hc)
  have HE : Hid (rests s l r i = decide (shrD s l i - shrS s l ≤ r)) := rfl
  have b1 := shrD_bd ht (s := s) (by omega) i
  have b2 := shr_bd l s ht (by omega)
  generalize shrD s l i = y at HK HE b1
  generalize shrS s l = z at HE b2 h3
  clear hl hc ht
  have hmx : Tryd.prog.follows .mixedOrders = true := by kernel_rfl
  have hw1 : IntKind.i64.wrap (y - z) = y - z := IntWalk.i64_in _ (by omega)
  go_enter Tryd.func78, Tryd.ntmps78
  go_wp2
  refine region_const hmx (by kernel_rfl) ?_
  (refine k_read rfl (by skip; go_simp; rfl) ?_; simp only [Act.put, List.setIfInBounds_toArray, List.set_cons_succ, List.set_cons_zero])
  (refine k_read rfl (by skip; go_simp; rfl) ?_; simp only [Act.put, List.setIfInBounds_toArray, List.set_cons_succ, List.set_cons_zero])
  (refine k_read rfl (by skip; go_simp; rfl) ?_; simp only [Act.put, List.setIfInBounds_toArray, List.set_cons_succ, List.set_cons_zero])
  (refine k_call rfl (by (go_simp; try rfl)) (HK.out) ?_; simp only [Act.put, List.setIfInBounds_toArray, List.set_cons_succ, List.set_cons_zero])
  (refine k_read rfl (by skip; go_simp; rfl) ?_; simp only [Act.put, List.setIfInBounds_toArray, List.set_cons_succ, List.set_cons_zero])
  (refine k_read rfl (by skip; go_simp; rfl) ?_; simp only [Act.put, List.setIfInBounds_toArray, List.set_cons_succ, List.set_cons_zero])
  (refine k_read rfl (by skip; go_simp; rfl) ?_; simp only [Act.put, List.setIfInBounds_toArray, List.set_cons_succ, List.set_cons_zero])
  (refine k_read rfl (by skip; go_simp; rfl) ?_; simp only [Act.put, List.setIfInBounds_toArray, List.set_cons_succ, List.set_cons_zero])
  (refine k_read rfl (by skip; go_simp; rfl) ?_; simp only [Act.put, List.setIfInBounds_toArray, List.set_cons_succ, List.set_cons_zero])
  refine l_nil ?_
  go_wp2
  go_ret
  exact ⟨by rw [HE.out]; rfl, 1, rfl⟩
set_option maxRecDepth 100000 in
set_option maxHeartbeats 1000000 in
theorem Allow_any (A : Option Addr) (c : Nat) (want : Int) (l : List Int) (d : Int) (w : World) (hl : RdI w w.heap.size A l) (hm : l.length ≤ maxLen) (hc : l.length ≤ c) : Calls Tryd.prog 48 #[.int .i64 want, .slice A l.length c, .int .i64 d] w (Ret (.tuple #[.int .i64 (allowB want l d).1, .int .i64 (allowB want l d).2]) w) := by
  obtain ⟨wa, hwa⟩ : ∃ wa, ((w.alloc (.cells #[.int .i64 want] 3)).alloc (.cells #[.slice A l.length c] 60)).alloc (.cells #[.int .i64 d] 3) = wa := ⟨_, rfl⟩
  have hba : Below w.heap.size w wa := by rw [← hwa]; (repeat (first | exact Below.refl _ _ | assumption | refine Below.alloc ?_ (by first | exact Nat.le_refl _ | exact Below.size (by assumption) | omega | (simp <;> omega)) _ | refine Below.setCell ?_ (by first | exact Nat.le_refl _ | exact Below.size (by assumption) | omega | (simp <;> omega)) _ | refine below_drewN ?_ _ | refine Below.drew ?_))
  have c1 : wa.cell? ⟨w.heap.size, 0, none⟩ = some (.int .i64 want) := by subst hwa; exact cell_alloc_sl _ (cell_alloc_sl _ (cell_new_sl w _ _))
  have c2 : wa.cell? ⟨w.heap.size + 1, 0, none⟩ = some (.slice A l.length c) := by subst hwa; refine cell_alloc_sl _ ?_; have := cell_new_sl (w.alloc (.cells #[.int .i64 want] 3)) (.slice A l.length c) 60; rwa [World.size_alloc] at this
  have c3 : wa.cell? ⟨w.heap.size + 2, 0, none⟩ = some (.int .i64 d) := by subst hwa; have := cell_new_sl ((w.alloc (.cells #[.int .i64 want] 3)).alloc (.cells #[.slice A l.length c] 60)) (.int .i64 d) 3; rwa [World.size_alloc, World.size_alloc] at this
  have hza : wa.heap.size = w.heap.size + 3 := by rw [← hwa]; simp
  have HO := Lib.hid (oven_any A c want l d 0 wa (hl.now hba) hm)
  have HC := Lib.hid (fun (W : World) (hB : Below wa.heap.size wa W) => And.intro ((hB.cell (p := ⟨w.heap.size, 0, none⟩) (by show w.heap.size < _; omega)).trans c1) (And.intro ((hB.cell (p := ⟨w.heap.size + 1, 0, none⟩) (by show w.heap.size + 1 < _; omega)).trans c2) ((hB.cell (p := ⟨w.heap.size + 2, 0, none⟩) (by show w.heap.size + 2 < _; omega)).trans c3)))
  have HWA := Lib.hid hwa
  have HB := Lib.hid hba
  by_cases h0 : ovenE want l d 0 = 0
  · have hok := oven_ok h0
    obtain ⟨K, hK⟩ : ∃ K, firstS (enough want l d) 100000 = K := ⟨_, rfl⟩
    have hKl : K ≤ 100000 := by rw [← hK]; exact first_le _ _
    have HS := Lib.hid (show allowB want l d = if K < 100000 then ((K : Int) + 1, 0) else (0, 5) by unfold allowB; rw [if_pos h0, hK])
    have HK := Lib.hid (fun (W : World) (hB : Below wa.heap.size wa W) => search_any 79 #[.pointer (some ⟨w.heap.size + 1, 0, none⟩), .pointer (some ⟨w.heap.size + 2, 0, none⟩), .pointer (some ⟨w.heap.size, 0, none⟩)] 100000 (enough want l d) W (enters_of Tryd.func79 (by kernel_rfl) rfl) (by omega)
      (fun W' i hi hb' => by
        have hB' := hB.trans (hb'.mono hB.size)
        obtain ⟨e1, e2, e3⟩ := HC.out W' hB'
        exact allow1_any _ _ _ A c want l d i W' hi hok.2.1 hok.2.2.2.1 (hl.now (hba.trans (hB'.mono hba.size))) hm hc e2 e3 e1)
      (enough_mono hok.2.1 d))
    rw [hK] at HK
    rw [h0] at HO
    clear h0 hK hl hm hc hok hwa hba c1 c2 c3
    go_enter Tryd.func48, Tryd.ntmps48
    go_wp2_with fail
    rw [HWA.out]
    refine HO.out.mono ?_
    rintro e w2 ⟨rfl, hb2⟩
    obtain ⟨e1, e2, e3⟩ := HC.out w2 hb2
    go_wp2_with fail
    refine (HK.out w2 hb2).mono ?_
    rintro e w3 ⟨rfl, hb3⟩
    have hB3 : Below w.heap.size w w3 := HB.out.trans ((hb2.trans (hb3.mono hb2.size)).mono HB.out.size)
    by_cases hlt : K < 100000
    · go_wp2
      go_ret2
      exact Ret.mk (by rw [HS.out, if_pos hlt]; simp; try omega) hB3
    · go_wp2
      go_ret2
      exact Ret.mk (by rw [HS.out, if_neg hlt]; rfl) hB3
  · obtain ⟨x, hx⟩ : ∃ x, ovenE want l d 0 = x := ⟨_, rfl⟩
    have HS := Lib.hid (show allowB want l d = (0, x) by unfold allowB; rw [if_neg h0, hx])
    rw [hx] at HO h0
    have hne : (x != 0) = true := by simp; exact h0
    clear hl hm hc hx h0 hwa hba c1 c2 c3
    go_enter Tryd.func48, Tryd.ntmps48
    go_wp2_with fail
    rw [HWA.out]
    refine HO.out.mono ?_
    rintro e w2 ⟨rfl, hb2⟩
    go_wp2
    go_ret2
    exact Ret.mk (by rw [HS.out]; rfl) (HB.out.trans (hb2.mono HB.out.size))
set_option maxRecDepth 100000 in
set_option maxHeartbeats 1000000 in
theorem Ready_any (A : Option Addr) (c : Nat) (s : Int) (l : List Int) (r : Int) (w : World) (hl : RdI w w.heap.size A l) (hm : l.length ≤ maxLen) (hc : l.length ≤ c) : Calls Tryd.prog 46 #[.int .i64 s, .slice A l.length c, .int .i64 r] w (Ret (.tuple #[.int .i64 (readyB s l r).1, .int .i64 (readyB s l r).2]) w) := by
  obtain ⟨wa, hwa⟩ : ∃ wa, ((w.alloc (.cells #[.int .i64 s] 3)).alloc (.cells #[.slice A l.length c] 60)).alloc (.cells #[.int .i64 r] 3) = wa := ⟨_, rfl⟩
  have hba : Below w.heap.size w wa := by rw [← hwa]; (repeat (first | exact Below.refl _ _ | assumption | refine Below.alloc ?_ (by first | exact Nat.le_refl _ | exact Below.size (by assumption) | omega | (simp <;> omega)) _ | refine Below.setCell ?_ (by first | exact Nat.le_refl _ | exact Below.size (by assumption) | omega | (simp <;> omega)) _ | refine below_drewN ?_ _ | refine Below.drew ?_))
  have c1 : wa.cell? ⟨w.heap.size, 0, none⟩ = some (.int .i64 s) := by subst hwa; exact cell_alloc_sl _ (cell_alloc_sl _ (cell_new_sl w _ _))
  have c2 : wa.cell? ⟨w.heap.size + 1, 0, none⟩ = some (.slice A l.length c) := by subst hwa; refine cell_alloc_sl _ ?_; have := cell_new_sl (w.alloc (.cells #[.int .i64 s] 3)) (.slice A l.length c) 60; rwa [World.size_alloc] at this
  have c3 : wa.cell? ⟨w.heap.size + 2, 0, none⟩ = some (.int .i64 r) := by subst hwa; have := cell_new_sl ((w.alloc (.cells #[.int .i64 s] 3)).alloc (.cells #[.slice A l.length c] 60)) (.int .i64 r) 3; rwa [World.size_alloc, World.size_alloc] at this
  have hza : wa.heap.size = w.heap.size + 3 := by rw [← hwa]; simp
  have HO := Lib.hid (oven_any A c s l 0 r wa (hl.now hba) hm)
  have HC := Lib.hid (fun (W : World) (hB : Below wa.heap.size wa W) => And.intro ((hB.cell (p := ⟨w.heap.size, 0, none⟩) (by show w.heap.size < _; omega)).trans c1) (And.intro ((hB.cell (p := ⟨w.heap.size + 1, 0, none⟩) (by show w.heap.size + 1 < _; omega)).trans c2) ((hB.cell (p := ⟨w.heap.size + 2, 0, none⟩) (by show w.heap.size + 2 < _; omega)).trans c3)))
  have HWA := Lib.hid hwa
  have HB := Lib.hid hba
  by_cases h0 : ovenE s l 0 r = 0
  · have hok := oven_ok h0
    have hlm : l.length ≤ 60 := hok.1
    obtain ⟨K, hK⟩ : ∃ K, firstS (rests s l r) l.length = K := ⟨_, rfl⟩
    have HS := Lib.hid (show readyB s l r = ((K : Int), 0) by unfold readyB; rw [if_pos h0, hK])
    have HZ := Lib.hid (fun (W : World) (hB : Below wa.heap.size wa W) => shrunk_any A c s l l.length W (by omega) hok.2.1 (by omega) (hl.now (hba.trans (hB.mono hba.size))) hm hc)
    have HK := Lib.hid (fun (W : World) (hB : Below wa.heap.size wa W) (e : Nat) (he : e < W.heap.size) (hce : W.cell? ⟨e, 0, none⟩ = some (.int .i64 (shrS s l))) => search_any 78 #[.pointer (some ⟨w.heap.size, 0, none⟩), .pointer (some ⟨w.heap.size + 1, 0, none⟩), .pointer (some ⟨e, 0, none⟩), .pointer (some ⟨w.heap.size + 2, 0, none⟩)] l.length (rests s l r) W (enters_of Tryd.func78 (by kernel_rfl) rfl) (by omega)
      (fun W' i _ hb' => by
        have hB' := hB.trans (hb'.mono hB.size)
        obtain ⟨e1, e2, e3⟩ := HC.out W' hB'
        exact ready1_any _ _ _ _ A c s l r i W' hlm hok.2.1 hok.2.2.1 (hl.now (hba.trans (hB'.mono hba.size))) hc e1 e2 ((hb'.cell (p := ⟨e, 0, none⟩) he).trans hce) e3)
      (rests_mono hok.2.1 (by omega)))
    rw [hK] at HK
    rw [h0] at HO
    rw [shrD_all] at HZ
    obtain ⟨Z, hZ⟩ : ∃ Z, shrS s l = Z := ⟨_, rfl⟩
    rw [hZ] at HK HZ
    clear h0 hK hl hm hc hok hwa hba c1 c2 c3 hZ
    go_enter Tryd.func46, Tryd.ntmps46
    go_wp2_with fail
    rw [HWA.out]
    refine HO.out.mono ?_
    rintro e w2 ⟨rfl, hb2⟩
    obtain ⟨e1, e2, e3⟩ := HC.out w2 hb2
    have hs2 := hb2.size
    go_wp2_with fail
    refine (HZ.out w2 hb2).mono ?_
    rintro e w9 ⟨rfl, rfl⟩
    have hbz : Below wa.heap.size wa (w9.alloc (.cells #[.int .i64 Z] 3)) := by (repeat (first | exact Below.refl _ _ | assumption | refine Below.alloc ?_ (by first | exact Nat.le_refl _ | exact Below.size (by assumption) | omega | (simp <;> omega)) _ | refine Below.setCell ?_ (by first | exact Nat.le_refl _ | exact Below.size (by assumption) | omega | (simp <;> omega)) _ | refine below_drewN ?_ _ | refine Below.drew ?_))
    obtain ⟨g1, g2, g3⟩ := HC.out _ hbz
    have hcz := cell_new_sl w9 (.int .i64 Z) 3
    go_wp2_with fail
    refine (HK.out _ hbz _ (by simp) hcz).mono ?_
    rintro e w3 ⟨rfl, hb3⟩
    have hB3 : Below w.heap.size w w3 := HB.out.trans ((hbz.trans (hb3.mono hbz.size)).mono HB.out.size)
    go_wp2
    go_ret2
    exact Ret.mk (by rw [HS.out]; rfl) hB3
  · obtain ⟨x, hx⟩ : ∃ x, ovenE s l 0 r = x := ⟨_, rfl⟩
    have HS := Lib.hid (show readyB s l r = (0, x) by unfold readyB; rw [if_neg h0, hx])
    rw [hx] at HO h0
    have hne : (x != 0) = true := by simp; exact h0
    clear hl hm hc hx h0 hwa hba c1 c2 c3
    go_enter Tryd.func46, Tryd.ntmps46
    go_wp2_with fail
    rw [HWA.out]
    refine HO.out.mono ?_
    rintro e w2 ⟨rfl, hb2⟩
    go_wp2
    go_ret2
    exact Ret.mk (by rw [HS.out]; rfl) (HB.out.trans (hb2.mono HB.out.size))
end Go.Proofs.YtbcnkcndhgihaaaDoor

/- Extent, of the reference: the walk. -/
import Derived.Test.YtcbiehnaomcfbaaNW32
namespace Go.Proofs.Ytcbiehnaomcfbaa
open Go.RowKit Go.Shelf

theorem extL_succ {ps : List PT} {L : List PL} {k : Nat} {p : PL} (h : L[k]? = some p) : extL ps (L.take (k + 1)) = extL ps (L.take k) ++ lyP ps p := by
  unfold extL; rw [take_succ_of h]; simp
theorem extL_le {ps : List PT} (hp : partsB ps = true) : ∀ M : List PL, (∀ p ∈ M, placedB ps.length p = true) → (extL ps M).length ≤ 64 * M.length
  | [], _ => by unfold extL; simp
  | p :: M, h => by
    have h1 := extL_le hp M (fun q hq => h q (List.mem_cons_of_mem _ hq))
    have h2 := lyP_len hp (h p (List.mem_cons_self ..))
    have e : extL ps (p :: M) = lyP ps p ++ extL ps M := by unfold extL; simp
    rw [e, List.length_append, List.length_cons]
    omega

set_option maxRecDepth 100000 in
set_option maxHeartbeats 4000000 in
theorem Extent2_any (A A3 : Option Addr) (c c3 : Nat) (ps : List PT) (L : List PL) (w : World) (hm : ps.length ≤ Go.maxLen) (hp : RdPP w w.heap.size A ps) (hl : RdL w w.heap.size A3 L) :
    Calls Try.prog 29 #[.slice A ps.length c, .slice A3 L.length c3] w (Ret (.tuple #[valR (extS ps L).1, .int .i64 (extS ps L).2]) w) := by
  have HP := Lib.hid hp; clear hp
  have HL := Lib.hid hl; clear hl
  obtain ⟨w0, hw0⟩ : ∃ w0, w.alloc (.cells #[.int .i64 0, .int .i64 0, .int .i64 0, .int .i64 0] 51) = w0 := ⟨_, rfl⟩
  have hB0 : Below w.heap.size w w0 := by rw [← hw0]; (repeat (first | exact Below.refl _ _ | assumption | refine Below.alloc ?_ (by first | exact Nat.le_refl _ | exact Below.size (by assumption) | omega | (simp <;> omega)) _ | refine Below.setCell ?_ (by first | exact Nat.le_refl _ | exact Below.size (by assumption) | omega | (simp <;> omega)) _ | refine below_drewN ?_ _ | refine Below.drew ?_))
  have hz0 : w0.heap.size = w.heap.size + 1 := by rw [← hw0]; simp
  have HRX : Hid (Rx w0 w.heap.size zeroR) := by rw [Hid, ← hw0]; exact Rx.new w zeroR
  have hs : extS ps L = if !partsB ps then (zeroR, 70) else if 200 < L.length then (zeroR, 2) else if L.any (fun p => !placedB ps.length p) then (zeroR, 2) else if L.length = 0 then (zeroR, 0) else (boxL (extL ps L), 0) := rfl
  cases hv : partsB ps
  · rw [hv] at hs
    have HS := Lib.hid hs; clear hs
    have HV := Lib.hid hv; clear hv
    go_enter Try.func29, Try.ntmps29
    go_wp2_with fail
    clear hw0
    refine (validParts_any A c ps _ hm (HP.out.now hB0)).mono ?_
    rintro e w2 ⟨rfl, hb2⟩
    rw [HV.out]
    have hs2 := hb2.size
    have HRX2 := Lib.hid (HRX.out.below hb2 (by omega))
    obtain ⟨r0, r1, r2, r3⟩ := HRX2.out.c
    obtain ⟨g0, g1, g2, g3⟩ := HRX2.out.f
    have hB2 := hB0.trans (hb2.mono hB0.size)
    have hzz : w.heap.size < w2.heap.size := by omega
    go_wp2
    obtain ⟨y0, y1, y2, y3⟩ := Rx.rd HRX2.out (.int .i64 0) (.int .i64 0) (.int .i64 0) (.int .i64 0); refine bodyPost_ret (v := .tuple #[valR zeroR, .int .i64 70]) (by simp [results, Try.results29, go_sem, y0, y1, y2, y3, zeroR]) rfl ?_
    exact Ret.mk (by rw [HS.out] <;> rfl) (by (repeat (first | exact Below.refl _ _ | assumption | refine Below.alloc ?_ (by first | exact Nat.le_refl _ | exact Below.size (by assumption) | omega | (simp <;> omega)) _ | refine Below.setCell ?_ (by first | exact Nat.le_refl _ | exact Below.size (by assumption) | omega | (simp <;> omega)) _ | refine below_drewN ?_ _ | refine Below.drew ?_)))
  rw [hv, if_neg (by simp)] at hs
  have hps := partsB_len hv
  have HV := Lib.hid hv; clear hv
  by_cases h200 : 200 < L.length
  · rw [if_pos h200] at hs
    have HS := Lib.hid hs; clear hs
    have hI : 200 < (L.length : Int) := by omega
    go_enter Try.func29, Try.ntmps29
    go_wp2_with fail
    clear hw0
    refine (validParts_any A c ps _ hm (HP.out.now hB0)).mono ?_
    rintro e w2 ⟨rfl, hb2⟩
    rw [HV.out]
    have hs2 := hb2.size
    have HRX2 := Lib.hid (HRX.out.below hb2 (by omega))
    obtain ⟨r0, r1, r2, r3⟩ := HRX2.out.c
    obtain ⟨g0, g1, g2, g3⟩ := HRX2.out.f
    have hB2 := hB0.trans (hb2.mono hB0.size)
    have hzz : w.heap.size < w2.heap.size := by omega
    go_wp2
    obtain ⟨y0, y1, y2, y3⟩ := Rx.rd HRX2.out (.int .i64 0) (.int .i64 0) (.int .i64 0) (.int .i64 0); refine bodyPost_ret (v := .tuple #[valR zeroR, .int .i64 2]) (by simp [results, Try.results29, go_sem, y0, y1, y2, y3, zeroR]) rfl ?_
    exact Ret.mk (by rw [HS.out] <;> rfl) (by (repeat (first | exact Below.refl _ _ | assumption | refine Below.alloc ?_ (by first | exact Nat.le_refl _ | exact Below.size (by assumption) | omega | (simp <;> omega)) _ | refine Below.setCell ?_ (by first | exact Nat.le_refl _ | exact Below.size (by assumption) | omega | (simp <;> omega)) _ | refine below_drewN ?_ _ | refine Below.drew ?_)))
  rw [if_neg h200] at hs
  have HSA := Lib.hid hs; clear hs
  have hI : ¬ 200 < (L.length : Int) := by omega
  obtain ⟨i0, hi, hz0', hz1, hz2⟩ := info_parts Try.infoXY
  have HJ := Lib.hid hi; clear hi
  go_enter Try.func29, Try.ntmps29
  go_wp2_with fail
  clear hw0
  refine (validParts_any A c ps _ hm (HP.out.now hB0)).mono ?_
  rintro e w1 ⟨rfl, hb1⟩
  rw [HV.out]
  have hB1 := hB0.trans (hb1.mono hB0.size)
  have hs1 := hb1.size
  have HRX1 := Lib.hid (HRX.out.below hb1 (by omega))
  have hz1' : w.heap.size < w1.heap.size := by omega
  go_wp2
  go_loopw [6, 8, 21] (fun v _ i wr => ∃ (k : Nat) (u : Value), u = v ∧ k ≤ L.length ∧ i = .int .i64 k ∧ OwnL wr w1.heap.size u (extL ps (L.take k)) ∧ (∀ p ∈ L.take k, (!placedB ps.length p) = false) ∧ Below w1.heap.size w1 wr) (fun _ _ i _ => L.length - (intOf i).toNat)
  case atStart => exact ⟨0, _, rfl, Nat.zero_le _, rfl, World.ownsRow_nil _ _ _ _, by simp, Below.refl _ _⟩
  case round =>
    obtain ⟨k, v, rfl, hk, rfl, hown, hno, hB⟩ := hrel
    have HO := Lib.hid hown; clear hown
    have HN := Lib.hid hno; clear hno
    have hsB := hB.size
    have hBw := hB1.trans (hB.mono hB1.size)
    by_cases hlt : k < L.length
    · obtain ⟨q, hq⟩ := getElem?_of_lt hlt
      obtain ⟨bb, off, hA, hbb, d0, d1, d2, d3⟩ := (HL.out.below hBw) k q hq
      subst hA
      have hel := extL_le HV.out (L.take k) (fun p hp => by have := HN.out p hp; simpa using this)
      have hel2 : (L.take k).length ≤ 200 := by simp; omega
      have hmem : q ∈ L := List.mem_of_getElem? hq
      have HES := Lib.hid (extL_succ (ps := ps) hq)
      have HQ := Lib.hid hq; clear hq
      obtain ⟨wa, hwa⟩ : ∃ wa, wr.alloc (.cells #[.int .i64 q.part, .int .i64 q.X, .int .i64 q.Y, .bool q.t] 48) = wa := ⟨_, rfl⟩
      have hba : Below wr.heap.size wr wa := by rw [← hwa]; (repeat (first | exact Below.refl _ _ | assumption | refine Below.alloc ?_ (by first | exact Nat.le_refl _ | exact Below.size (by assumption) | omega | (simp <;> omega)) _ | refine Below.setCell ?_ (by first | exact Nat.le_refl _ | exact Below.size (by assumption) | omega | (simp <;> omega)) _ | refine below_drewN ?_ _ | refine Below.drew ?_))
      have hza : wa.heap.size = wr.heap.size + 1 := by rw [← hwa]; simp
      have HPA := Lib.hid (show PlAt wa wr.heap.size q by rw [← hwa]; exact PlAt.new wr q)
      have HWA := Lib.hid hwa; clear hwa
      have hBa := hBw.trans (hba.mono hBw.size)
      have hb1a := hB.trans (hba.mono hB.size)
      go_upto_region 9 with fail
      rw [HWA.out]
      clear HWA d0 d1 d2 d3
      obtain ⟨q0, q1, q2, q3⟩ := HPA.out
      have hwa1 : wr.heap.size < wa.heap.size := by omega
      go_wp2_with fail
      refine (lies_any A c ps.length q _).mono ?_
      rintro e w5 ⟨rfl, hb5⟩
      have hB5 := hBa.trans (hb5.mono hBa.size)
      have hb15 := hb1a.trans (hb5.mono hb1a.size)
      have hs5 := hb5.size
      cases hr : placedB ps.length q
      · have hs := HSA.out
        rw [if_pos (List.any_eq_true.2 ⟨q, hmem, by rw [hr]; rfl⟩)] at hs
        have HS := Lib.hid hs; clear hs
        have HR := Lib.hid hr; clear hr
        have HRX5 := Lib.hid (HRX1.out.below hb15 hz1')
        obtain ⟨r0, r1, r2, r3⟩ := HRX5.out.c
        obtain ⟨g0, g1, g2, g3⟩ := HRX5.out.f
        have hzz : w.heap.size < w5.heap.size := by omega
        go_wp2
        obtain ⟨y0, y1, y2, y3⟩ := Rx.rd HRX5.out (.int .i64 0) (.int .i64 0) (.int .i64 0) (.int .i64 0); refine bodyPost_ret (v := .tuple #[valR zeroR, .int .i64 2]) (by simp [results, Try.results29, go_sem, y0, y1, y2, y3, zeroR]) rfl ?_
        exact Ret.mk (by rw [HS.out] <;> rfl) (by (repeat (first | exact Below.refl _ _ | assumption | refine Below.alloc ?_ (by first | exact Nat.le_refl _ | exact Below.size (by assumption) | omega | (simp <;> omega)) _ | refine Below.setCell ?_ (by first | exact Nat.le_refl _ | exact Below.size (by assumption) | omega | (simp <;> omega)) _ | refine below_drewN ?_ _ | refine Below.drew ?_)))
      · have hls := lyP_len HV.out hr
        have hly : ∀ W : World, Below w.heap.size w W → Calls Try.prog 63 #[.slice A ps.length c, valL q] W (RetO (lyP ps q) W) := fun W hW => by
          obtain ⟨k, pt, hpk, hk, hat, _⟩ := placed_get hr
          have := lying2_any A c ps k q.X q.Y q.t pt W hk (partsB_each HV.out (List.mem_of_getElem? hk)) (HP.out.now hW)
          unfold lyP
          rw [hat, ← hpk] at *
          exact this
        have HLY := Lib.hid hly; clear hly
        have HR := Lib.hid hr; clear hr q0 q1 q2 q3
        obtain ⟨q0, q1, q2, q3⟩ := HPA.out.below hb5 (by omega)
        have hwa2 : wr.heap.size < w5.heap.size := by omega
        go_wp2_with fail
        refine (HLY.out _ hB5).mono ?_
        rintro e w6 ⟨v6, rfl, hown6, hb6⟩
        obtain ⟨A6, c6, rfl, hr6⟩ := own_rd hown6
        obtain ⟨bs, offs, hAs⟩ : ∃ bs offs, A6 = some ⟨bs, offs, none⟩ := by
          obtain ⟨x, hx⟩ := getElem?_of_lt (show 0 < (lyP ps q).length by omega)
          obtain ⟨b, o, h, _⟩ := hr6 0 x hx
          exact ⟨b, o, h⟩
        subst hAs
        have HCE := Lib.hid (rd_cells hr6); clear hr6 hown6
        have hB6 := hB5.trans (hb6.mono hB5.size)
        have hb16 := hb15.trans (hb6.mono hb15.size)
        have hbr6 := hba.trans ((hb5.trans (hb6.mono hb5.size)).mono hba.size)
        have HO6 := Lib.hid (own_belowP HO.out hbr6)
        have hs6 := hb16.size
        clear q0 q1 q2 q3
        go_wp2_with (at_builtin; refine wpList_append_own _ rfl _ _ 22 rfl w1.heap.size 76 i0 (.agg #[.int .i64 0, .int .i64 0]) 2 16 Try.underlying22 HJ.out hz0' hz1 hz2 rfl (by decide) _ _ _ rfl HO6.out ⟨bs, offs, none⟩ (lyP ps q).length c6 (flat (lyP ps q)) rfl (flat_length _) HCE.out (fun u hu => flat_one hu) (by unfold Go.maxLen; omega) (by omega) (by omega) ?_; intro v' w7 hown' hgrow _; have hB7 := below_grown hb16 hgrow (fun j hj => (HO6.out.lt j hj).1) (by omega); have HO7 := Lib.hid hown'; clear hown' hgrow)
        go_wp2
        go_roundw
        case rel =>
          refine ⟨k + 1, _, rfl, by omega, by go_num, ?_, noG_take_succ (f := fun x : PL => !placedB ps.length x) HN.out HQ.out (by rw [HR.out]; rfl), hB7⟩
          rw [HES.out]
          have e := HO7.out
          unfold OwnL
          rw [flat_append, List.length_append]
          exact e
        case measure => simp [intOf]; omega
    · obtain rfl : k = L.length := by omega
      have hall : ∀ p ∈ L, placedB ps.length p = true := fun p hp => by
        have := HN.out p (by rw [List.take_length]; exact hp)
        simpa using this
      have hany : L.any (fun p => !placedB ps.length p) = false := by
        rw [List.any_eq_false]
        intro x hx
        rw [HN.out x (by rw [List.take_length]; exact hx)]; simp
      have hs := HSA.out
      rw [if_neg (by rw [hany]; simp)] at hs
      clear hany
      have hown := HO.out
      rw [List.take_length] at hown
      obtain ⟨A5, c5, hvv, hr5⟩ := own_rd hown
      subst hvv
      have HR5 := Lib.hid hr5; clear hr5 hown
      have HRX4 := Lib.hid (HRX1.out.below hB hz1')
      have hz4 : w.heap.size < wr.heap.size := by omega
      by_cases h0 : L.length = 0
      · rw [if_pos h0] at hs
        have HS := Lib.hid hs; clear hs
        have hle : (extL ps L).length = 0 := by
          have : L = [] := List.length_eq_zero_iff.1 h0
          rw [this]; rfl
        have HLE := Lib.hid hle; clear hle
        obtain ⟨r0, r1, r2, r3⟩ := HRX4.out.c
        obtain ⟨g0, g1, g2, g3⟩ := HRX4.out.f
        rw [HLE.out]
        go_wp2
        obtain ⟨y0, y1, y2, y3⟩ := Rx.rd HRX4.out (.int .i64 0) (.int .i64 0) (.int .i64 0) (.int .i64 0); refine bodyPost_ret (v := .tuple #[valR zeroR, .int .i64 0]) (by simp [results, Try.results29, go_sem, y0, y1, y2, y3, zeroR]) rfl ?_
        exact Ret.mk (by rw [HS.out] <;> rfl) (by (repeat (first | exact Below.refl _ _ | assumption | refine Below.alloc ?_ (by first | exact Nat.le_refl _ | exact Below.size (by assumption) | omega | (simp <;> omega)) _ | refine Below.setCell ?_ (by first | exact Nat.le_refl _ | exact Below.size (by assumption) | omega | (simp <;> omega)) _ | refine below_drewN ?_ _ | refine Below.drew ?_)))
      rw [if_neg h0] at hs
      obtain ⟨hwd, hle1, hle2⟩ := ext_wd (ps := ps) (L := L) ⟨HV.out, by omega, hall⟩ (by omega)
      have HS := Lib.hid hs; clear hs h0 hall
      obtain ⟨l, hl⟩ : ∃ l, extL ps L = l := ⟨_, rfl⟩
      rw [hl] at HS HR5 hwd hle1 hle2 ⊢
      clear hl
      obtain ⟨n1, n2, n3, n4⟩ := ends_all hwd
      have hen : ∀ W : World, Rd W W.heap.size A5 l → Calls Try.prog 60 #[.slice A5 l.length c5] W (Ret (.tuple #[xyv (lowTo l l.length), xyv (highTo l l.length)]) W) := fun W h => Ends_any A5 c5 l W (by omega) (by omega) h
      have hbx : boxL l = ⟨(lowTo l l.length).X, (lowTo l l.length).Y, wrap64 ((highTo l l.length).X - (lowTo l l.length).X), wrap64 ((highTo l l.length).Y - (lowTo l l.length).Y)⟩ := by rw [n1, n2, n3, n4]; rfl
      generalize lowTo l l.length = lo at hen hbx
      generalize highTo l l.length = hi at hen hbx
      have HEN := Lib.hid hen; clear hen n1 n2 n3 n4 hwd
      have HBX := Lib.hid hbx; clear hbx
      have hne : ¬ l = [] := by rintro rfl; simp at hle2
      have hneI : ¬ (l.length : Int) = 0 := by omega
      go_wp2_with fail
      refine (HEN.out _ HR5.out).mono ?_
      rintro e w6 ⟨rfl, hb6⟩
      have hB6 := hBw.trans (hb6.mono hBw.size)
      have hs6 := hb6.size
      have HRX6 := Lib.hid (HRX4.out.below hb6 hz4)
      obtain ⟨w7, hw7⟩ : ∃ w7, (w6.alloc (.cells #[.int .i64 lo.X, .int .i64 lo.Y] 76)).alloc (.cells #[.int .i64 hi.X, .int .i64 hi.Y] 76) = w7 := ⟨_, rfl⟩
      have hb67 : Below w6.heap.size w6 w7 := by rw [← hw7]; (repeat (first | exact Below.refl _ _ | assumption | refine Below.alloc ?_ (by first | exact Nat.le_refl _ | exact Below.size (by assumption) | omega | (simp <;> omega)) _ | refine Below.setCell ?_ (by first | exact Nat.le_refl _ | exact Below.size (by assumption) | omega | (simp <;> omega)) _ | refine below_drewN ?_ _ | refine Below.drew ?_))
      have hz7 : w7.heap.size = w6.heap.size + 2 := by rw [← hw7]; simp
      have e0 : w7.cell? ⟨w6.heap.size, 0, none⟩ = some (.int .i64 lo.X) := by rw [← hw7]; simp
      have e1 : w7.cell? ⟨w6.heap.size, 1, none⟩ = some (.int .i64 lo.Y) := by rw [← hw7]; simp
      have e2 : w7.cell? ⟨w6.heap.size + 1, 0, none⟩ = some (.int .i64 hi.X) := by rw [← hw7]; simp
      have e3 : w7.cell? ⟨w6.heap.size + 1, 1, none⟩ = some (.int .i64 hi.Y) := by rw [← hw7]; simp
      have HW7 := Lib.hid hw7; clear hw7
      have HRX7 := Lib.hid (HRX6.out.below hb67 (by omega))
      have hB7 := hB6.trans (hb67.mono hB6.size)
      go_upto_region 16 with fail
      rw [HW7.out]
      clear HW7
      obtain ⟨r0, r1, r2, r3⟩ := HRX7.out.c
      obtain ⟨g0, g1, g2, g3⟩ := HRX7.out.f
      have hzz : w.heap.size < w7.heap.size := by omega
      have hzy : w6.heap.size < w7.heap.size := by omega
      have hzx : w6.heap.size + 1 < w7.heap.size := by omega
      go_wp2
      obtain ⟨z0, z1, z2, z3⟩ := Rx.rd HRX7.out (.int .i64 lo.X) (.int .i64 lo.Y) (.int .i64 (wrap64 (hi.X - lo.X))) (.int .i64 (wrap64 (hi.Y - lo.Y))); refine bodyPost_ret (v := .tuple #[valR ⟨lo.X, lo.Y, wrap64 (hi.X - lo.X), wrap64 (hi.Y - lo.Y)⟩, .int .i64 0]) (by simp [results, Try.results29, go_sem, z0, z1, z2, z3]) rfl ?_
      exact Ret.mk (by rw [HS.out, HBX.out] <;> rfl) (by (repeat (first | exact Below.refl _ _ | assumption | refine Below.alloc ?_ (by first | exact Nat.le_refl _ | exact Below.size (by assumption) | omega | (simp <;> omega)) _ | refine Below.setCell ?_ (by first | exact Nat.le_refl _ | exact Below.size (by assumption) | omega | (simp <;> omega)) _ | refine below_drewN ?_ _ | refine Below.drew ?_)))
end Go.Proofs.Ytcbiehnaomcfbaa

/- Blocks: the reference's colour: the cell of the block that is made. -/
import Derived.Test.YtbcnkcndhgihaaaDoorCO1
import Derived.Test.YtbcnkcndhgihaaaDoorCO2
import Derived.Test.YtbcnkcndhgihaaaDoorCO3
import Derived.Test.YtbcnkcndhgihaaaDoorCO4
import Derived.Test.YtbcnkcndhgihaaaDoorCO5
namespace Go.Proofs.YtbcnkcndhgihaaaDoor
open Go.RowKit
set_option linter.unusedSimpArgs false

set_option maxRecDepth 100000 in
set_option maxHeartbeats 1000000 in
theorem col_solid (b : BT) (c : T3) (w : World) (ho : b.op = 1) : Calls Tryd.prog 58 #[valB b, val3 c] w (Ret (.int .u8 b.co) w) := by
  have e1 : (b.op == 1) = true := by rw [ho]; rfl
  obtain ⟨f0, f1, f2, f3, f4, f5, f6⟩ := bx_two b w c
  clear ho
  go_enter Tryd.func58, Tryd.ntmps58
  go_wp2
  go_ret
  exact Ret.mk rfl (by (repeat (first | exact Below.refl _ _ | assumption | refine Below.alloc ?_ (by first | exact Nat.le_refl _ | exact Below.size (by assumption) | omega | (simp <;> omega)) _ | refine Below.setCell ?_ (by first | exact Nat.le_refl _ | exact Below.size (by assumption) | omega | (simp <;> omega)) _ | refine below_drewN ?_ _ | refine Below.drew ?_)))
/-- What a colour call says. -/
def ColP (b : BT) : Prop := ∀ (S : Sh), builtS b = .ok S → wholeS b = true → ∀ (c : T3) (w : World), InE S.ext c → OkB w w.heap.size b → Calls Tryd.prog 58 #[valB b, val3 c] w (Ret (.int .u8 (S.at c)) w)

theorem colp_turn (b p : BT) (ho : b.op = 3) (hax : Ax b.ax) (hp : b.ps = [p]) (ih : ColP p) : ColP b := by
  intro S hS0 hw c w hc hb
  have hS := built_ok b hw S hS0
  have hwp := (whole_parts hw).2 p (by rw [hp]; simp)
  obtain ⟨s, hs, hj⟩ := built_one hp hS0
  obtain ⟨n, rfl⟩ := join3 ho hj
  obtain ⟨op, ax, co, n0, n1, n2, A, cp, ps⟩ := b
  dsimp only [BT.op, BT.ax, BT.ps, BT.n0] at *
  subst ho hp
  have hsok : s.Ok := built_ok p hwp s hs
  have hse := hsok.ext
  have hcd := ine_bd hc hS.1
  have hin : InE s.ext (turnC ax s.ext c) := in_turn hax hS.2.2.2 hc
  have hv := fun W h => ih s hs hwp (turnC ax s.ext c) W hin h
  obtain ⟨bb, off, hA, hbb, hcells⟩ := hb.rd.at (i := 0) (p := p) rfl
  simp only [Nat.zero_mul, Nat.add_zero] at hcells
  dsimp only [BT.A] at hA
  subst hA
  have hkp := fun W (hB : Below w.heap.size w W) => (hb.now hB).kid (p := p) (by simp [BT.ps])
  obtain ⟨x, y, z⟩ := c
  obtain ⟨t, he⟩ : ∃ t, s.ext = t := ⟨_, rfl⟩
  obtain ⟨t1, t2, t3⟩ := t
  rw [he] at hse hv
  dsimp only at hcd
  rcases hax with rfl | rfl | rfl
  · have := col_turn0 p s co n0 n1 n2 cp bb off x y z t1 t2 t3 _ w hwp hs he (ext_bd3 hse) hcd hbb hcells hkp hv
    have ha : (Sh.turn n 0 s).at ⟨x, y, z⟩ = s.at (turnC 0 ⟨t1, t2, t3⟩ ⟨x, y, z⟩) := by simp only [Sh.at, he]
    rw [ha]
    exact this
  · have := col_turn1 p s co n0 n1 n2 cp bb off x y z t1 t2 t3 _ w hwp hs he (ext_bd3 hse) hcd hbb hcells hkp hv
    have ha : (Sh.turn n 1 s).at ⟨x, y, z⟩ = s.at (turnC 1 ⟨t1, t2, t3⟩ ⟨x, y, z⟩) := by simp only [Sh.at, he]
    rw [ha]
    exact this
  · have := col_turn2 p s co n0 n1 n2 cp bb off x y z t1 t2 t3 _ w hwp hs he (ext_bd3 hse) hcd hbb hcells hkp hv
    have ha : (Sh.turn n 2 s).at ⟨x, y, z⟩ = s.at (turnC 2 ⟨t1, t2, t3⟩ ⟨x, y, z⟩) := by simp only [Sh.at, he]
    rw [ha]
    exact this
theorem colp_slice (b p : BT) (ho : b.op = 4) (hax : Ax b.ax) (hp : b.ps = [p]) (hn0 : 0 ≤ b.n0 ∧ b.n0 ≤ 999) (ih : ColP p) : ColP b := by
  intro S hS0 hw c w hc hb
  have hS := built_ok b hw S hS0
  have hwp := (whole_parts hw).2 p (by rw [hp]; simp)
  obtain ⟨s, hs, hj⟩ := built_one hp hS0
  obtain ⟨n, rfl⟩ := join4 ho hj
  obtain ⟨op, ax, co, n0, n1, n2, A, cp, ps⟩ := b
  dsimp only [BT.op, BT.ax, BT.ps, BT.n0] at *
  subst ho hp
  have hsok : s.Ok := built_ok p hwp s hs
  have hse := hsok.ext
  have hcd := ine_bd hc hS.1
  have hin : InE s.ext (c.set ax (c.get ax + n0)) := in_slice hax hS.2.2.2.1 hS.2.2.2.2.1 hS.2.2.2.2.2 hc
  have hv := fun W h => ih s hs hwp (c.set ax (c.get ax + n0)) W hin h
  obtain ⟨bb, off, hA, hbb, hcells⟩ := hb.rd.at (i := 0) (p := p) rfl
  simp only [Nat.zero_mul, Nat.add_zero] at hcells
  dsimp only [BT.A] at hA
  subst hA
  have hkp := fun W (hB : Below w.heap.size w W) => (hb.now hB).kid (p := p) (by simp [BT.ps])
  obtain ⟨x, y, z⟩ := c
  obtain ⟨t, he⟩ : ∃ t, s.ext = t := ⟨_, rfl⟩
  obtain ⟨t1, t2, t3⟩ := t
  rw [he] at hse
  dsimp only at hcd
  rcases hax with rfl | rfl | rfl
  · have := col_slice0 p s co n0 n1 n2 cp bb off x y z t1 t2 t3 _ w (by simpa using hn0) hwp hs he hcd hbb hcells hkp hv
    have ha : (Sh.slice n 0 n0 s).at ⟨x, y, z⟩ = s.at ((⟨x, y, z⟩ : T3).set 0 ((⟨x, y, z⟩ : T3).get 0 + n0)) := by simp only [Sh.at]
    rw [ha]
    exact this
  · have := col_slice1 p s co n0 n1 n2 cp bb off x y z t1 t2 t3 _ w (by simpa using hn0) hwp hs he hcd hbb hcells hkp hv
    have ha : (Sh.slice n 1 n0 s).at ⟨x, y, z⟩ = s.at ((⟨x, y, z⟩ : T3).set 1 ((⟨x, y, z⟩ : T3).get 1 + n0)) := by simp only [Sh.at]
    rw [ha]
    exact this
  · have := col_slice2 p s co n0 n1 n2 cp bb off x y z t1 t2 t3 _ w (by simpa using hn0) hwp hs he hcd hbb hcells hkp hv
    have ha : (Sh.slice n 2 n0 s).at ⟨x, y, z⟩ = s.at ((⟨x, y, z⟩ : T3).set 2 ((⟨x, y, z⟩ : T3).get 2 + n0)) := by simp only [Sh.at]
    rw [ha]
    exact this
theorem colp_flip (b p : BT) (ho : b.op = 5) (hax : Ax b.ax) (hp : b.ps = [p]) (ih : ColP p) : ColP b := by
  intro S hS0 hw c w hc hb
  have hS := built_ok b hw S hS0
  have hwp := (whole_parts hw).2 p (by rw [hp]; simp)
  obtain ⟨s, hs, hj⟩ := built_one hp hS0
  obtain rfl := join5 ho hj
  obtain ⟨op, ax, co, n0, n1, n2, A, cp, ps⟩ := b
  dsimp only [BT.op, BT.ax, BT.ps, BT.n0] at *
  subst ho hp
  have hsok : s.Ok := built_ok p hwp s hs
  have hse := hsok.ext
  have hcd := ine_bd hc hS.1
  have hin : InE s.ext (c.set ax (s.ext.get ax - 1 - c.get ax)) := in_flip hax hc
  have hv := fun W h => ih s hs hwp (c.set ax (s.ext.get ax - 1 - c.get ax)) W hin h
  obtain ⟨bb, off, hA, hbb, hcells⟩ := hb.rd.at (i := 0) (p := p) rfl
  simp only [Nat.zero_mul, Nat.add_zero] at hcells
  dsimp only [BT.A] at hA
  subst hA
  have hkp := fun W (hB : Below w.heap.size w W) => (hb.now hB).kid (p := p) (by simp [BT.ps])
  obtain ⟨x, y, z⟩ := c
  obtain ⟨t, he⟩ : ∃ t, s.ext = t := ⟨_, rfl⟩
  obtain ⟨t1, t2, t3⟩ := t
  rw [he] at hse hv
  dsimp only at hcd
  rcases hax with rfl | rfl | rfl
  · have := col_flip0 p s co n0 n1 n2 cp bb off x y z t1 t2 t3 _ w hwp hs he (ext_bd3 hse) hcd hbb hcells hkp hv
    have ha : (Sh.flip ⟨t1, t2, t3⟩ 0 s).at ⟨x, y, z⟩ = s.at ((⟨x, y, z⟩ : T3).set 0 ((⟨t1, t2, t3⟩ : T3).get 0 - 1 - (⟨x, y, z⟩ : T3).get 0)) := by simp only [Sh.at]
    rw [he]
    rw [ha]
    exact this
  · have := col_flip1 p s co n0 n1 n2 cp bb off x y z t1 t2 t3 _ w hwp hs he (ext_bd3 hse) hcd hbb hcells hkp hv
    have ha : (Sh.flip ⟨t1, t2, t3⟩ 1 s).at ⟨x, y, z⟩ = s.at ((⟨x, y, z⟩ : T3).set 1 ((⟨t1, t2, t3⟩ : T3).get 1 - 1 - (⟨x, y, z⟩ : T3).get 1)) := by simp only [Sh.at]
    rw [he]
    rw [ha]
    exact this
  · have := col_flip2 p s co n0 n1 n2 cp bb off x y z t1 t2 t3 _ w hwp hs he (ext_bd3 hse) hcd hbb hcells hkp hv
    have ha : (Sh.flip ⟨t1, t2, t3⟩ 2 s).at ⟨x, y, z⟩ = s.at ((⟨x, y, z⟩ : T3).set 2 ((⟨t1, t2, t3⟩ : T3).get 2 - 1 - (⟨x, y, z⟩ : T3).get 2)) := by simp only [Sh.at]
    rw [he]
    rw [ha]
    exact this
theorem colp_rep (b p : BT) (ho : b.op = 6) (hax : Ax b.ax) (hp : b.ps = [p]) (ih : ColP p) : ColP b := by
  intro S hS0 hw c w hc hb
  have hS := built_ok b hw S hS0
  have hwp := (whole_parts hw).2 p (by rw [hp]; simp)
  obtain ⟨s, hs, hj⟩ := built_one hp hS0
  obtain ⟨n, rfl⟩ := join6 ho hj
  obtain ⟨op, ax, co, n0, n1, n2, A, cp, ps⟩ := b
  dsimp only [BT.op, BT.ax, BT.ps, BT.n0] at *
  subst ho hp
  have hsok : s.Ok := built_ok p hwp s hs
  have hse := hsok.ext
  have hcd := ine_bd hc hS.1
  have hin : InE s.ext (c.set ax (c.get ax % s.ext.get ax)) := (by obtain ⟨kk, _, _, h2⟩ := hS.2.2.2; exact in_rep hax hS.2.2.1.ext h2 hc)
  have hv := fun W h => ih s hs hwp (c.set ax (c.get ax % s.ext.get ax)) W hin h
  obtain ⟨bb, off, hA, hbb, hcells⟩ := hb.rd.at (i := 0) (p := p) rfl
  simp only [Nat.zero_mul, Nat.add_zero] at hcells
  dsimp only [BT.A] at hA
  subst hA
  have hkp := fun W (hB : Below w.heap.size w W) => (hb.now hB).kid (p := p) (by simp [BT.ps])
  obtain ⟨x, y, z⟩ := c
  obtain ⟨t, he⟩ : ∃ t, s.ext = t := ⟨_, rfl⟩
  obtain ⟨t1, t2, t3⟩ := t
  rw [he] at hse hv
  dsimp only at hcd
  rcases hax with rfl | rfl | rfl
  · have := col_rep0 p s co n0 n1 n2 cp bb off x y z t1 t2 t3 _ w hwp hs he (ext_bd3 hse) hcd hbb hcells hkp hv
    have ha : (Sh.rep n 0 s).at ⟨x, y, z⟩ = s.at ((⟨x, y, z⟩ : T3).set 0 ((⟨x, y, z⟩ : T3).get 0 % (⟨t1, t2, t3⟩ : T3).get 0)) := by simp only [Sh.at, he]
    rw [ha]
    exact this
  · have := col_rep1 p s co n0 n1 n2 cp bb off x y z t1 t2 t3 _ w hwp hs he (ext_bd3 hse) hcd hbb hcells hkp hv
    have ha : (Sh.rep n 1 s).at ⟨x, y, z⟩ = s.at ((⟨x, y, z⟩ : T3).set 1 ((⟨x, y, z⟩ : T3).get 1 % (⟨t1, t2, t3⟩ : T3).get 1)) := by simp only [Sh.at, he]
    rw [ha]
    exact this
  · have := col_rep2 p s co n0 n1 n2 cp bb off x y z t1 t2 t3 _ w hwp hs he (ext_bd3 hse) hcd hbb hcells hkp hv
    have ha : (Sh.rep n 2 s).at ⟨x, y, z⟩ = s.at ((⟨x, y, z⟩ : T3).set 2 ((⟨x, y, z⟩ : T3).get 2 % (⟨t1, t2, t3⟩ : T3).get 2)) := by simp only [Sh.at, he]
    rw [ha]
    exact this
theorem colp_stack (b p q : BT) (ho : b.op = 2) (hax : Ax b.ax) (hp : b.ps = [p, q]) (ihp : ColP p) (ihq : ColP q) : ColP b := by
  intro S hS0 hw c w hc hb
  have hS := built_ok b hw S hS0
  have hwp := (whole_parts hw).2 p (by rw [hp]; simp)
  have hwq := (whole_parts hw).2 q (by rw [hp]; simp)
  obtain ⟨s, t, hs, ht, hj⟩ := built_two hp hS0
  obtain ⟨n, rfl⟩ := join2 ho hj
  obtain ⟨op, ax, co, n0, n1, n2, A, cp, ps⟩ := b
  dsimp only [BT.op, BT.ax, BT.ps, BT.n0] at *
  subst ho hp
  have hsok : s.Ok := built_ok p hwp s hs
  have hse := hsok.ext
  have hcd := ine_bd hc hS.1
  obtain ⟨i1, i2⟩ := in_stack hax hS.2.2.2.2.1 hS.2.2.2.2.2 hc
  have hv1 := fun h1 W h => ihp s hs hwp c W (i1 h1) h
  have hv2 := fun h1 W h => ihq t ht hwq (c.set ax (c.get ax - s.ext.get ax)) W (i2 h1) h
  obtain ⟨bb, off, hA, hbb, hcells⟩ := hb.rd.at (i := 0) (p := p) rfl
  obtain ⟨bb2, off2, hA2, _, hcells2⟩ := hb.rd.at (i := 1) (p := q) rfl
  simp only [Nat.zero_mul, Nat.add_zero, Nat.one_mul] at hcells hcells2
  dsimp only [BT.A] at hA hA2
  rw [hA] at hA2
  injection hA2 with hA2
  injection hA2 with e1 e2
  subst e1 e2
  subst hA
  have hkp := fun W (hB : Below w.heap.size w W) => And.intro ((hb.now hB).kid (p := p) (by simp [BT.ps])) ((hb.now hB).kid (p := q) (by simp [BT.ps]))
  obtain ⟨x, y, z⟩ := c
  obtain ⟨e, he⟩ : ∃ e, s.ext = e := ⟨_, rfl⟩
  obtain ⟨t1, t2, t3⟩ := e
  rw [he] at hse hv1 hv2
  dsimp only at hcd
  rcases hax with rfl | rfl | rfl
  · by_cases hlt : x < t1
    · have := col_stack0lo p q s co n0 n1 n2 cp bb off x y z t1 t2 t3 _ w hlt hwp hs he (ext_bd3 hse) hcd hbb hcells hcells2 hkp (hv1 hlt)
      have ha : (Sh.stack n 0 s t).at ⟨x, y, z⟩ = s.at ⟨x, y, z⟩ := by
        simp only [Sh.at, he]
        exact if_pos hlt
      rw [ha]
      exact this
    · have := col_stack0hi p q s co n0 n1 n2 cp bb off x y z t1 t2 t3 _ w hlt hwp hs he (ext_bd3 hse) hcd hbb hcells hcells2 hkp (hv2 hlt)
      have ha : (Sh.stack n 0 s t).at ⟨x, y, z⟩ = t.at ((⟨x, y, z⟩ : T3).set 0 ((⟨x, y, z⟩ : T3).get 0 - (⟨t1, t2, t3⟩ : T3).get 0)) := by
        simp only [Sh.at, he]
        exact if_neg hlt
      rw [ha]
      exact this
  · by_cases hlt : y < t2
    · have := col_stack1lo p q s co n0 n1 n2 cp bb off x y z t1 t2 t3 _ w hlt hwp hs he (ext_bd3 hse) hcd hbb hcells hcells2 hkp (hv1 hlt)
      have ha : (Sh.stack n 1 s t).at ⟨x, y, z⟩ = s.at ⟨x, y, z⟩ := by
        simp only [Sh.at, he]
        exact if_pos hlt
      rw [ha]
      exact this
    · have := col_stack1hi p q s co n0 n1 n2 cp bb off x y z t1 t2 t3 _ w hlt hwp hs he (ext_bd3 hse) hcd hbb hcells hcells2 hkp (hv2 hlt)
      have ha : (Sh.stack n 1 s t).at ⟨x, y, z⟩ = t.at ((⟨x, y, z⟩ : T3).set 1 ((⟨x, y, z⟩ : T3).get 1 - (⟨t1, t2, t3⟩ : T3).get 1)) := by
        simp only [Sh.at, he]
        exact if_neg hlt
      rw [ha]
      exact this
  · by_cases hlt : z < t3
    · have := col_stack2lo p q s co n0 n1 n2 cp bb off x y z t1 t2 t3 _ w hlt hwp hs he (ext_bd3 hse) hcd hbb hcells hcells2 hkp (hv1 hlt)
      have ha : (Sh.stack n 2 s t).at ⟨x, y, z⟩ = s.at ⟨x, y, z⟩ := by
        simp only [Sh.at, he]
        exact if_pos hlt
      rw [ha]
      exact this
    · have := col_stack2hi p q s co n0 n1 n2 cp bb off x y z t1 t2 t3 _ w hlt hwp hs he (ext_bd3 hse) hcd hbb hcells hcells2 hkp (hv2 hlt)
      have ha : (Sh.stack n 2 s t).at ⟨x, y, z⟩ = t.at ((⟨x, y, z⟩ : T3).set 2 ((⟨x, y, z⟩ : T3).get 2 - (⟨t1, t2, t3⟩ : T3).get 2)) := by
        simp only [Sh.at, he]
        exact if_neg hlt
      rw [ha]
      exact this

theorem col_any : ∀ b : BT, ColP b := by
  refine BT.ind ?_
  intro b ih S hS hw c w hc hb
  rcases one_facts (whole_parts hw).1 with ⟨o, hp, _⟩ | ⟨hax, _, _, ⟨o, ⟨p, q, hp⟩, _⟩ | ⟨p, hp, ⟨o, _⟩ | ⟨o, h0, _⟩ | ⟨o, _⟩ | ⟨o, _⟩⟩⟩
  · have hj : joinS b [] = .ok S := by rw [builtS_eq, hp] at hS; exact hS
    obtain rfl := join1 o hj
    exact col_solid b c w o
  · exact colp_stack b p q o hax hp (ih p (by simp [hp])) (ih q (by simp [hp])) S hS hw c w hc hb
  · exact colp_turn b p o hax hp (ih p (by simp [hp])) S hS hw c w hc hb
  · exact colp_slice b p o hax hp h0 (ih p (by simp [hp])) S hS hw c w hc hb
  · exact colp_flip b p o hax hp (ih p (by simp [hp])) S hS hw c w hc hb
  · exact colp_rep b p o hax hp (ih p (by simp [hp])) S hS hw c w hc hb
end Go.Proofs.YtbcnkcndhgihaaaDoor

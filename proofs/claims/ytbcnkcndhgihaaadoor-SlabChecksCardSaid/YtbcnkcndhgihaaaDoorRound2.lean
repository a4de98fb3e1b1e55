/- A region walked once in the order of the text, the goal in a shell that nothing unfolds: for long regions with many guards. -/
import Derived.Test.YtbcnkcndhgihaaaDoorRound
namespace Go.Proofs.YtbcnkcndhgihaaaDoor
section
variable {P : Program} {ops : Array Oper} {C : World → Prop} {Q : Act → Prop} {a : Act} {o : Oper} {rest : List Oper}
/-- The rest of a region that only reads and calls. -/
structure QW (P : Program) (ops : Array Oper) (C : World → Prop) (Q : Act → Prop) (rest : List Oper) (a : Act) : Prop where
  out : wpQuiet P ops C Q rest a
theorem qw_read {v : Value} (hw : Region.wanted o (yielded ops a.tmps) = true) (hrun : ∀ w, C w → (execOp a.eval o).run P w = .ok (.value v) w) (h : QW P ops C Q rest (a.put o.dst v)) : QW P ops C Q (o :: rest) a := ⟨quiet_read hw hrun h.out⟩
theorem qw_call {v : Value} {f : FuncId} {args : Array Value} (hw : Region.wanted o (yielded ops a.tmps) = true) (hrun : ∀ w, C w → (execOp a.eval o).run P w = .ok (.enter f args) w)
    (hc : ∀ w, C w → Calls P f args w fun e w' => e = .returned v ∧ C w') (h : QW P ops C Q rest (a.put o.dst v)) : QW P ops C Q (o :: rest) a := ⟨quiet_call hw hrun hc h.out⟩
theorem qw_pass (hw : Region.wanted o (yielded ops a.tmps) = false) (h : QW P ops C Q rest (a.put o.dst undef)) : QW P ops C Q (o :: rest) a := ⟨quiet_pass hw h.out⟩
theorem qw_nil (h : Q a) : QW P ops C Q [] a := ⟨wpQuiet_nil h⟩
end
theorem region_qw {P : Program} {id : Nat} {Q : Exit → Act → World → Prop} {a : Act} {w : World} {l : List Oper} (C : World → Prop) (hm : P.follows .mixedOrders = true) (hB : Region.lexB .any l.toArray = true) (hC : C w.drew)
    (h : QW P l.toArray C (fun a' => ∀ w', C w' → Q .normal a' w') l a) : (Code.region id l.toArray true).wp P Q a w := region_class C hm hB hC h.out
end Go.Proofs.YtbcnkcndhgihaaaDoor

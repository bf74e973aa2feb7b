/- Steps of a region that draws its order, one operation at a time, the state brought to its plain form behind each. -/
import Derived.Test.YtjbkkaldiofooaaQTail
import Derived.Test.YtjbkkaldiofooaaLaws
import Derived.StillTactics
namespace Go.Proofs.Ytjbkkaldiofooaa
open Go.RowKit
set_option linter.unusedVariables false
section
variable {P : Program} {ops : Array Oper} {o : Oper} {rest : List Oper} {a : Act} {w : World} {Q : Act → Prop}
theorem s_at {a' : Act} (ha : a = a') (h : wpStill P ops w Q rest a') : wpStill P ops w Q rest a := by rw [ha]; exact h
theorem s_skip (hgd : Region.wanted o (yielded ops a.tmps) = false) (h : wpStill P ops w Q rest (a.put o.dst undef)) : wpStill P ops w Q (o :: rest) a :=
  wpStill_step fun K hK => by rw [if_neg (by rw [hgd]; decide)]; exact hK _ h
theorem s_value (hgd : Region.wanted o (yielded ops a.tmps) = true) {v : Value} (hr : (execOp a.eval o).run P w = .ok (.value v) w) (h : wpStill P ops w Q rest (a.put o.dst v)) : wpStill P ops w Q (o :: rest) a := wpStill_value hgd hr h
end
macro "s_norm" : tactic => `(tactic| (refine s_at (a' := ?sa) ?sh ?_; case sh => (go_simp; exact rfl)))
macro "s_op" : tactic => `(tactic| (refine s_value (v := ?sv) (by first | rfl | go_simp) ?sr ?_; case sr => (go_simp; exact rfl)))
macro "s_out" : tactic => `(tactic| (refine s_skip (by first | rfl | go_simp) ?_; s_norm))
end Go.Proofs.Ytjbkkaldiofooaa

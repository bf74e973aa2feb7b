/- Steps of a region that draws its order, one operation at a time, the state brought to its plain form behind each. -/
import Derived.Test.YtggepeepjaoibaaQTail
import Derived.Test.YtggepeepjaoibaaLaws
import Derived.StillTactics
namespace Go.Proofs.Ytggepeepjaoibaa
open Go.RowKit
set_option linter.unusedVariables false
section
variable {P : Program} {ops : Array Oper} {o : Oper} {rest : List Oper} {a : Act} {w : World} {Q : Act → Prop}
theorem s_at {a' : Act} (ha : a = a') (h : wpStill P ops w Q rest a') : wpStill P ops w Q rest a := by rw [ha]; exact h
theorem s_skip (hgd : Region.wanted o (yielded ops a.tmps) = false) (h : wpStill P ops w Q rest (a.put o.dst undef)) : wpStill P ops w Q (o :: rest) a :=
  wpStill_step fun K hK => by rw [if_neg (by rw [hgd]; decide)]; exact hK _ h
theorem s_value (hgd : Region.wanted o (yielded ops a.tmps) = true) {v : Value} (hr : (execOp a.eval o).run P w = .ok (.value v) w) (h : wpStill P ops w Q rest (a.put o.dst v)) : wpStill P ops w Q (o :: rest) a := wpStill_value hgd hr h
/-- a new variable: its block and the world by names -/
theorem wpList_alloc_new {Q : Exit → Act → World → Prop} (hgd : Region.wanted o (yielded ops a.tmps) = true) (t : TypeId) (ho : o.op = .alloc t) (z : Value) (hz : (P.info? t).bind (·.zero) = some z)
    (h : ∀ g w', g = w.heap.size → w'.heap[g]? = some (.cells z.cells t (0, 0)) → w'.heap.size = g + 1 → Upd (fun _ => False) w w' → wpList P ops Q rest (a.put o.dst (.pointer (some ⟨g, 0, none⟩))) w') : wpList P ops Q (o :: rest) a w :=
  wpList_value hgd (run_op_alloc t ho z hz) (h _ _ rfl (heap_alloc_new w _) (by simp) ((Upd.refl _ _).alloc _))
theorem wpList_box_new {Q : Exit → Act → World → Prop} (hgd : Region.wanted o (yielded ops a.tmps) = true) (t : TypeId) (x : Operand) (ho : o.op = .box t x) {v : Value} (hx : a.eval x = v)
    (h : ∀ g w', g = w.heap.size → w'.heap[g]? = some (.cells v.cells t (0, 0)) → w'.heap.size = g + 1 → Upd (fun _ => False) w w' → wpList P ops Q rest (a.put o.dst (.pointer (some ⟨g, 0, none⟩))) w') : wpList P ops Q (o :: rest) a w :=
  wpList_value hgd (v := .pointer (some ⟨w.heap.size, 0, none⟩)) (w' := w.alloc (.cells v.cells t)) (by simp [execOp, ho, hx, Instr.box, newVar, newRow, newObj, Sem.run]) (h _ _ rfl (heap_alloc_new w _) (by simp) ((Upd.refl _ _).alloc _))
end
end Go.Proofs.Ytggepeepjaoibaa

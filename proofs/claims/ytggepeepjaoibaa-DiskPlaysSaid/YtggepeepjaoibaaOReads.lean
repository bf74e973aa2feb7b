/- Reads amid a region that draws its order. -/
import Derived.Test.YtggepeepjaoibaaOrder
namespace Go.Proofs.Ytggepeepjaoibaa
open Go.RowKit
set_option linter.unusedVariables false

section
variable {P : Program} {ops : Array Oper} {md : Region.Mode} {C : World → Prop} {L : Array Bool → Act → World → Prop}
/-- m reads from the k-th on -/
theorem o_readsK {f k : Nat} (m : Nat) {listed : Array Bool} {a : Act} {w : World} (hL : ∀ listed a w, L listed a w → Region.ready md ops listed = []) (hsel : Region.noSelect ops = true) (hw : C w)
    (hk : k + m ≤ ops.size) (hB : readsB md ops m k listed = true)
    (h : wpReads P ops C (fun a' => anyW P md ops C L f (tick m k listed) a' w) ((ops.toList.drop k).take m) a) : anyW P md ops C L (f + m) listed a w := by
  have hl : ((ops.toList.drop k).take m).length = m := by simp; omega
  have := anyW_reads (P := P) (C := C) hL hsel (f := f) hw ((ops.toList.drop k).take m) k listed a (fun j hj => by
    rw [hl] at hj
    rw [List.getElem?_take, if_pos hj, List.getElem?_drop]
    simp) (by rw [hl]; exact hB) (by rw [hl]; exact h)
  rwa [hl] at this
end
end Go.Proofs.Ytggepeepjaoibaa

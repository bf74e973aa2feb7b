/- What a torn sector holds. -/
import Derived.Test.YtggepeepjaoibaaKeeps0
import Derived.Test.YtggepeepjaoibaaSteps
namespace Go.Proofs.Ytggepeepjaoibaa
open Go.RowKit
set_option linter.unusedVariables false

theorem torn_at {was now : List UInt8} (k : UInt8) (h1 : was.length = 64) (h2 : now.length = 64) {j : Nat} (hj : j < 64) : (tornL was now k).getD j 0 = was.getD j 0 ∨ (tornL was now k).getD j 0 = now.getD j 0 := by
  unfold tornL
  have hn : tornN k ≤ 64 := by unfold tornN; omega
  generalize tornN k = n at *
  simp only [List.getD_eq_getElem?_getD]
  split
  · rw [List.getElem?_append]
    split
    · rename_i h; simp at h; right; rw [List.getElem?_take, if_pos (by omega)]
    · rename_i h; simp at h; left; rw [List.getElem?_drop, List.length_take]; congr 3; omega
  · rw [List.getElem?_append]
    split
    · rename_i h; simp at h; left; rw [List.getElem?_take, if_pos (by omega)]
    · rename_i h; simp at h; right; rw [List.getElem?_drop, List.length_take]; congr 3; omega
theorem torn_0 {was now : List UInt8} (k : UInt8) (h1 : was.length = 64) (h2 : now.length = 64) (h : k.toNat = 0 ∨ k.toNat = 128) : tornL was now k = was := by
  unfold tornL tornN
  rcases h with h | h
  · simp [h]
  · have : was.take 64 = was := List.take_of_length_le (by omega)
    have h3 : now.drop 64 = [] := List.drop_eq_nil_of_le (by omega)
    simp [h, this, h3]
theorem torn_all {was now : List UInt8} (k : UInt8) (h1 : was.length = 64) (h2 : now.length = 64) (h : 64 ≤ k.toNat % 128) : tornL was now k = now := by
  unfold tornL tornN
  have h3 : min (k.toNat % 128) 64 = 64 := by omega
  rw [h3]
  split
  · rw [List.take_of_length_le (by omega), List.drop_eq_nil_of_le (by omega), List.append_nil]
  · simp
end Go.Proofs.Ytggepeepjaoibaa

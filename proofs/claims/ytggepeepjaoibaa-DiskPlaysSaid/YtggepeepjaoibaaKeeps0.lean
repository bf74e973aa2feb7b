/- What a crash keeps. -/
import Derived.Test.YtggepeepjaoibaaSame
import Derived.Test.YtggepeepjaoibaaCalm0
namespace Go.Proofs.Ytggepeepjaoibaa
open Go.RowKit
set_option linter.unusedVariables false

theorem put_loose_other (D : DiskG) {i k : Nat} (xs : List UInt8) (h : k ≠ i) (hl : D.loose.any (fun e => e.1 == i) = false) : (put D k xs).loose.any (fun e => e.1 == i) = false := by
  show (addLoose D k).loose.any _ = false
  unfold addLoose
  split
  · exact hl
  · simp only [List.any_append, hl, Bool.false_or]; simp [h]
theorem tornUpto_other (D : DiskG) (fate : List UInt8) {i : Nat} (hl : D.loose.any (fun e => e.1 == i) = false) : ∀ m, m ≤ (keysOf D).length → (tornUpto D fate m).getD i [] = D.now.getD i []
  | 0, _ => rfl
  | m + 1, hm => by
    have hne : (keysOf D).getD m 0 ≠ i := fun e => by
      have hmem : i ∈ keysOf D := by
        rw [← e, List.getD_eq_getElem?_getD, List.getElem?_eq_getElem (by omega)]
        exact List.getElem_mem (by omega)
      rw [(keysOf_mem hmem).2] at hl
      cases hl
    have := tornUpto_other D fate hl m (by omega)
    simp only [tornUpto]
    rw [List.getD_eq_getElem?_getD, List.getElem?_set_ne hne, ← List.getD_eq_getElem?_getD]
    exact this
theorem crash_other (D : DiskG) (fate : List UInt8) {i : Nat} (hl : D.loose.any (fun e => e.1 == i) = false) : (crash D fate).now.getD i [] = D.now.getD i [] := tornUpto_other D fate hl _ (Nat.le_refl _)

/-- what DiskKeeps keeps -/
structure Kept (D : DiskG) (i : Nat) (xs : List UInt8) : Prop where
  fuse : D.fuse < 0
  gone : D.gone = false
  now : D.now.getD i [] = xs
  loose : D.loose.any (fun e => e.1 == i) = false
theorem Kept.put {D : DiskG} {i : Nat} {xs : List UInt8} (h : Kept D i xs) {k : Nat} (hk : k ≠ i) (ys : List UInt8) : Kept (put D k ys) i xs where
  fuse := by rw [(put_calm D k ys).1]; exact h.fuse
  gone := by rw [(put_calm D k ys).2]; exact h.gone
  now := by rw [put_now, List.getD_eq_getElem?_getD, List.getElem?_set_ne hk, ← List.getD_eq_getElem?_getD]; exact h.now
  loose := put_loose_other D ys hk h.loose
end Go.Proofs.Ytggepeepjaoibaa

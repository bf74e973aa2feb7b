/- jalousieref07.Disk: Crash. -/
import Derived.Test.YtggepeepjaoibaaRef7f
import Derived.Test.YtggepeepjaoibaaTears0
namespace Go.Proofs.Ytggepeepjaoibaa
open Go.RowKit
set_option linter.unusedVariables false
/-- does the j-th byte stay? -/
def staysB (k j : Nat) : Bool := (decide (k < 128) && decide (j < k)) || (decide (128 ≤ k) && decide (64 - (j : Int) ≤ (k : Int) - 128))
/-- the first m bytes of those that don't stay are the old ones -/
def mixL (was now : List UInt8) (k : Nat) : Nat → List UInt8
  | 0 => now
  | m + 1 => if staysB k m then mixL was now k m else (mixL was now k m).set m (was.getD m 0)
theorem mixL_len (was now : List UInt8) (k : Nat) : ∀ m, (mixL was now k m).length = now.length
  | 0 => rfl
  | m + 1 => by
    unfold mixL
    split
    · exact mixL_len was now k m
    · rw [List.length_set]; exact mixL_len was now k m
theorem mixL_at (was now : List UInt8) (k : Nat) : ∀ m, m ≤ now.length → ∀ j, j < now.length → (mixL was now k m).getD j 0 = if j < m ∧ staysB k j = false then was.getD j 0 else now.getD j 0
  | 0, _, j, hj => by rw [if_neg (by omega)]; rfl
  | m + 1, hm, j, hj => by
    have ih := mixL_at was now k m (by omega) j hj
    unfold mixL
    split
    · rename_i hs
      rw [ih]
      by_cases hjm : j = m
      · subst hjm
        rw [if_neg (by omega), if_neg (by rw [hs]; simp)]
      · by_cases hc : j < m ∧ staysB k j = false
        · rw [if_pos hc, if_pos ⟨by omega, hc.2⟩]
        · rw [if_neg hc, if_neg (fun h => hc ⟨by omega, h.2⟩)]
    · rename_i hs
      have hs' : staysB k m = false := by simpa using hs
      have hl : m < (mixL was now k m).length := by rw [mixL_len]; omega
      simp only [List.getD_eq_getElem?_getD, List.getElem?_set] at ih ⊢
      by_cases hjm : m = j
      · subst hjm
        rw [if_pos rfl, if_pos hl, if_pos ⟨by omega, hs'⟩]
        rfl
      · rw [if_neg hjm, ih]
        by_cases hc : j < m ∧ staysB k j = false
        · rw [if_pos hc, if_pos ⟨by omega, hc.2⟩]
        · rw [if_neg hc, if_neg (fun h => hc ⟨by omega, h.2⟩)]
theorem mixL_torn {was now : List UInt8} (k : UInt8) (h1 : was.length = 64) (h2 : now.length = 64) : mixL was now k.toNat 64 = tornL was now k := by
  have hk := k.toNat_lt
  refine List.ext_getElem? fun j => ?_
  by_cases hj : j < 64
  · have h := mixL_at was now k.toNat 64 (by omega) j (by omega)
    have l1 : j < (mixL was now k.toNat 64).length := by rw [mixL_len]; omega
    have l2 : j < (tornL was now k).length := by rw [torn_len k h1 h2]; exact hj
    rw [List.getElem?_eq_getElem l1, List.getElem?_eq_getElem l2]
    rw [List.getD_eq_getElem?_getD, List.getElem?_eq_getElem l1] at h
    simp only [Option.getD_some] at h
    have ht : (tornL was now k).getD j 0 = if staysB k.toNat j = false then was.getD j 0 else now.getD j 0 := by
      unfold tornL tornN staysB
      simp only [List.getD_eq_getElem?_getD]
      split
      · rename_i h128
        rw [List.getElem?_append]
        simp only [List.length_take, List.getElem?_take, List.getElem?_drop]
        by_cases hc : j < min (min (k.toNat % 128) 64) now.length
        · rw [if_pos hc, if_pos (by omega), if_neg (by simp; omega)]
        · rw [if_neg hc, if_pos (by simp; omega)]
          congr 2
          omega
      · rename_i h128
        rw [List.getElem?_append]
        simp only [List.length_take, List.getElem?_take, List.getElem?_drop]
        by_cases hc : j < min (64 - min (k.toNat % 128) 64) was.length
        · rw [if_pos hc, if_pos (by omega), if_pos (by simp; omega)]
        · rw [if_neg hc, if_neg (by simp; omega)]
          congr 2
          omega
    rw [List.getD_eq_getElem?_getD, List.getElem?_eq_getElem l2] at ht
    simp only [Option.getD_some] at ht
    rw [h, ht]
    by_cases hs : staysB k.toNat j = false
    · rw [if_pos ⟨hj, hs⟩, if_pos hs]
    · rw [if_neg (fun h => hs h.2), if_neg hs]
  · rw [List.getElem?_eq_none (by rw [mixL_len]; omega), List.getElem?_eq_none (by rw [torn_len k h1 h2]; omega)]
/-- one sector torn -/
def crS (Y : RefG) (i : Nat) (k : UInt8) : RefG := { Y with now := Y.now.set i (tornL (Y.was.getD i []) (Y.now.getD i []) k), was := Y.was.set i (tornL (Y.was.getD i []) (Y.now.getD i []) k), is := Y.is.set i false }
def crU (Y : RefG) (fate : List UInt8) : Nat → RefG × Nat
  | 0 => (Y, 0)
  | i + 1 => if (crU Y fate i).1.is.getD i false = true then (crS (crU Y fate i).1 i (fateAt fate (crU Y fate i).2), (crU Y fate i).2 + 1) else crU Y fate i
theorem crU_len (Y : RefG) (fate : List UInt8) : ∀ i, (crU Y fate i).1.now.length = Y.now.length ∧ (crU Y fate i).2 ≤ i
  | 0 => ⟨rfl, Nat.le_refl _⟩
  | i + 1 => by
    obtain ⟨h1, h2⟩ := crU_len Y fate i
    unfold crU
    split
    · exact ⟨by simp [crS, h1], by simp only; omega⟩
    · exact ⟨h1, by omega⟩
def refCr (X : RefG) (fate : List UInt8) : RefG := { (crU X fate X.now.length).1 with gone := false, fuse := -1 }
end Go.Proofs.Ytggepeepjaoibaa

/- What a change of a log does to a disk that is well. -/
import Derived.Test.YtggepeepjaoibaaAppend
import Derived.Test.YtggepeepjaoibaaCalm0
namespace Go.Proofs.Ytggepeepjaoibaa
open Go.RowKit
set_option linter.unusedVariables false

structure Well (D : DiskG) : Prop where
  gone : D.gone = false
  fuse : D.fuse < 0
theorem Well.put {D : DiskG} (h : Well D) (i : Nat) (xs : List UInt8) : Well (put D i xs) := ⟨by rw [(put_calm D i xs).2]; exact h.gone, by rw [(put_calm D i xs).1]; exact h.fuse⟩
theorem getD_set (l : List (List UInt8)) (i j : Nat) (x : List UInt8) (hi : i < l.length) : (l.set i x).getD j [] = if j = i then x else l.getD j [] := by
  by_cases h : j = i
  · subst h; rw [if_pos rfl, List.getD_eq_getElem?_getD, List.getElem?_set_self hi]; rfl
  · rw [if_neg h, List.getD_eq_getElem?_getD, List.getElem?_set_ne (Ne.symm h), ← List.getD_eq_getElem?_getD]
theorem fillF_ok (xs : List UInt8) (base : Nat) : ∀ (k i : Nat) (D : DiskG), Well D → xs.length ≤ 64 * (i + k) → (∀ j, 64 * j < xs.length → base + j < D.now.length) →
    (fillF xs base k i D).2 = 0 ∧ Well (fillF xs base k i D).1 ∧ (fillF xs base k i D).1.loose = [] ∧ (∀ j, (fillF xs base k i D).1.now.getD j [] = if base + i ≤ j ∧ 64 * (j - base) < xs.length then secAt xs (j - base) else D.now.getD j [])
  | 0, i, D, hW, hx, hl => by
    have e : fillF xs base 0 i D = ({ D with loose := [] }, 0) := syn_calm hW.gone hW.fuse
    rw [e]
    refine ⟨rfl, ⟨hW.gone, hW.fuse⟩, rfl, fun j => ?_⟩
    rw [if_neg (by omega)]
  | k + 1, i, D, hW, hx, hl => by
    by_cases hi : 64 * i < xs.length
    · have hb := hl i hi
      have hw : wr D ((base + i : Nat) : Int) (secAt xs i) = (put D (base + i) (secAt xs i), 0) := by
        have := wr_calm (D := D) (i := ((base + i : Nat) : Int)) (xs := secAt xs i) ⟨by omega, by omega⟩ (secAt_len xs i) hW.gone hW.fuse
        rwa [Int.toNat_natCast] at this
      have e : fillF xs base (k + 1) i D = fillF xs base k (i + 1) (put D (base + i) (secAt xs i)) := by simp only [fillF, if_pos hi, hw, if_true]
      rw [e]
      obtain ⟨h1, h2, h3, h4⟩ := fillF_ok xs base k (i + 1) (put D (base + i) (secAt xs i)) (hW.put _ _) (by omega) (fun j hj => by rw [(put_like D (base + i) (secAt xs i)).hn]; exact hl j hj)
      refine ⟨h1, h2, h3, fun j => ?_⟩
      rw [h4 j, put_now, getD_set _ _ _ _ hb]
      by_cases hj : j = base + i
      · subst hj
        rw [if_neg (by omega), if_pos rfl, if_pos ⟨Nat.le_refl _, by rw [Nat.add_sub_cancel_left]; exact hi⟩, Nat.add_sub_cancel_left]
      · rw [if_neg hj]
        by_cases hc : base + i ≤ j ∧ 64 * (j - base) < xs.length
        · rw [if_pos hc, if_pos ⟨by omega, hc.2⟩]
        · rw [if_neg hc, if_neg (by omega)]
    · rw [fillF_end _ _ _ _ _ hi, syn_calm hW.gone hW.fuse]
      refine ⟨rfl, ⟨hW.gone, hW.fuse⟩, rfl, fun j => ?_⟩
      rw [if_neg (by omega)]
theorem turnF_ok {D : DiskG} (hW : Well D) {f s z : Nat} {n : List UInt8} (hn : n.length = 16) (hl : f + 1 < D.now.length) :
    (turnF D f s z n).2 = 0 ∧ Well (turnF D f s z n).1 ∧ (turnF D f s z n).1.loose = [] ∧ (∀ j, (turnF D f s z n).1.now.getD j [] = if j = f + s % 2 then halfL s z n ++ halfL s z n else D.now.getD j []) := by
  have lh : (halfL s z n ++ halfL s z n).length = 64 := by simp [halfL, be8_len, hn]
  have hb : f + s % 2 < D.now.length := by omega
  have hw : wr D ((f + s % 2 : Nat) : Int) (halfL s z n ++ halfL s z n) = (put D (f + s % 2) (halfL s z n ++ halfL s z n), 0) := by
    have := wr_calm (D := D) (i := ((f + s % 2 : Nat) : Int)) (xs := halfL s z n ++ halfL s z n) ⟨by omega, by omega⟩ lh hW.gone hW.fuse
    rwa [Int.toNat_natCast] at this
  have hP := hW.put (f + s % 2) (halfL s z n ++ halfL s z n)
  have e : turnF D f s z n = ({ put D (f + s % 2) (halfL s z n ++ halfL s z n) with loose := [] }, 0) := by
    simp only [turnF, hw, if_true]
    exact syn_calm hP.gone hP.fuse
  rw [e]
  refine ⟨rfl, ⟨hP.gone, hP.fuse⟩, rfl, fun j => ?_⟩
  show ((put D (f + s % 2) (halfL s z n ++ halfL s z n)).now).getD j [] = _
  rw [put_now, getD_set _ _ _ _ hb]
theorem readH_half {D : DiskG} {f most k s z : Nat} {n : List UInt8} (h : D.now.getD (f + k) [] = halfL s z n ++ halfL s z n) (hk : s % 2 = k) (hz : z ≤ most) (hs : s < 18446744073709551616) (hz64 : z < 18446744073709551616) (hn : n.length = 16) : readH D f most k = (s, z, n) := by
  have lh : (halfL s z n).length = 32 := by simp [halfL, be8_len, hn]
  have e1 : (halfL s z n ++ halfL s z n).take 32 = halfL s z n := by rw [List.take_append_of_le_length (by omega), List.take_of_length_le (by omega)]
  have e2 : (halfL s z n ++ halfL s z n).drop 32 = halfL s z n := by rw [List.drop_append_of_le_length (by omega), List.drop_eq_nil_of_le (by omega), List.nil_append]
  have e3 : (halfL s z n ++ halfL s z n).take 8 = be8 s := by
    rw [List.take_append_of_le_length (by omega), halfL, List.append_assoc, List.take_append_of_le_length (by rw [be8_len]; omega), List.take_of_length_le (by rw [be8_len]; omega)]
  have e4 : ((halfL s z n ++ halfL s z n).drop 8).take 8 = be8 z := by
    rw [List.drop_append_of_le_length (by omega), halfL, List.append_assoc, List.drop_append_of_le_length (by rw [be8_len]; omega), List.drop_eq_nil_of_le (by rw [be8_len]; omega), List.nil_append, List.append_assoc, List.take_append_of_le_length (by rw [be8_len]; omega), List.take_of_length_le (by rw [be8_len]; omega)]
  have e5 : (halfL s z n).drop 16 = n := by
    rw [halfL, List.drop_append_of_le_length (by simp [be8_len]), List.drop_eq_nil_of_le (by simp [be8_len]), List.nil_append]
  unfold readH
  rw [h]
  simp only [e1, e2, e3, e4, e5, num_be8 s hs, num_be8 z hz64]
  rw [if_pos ⟨trivial, hk, hz⟩]
end Go.Proofs.Ytggepeepjaoibaa

/- What a log is opened to behind a change. -/
import Derived.Test.YtggepeepjaoibaaPlain8
namespace Go.Proofs.Ytggepeepjaoibaa
open Go.RowKit
set_option linter.unusedVariables false

theorem opH_max (D : DiskG) (f most : Nat) : (readH D f most 0).1 ≤ (opH D f most).1 ∧ (readH D f most 1).1 ≤ (opH D f most).1 := by
  unfold opH
  split <;> omega
theorem opH_turn {D E : DiskG} {f most s z : Nat} {n : List UInt8} (hE : ∀ j, j < 2 → E.now.getD (f + j) [] = if f + j = f + s % 2 then halfL s z n ++ halfL s z n else D.now.getD (f + j) [])
    (hs : (opH D f most).1 < s) (hz : z ≤ most) (hs64 : s < 18446744073709551616) (hz64 : z < 18446744073709551616) (hn : n.length = 16) : opH E f most = (s, z, n) := by
  obtain ⟨m0, m1⟩ := opH_max D f most
  have h1 : readH E f most (s % 2) = (s, z, n) := readH_half (by rw [hE _ (by omega), if_pos rfl]) rfl hz hs64 hz64 hn
  by_cases hp : s % 2 = 0
  · rw [hp] at h1
    have h2 : readH E f most 1 = readH D f most 1 := by
      have e : E.now.getD (f + 1) [] = D.now.getD (f + 1) [] := by rw [hE 1 (by omega), if_neg (by omega)]
      simp only [readH, e]
    unfold opH
    rw [h1, h2, if_neg (by omega)]
  · have hp : s % 2 = 1 := by omega
    rw [hp] at h1
    have h2 : readH E f most 0 = readH D f most 0 := by
      have e : E.now.getD (f + 0) [] = D.now.getD (f + 0) [] := by rw [hE 0 (by omega), if_neg (by omega)]
      simp only [readH, e]
    unfold opH
    rw [h1, h2, if_pos (by omega)]

theorem catS_at {D : DiskG} (h64 : ∀ j, j < D.now.length → (D.now.getD j []).length = 64) (k : Nat) : ∀ (m : Nat), k + m ≤ D.now.length → (catS D k m).length = 64 * m ∧ ∀ q, q < 64 * m → (catS D k m).getD q 0 = (D.now.getD (k + q / 64) []).getD (q % 64) 0
  | 0, _ => ⟨by simp [catS], fun q hq => by omega⟩
  | m + 1, hm => by
    obtain ⟨h1, h2⟩ := catS_at h64 k m (by omega)
    have h3 := h64 (k + m) (by omega)
    rw [catS_succ (by omega)]
    refine ⟨by rw [List.length_append, h1, h3]; omega, fun q hq => ?_⟩
    by_cases hq2 : q < 64 * m
    · rw [List.getD_eq_getElem?_getD, List.getElem?_append_left (by omega), ← List.getD_eq_getElem?_getD]
      exact h2 q hq2
    · rw [List.getD_eq_getElem?_getD, List.getElem?_append_right (by omega), ← List.getD_eq_getElem?_getD, h1]
      have e1 : q / 64 = m := by omega
      have e2 : q % 64 = q - 64 * m := by omega
      rw [e1, e2]
theorem secAt_at (xs : List UInt8) {q : Nat} (hq : q < xs.length) : (secAt xs (q / 64)).getD (q % 64) 0 = xs.getD q 0 := by
  have hl : q % 64 < ((xs.drop (64 * (q / 64))).take 64).length := by rw [List.length_take, List.length_drop]; omega
  unfold secAt splice
  rw [List.take_zero, List.nil_append, List.getD_eq_getElem?_getD, List.getElem?_append_left hl, List.getElem?_take, if_pos (by omega), List.getElem?_drop, List.getD_eq_getElem?_getD]
  congr 2
  omega
theorem list_ext_getD {a b : List UInt8} (hl : a.length = b.length) (h : ∀ q, q < b.length → a.getD q 0 = b.getD q 0) : a = b := by
  apply List.ext_getElem hl
  intro q h1 h2
  have := h q h2
  rwa [List.getD_eq_getElem?_getD, List.getElem?_eq_getElem h1, List.getD_eq_getElem?_getD, List.getElem?_eq_getElem h2] at this
/-- the bytes of a log that has been filled -/
theorem catS_fill {D E : DiskG} {k m : Nat} {xs ys : List UInt8} (hD : ∀ j, j < D.now.length → (D.now.getD j []).length = 64) (hE : ∀ j, j < E.now.length → (E.now.getD j []).length = 64) (hn : E.now.length = D.now.length) (hm : k + m ≤ D.now.length)
    (hx : (catS D k m).take xs.length = xs) (hl : xs.length + ys.length ≤ 64 * m)
    (hF : ∀ i, i < m → E.now.getD (k + i) [] = if xs.length / 64 ≤ i ∧ 64 * i < (xs ++ ys).length then secAt (xs ++ ys) i else D.now.getD (k + i) []) :
    (catS E k m).take (xs ++ ys).length = xs ++ ys := by
  obtain ⟨l1, a1⟩ := catS_at hD k m hm
  obtain ⟨l2, a2⟩ := catS_at hE k m (by omega)
  have hxl : (xs ++ ys).length = xs.length + ys.length := List.length_append
  refine list_ext_getD (by rw [List.length_take, l2]; omega) fun q hq => ?_
  rw [List.getD_eq_getElem?_getD, List.getElem?_take, if_pos hq, ← List.getD_eq_getElem?_getD, a2 q (by omega), hF (q / 64) (by omega)]
  by_cases hc : xs.length / 64 ≤ q / 64
  · rw [if_pos ⟨hc, by omega⟩]
    exact secAt_at _ hq
  · rw [if_neg (fun h => hc h.1), ← a1 q (by omega)]
    have hqx : q < xs.length := by omega
    have e1 : (catS D k m).getD q 0 = ((catS D k m).take xs.length).getD q 0 := by
      rw [List.getD_eq_getElem?_getD, List.getD_eq_getElem?_getD, List.getElem?_take, if_pos hqx]
    rw [e1, hx, List.getD_eq_getElem?_getD, List.getD_eq_getElem?_getD, List.getElem?_append_left hqx]

/-- the disk tells the state of the log -/
structure Tells (D : DiskG) (f m s : Nat) (xs n : List UInt8) : Prop where
  head : opH D f (64 * m) = (s, xs.length, n)
  bytes : (catS D (f + 2) m).take xs.length = xs
theorem append_ok {w : World} {d : Nat} {D : DiskG} {L : LogG} {ys note : List UInt8} {m N : Nat} (hD : IsDisk w d D) (hW : Well D) (hf : L.f + 2 + m ≤ D.now.length) (hT : Tells D L.f m L.s L.xs L.n)
    (hl : L.xs.length + ys.length ≤ 64 * m) (hs : L.s + 1 < 18446744073709551616) (hm : 64 * m < 18446744073709551616) (hn : note.length = 16) (hN : L.xs.length + ys.length ≤ 64 * (L.xs.length / 64 + N)) :
    (becomeF D L (L.xs ++ ys) note true N).2 = 0 ∧ Well (becomeF D L (L.xs ++ ys) note true N).1 ∧ (becomeF D L (L.xs ++ ys) note true N).1.loose = [] ∧ Like D (becomeF D L (L.xs ++ ys) note true N).1 ∧
      Tells (becomeF D L (L.xs ++ ys) note true N).1 L.f m (L.s + 1) (L.xs ++ ys) note := by
  have hxl : (L.xs ++ ys).length = L.xs.length + ys.length := List.length_append
  obtain ⟨f1, f2, f3, f4⟩ := fillF_ok (L.xs ++ ys) (L.f + 2) N (L.xs.length / 64) D hW (by omega) (fun j hj => by omega)
  have f5 := fillF_like (L.xs ++ ys) (L.f + 2) N (L.xs.length / 64) D
  have hB : becomeF D L (L.xs ++ ys) note true N = turnF (fillF (L.xs ++ ys) (L.f + 2) N (L.xs.length / 64) D).1 L.f (L.s + 1) (L.xs ++ ys).length note := by
    simp only [becomeF, if_true, f1]
  rw [hB]
  generalize (fillF (L.xs ++ ys) (L.f + 2) N (L.xs.length / 64) D).1 = F at f2 f3 f4 f5
  obtain ⟨t1, t2, t3, t4⟩ := turnF_ok (s := L.s + 1) (z := (L.xs ++ ys).length) f2 hn (f := L.f) (by rw [f5.hn]; omega)
  have t5 := turnF_like F L.f (L.s + 1) (L.xs ++ ys).length note
  generalize (turnF F L.f (L.s + 1) (L.xs ++ ys).length note) = T at t1 t2 t3 t4 t5
  have hn2 : T.1.now.length = D.now.length := (f5.trans t5).hn
  have h64 : ∀ j, j < D.now.length → (D.now.getD j []).length = 64 := fun j hj => hD.secLen hj
  have h64T : ∀ j, j < T.1.now.length → (T.1.now.getD j []).length = 64 := fun j hj => by
    rw [t4 j]
    split
    · simp [halfL, be8_len, hn]
    · rw [f4 j]
      split
      · exact secAt_len _ _
      · exact h64 j (by omega)
  refine ⟨t1, t2, t3, f5.trans t5, ?_, ?_⟩
  · refine opH_turn (D := D) (fun j hj => ?_) (by rw [hT.head]; exact Nat.lt_succ_self _) (by omega) hs (by omega) hn
    rw [t4 (L.f + j), f4 (L.f + j)]
    split
    · rfl
    · rw [if_neg (by omega)]
  · refine catS_fill h64 h64T hn2 hf hT.bytes hl (fun i hi => ?_)
    rw [t4 (L.f + 2 + i), if_neg (by omega), f4 (L.f + 2 + i)]
    by_cases hc : L.xs.length / 64 ≤ i ∧ 64 * i < (L.xs ++ ys).length
    · rw [if_pos hc, if_pos ⟨by omega, by omega⟩]
      congr 1
      omega
    · rw [if_neg hc, if_neg (by omega)]
end Go.Proofs.Ytggepeepjaoibaa

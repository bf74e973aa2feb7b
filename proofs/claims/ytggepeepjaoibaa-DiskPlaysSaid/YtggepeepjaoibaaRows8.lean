/- How slices of slices of bytes are read. -/
import Derived.Test.YtggepeepjaoibaaOpen
import Derived.Deep.Slices
namespace Go.Proofs.Ytggepeepjaoibaa
open Go.ChangeShapes Go.WideShapes Go.ChangeAt Go.RowKit Go.Deep
set_option linter.unusedVariables false

/-- what a slice of slices of bytes reads as: the value and the bytes of each -/
structure IsRowsB (w : World) (v : Value) (us : List Value) (ls : List (List UInt8)) : Prop where
  at_ : ∃ a cap, v = .slice a ls.length cap ∧ ls.length ≤ cap ∧ cap ≤ maxLen ∧ (a = none → cap = 0) ∧ (ls = [] ∨ ∃ b off, a = some ⟨b, off, none⟩ ∧ ∀ j, j < ls.length → w.cell? ⟨b, off + j, none⟩ = some (us.getD j undef))
  each : ∀ j, j < ls.length → IsBytes w (us.getD j undef) (ls.getD j [])
theorem IsRowsB.keep0 {w w' : World} {v : Value} {us : List Value} {ls : List (List UInt8)} (h : IsRowsB w v us ls) (hu : Upd (fun _ => False) w w') : IsRowsB w' v us ls := by
  obtain ⟨⟨a, cap, rfl, h1, h2, h0, h3⟩, he⟩ := h
  refine ⟨⟨a, cap, rfl, h1, h2, h0, ?_⟩, fun j hj => (he j hj).keep hu (fun _ _ _ => id)⟩
  rcases h3 with h3 | ⟨b, off, rfl, hc⟩
  · exact .inl h3
  · refine .inr ⟨b, off, rfl, fun j hj => ?_⟩
    have := hc j hj
    rw [World.cell?_of_block (w := w) (hu.block b (World.block_lt_of_cell? w _ this) id)]
    exact this
theorem IsRowsB.cell {w : World} {b off n cap : Nat} {us : List Value} {ls : List (List UInt8)} (h : IsRowsB w (.slice (some ⟨b, off, none⟩) n cap) us ls) {k : Nat} (hk : k < ls.length) : w.cell? ⟨b, off + k, none⟩ = some (us.getD k undef) := by
  obtain ⟨a', c', e, _, _, _, q3⟩ := h.at_
  simp only [Value.slice.injEq] at e
  obtain ⟨rfl, _, _⟩ := e
  obtain ⟨b', off', e, hc⟩ := q3.resolve_left (fun e => by rw [e] at hk; simp at hk)
  cases e
  exact hc k hk
theorem open_rowsL {H : Type} {enc : TypeId × Value → H} {w : World} {base fuel : Nat} {spare : Nat → Bool} {held : Bool} {cs : List Value} {x : DataW H × List MemPlace}
    (h : DataW.trod enc Try.prog w base spare held fuel 22 cs = some x) : ∃ v us ls, cs = [v] ∧ IsRowsB w v us ls := by
  rcases open_slice1 Try.underlying22 (by kernel_rfl) h with ⟨hcs, _⟩ | ⟨a, len, cap, m, n, V, D, Pl, hcs, _, hl, hm, hmm, _, hcell⟩
  · exact ⟨_, [], [], hcs, ⟨none, 0, rfl, Nat.le_refl _, by unfold maxLen; omega, fun _ => rfl, .inl rfl⟩, fun j hj => by simp at hj⟩
  · have hlm : len ≤ m := by rw [hmm]; split <;> omega
    obtain ⟨X, hX⟩ := choose_lt (α := List UInt8) (p := fun i xs => IsBytes w (V i) xs) (n := len) (fun i hi => by
      obtain ⟨v', xs, hc, hx⟩ := open_bytesL (hcell i (by omega)).2
      simp at hc
      subst hc
      exact ⟨xs, hx⟩)
    have gV : ∀ j, j < len → ((List.range len).map V).getD j undef = V j := fun j hj => by simp [List.getD_eq_getElem?_getD, List.getElem?_range hj]
    have gX : ∀ j, j < len → ((List.range len).map X).getD j [] = X j := fun j hj => by simp [List.getD_eq_getElem?_getD, List.getElem?_range hj]
    refine ⟨_, (List.range len).map V, (List.range len).map X, hcs, ⟨some a, cap, by simp, by simpa using hl, hm, fun e => (by cases e), ?_⟩, fun j hj => ?_⟩
    · by_cases h0 : len = 0
      · left; rw [h0]; rfl
      · right
        have hc0 := (hcell 0 (by omega)).1
        obtain ⟨b, off, spot⟩ := a
        have hspot : spot = none := by simpa [Addr.add] using World.cell?_spot hc0
        subst hspot
        refine ⟨b, off, rfl, fun j hj => ?_⟩
        have hj' : j < len := by simpa using hj
        have := (hcell j (by omega)).1
        rw [add_plain] at this
        rw [this, gV j hj']
    · have hj' : j < len := by simpa using hj
      rw [gV j hj', gX j hj']
      exact hX j hj'
set_option maxRecDepth 100000 in
theorem open_rows {H : Type} {enc : TypeId × Value → H} {w : World} {base base2 : Nat} {spare : Nat → Bool} {held : Bool} {v : Value} {d : DataW H} {ps : List MemPlace} {r : Reach}
    (hv : Value.okWide Try.prog w r base2 22 v) (h : DataW.Trod enc Try.prog w base spare held 22 v d ps) : ∃ us ls, IsRowsB w v us ls := by
  obtain ⟨a, len, cap, rfl⟩ := okWide_slice Try.underlying22 hv
  obtain ⟨fuel, hf⟩ := h
  obtain ⟨v', us, ls, hc, hx⟩ := open_rowsL hf
  simp [Value.cells] at hc
  subst hc
  exact ⟨us, ls, hx⟩
end Go.Proofs.Ytggepeepjaoibaa

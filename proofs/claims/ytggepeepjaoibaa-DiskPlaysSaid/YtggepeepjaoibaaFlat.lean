/- Plain lemmas: sectors side by side. -/
import Derived.Laws.CopyOwn
namespace Go.Proofs.Ytggepeepjaoibaa
section
variable {α : Type}
def All64 (l : List (List α)) : Prop := ∀ s ∈ l, s.length = 64
theorem flat_len : ∀ (l : List (List α)), All64 l → l.flatten.length = 64 * l.length
  | [], _ => rfl
  | s :: l, h => by
    have h1 := h s (by simp)
    have h2 := flat_len l (fun x hx => h x (by simp [hx]))
    simp [h1, h2]; omega
theorem flat_drop : ∀ (l : List (List α)) (i : Nat), All64 l → (l.flatten).drop (64 * i) = (l.drop i).flatten
  | [], i, _ => by simp
  | s :: l, 0, _ => by simp
  | s :: l, i + 1, h => by
    have h1 := h s (by simp)
    have ih := flat_drop l i (fun x hx => h x (by simp [hx]))
    simp only [List.flatten_cons, List.drop_succ_cons]
    rw [List.drop_append, List.drop_eq_nil_of_le (by omega), List.nil_append, show 64 * (i + 1) - s.length = 64 * i from by omega]
    exact ih
theorem flat_take : ∀ (l : List (List α)) (i : Nat), All64 l → (l.flatten).take (64 * i) = (l.take i).flatten
  | [], i, _ => by simp
  | s :: l, 0, _ => by simp
  | s :: l, i + 1, h => by
    have h1 := h s (by simp)
    have ih := flat_take l i (fun x hx => h x (by simp [hx]))
    simp only [List.flatten_cons, List.take_succ_cons]
    rw [List.take_append, List.take_of_length_le (by omega), show 64 * (i + 1) - s.length = 64 * i from by omega, ih]
theorem flat_get (l : List (List α)) (i j : Nat) (s : List α) (h : All64 l) (hi : l[i]? = some s) (hj : j < 64) : (l.flatten)[64 * i + j]? = s[j]? := by
  rw [← List.getElem?_drop, flat_drop l i h]
  obtain ⟨hlt, rfl⟩ := List.getElem?_eq_some_iff.1 hi
  rw [List.drop_eq_getElem_cons hlt, List.flatten_cons, List.getElem?_append_left]
  rw [h _ (List.getElem_mem hlt)]
  exact hj
theorem flat_splice (l : List (List α)) (i : Nat) (s : List α) (h : All64 l) (hi : i < l.length) (hs : s.length = 64) : splice l.flatten (64 * i) s = (l.set i s).flatten := by
  unfold splice
  rw [hs, show 64 * i + 64 = 64 * (i + 1) from by omega, flat_drop l _ h, flat_take l i h, List.set_eq_take_append_cons_drop, if_pos hi]
  simp
theorem all64_set {l : List (List α)} {s : List α} (i : Nat) (h : All64 l) (hs : s.length = 64) : All64 (l.set i s) := by
  intro x hx
  rcases List.mem_or_eq_of_mem_set hx with h1 | h1
  · exact h x h1
  · rw [h1]; exact hs
end
end Go.Proofs.Ytggepeepjaoibaa

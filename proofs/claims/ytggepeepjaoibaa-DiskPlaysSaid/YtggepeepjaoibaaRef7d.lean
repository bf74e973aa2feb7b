/- jalousieref07: what a write of the reference leaves; Write. -/
import Derived.Test.YtggepeepjaoibaaRef7c
namespace Go.Proofs.Ytggepeepjaoibaa
open Go.RowKit
set_option linter.unusedVariables false
section
variable {w w' : World} {r base : Nat} {X : RefG} {M : RefM}
theorem getD_setV (l : List Value) (i j : Nat) (x : Value) (hi : i < l.length) : (l.set i x).getD j undef = if j = i then x else l.getD j undef := by
  simp only [List.getD_eq_getElem?_getD, List.getElem?_set]
  by_cases h : i = j
  · subst h; simp [hi]
  · rw [if_neg h, if_neg (Ne.symm h)]
theorem getD_setL (l : List (List UInt8)) (i j : Nat) (x : List UInt8) (hi : i < l.length) : (l.set i x).getD j [] = if j = i then x else l.getD j [] := by
  simp only [List.getD_eq_getElem?_getD, List.getElem?_set]
  by_cases h : i = j
  · subst h; simp [hi]
  · rw [if_neg h, if_neg (Ne.symm h)]
theorem rowNe {t t2 : TypeId} {b b2 : Nat} {v : Value} {us vs : List Value} {g l c : Nat} (h1 : OwnT t w b v us) (h2 : OwnT t2 w b2 (.slice (some ⟨g, 0, none⟩) l c) vs) (ht : t ≠ t2) : ∀ k, v.ownBlock = some k → ¬ k = g := fun k hk e => by
  obtain ⟨_, _, cur, hc⟩ := h1.le k hk
  obtain ⟨_, _, cur2, hc2⟩ := h2.le g rfl
  rw [e, hc2] at hc
  cases hc
  exact ht rfl
theorem rowNeB {t2 : TypeId} {b b2 : Nat} {v : Value} {xs : List UInt8} {vs : List Value} {g l c : Nat} (h1 : OwnB w b v xs) (h2 : OwnT t2 w b2 (.slice (some ⟨g, 0, none⟩) l c) vs) (ht : 5 ≠ t2) : ∀ k, v.ownBlock = some k → ¬ k = g := fun k hk e => by
  obtain ⟨_, _, cur, hc⟩ := h1.ty k hk
  obtain ⟨_, _, cur2, hc2⟩ := h2.le g rfl
  rw [e, hc2] at hc
  cases hc
  exact ht rfl
theorem IsRefM.setNow (h : IsRefM w r base X M) {g l c : Nat} (hnv : M.nv = .slice (some ⟨g, 0, none⟩) l c) {j : Nat} (hj : j < X.now.length) {u : Value} {xs : List UInt8} (hu : OwnB w base u xs) (h64 : xs.length = 64)
    (hf : ∀ k, u.ownBlock = some k → (∀ i, i < X.now.length → (M.nus.getD i undef).ownBlock ≠ some k) ∧ (∀ i, i < X.now.length → (M.wus.getD i undef).ownBlock ≠ some k)) :
    IsRefM (w.setCell ⟨g, j, none⟩ u) r base { X with now := X.now.set j xs } { M with nus := M.nus.set j u } := by
  have hn := h.hn
  rw [hnv] at hn
  have hs : Upd (fun k => k = g) w (w.setCell ⟨g, j, none⟩ u) := upd_cell _ rfl
  have hgr : r ≠ g := fun e => h.ner hn (by decide) g rfl e.symm
  have hjl : j < M.nus.length := by rw [h.ln]; exact hj
  have hp : 0 < X.now.length := by omega
  have hset := hn.set j u
  rw [← hnv] at hset
  refine { hp := hs.heap h.hp hgr, hr := h.hr, hn := hset, hw := h.hw.keep hs (fun k hk e => h.rows hp g (by rw [hnv]; rfl) (by rw [hk, e])), hi := h.hi.keep hs (rowNe h.hi hn (by decide)), ln := by simp [h.ln], lw := by simp [h.lw], lx := by simp [h.lx], li := by simp [h.li], few := by simp [h.few], en := fun q hq => ?_, ew := fun q hq => ?_, each := fun a b ha hb hab k => ?_, apart := fun a b ha hb k => ?_, low := h.low, high := h.high }
  · simp only [List.length_set] at hq
    show OwnB _ base ((M.nus.set j u).getD q undef) ((X.now.set j xs).getD q []) ∧ ((X.now.set j xs).getD q []).length = 64
    rw [getD_setV _ _ _ _ hjl, getD_setL _ _ _ _ hj]
    split
    · exact ⟨hu.keep hs (rowNeB hu hn (by decide)), h64⟩
    · exact ⟨(h.en q hq).1.keep hs (rowNeB (h.en q hq).1 hn (by decide)), (h.en q hq).2⟩
  · simp only [List.length_set] at hq
    exact ⟨(h.ew q hq).1.keep hs (rowNeB (h.ew q hq).1 hn (by decide)), (h.ew q hq).2⟩
  · simp only [List.length_set] at ha hb
    show ((M.nus.set j u).getD a undef).ownBlock = some k → ((M.nus.set j u).getD b undef).ownBlock ≠ some k
    rw [getD_setV _ _ _ _ hjl, getD_setV _ _ _ _ hjl]
    split
    · rename_i e1
      rw [if_neg (by omega)]
      exact fun hk => (hf k hk).1 b hb
    · split
      · exact fun hk hk2 => (hf k hk2).1 a ha hk
      · exact h.each a b ha hb hab k
  · simp only [List.length_set] at ha hb
    show ((M.nus.set j u).getD a undef).ownBlock = some k → (M.wus.getD b undef).ownBlock ≠ some k
    rw [getD_setV _ _ _ _ hjl]
    split
    · exact fun hk => (hf k hk).2 b hb
    · exact h.apart a b ha hb k
theorem IsRefM.setWas (h : IsRefM w r base X M) {g l c : Nat} (hwv : M.wv = .slice (some ⟨g, 0, none⟩) l c) {j : Nat} (hj : j < X.now.length) {u : Value} {xs : List UInt8} (hu : OwnB w base u xs) (h64 : xs.length = 64)
    (hf : ∀ k, u.ownBlock = some k → (∀ i, i < X.now.length → (M.nus.getD i undef).ownBlock ≠ some k)) :
    IsRefM (w.setCell ⟨g, j, none⟩ u) r base { X with was := X.was.set j xs } { M with wus := M.wus.set j u } := by
  have hw := h.hw
  rw [hwv] at hw
  have hs : Upd (fun k => k = g) w (w.setCell ⟨g, j, none⟩ u) := upd_cell _ rfl
  have hgr : r ≠ g := fun e => h.ner hw (by decide) g rfl e.symm
  have hjl : j < M.wus.length := by rw [h.lw]; exact hj
  have hp : 0 < X.now.length := by omega
  have hset := hw.set j u
  rw [← hwv] at hset
  refine { hp := hs.heap h.hp hgr, hr := h.hr, hn := h.hn.keep hs (fun k hk e => h.rows hp k hk (by rw [hwv, e]; rfl)), hw := hset, hi := h.hi.keep hs (rowNe h.hi hw (by decide)), ln := h.ln, lw := by simp [h.lw], lx := by simp [h.lx], li := h.li, few := h.few, en := fun q hq => ⟨(h.en q hq).1.keep hs (rowNeB (h.en q hq).1 hw (by decide)), (h.en q hq).2⟩, ew := fun q hq => ?_, each := h.each, apart := fun a b ha hb k => ?_, low := h.low, high := h.high }
  · show OwnB _ base ((M.wus.set j u).getD q undef) ((X.was.set j xs).getD q []) ∧ ((X.was.set j xs).getD q []).length = 64
    rw [getD_setV _ _ _ _ hjl, getD_setL _ _ _ _ (by rw [h.lx]; exact hj)]
    split
    · exact ⟨hu.keep hs (rowNeB hu hw (by decide)), h64⟩
    · exact ⟨(h.ew q hq).1.keep hs (rowNeB (h.ew q hq).1 hw (by decide)), (h.ew q hq).2⟩
  · show (M.nus.getD a undef).ownBlock = some k → ((M.wus.set j u).getD b undef).ownBlock ≠ some k
    rw [getD_setV _ _ _ _ hjl]
    split
    · exact fun hk hk2 => hf k hk2 a ha hk
    · exact h.apart a b ha hb k
theorem IsRefM.setIs (h : IsRefM w r base X M) {g l c : Nat} (hiv : M.iv = .slice (some ⟨g, 0, none⟩) l c) (j : Nat) (b : Bool) :
    IsRefM (w.setCell ⟨g, j, none⟩ (.bool b)) r base { X with is := X.is.set j b } M := by
  have hi := h.hi
  rw [hiv] at hi
  have hs : Upd (fun k => k = g) w (w.setCell ⟨g, j, none⟩ (.bool b)) := upd_cell _ rfl
  have hgr : r ≠ g := fun e => h.ner hi (by decide) g rfl e.symm
  have hset := hi.set j (.bool b)
  rw [← hiv, ← List.map_set] at hset
  exact { hp := hs.heap h.hp hgr, hr := h.hr, hn := h.hn.keep hs (rowNe h.hn hi (by decide)), hw := h.hw.keep hs (rowNe h.hw hi (by decide)), hi := hset, ln := h.ln, lw := h.lw, lx := h.lx, li := by simp [h.li], few := h.few
          en := fun q hq => ⟨(h.en q hq).1.keep hs (rowNeB (h.en q hq).1 hi (by decide)), (h.en q hq).2⟩
          ew := fun q hq => ⟨(h.ew q hq).1.keep hs (rowNeB (h.ew q hq).1 hi (by decide)), (h.ew q hq).2⟩
          each := h.each, apart := h.apart, low := h.low, high := h.high }
theorem IsRefM.setByte (h : IsRefM w r base X M) {j : Nat} (hj : j < X.now.length) {g l c : Nat} (hu : M.nus.getD j undef = .slice (some ⟨g, 0, none⟩) l c) (q : Nat) (b : UInt8) :
    IsRefM (w.setCell ⟨g, q, none⟩ (bv b)) r base { X with now := X.now.set j ((X.now.getD j []).set q b) } M := by
  have hb := (h.en j hj).1
  have hb64 := (h.en j hj).2
  rw [hu] at hb
  have hs : Upd (fun k => k = g) w (w.setCell ⟨g, q, none⟩ (bv b)) := upd_cell _ rfl
  have hgr : r ≠ g := fun e => h.nerB hb g rfl e.symm
  have ne : ∀ {t : TypeId} {v : Value} {us : List Value} {b2 : Nat}, OwnT t w b2 v us → 5 ≠ t → ∀ k, v.ownBlock = some k → ¬ k = g := fun ho ht k hk e => by
    obtain ⟨_, _, cur, hc⟩ := ho.le k hk
    obtain ⟨_, _, cur2, hc2⟩ := hb.ty g rfl
    rw [e, hc2] at hc
    cases hc
    exact ht rfl
  refine { hp := hs.heap h.hp hgr, hr := h.hr, hn := h.hn.keep hs (ne h.hn (by decide)), hw := h.hw.keep hs (ne h.hw (by decide)), hi := h.hi.keep hs (ne h.hi (by decide)), ln := by simp [h.ln], lw := by simp [h.lw], lx := by simp [h.lx], li := by simp [h.li], few := by simp [h.few], en := fun a ha => ?_, ew := fun a ha => ?_, each := fun a b ha hb => h.each a b (by simpa using ha) (by simpa using hb), apart := fun a b ha hb => h.apart a b (by simpa using ha) (by simpa using hb), low := h.low, high := h.high }
  · simp only [List.length_set] at ha
    show OwnB _ base (M.nus.getD a undef) ((X.now.set j _).getD a []) ∧ ((X.now.set j _).getD a []).length = 64
    rw [getD_setL _ _ _ _ hj]
    split
    · rename_i e
      subst e
      rw [hu]
      exact ⟨hb.setCell q b, by rw [List.length_set]; exact hb64⟩
    · rename_i hne
      exact ⟨(h.en a ha).1.keep hs (fun k hk e => h.each a j ha hj hne k hk (by rw [hu, e]; rfl)), (h.en a ha).2⟩
  · simp only [List.length_set] at ha
    exact ⟨(h.ew a ha).1.keep hs (fun k hk e => h.apart j a hj ha g (by rw [hu]; rfl) (by rw [hk, e])), (h.ew a ha).2⟩
/-- a write -/
def refWr (X : RefG) (i : Int) (xs : List UInt8) : RefG × Int :=
  if i < 0 ∨ (X.now.length : Int) ≤ i ∨ xs.length ≠ 64 then (X, 1) else if (chg X).2 = true then ({ (chg X).1 with now := X.now.set i.toNat xs, is := X.is.set i.toNat true }, 0) else ((chg X).1, 5)
end
end Go.Proofs.Ytggepeepjaoibaa

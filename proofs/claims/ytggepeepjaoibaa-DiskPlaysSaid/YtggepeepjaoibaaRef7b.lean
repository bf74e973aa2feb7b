/- jalousieref07.New. -/
import Derived.Test.YtggepeepjaoibaaRef7a
import Derived.Test.YtggepeepjaoibaaFill
namespace Go.Proofs.Ytggepeepjaoibaa
open Go.RowKit
set_option linter.unusedVariables false

/-- a reference's disk in the making: kn, kw, ki sectors of each row -/
structure IsNew (w : World) (r base kn kw ki : Nat) (M : RefM) : Prop where
  hp : w.heap[r]? = some (.cells #[M.nv, M.wv, M.iv, .int .i64 (-1), .bool false] 135 (0, 0))
  hr : base ≤ r
  hn : OwnT 26 w base M.nv M.nus
  hw : OwnT 26 w base M.wv M.wus
  hi : OwnT 4 w base M.iv (List.replicate ki (.bool false))
  ln : M.nus.length = kn
  lw : M.wus.length = kw
  en : ∀ j, j < kn → OwnB w base (M.nus.getD j undef) (zeros 64)
  ew : ∀ j, j < kw → OwnB w base (M.wus.getD j undef) (zeros 64)
  each : ∀ i j, i < kn → j < kn → i ≠ j → ∀ k, (M.nus.getD i undef).ownBlock = some k → (M.nus.getD j undef).ownBlock ≠ some k
  apart : ∀ i j, i < kn → j < kw → ∀ k, (M.nus.getD i undef).ownBlock = some k → (M.wus.getD j undef).ownBlock ≠ some k
  n0 : kn = 0 → M.nv = .slice none 0 0
  w0 : kw = 0 → M.wv = .slice none 0 0
section
variable {w w3 : World} {r base kn kw ki : Nat} {M : RefM}
theorem IsNew.rows (h : IsNew w r base kn kw ki M) : ∀ k, M.nv.ownBlock = some k → M.wv.ownBlock ≠ some k := fun k hk => by
  by_cases h1 : kn = 0
  · rw [h.n0 h1] at hk; cases hk
  · by_cases h2 : kw = 0
    · rw [h.w0 h2]; exact fun e => by cases e
    · refine rows_apart h.hn h.hw (getD_some (by rw [h.ln]; omega)) (getD_some (by rw [h.lw]; omega)) (fun e => ?_) k hk
      obtain ⟨k, hk⟩ := (h.en 0 (by omega)).block (by simp [zeros])
      exact h.apart 0 0 (by omega) (by omega) k hk (by rw [← e]; exact hk)
theorem IsNew.ner (h : IsNew w r base kn kw ki M) {t : TypeId} {v : Value} {us : List Value} {b2 : Nat} (ho : OwnT t w b2 v us) (ht : t ≠ 135) : ∀ k, v.ownBlock = some k → ¬ k = r := fun k hk e => by
  obtain ⟨_, _, cur, hc⟩ := ho.le k hk
  rw [e, h.hp] at hc
  cases hc
  exact ht rfl
theorem tyne {t t2 : TypeId} {b2 : Nat} {v u : Value} {us vs : List Value} (h1 : OwnT t w base v us) (h2 : OwnT t2 w b2 u vs) (ht : t ≠ t2) : ∀ k, v.ownBlock = some k → ¬ some k = u.ownBlock := fun k hk e => by
  obtain ⟨_, _, cur, hc⟩ := h1.le k hk
  obtain ⟨_, _, cur2, hc2⟩ := h2.le k e.symm
  rw [hc] at hc2
  cases hc2
  exact ht rfl
theorem tyneB {t2 : TypeId} {b2 : Nat} {v u : Value} {xs : List UInt8} {vs : List Value} (h1 : OwnB w base v xs) (h2 : OwnT t2 w b2 u vs) (ht : 5 ≠ t2) : ∀ k, v.ownBlock = some k → ¬ some k = u.ownBlock := fun k hk e => by
  obtain ⟨_, _, cur, hc⟩ := h1.ty k hk
  obtain ⟨_, _, cur2, hc2⟩ := h2.le k e.symm
  rw [hc] at hc2
  cases hc2
  exact ht rfl
theorem ne_some {v : Value} {r : Nat} (h : ∀ k, v.ownBlock = some k → ¬ k = r) : ¬ some r = v.ownBlock := fun e => h r e.symm rfl
theorem new_own {g : Nat} (hz : w.heap[g]? = some (.cells (bvs (zeros 64)) 5 (0, 0))) (hb : base ≤ g) : OwnB w base (.slice (some ⟨g, 0, none⟩) 64 64) (zeros 64) := by
  refine ⟨by simp [zeros], .inr ⟨g, 64, _, by simp [zeros], hb, hz, by simp [zeros], by unfold maxLen; omega, by simp [size_bvs, zeros], ?_⟩⟩
  rw [bvs_toList, List.take_of_length_le (by simp [zeros])]
theorem getD_push {us : List Value} {u : Value} {j k : Nat} (hl : us.length = k) (hj : j < k + 1) : (us ++ [u]).getD j undef = if j = k then u else us.getD j undef := by
  simp only [List.getD_eq_getElem?_getD]
  split
  · rename_i e
    subst e
    rw [List.getElem?_append_right (by omega), hl, Nat.sub_self]; rfl
  · rw [List.getElem?_append_left (by omega)]
theorem IsNew.pushN (h : IsNew w r base kn kw ki M) {g : Nat} {v3 : Value} (hb : base ≤ w.heap.size) (hg : w.heap.size ≤ g) (hz : w3.heap[g]? = some (.cells (bvs (zeros 64)) 5 (0, 0))) (hu : Upd (fun k => some k = M.nv.ownBlock) w w3)
    (ho : OwnT 26 w3 base v3 (M.nus ++ [.slice (some ⟨g, 0, none⟩) 64 64])) : IsNew (w3.setCell ⟨r, 0, none⟩ v3) r base (kn + 1) kw ki { M with nv := v3, nus := M.nus ++ [.slice (some ⟨g, 0, none⟩) 64 64] } := by
  have hr3 : w3.heap[r]? = _ := hu.heap h.hp (ne_some (h.ner h.hn (by decide)))
  have hs : Upd (fun k => k = r) w3 (w3.setCell ⟨r, 0, none⟩ v3) := upd_cell _ rfl
  have nr : ∀ {t : TypeId} {v : Value} {us : List Value} {b2 : Nat}, OwnT t w3 b2 v us → t ≠ 135 → ∀ k, v.ownBlock = some k → ¬ k = r := fun ho ht k hk e => by
    obtain ⟨_, _, cur, hc⟩ := ho.le k hk
    rw [e, hr3] at hc
    cases hc
    exact ht rfl
  have nrB : ∀ {v : Value} {xs : List UInt8} {b2 : Nat}, OwnB w3 b2 v xs → ∀ k, v.ownBlock = some k → ¬ k = r := fun ho k hk e => by
    obtain ⟨_, _, cur, hc⟩ := ho.ty k hk
    rw [e, hr3] at hc
    cases hc
  have hn3 := ho.keep hs (nr ho (by decide))
  have hw3' := h.hw.keep hu (fun k hk e => h.rows k e.symm hk)
  have hi3' := h.hi.keep hu (tyne h.hi h.hn (by decide))
  have en3 : ∀ j, j < kn → OwnB w3 base (M.nus.getD j undef) (zeros 64) := fun j hj => (h.en j hj).keep hu (tyneB (h.en j hj) h.hn (by decide))
  have ew3 : ∀ j, j < kw → OwnB w3 base (M.wus.getD j undef) (zeros 64) := fun j hj => (h.ew j hj).keep hu (tyneB (h.ew j hj) h.hn (by decide))
  have hown := new_own hz (Nat.le_trans hb hg)
  have hfresh : ∀ j, j < kn → ∀ k, (M.nus.getD j undef).ownBlock = some k → k ≠ g := fun j hj k hk e => by have := ((h.en j hj).ty k hk).2.1; omega
  have hfreshw : ∀ j, j < kw → ∀ k, (M.wus.getD j undef).ownBlock = some k → k ≠ g := fun j hj k hk e => by have := ((h.ew j hj).ty k hk).2.1; omega
  refine { hp := by rw [heap_setCell_same w3 r 0 _ _ _ hr3]; rfl, hr := h.hr, hn := hn3, hw := hw3'.keep hs (nr hw3' (by decide)), hi := hi3'.keep hs (nr hi3' (by decide)), ln := by simp [h.ln], lw := h.lw, en := fun j hj => ?_, ew := fun j hj => (ew3 j hj).keep hs (nrB (ew3 j hj)), each := fun i j hi hj hij k => ?_, apart := fun i j hi hj k => ?_, n0 := fun e => by omega, w0 := h.w0 }
  · show OwnB _ base ((M.nus ++ [_]).getD j undef) _
    rw [getD_push h.ln hj]
    split
    · exact hown.keep hs (nrB hown)
    · exact (en3 j (by omega)).keep hs (nrB (en3 j (by omega)))
  · show ((M.nus ++ [_]).getD i undef).ownBlock = some k → ((M.nus ++ [_]).getD j undef).ownBlock ≠ some k
    rw [getD_push h.ln hi, getD_push h.ln hj]
    split
    · rename_i e1
      rw [if_neg (by omega)]
      intro hk hk2
      cases hk
      exact hfresh j (by omega) _ hk2 rfl
    · split
      · intro hk hk2
        cases hk2
        exact hfresh i (by omega) _ hk rfl
      · exact h.each i j (by omega) (by omega) hij k
  · show ((M.nus ++ [_]).getD i undef).ownBlock = some k → (M.wus.getD j undef).ownBlock ≠ some k
    rw [getD_push h.ln hi]
    split
    · intro hk hk2
      cases hk
      exact hfreshw j hj _ hk2 rfl
    · exact h.apart i j (by omega) hj k
theorem IsNew.pushW (h : IsNew w r base kn kw ki M) {g : Nat} {v3 : Value} (hb : base ≤ w.heap.size) (hg : w.heap.size ≤ g) (hz : w3.heap[g]? = some (.cells (bvs (zeros 64)) 5 (0, 0))) (hu : Upd (fun k => some k = M.wv.ownBlock) w w3)
    (ho : OwnT 26 w3 base v3 (M.wus ++ [.slice (some ⟨g, 0, none⟩) 64 64])) : IsNew (w3.setCell ⟨r, 1, none⟩ v3) r base kn (kw + 1) ki { M with wv := v3, wus := M.wus ++ [.slice (some ⟨g, 0, none⟩) 64 64] } := by
  have hr3 : w3.heap[r]? = _ := hu.heap h.hp (ne_some (h.ner h.hw (by decide)))
  have hs : Upd (fun k => k = r) w3 (w3.setCell ⟨r, 1, none⟩ v3) := upd_cell _ rfl
  have nr : ∀ {t : TypeId} {v : Value} {us : List Value} {b2 : Nat}, OwnT t w3 b2 v us → t ≠ 135 → ∀ k, v.ownBlock = some k → ¬ k = r := fun ho ht k hk e => by
    obtain ⟨_, _, cur, hc⟩ := ho.le k hk
    rw [e, hr3] at hc
    cases hc
    exact ht rfl
  have nrB : ∀ {v : Value} {xs : List UInt8} {b2 : Nat}, OwnB w3 b2 v xs → ∀ k, v.ownBlock = some k → ¬ k = r := fun ho k hk e => by
    obtain ⟨_, _, cur, hc⟩ := ho.ty k hk
    rw [e, hr3] at hc
    cases hc
  have hw3' := ho.keep hs (nr ho (by decide))
  have hn3 := h.hn.keep hu (fun k hk e => h.rows k hk e.symm)
  have hi3' := h.hi.keep hu (tyne h.hi h.hw (by decide))
  have en3 : ∀ j, j < kn → OwnB w3 base (M.nus.getD j undef) (zeros 64) := fun j hj => (h.en j hj).keep hu (tyneB (h.en j hj) h.hw (by decide))
  have ew3 : ∀ j, j < kw → OwnB w3 base (M.wus.getD j undef) (zeros 64) := fun j hj => (h.ew j hj).keep hu (tyneB (h.ew j hj) h.hw (by decide))
  have hown := new_own hz (Nat.le_trans hb hg)
  have hfresh : ∀ j, j < kn → ∀ k, (M.nus.getD j undef).ownBlock = some k → k ≠ g := fun j hj k hk e => by have := ((h.en j hj).ty k hk).2.1; omega
  refine { hp := by rw [heap_setCell_same w3 r 1 _ _ _ hr3]; rfl, hr := h.hr, hn := hn3.keep hs (nr hn3 (by decide)), hw := hw3', hi := hi3'.keep hs (nr hi3' (by decide)), ln := h.ln, lw := by simp [h.lw], en := fun j hj => (en3 j hj).keep hs (nrB (en3 j hj)), ew := fun j hj => ?_, each := h.each, apart := fun i j hi hj k => ?_, n0 := h.n0, w0 := fun e => by omega }
  · show OwnB _ base ((M.wus ++ [_]).getD j undef) _
    rw [getD_push h.lw hj]
    split
    · exact hown.keep hs (nrB hown)
    · exact (ew3 j (by omega)).keep hs (nrB (ew3 j (by omega)))
  · show (M.nus.getD i undef).ownBlock = some k → ((M.wus ++ [_]).getD j undef).ownBlock ≠ some k
    rw [getD_push h.lw hj]
    split
    · intro hk hk2
      cases hk2
      exact hfresh i hi _ hk rfl
    · exact h.apart i j hi (by omega) k
theorem IsNew.pushI (h : IsNew w r base kn kw ki M) {v3 : Value} (hu : Upd (fun k => some k = M.iv.ownBlock) w w3)
    (ho : OwnT 4 w3 base v3 (List.replicate ki (.bool false) ++ [.bool false])) : IsNew (w3.setCell ⟨r, 2, none⟩ v3) r base kn kw (ki + 1) { M with iv := v3 } := by
  have hr3 : w3.heap[r]? = _ := hu.heap h.hp (ne_some (h.ner h.hi (by decide)))
  have hs : Upd (fun k => k = r) w3 (w3.setCell ⟨r, 2, none⟩ v3) := upd_cell _ rfl
  have nr : ∀ {t : TypeId} {v : Value} {us : List Value} {b2 : Nat}, OwnT t w3 b2 v us → t ≠ 135 → ∀ k, v.ownBlock = some k → ¬ k = r := fun ho ht k hk e => by
    obtain ⟨_, _, cur, hc⟩ := ho.le k hk
    rw [e, hr3] at hc
    cases hc
    exact ht rfl
  have nrB : ∀ {v : Value} {xs : List UInt8} {b2 : Nat}, OwnB w3 b2 v xs → ∀ k, v.ownBlock = some k → ¬ k = r := fun ho k hk e => by
    obtain ⟨_, _, cur, hc⟩ := ho.ty k hk
    rw [e, hr3] at hc
    cases hc
  have hn3 := h.hn.keep hu (tyne h.hn h.hi (by decide))
  have hw3' := h.hw.keep hu (tyne h.hw h.hi (by decide))
  have en3 : ∀ j, j < kn → OwnB w3 base (M.nus.getD j undef) (zeros 64) := fun j hj => (h.en j hj).keep hu (tyneB (h.en j hj) h.hi (by decide))
  have ew3 : ∀ j, j < kw → OwnB w3 base (M.wus.getD j undef) (zeros 64) := fun j hj => (h.ew j hj).keep hu (tyneB (h.ew j hj) h.hi (by decide))
  have hrep : List.replicate (ki + 1) (Value.bool false) = List.replicate ki (.bool false) ++ [.bool false] := by rw [List.replicate_succ']
  exact { hp := by rw [heap_setCell_same w3 r 2 _ _ _ hr3]; rfl, hr := h.hr, hn := hn3.keep hs (nr hn3 (by decide)), hw := hw3'.keep hs (nr hw3' (by decide)), hi := by rw [hrep]; exact ho.keep hs (nr ho (by decide)), ln := h.ln, lw := h.lw, en := fun j hj => (en3 j hj).keep hs (nrB (en3 j hj)), ew := fun j hj => (ew3 j hj).keep hs (nrB (ew3 j hj)), each := h.each, apart := h.apart, n0 := h.n0, w0 := h.w0 }
end
end Go.Proofs.Ytggepeepjaoibaa

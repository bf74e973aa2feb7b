/- The disk and the reference's disk match, whatever is called. -/
import Derived.Test.YtggepeepjaoibaaRef7h
import Derived.Test.YtggepeepjaoibaaKeeps0
namespace Go.Proofs.Ytggepeepjaoibaa
set_option linter.unusedVariables false
def isL (D : DiskG) (j : Nat) : Bool := D.loose.any fun e => e.1 == j
structure Mt (D : DiskG) (X : RefG) : Prop where
  now : X.now = D.now
  gone : X.gone = D.gone
  fuse : X.fuse = D.fuse
  lw : X.was.length = D.now.length
  li : X.is.length = D.now.length
  is : ∀ j, j < D.now.length → X.is.getD j false = isL D j
  was : ∀ j, j < D.now.length → X.was.getD j [] = if isL D j = true then wasOf D j else D.now.getD j []
theorem mt_fresh (B M n : Nat) : Mt (fresh B M n) (freshRef n) := by
  have l : (fresh B M n).now.length = n := by simp [fresh]
  refine ⟨rfl, rfl, rfl, by simp [fresh, freshRef], by simp [fresh, freshRef], fun j hj => ?_, fun j hj => ?_⟩
  · rw [l] at hj
    show (List.replicate n false).getD j false = _
    rw [List.getD_eq_getElem?_getD, List.getElem?_replicate, if_pos hj]; rfl
  · rw [if_neg (by simp [isL, fresh])]; rfl
theorem Mt.same {D E : DiskG} {X Y : RefG} (h : Mt D X) (h1 : E.now = D.now) (h2 : E.loose = D.loose) (h3 : Y.now = X.now) (h4 : Y.was = X.was) (h5 : Y.is = X.is) (h6 : Y.gone = E.gone) (h7 : Y.fuse = E.fuse) : Mt E Y := by
  have hl : ∀ j, isL E j = isL D j := fun j => by unfold isL; rw [h2]
  have hw : ∀ j, wasOf E j = wasOf D j := fun j => by unfold wasOf; rw [h2]
  refine ⟨by rw [h3, h1, h.now], h6, h7, by rw [h4, h1, h.lw], by rw [h5, h1, h.li], fun j hj => ?_, fun j hj => ?_⟩
  · rw [h1] at hj; rw [h5, hl]; exact h.is j hj
  · rw [h1] at hj; rw [h4, hl, hw, h1]; exact h.was j hj
theorem Mt.fuseSet {D : DiskG} {X : RefG} (h : Mt D X) (f : Int) : Mt { D with fuse := f } { X with fuse := f } := h.same rfl rfl rfl rfl rfl h.gone rfl
/-- a change counts alike -/
theorem Mt.burn {D : DiskG} {X : RefG} (h : Mt D X) (hg : D.gone = false) : Mt (burnt D) (chg X).1 ∧ (chg X).2 = !(burnt D).gone := by
  obtain ⟨s1, s2, s3⟩ := chg_same X
  obtain ⟨b1, b2, b3, b4⟩ := burnt_same D
  have hgx : X.gone = false := by rw [h.gone]; exact hg
  by_cases h0 : D.fuse = 0
  · have e1 : burnt D = { D with gone := true } := by unfold burnt; rw [if_pos h0]
    have e2 : chg X = ({ X with gone := true }, false) := by unfold chg; rw [if_pos (.inr (by rw [h.fuse]; exact h0))]
    rw [e1, e2]
    exact ⟨h.same rfl rfl rfl rfl rfl rfl h.fuse, rfl⟩
  · have hx0 : ¬ (X.gone = true ∨ X.fuse = 0) := by rw [hgx, h.fuse]; simp [h0]
    by_cases h1 : 0 < D.fuse
    · have e1 : burnt D = { D with fuse := D.fuse - 1 } := by unfold burnt; rw [if_neg h0, if_pos ⟨h1, hg⟩]
      have e2 : chg X = ({ X with fuse := X.fuse - 1 }, true) := by unfold chg; rw [if_neg hx0, if_pos (by rw [h.fuse]; exact h1)]
      rw [e1, e2]
      exact ⟨h.same rfl rfl rfl rfl rfl h.gone (by show X.fuse - 1 = D.fuse - 1; rw [h.fuse]), by simp [hg]⟩
    · have e1 : burnt D = D := by unfold burnt; rw [if_neg h0, if_neg (fun hc => h1 hc.1)]
      have e2 : chg X = (X, true) := by unfold chg; rw [if_neg hx0, if_neg (by rw [h.fuse]; exact h1)]
      rw [e1, e2]
      exact ⟨h, by simp [hg]⟩
theorem Mt.gone_chg {D : DiskG} {X : RefG} (h : Mt D X) (hg : D.gone = true) : (chg X).2 = false ∧ Mt D (chg X).1 := by
  have e2 : chg X = ({ X with gone := true }, false) := by unfold chg; rw [if_pos (.inl (by rw [h.gone]; exact hg))]
  rw [e2]
  exact ⟨rfl, h.same rfl rfl rfl rfl rfl hg.symm h.fuse⟩
theorem Mt.put {D : DiskG} {X : RefG} (h : Mt D X) {i : Nat} (hi : i < D.now.length) (xs : List UInt8) : Mt (put D i xs) { X with now := X.now.set i xs, is := X.is.set i true } := by
  have hn : (Go.Proofs.Ytggepeepjaoibaa.put D i xs).now = D.now.set i xs := put_now D i xs
  have hgf := put_calm D i xs
  cases ha : D.loose.any (fun e => e.1 == i) with
  | true =>
    have hlo : (Go.Proofs.Ytggepeepjaoibaa.put D i xs).loose = D.loose := by simp [Go.Proofs.Ytggepeepjaoibaa.put, addLoose, ha]
    have hl : ∀ j, isL (Go.Proofs.Ytggepeepjaoibaa.put D i xs) j = isL D j := fun j => by unfold isL; rw [hlo]
    have hw : ∀ j, wasOf (Go.Proofs.Ytggepeepjaoibaa.put D i xs) j = wasOf D j := fun j => by unfold wasOf; rw [hlo]
    refine ⟨by rw [hn]; show X.now.set i xs = _; rw [h.now], by rw [hgf.2]; exact h.gone, by rw [hgf.1]; exact h.fuse, by rw [hn, List.length_set]; exact h.lw, by show (X.is.set i true).length = _; rw [hn, List.length_set, List.length_set]; exact h.li, fun j hj => ?_, fun j hj => ?_⟩
    · rw [hn, List.length_set] at hj
      show (X.is.set i true).getD j false = _
      rw [getD_setB _ _ _ _ (by rw [h.li]; exact hi), hl]
      split
      · rename_i e; subst e; exact ha.symm
      · exact h.is j hj
    · rw [hn, List.length_set] at hj
      rw [hl, hw, hn, getD_setL _ _ _ _ hi]
      have := h.was j hj
      by_cases hc : isL D j = true
      · rw [if_pos hc] at this ⊢; exact this
      · rw [if_neg hc] at this ⊢
        rw [if_neg (by rintro rfl; exact hc ha)]
        exact this
  | false =>
    have hlo : (Go.Proofs.Ytggepeepjaoibaa.put D i xs).loose = D.loose ++ [(i, D.now.getD i [], D.clock)] := by simp [Go.Proofs.Ytggepeepjaoibaa.put, addLoose, ha]
    have hl : ∀ j, isL (Go.Proofs.Ytggepeepjaoibaa.put D i xs) j = (isL D j || (i == j)) := fun j => by unfold isL; rw [hlo]; simp
    have hfk : D.loose.find? (fun e => e.1 == i) = none := by
      rw [List.find?_eq_none]
      intro e he hc
      have : D.loose.any (fun e => e.1 == i) = true := List.any_eq_true.2 ⟨e, he, hc⟩
      rw [ha] at this; cases this
    refine ⟨by rw [hn]; show X.now.set i xs = _; rw [h.now], by rw [hgf.2]; exact h.gone, by rw [hgf.1]; exact h.fuse, by rw [hn, List.length_set]; exact h.lw, by show (X.is.set i true).length = _; rw [hn, List.length_set, List.length_set]; exact h.li, fun j hj => ?_, fun j hj => ?_⟩
    · rw [hn, List.length_set] at hj
      show (X.is.set i true).getD j false = _
      rw [getD_setB _ _ _ _ (by rw [h.li]; exact hi), hl]
      split
      · rename_i e; subst e; simp
      · rename_i e
        have : (i == j) = false := by rw [beq_eq_false_iff_ne]; exact fun q => e q.symm
        rw [this, Bool.or_false]
        exact h.is j hj
    · rw [hn, List.length_set] at hj
      rw [hl, hn, getD_setL _ _ _ _ hi]
      have hwj := h.was j hj
      by_cases e : j = i
      · subst e
        rw [if_neg (by unfold isL; rw [ha]; decide)] at hwj
        rw [if_pos (by simp)]
        show X.was.getD j [] = _
        rw [hwj]
        unfold wasOf
        rw [hlo, List.find?_append, hfk]
        simp
      · have hij : (i == j) = false := by rw [beq_eq_false_iff_ne]; exact fun q => e q.symm
        rw [hij, Bool.or_false]
        show X.was.getD j [] = _
        rw [hwj]
        by_cases hc : isL D j = true
        · rw [if_pos hc, if_pos hc]
          unfold wasOf
          rw [hlo, List.find?_append]
          obtain ⟨x, hx, hx2⟩ := List.any_eq_true.1 hc
          cases hf : D.loose.find? (fun e => e.1 == j) with
          | none => rw [List.find?_eq_none] at hf; exact absurd hx2 (hf x hx)
          | some y => rfl
        · rw [if_neg hc, if_neg hc, if_neg e]
theorem Mt.wr {D : DiskG} {X : RefG} (h : Mt D X) (i : Int) (xs : List UInt8) : (wr D i xs).2 = (refWr X i xs).2 ∧ Mt (wr D i xs).1 (refWr X i xs).1 := by
  by_cases hbad : i < 0 ∨ (X.now.length : Int) ≤ i ∨ xs.length ≠ 64
  · have e2 : refWr X i xs = (X, 1) := by unfold refWr; rw [if_pos hbad]
    have e1 : Go.Proofs.Ytggepeepjaoibaa.wr D i xs = (D, 1) := by
      unfold Go.Proofs.Ytggepeepjaoibaa.wr
      rw [if_pos]
      rw [h.now] at hbad
      rcases hbad with hb | hb | hb
      · left; simp [has]; omega
      · left; simp [has]; omega
      · exact .inr hb
    rw [e1, e2]
    exact ⟨rfl, h⟩
  · have h1 : ¬ i < 0 := fun e => hbad (.inl e)
    have h2 : ¬ (X.now.length : Int) ≤ i := fun e => hbad (.inr (.inl e))
    have h3 : xs.length = 64 := Classical.byContradiction fun e => hbad (.inr (.inr e))
    rw [h.now] at h2
    have hhas : has D i = true := by simp [has]; omega
    have e2 : refWr X i xs = if (chg X).2 = true then ({ (chg X).1 with now := X.now.set i.toNat xs, is := X.is.set i.toNat true }, 0) else ((chg X).1, 5) := by unfold refWr; rw [if_neg hbad]
    have e1 : Go.Proofs.Ytggepeepjaoibaa.wr D i xs = if D.gone then (D, 5) else if (burnt D).gone then (burnt D, 5) else (Go.Proofs.Ytggepeepjaoibaa.put (burnt D) i.toNat xs, 0) := by
      unfold Go.Proofs.Ytggepeepjaoibaa.wr; rw [if_neg (by simp [hhas, h3])]
    rw [e1, e2]
    cases hg : D.gone with
    | true =>
      obtain ⟨q1, q2⟩ := h.gone_chg hg
      rw [if_pos rfl, if_neg (by rw [q1]; decide)]
      exact ⟨rfl, q2⟩
    | false =>
      obtain ⟨q1, q2⟩ := h.burn hg
      rw [if_neg (by decide)]
      cases hb : (burnt D).gone with
      | true =>
        rw [hb] at q2
        rw [if_pos rfl, if_neg (by rw [q2]; decide)]
        exact ⟨rfl, q1⟩
      | false =>
        rw [hb] at q2
        rw [if_neg (by decide), if_pos (by rw [q2]; decide)]
        have hl : i.toNat < (burnt D).now.length := by rw [(burnt_same D).2.2.1]; omega
        have := q1.put hl xs
        rw [(chg_same X).1, (chg_same X).2.2] at this
        exact ⟨rfl, this⟩
theorem Mt.syn {D : DiskG} {X : RefG} (h : Mt D X) : (syn D).2 = (refSy X).2 ∧ Mt (syn D).1 (refSy X).1 := by
  unfold Go.Proofs.Ytggepeepjaoibaa.syn refSy
  cases hg : D.gone with
  | true =>
    obtain ⟨q1, q2⟩ := h.gone_chg hg
    rw [if_pos rfl, if_neg (by rw [q1]; decide)]
    exact ⟨rfl, q2⟩
  | false =>
    obtain ⟨q1, q2⟩ := h.burn hg
    rw [if_neg (by decide)]
    cases hb : (burnt D).gone with
    | true =>
      rw [hb] at q2
      rw [if_pos rfl, if_neg (by rw [q2]; decide)]
      exact ⟨rfl, q1⟩
    | false =>
      rw [hb] at q2
      rw [if_neg (by decide), if_pos (by rw [q2]; decide)]
      refine ⟨rfl, ?_⟩
      obtain ⟨s1, s2, s3, s4, s5⟩ := syU_same (chg X).1 X.now.length
      have hn : X.now.length = (burnt D).now.length := by rw [h.now, (burnt_same D).2.2.1]
      refine ⟨by rw [s1]; exact q1.now, by rw [s3]; exact q1.gone, by rw [s2]; exact q1.fuse, by rw [s4]; exact q1.lw, by rw [s5]; exact q1.li, fun j hj => ?_, fun j hj => ?_⟩
      · rw [syU_is _ _ (by rw [q1.li, hn]; exact Nat.le_refl _) j (by rw [hn]; exact hj)]; rfl
      · rw [syU_was _ _ (by rw [q1.lw, hn]; exact Nat.le_refl _) j (by rw [hn]; exact hj), q1.now, if_neg (by simp [isL])]
/-- the keys below i -/
def keysTo (p : Nat → Bool) (i : Nat) : List Nat := (List.range i).filter p
theorem keysTo_succ (p : Nat → Bool) (i : Nat) : keysTo p (i + 1) = keysTo p i ++ if p i then [i] else [] := by
  unfold keysTo
  rw [List.range_succ, List.filter_append]
  congr 1
  cases h : p i <;> simp [h]
theorem keysTo_at (p : Nat → Bool) {i : Nat} (hp : p i = true) : ∀ n, i < n → (keysTo p n)[(keysTo p i).length]? = some i
  | 0, h => by omega
  | n + 1, h => by
    rw [keysTo_succ]
    by_cases hi : i < n
    · have ih := keysTo_at p hp n hi
      rw [List.getElem?_append_left (List.getElem?_eq_some_iff.1 ih).1, ih]
    · obtain rfl : i = n := by omega
      rw [List.getElem?_append_right (Nat.le_refl _), Nat.sub_self, hp]; rfl
theorem keysOf_to (D : DiskG) : keysOf D = keysTo (isL D) D.now.length := rfl
theorem crU_match {D : DiskG} {X : RefG} (h : Mt D X) (fate : List UInt8) : ∀ i, i ≤ D.now.length →
    (crU X fate i).1.now = tornUpto D fate (keysTo (isL D) i).length ∧ (crU X fate i).2 = (keysTo (isL D) i).length ∧ (crU X fate i).1.was.length = D.now.length ∧ (crU X fate i).1.is.length = D.now.length ∧
    (∀ j, j < D.now.length → (crU X fate i).1.is.getD j false = if j < i then false else isL D j) ∧
    (∀ j, j < D.now.length → (crU X fate i).1.was.getD j [] = if j < i then (crU X fate i).1.now.getD j [] else X.was.getD j []) ∧
    (∀ j, i ≤ j → j < D.now.length → (crU X fate i).1.now.getD j [] = D.now.getD j [])
  | 0, _ => ⟨h.now, rfl, h.lw, h.li, fun j hj => by rw [if_neg (by omega)]; exact h.is j hj, fun j hj => by rw [if_neg (by omega)]; rfl, fun j _ hj => by show X.now.getD j [] = _; rw [h.now]⟩
  | i + 1, hi => by
    obtain ⟨a1, a2, a3, a4, a5, a6, a7⟩ := crU_match h fate i (by omega)
    have hii : (crU X fate i).1.is.getD i false = isL D i := by rw [a5 i (by omega), if_neg (by omega)]
    have hk := keysTo_succ (isL D) i
    cases hp : isL D i with
    | false =>
      have e : crU X fate (i + 1) = crU X fate i := by
        show (if (crU X fate i).1.is.getD i false = true then _ else _) = _
        rw [hii, hp, if_neg (by decide)]
      rw [hp] at hk
      simp only [Bool.false_eq_true, if_false, List.append_nil] at hk
      rw [e, hk]
      refine ⟨a1, a2, a3, a4, fun j hj => ?_, fun j hj => ?_, fun j h1 h2 => a7 j (by omega) h2⟩
      · rw [a5 j hj]
        by_cases hj1 : j < i
        · rw [if_pos hj1, if_pos (by omega)]
        · by_cases hj2 : j = i
          · subst hj2; rw [if_neg (by omega), if_pos (by omega)]; exact hp
          · rw [if_neg hj1, if_neg (by omega)]
      · rw [a6 j hj]
        by_cases hj1 : j < i
        · rw [if_pos hj1, if_pos (by omega)]
        · by_cases hj2 : j = i
          · subst hj2
            rw [if_neg (by omega), if_pos (by omega), a7 j (Nat.le_refl _) hj, h.was j hj, if_neg (by rw [hp]; decide)]
          · rw [if_neg hj1, if_neg (by omega)]
    | true =>
      have e : crU X fate (i + 1) = (crS (crU X fate i).1 i (fateAt fate (crU X fate i).2), (crU X fate i).2 + 1) := by
        show (if (crU X fate i).1.is.getD i false = true then _ else _) = _
        rw [hii, hp, if_pos rfl]
      rw [hp] at hk
      simp only [if_true] at hk
      have hat := keysTo_at (isL D) hp D.now.length (by omega)
      have hkd : (keysOf D).getD (keysTo (isL D) i).length 0 = i := by rw [keysOf_to, List.getD_eq_getElem?_getD, hat]; rfl
      have hwas : (crU X fate i).1.was.getD i [] = wasOf D i := by rw [a6 i (by omega), if_neg (by omega), h.was i (by omega), if_pos hp]
      have hnl : (crU X fate i).1.now.length = D.now.length := by rw [a1, tornUpto_len]
      have hnow : (crS (crU X fate i).1 i (fateAt fate (crU X fate i).2)).now = tornUpto D fate ((keysTo (isL D) i).length + 1) := by
        show (crU X fate i).1.now.set i (tornL _ _ _) = (tornUpto D fate _).set _ (tornL _ _ _)
        rw [hkd, hwas, a1, a2]
      rw [e, hk, List.length_append]
      refine ⟨hnow, by rw [a2]; rfl, by show ((crU X fate i).1.was.set i _).length = _; rw [List.length_set, a3], by show ((crU X fate i).1.is.set i false).length = _; rw [List.length_set, a4], fun j hj => ?_, fun j hj => ?_, fun j h1 h2 => ?_⟩
      · show ((crU X fate i).1.is.set i false).getD j false = _
        rw [getD_setB _ _ _ _ (by rw [a4]; omega)]
        by_cases hj2 : j = i
        · rw [if_pos hj2, if_pos (by omega)]
        · rw [if_neg hj2, a5 j hj]
          by_cases hj1 : j < i
          · rw [if_pos hj1, if_pos (by omega)]
          · rw [if_neg hj1, if_neg (by omega)]
      · show ((crU X fate i).1.was.set i _).getD j [] = if j < i + 1 then ((crU X fate i).1.now.set i _).getD j [] else _
        rw [getD_setL _ _ _ _ (by rw [a3]; omega), getD_setL _ _ _ _ (by rw [hnl]; omega)]
        by_cases hj2 : j = i
        · rw [if_pos hj2, if_pos (by omega), if_pos hj2]
        · rw [if_neg hj2, if_neg hj2, a6 j hj]
          by_cases hj1 : j < i
          · rw [if_pos hj1, if_pos (by omega)]
          · rw [if_neg hj1, if_neg (by omega)]
      · show ((crU X fate i).1.now.set i _).getD j [] = _
        rw [getD_setL _ _ _ _ (by rw [hnl]; omega), if_neg (by omega)]
        exact a7 j (by omega) h2
theorem Mt.crash {D : DiskG} {X : RefG} (h : Mt D X) (fate : List UInt8) : Mt (crash D fate) (refCr X fate) := by
  have hn : X.now.length = D.now.length := by rw [h.now]
  obtain ⟨a1, a2, a3, a4, a5, a6, a7⟩ := crU_match h fate D.now.length (Nat.le_refl _)
  have hl : (Go.Proofs.Ytggepeepjaoibaa.crash D fate).now.length = D.now.length := tornUpto_len D fate _
  unfold refCr
  rw [hn]
  refine ⟨by show (crU X fate D.now.length).1.now = tornUpto D fate _; rw [a1]; rfl, rfl, rfl, by rw [hl]; exact a3, by rw [hl]; exact a4, fun j hj => ?_, fun j hj => ?_⟩
  · rw [hl] at hj
    show (crU X fate D.now.length).1.is.getD j false = _
    rw [a5 j hj, if_pos hj]; rfl
  · rw [hl] at hj
    show (crU X fate D.now.length).1.was.getD j [] = _
    rw [a6 j hj, if_pos hj, a1, if_neg (by simp [isL, Go.Proofs.Ytggepeepjaoibaa.crash])]
    rfl
theorem Mt.loose {w : World} {d : Nat} {D : DiskG} {X : RefG} (h : Mt D X) (hD : IsDisk w d D) : looseN X.is = D.loose.length := by
  have e : X.is = (List.range D.now.length).map (isL D) := by
    refine List.ext_getElem? fun j => ?_
    by_cases hj : j < D.now.length
    · have := h.is j hj
      rw [List.getD_eq_getElem?_getD, List.getElem?_eq_getElem (by rw [h.li]; exact hj)] at this
      rw [List.getElem?_eq_getElem (by rw [h.li]; exact hj), List.getElem?_map, List.getElem?_range hj]
      simpa using this
    · rw [List.getElem?_eq_none (by rw [h.li]; omega), List.getElem?_eq_none (by simp; omega)]
  have h2 := (keysOf_perm hD).length_eq
  rw [List.length_map] at h2
  rw [h2, e]
  unfold looseN keysOf
  rw [List.filter_map, List.length_map]
  rfl
end Go.Proofs.Ytggepeepjaoibaa

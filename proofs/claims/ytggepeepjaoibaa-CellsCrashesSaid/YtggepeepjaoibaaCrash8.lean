/- Torn heads, fuses and crashes: what a log is opened to. -/
import Derived.Test.YtggepeepjaoibaaTears0
import Derived.Test.YtggepeepjaoibaaOpens8
import Derived.Test.YtggepeepjaoibaaPlain8
import Derived.Test.YtggepeepjaoibaaPlain9
namespace Go.Proofs.Ytggepeepjaoibaa
open Go.RowKit
set_option linter.unusedVariables false

/-! Heads that are torn: a sector of two like halves, torn by another such, has two like halves only if it is one of the two. -/
theorem torn_eq (was now : List UInt8) (k : UInt8) : tornL was now k = if k.toNat < 128 then now.take (tornN k) ++ was.drop (tornN k) else was.take (64 - tornN k) ++ now.drop (64 - tornN k) := rfl
theorem tornN_le (k : UInt8) : tornN k ≤ 64 := by unfold tornN; omega
/-- torn twice at the same place -/
theorem torn_torn {A Y Z : List UInt8} (k : UInt8) (hA : A.length = 64) (hY : Y.length = 64) (hZ : Z.length = 64) : tornL (tornL A Y k) Z k = tornL A Z k := by
  have hn := tornN_le k
  rw [torn_eq (tornL A Y k), torn_eq A Z, torn_eq A Y]
  generalize tornN k = n at hn
  split
  · congr 1
    rw [List.drop_append, List.drop_eq_nil_of_le (by rw [List.length_take]; omega), List.nil_append, List.length_take, show n - min n Y.length = 0 by omega, List.drop_zero]
  · congr 1
    rw [List.take_append, List.length_take, show 64 - n - min (64 - n) A.length = 0 by omega, List.take_zero, List.append_nil, List.take_take, Nat.min_self]
theorem torn_self {A : List UInt8} (k : UInt8) (hA : A.length = 64) : tornL A A k = A := by
  rw [torn_eq]
  split <;> exact List.take_append_drop _ _
theorem two_halves {X : List UInt8} (h : X.take 32 = X.drop 32) {Y : List UInt8} (hY : X.take 32 = Y ∨ X.drop 32 = Y) : X = Y ++ Y := by
  have e := List.take_append_drop 32 X
  rcases hY with hY | hY
  · rw [← e, ← h, hY]
  · rw [← e, h, hY]
theorem torn_halves {H J : List UInt8} (k : UInt8) (hH : H.length = 32) (hJ : J.length = 32) (h : (tornL (H ++ H) (J ++ J) k).take 32 = (tornL (H ++ H) (J ++ J) k).drop 32) : tornL (H ++ H) (J ++ J) k = H ++ H ∨ tornL (H ++ H) (J ++ J) k = J ++ J := by
  have hn := tornN_le k
  have t32 : ∀ (A B : List UInt8), A.length = 32 → (A ++ B).take 32 = A := fun A B hA => by rw [← hA, List.take_left']; rfl
  have d32 : ∀ (A B : List UInt8), A.length = 32 → (A ++ B).drop 32 = B := fun A B hA => by rw [← hA, List.drop_left']; rfl
  by_cases hk : k.toNat < 128
  · have e : tornL (H ++ H) (J ++ J) k = (J ++ J).take (tornN k) ++ (H ++ H).drop (tornN k) := by rw [torn_eq, if_pos hk]
    rw [e] at h ⊢
    generalize tornN k = n at hn h
    by_cases h32 : n ≤ 32
    · left
      refine two_halves h (.inr ?_)
      rw [List.drop_append, List.length_take, List.drop_eq_nil_of_le (by rw [List.length_take]; omega), List.nil_append, List.drop_drop, List.length_append, show n + (32 - min n (J.length + J.length)) = 32 by omega]
      exact d32 H H hH
    · right
      refine two_halves h (.inl ?_)
      rw [List.take_append, List.take_take, List.length_take, List.length_append, show min 32 n = 32 by omega, show 32 - min n (J.length + J.length) = 0 by omega, List.take_zero, List.append_nil]
      exact t32 J J hJ
  · have e : tornL (H ++ H) (J ++ J) k = (H ++ H).take (64 - tornN k) ++ (J ++ J).drop (64 - tornN k) := by rw [torn_eq, if_neg hk]
    rw [e] at h ⊢
    generalize 64 - tornN k = n at hn h
    by_cases h32 : n ≤ 32
    · right
      refine two_halves h (.inr ?_)
      rw [List.drop_append, List.length_take, List.drop_eq_nil_of_le (by rw [List.length_take]; omega), List.nil_append, List.drop_drop, List.length_append, show n + (32 - min n (H.length + H.length)) = 32 by omega]
      exact d32 J J hJ
    · left
      refine two_halves h (.inl ?_)
      rw [List.take_append, List.take_take, List.length_take, List.length_append, show min 32 n = 32 by omega]
      by_cases hn64 : n ≤ 64
      · rw [show 32 - min n (H.length + H.length) = 0 by omega, List.take_zero, List.append_nil]
        exact t32 H H hH
      · rw [show 32 - min n (H.length + H.length) = 0 by omega, List.take_zero, List.append_nil]
        exact t32 H H hH
/-! What a log is opened to when a head may be torn. -/
theorem readH_par (D : DiskG) (f most k : Nat) : (readH D f most k).1 % 2 = k ∨ (readH D f most k).1 = 0 := by
  unfold readH
  simp only
  split
  · rename_i h; exact .inl h.2.1
  · exact .inr rfl
/-- the current head at its place, a lower one at the other -/
theorem opH_places {D : DiskG} {f most s z : Nat} {n : List UInt8} (h : readH D f most (s % 2) = (s, z, n)) (h2 : (readH D f most ((s + 1) % 2)).1 ≤ s) : opH D f most = (s, z, n) := by
  unfold opH
  by_cases hs : s % 2 = 0
  · have hs1 : (s + 1) % 2 = 1 := by omega
    rw [hs] at h
    rw [hs1] at h2
    rw [h, if_neg (by simp only; omega)]
  · have hs0 : s % 2 = 1 := by omega
    have hs1 : (s + 1) % 2 = 0 := by omega
    rw [hs0] at h
    rw [hs1] at h2
    have := readH_par D f most 0
    rw [h, if_pos (by simp only; omega)]
/-- a torn head reads as none, as the old one, or as the new one -/
theorem head_torn {H J : List UInt8} (k : UInt8) (hH : H.length = 32) (hJ : J.length = 32) (place most : Nat) :
    headL (tornL (H ++ H) (J ++ J) k) place most = (0, 0, zeros 16, false) ∨ headL (tornL (H ++ H) (J ++ J) k) place most = headL (H ++ H) place most ∨ headL (tornL (H ++ H) (J ++ J) k) place most = headL (J ++ J) place most := by
  by_cases h : (tornL (H ++ H) (J ++ J) k).take 32 = (tornL (H ++ H) (J ++ J) k).drop 32
  · rcases torn_halves k hH hJ h with e | e
    · rw [e]; exact .inr (.inl rfl)
    · rw [e]; exact .inr (.inr rfl)
  · left
    unfold headL
    rw [if_neg (fun hc => h hc.1)]
/-- bytes that stand alike in the old sector and in the new stay, however it is torn -/
theorem torn_keeps {was now : List UInt8} (k : UInt8) (h1 : was.length = 64) (h2 : now.length = 64) {j : Nat} (hj : j < 64) (he : was.getD j 0 = now.getD j 0) : (tornL was now k).getD j 0 = was.getD j 0 := by
  rcases torn_at k h1 h2 hj with h | h
  · exact h
  · rw [h, he]
/-- the sectors of the two heads: each torn, at the place that the fate's byte k says, out of one of like halves whose serial is not above s -/
def Places (k : UInt8) (D : DiskG) (f most s : Nat) : Prop := ∀ j, j < 2 → ∃ H Y : List UInt8, H.length = 32 ∧ Y.length = 64 ∧ D.now.getD (f + j) [] = tornL (H ++ H) Y k ∧ (headL (H ++ H) j most).1 ≤ s
theorem Places.mono {k : UInt8} {D : DiskG} {f most s t : Nat} (h : Places k D f most s) (hst : s ≤ t) : Places k D f most t := fun j hj => by
  obtain ⟨H, Y, h1, h2, h3, h4⟩ := h j hj
  exact ⟨H, Y, h1, h2, h3, Nat.le_trans h4 hst⟩
theorem headL_half {most k s z : Nat} {n : List UInt8} (hk : s % 2 = k) (hz : z ≤ most) (hs : s < 18446744073709551616) (hz64 : z < 18446744073709551616) (hn : n.length = 16) :
    ((headL (halfL s z n ++ halfL s z n) k most).1, (headL (halfL s z n ++ halfL s z n) k most).2.1, (headL (halfL s z n ++ halfL s z n) k most).2.2.1) = (s, z, n) := by
  have hD : (⟨0, 0, List.replicate k [] ++ [halfL s z n ++ halfL s z n], [], 0, 0, false⟩ : DiskG).now.getD (0 + k) [] = halfL s z n ++ halfL s z n := by
    simp [List.getD_eq_getElem?_getD, List.getElem?_append_right]
  have h1 := readH_half (most := most) (z := z) hD hk hz hs hz64 hn
  rw [readH_headL, hD] at h1
  exact h1
/-- a head that is written, and torn: the log is opened to what it was, or to what it was to become -/
theorem open_torn {k : UInt8} {D E : DiskG} {f most s z z' : Nat} {n n' : List UInt8} (hP : Places k D f most s) (hcur : readH D f most (s % 2) = (s, z, n)) (h0 : E.now.getD (f + s % 2) [] = D.now.getD (f + s % 2) [])
    (h1 : E.now.getD (f + (s + 1) % 2) [] = tornL (D.now.getD (f + (s + 1) % 2) []) (halfL (s + 1) z' n' ++ halfL (s + 1) z' n') k) (hz : z' ≤ most) (hs : s + 1 < 18446744073709551616) (hz64 : z' < 18446744073709551616) (hn : n'.length = 16) :
    Places k E f most s ∧ (opH E f most = (s, z, n) ∨ opH E f most = (s + 1, z', n')) := by
  have lh : (halfL (s + 1) z' n').length = 32 := by simp [halfL, be8_len, hn]
  have l64 : (halfL (s + 1) z' n' ++ halfL (s + 1) z' n').length = 64 := by rw [List.length_append, lh]
  obtain ⟨H, Y, hH, hY, hX, hle⟩ := hP ((s + 1) % 2) (by omega)
  have hE1 : E.now.getD (f + (s + 1) % 2) [] = tornL (H ++ H) (halfL (s + 1) z' n' ++ halfL (s + 1) z' n') k := by
    rw [h1, hX, torn_torn k (by rw [List.length_append, hH]) hY l64]
  have hE0 : readH E f most (s % 2) = (s, z, n) := by
    have : readH E f most (s % 2) = readH D f most (s % 2) := by simp only [readH, h0]
    rw [this, hcur]
  refine ⟨fun j hj => ?_, ?_⟩
  · by_cases hjs : j = s % 2
    · obtain ⟨H0, Y0, q1, q2, q3, q4⟩ := hP j hj
      exact ⟨H0, Y0, q1, q2, by rw [hjs, h0, ← hjs]; exact q3, q4⟩
    · have e : j = (s + 1) % 2 := by omega
      subst e
      exact ⟨H, _, hH, l64, hE1, hle⟩
  · have hr : readH E f most ((s + 1) % 2) = ((headL (tornL (H ++ H) (halfL (s + 1) z' n' ++ halfL (s + 1) z' n') k) ((s + 1) % 2) most).1, (headL (tornL (H ++ H) (halfL (s + 1) z' n' ++ halfL (s + 1) z' n') k) ((s + 1) % 2) most).2.1, (headL (tornL (H ++ H) (halfL (s + 1) z' n' ++ halfL (s + 1) z' n') k) ((s + 1) % 2) most).2.2.1) := by
      rw [readH_headL, hE1]
    rcases head_torn k hH lh ((s + 1) % 2) most with e | e | e
    · left; refine opH_places hE0 ?_; rw [hr, e]; exact Nat.zero_le _
    · left; refine opH_places hE0 ?_; rw [hr, e]; exact hle
    · right
      rw [e, headL_half rfl hz hs hz64 hn] at hr
      refine opH_places hr ?_
      have : (s + 1 + 1) % 2 = s % 2 := by omega
      rw [this, hE0]
      exact Nat.le_succ s
/-! A crash with one loose sector, or none. -/
theorem keysOf_none {D : DiskG} (h : D.loose = []) : keysOf D = [] := by
  unfold keysOf
  rw [h]
  simp
theorem crash_none {D : DiskG} (h : D.loose = []) (fate : List UInt8) : (crash D fate).now = D.now := by
  unfold crash
  rw [keysOf_none h]
  rfl
theorem keysOf_one {D : DiskG} {i c : Nat} {X : List UInt8} (h : D.loose = [(i, X, c)]) (hi : i < D.now.length) : keysOf D = [i] := by
  have hn : (keysOf D).Nodup := (List.nodup_range).filter _
  refine List.perm_singleton.1 ((List.perm_ext_iff_of_nodup hn (by simp)).2 fun j => ?_)
  unfold keysOf
  rw [h]
  simp only [List.mem_filter, List.mem_range, List.any_cons, List.any_nil, Bool.or_false, List.mem_singleton, beq_iff_eq]
  constructor
  · rintro ⟨_, e⟩; exact e.symm
  · rintro rfl; exact ⟨hi, rfl⟩
theorem crash_one {D : DiskG} {i c : Nat} {X : List UInt8} (h : D.loose = [(i, X, c)]) (hi : i < D.now.length) (fate : List UInt8) : (crash D fate).now = D.now.set i (tornL X (D.now.getD i []) (fateAt fate 0)) := by
  have hw : wasOf D i = X := by simp [wasOf, h]
  unfold crash
  rw [keysOf_one h hi]
  show tornUpto D fate 1 = _
  simp only [tornUpto, keysOf_one h hi, List.getD_cons_zero, hw]
/-- what is not loose stays -/
theorem crash_stays {D : DiskG} (fate : List UInt8) {i : Nat} (hl : D.loose.any (fun e => e.1 == i) = false) : (crash D fate).now.getD i [] = D.now.getD i [] := crash_other D fate hl
theorem getD_now_set (l : List (List UInt8)) (i j : Nat) (x : List UInt8) (hi : i < l.length) : (l.set i x).getD j [] = if j = i then x else l.getD j [] := getD_set l i j x hi
/-- a head written with whatever fuse, and a crash behind it -/
theorem turn_crash {D : DiskG} {f s z : Nat} {n : List UInt8} (fate : List UInt8) (hg : D.gone = false) (hl : D.loose = []) (hn : n.length = 16) (hf : f + 1 < D.now.length) :
    ((turnF D f s z n).2 = 0 ∧ ∀ j, (crash (turnF D f s z n).1 fate).now.getD j [] = if j = f + s % 2 then halfL s z n ++ halfL s z n else D.now.getD j []) ∨
    ((turnF D f s z n).2 = 5 ∧ ((∀ j, (crash (turnF D f s z n).1 fate).now.getD j [] = D.now.getD j []) ∨
      (∀ j, (crash (turnF D f s z n).1 fate).now.getD j [] = if j = f + s % 2 then tornL (D.now.getD (f + s % 2) []) (halfL s z n ++ halfL s z n) (fateAt fate 0) else D.now.getD j []))) := by
  have lX : (halfL s z n ++ halfL s z n).length = 64 := by simp [halfL, be8_len, hn]
  obtain ⟨X, hX⟩ : ∃ X, halfL s z n ++ halfL s z n = X := ⟨_, rfl⟩
  have hp : f + s % 2 < D.now.length := by omega
  obtain ⟨p, hpe⟩ : ∃ p, f + s % 2 = p := ⟨_, rfl⟩
  have ht : turnF D f s z n = if (wr D ((p : Nat) : Int) X).2 = 0 then syn (wr D ((p : Nat) : Int) X).1 else wr D ((p : Nat) : Int) X := by
    unfold turnF; simp only [hX, hpe]
  rw [hX] at lX ⊢
  rw [hpe] at hp ⊢
  obtain ⟨b1, b2, b3, b4⟩ := burnt_same D
  have hhas : has D ((p : Nat) : Int) = true := by simp [has]; omega
  have hw : wr D ((p : Nat) : Int) X = if (burnt D).gone then (burnt D, 5) else (put (burnt D) p X, 0) := by
    unfold wr
    rw [if_neg (by simp [hhas, lX]), if_neg (by rw [hg]; decide), Int.toNat_natCast]
  cases hb : (burnt D).gone with
  | true =>
    have hT : turnF D f s z n = (burnt D, 5) := by rw [ht, hw, hb]; rfl
    rw [hT]
    right
    refine ⟨rfl, .inl fun j => ?_⟩
    rw [crash_none (by rw [b4]; exact hl), b3]
  | false =>
    have hT0 : turnF D f s z n = syn (put (burnt D) p X) := by rw [ht, hw, hb]; rfl
    have hloose : (put (burnt D) p X).loose = [(p, D.now.getD p [], (burnt D).clock)] := by
      unfold put addLoose
      rw [b4, hl]
      simp [b3]
    have hpg : (put (burnt D) p X).gone = false := by rw [(put_calm (burnt D) p X).2]; exact hb
    have hpn : (put (burnt D) p X).now = D.now.set p X := by rw [put_now, b3]
    obtain ⟨c1, c2, c3, c4⟩ := burnt_same (put (burnt D) p X)
    have hsy : syn (put (burnt D) p X) = if (burnt (put (burnt D) p X)).gone then (burnt (put (burnt D) p X), 5) else ({ burnt (put (burnt D) p X) with loose := [] }, 0) := by
      unfold syn
      rw [if_neg (by rw [hpg]; decide)]
    cases hb2 : (burnt (put (burnt D) p X)).gone with
    | true =>
      have hT : turnF D f s z n = (burnt (put (burnt D) p X), 5) := by rw [hT0, hsy, hb2]; rfl
      rw [hT]
      right
      refine ⟨rfl, .inr fun j => ?_⟩
      rw [crash_one (by rw [c4]; exact hloose) (by rw [c3, hpn, List.length_set]; exact hp), c3, hpn, getD_now_set _ _ _ _ (by rw [List.length_set]; exact hp), getD_now_set _ _ _ _ hp, getD_now_set _ _ _ _ hp, if_pos rfl]
      split <;> rfl
    | false =>
      have hT : turnF D f s z n = ({ burnt (put (burnt D) p X) with loose := [] }, 0) := by rw [hT0, hsy, hb2]; rfl
      rw [hT]
      left
      refine ⟨rfl, fun j => ?_⟩
      rw [crash_none rfl, show ({ burnt (put (burnt D) p X) with loose := [] } : DiskG).now = D.now.set p X by show (burnt (put (burnt D) p X)).now = _; rw [c3, hpn], getD_now_set _ _ _ _ hp]
/-! A crash, sector by sector. -/
theorem tornUpto_each (D : DiskG) (fate : List UInt8) (hk : ∀ i ∈ keysOf D, i < D.now.length) : ∀ m, m ≤ (keysOf D).length → ∀ j, ((keysOf D).take m).contains j = false → (tornUpto D fate m).getD j [] = D.now.getD j []
  | 0, _, j, _ => rfl
  | m + 1, hm, j, hj => by
    have hlt : m < (keysOf D).length := by omega
    have hg : (keysOf D).getD m 0 = (keysOf D)[m] := by rw [List.getD_eq_getElem?_getD, List.getElem?_eq_getElem hlt]; rfl
    rw [List.take_succ_eq_append_getElem hlt] at hj
    simp only [List.contains_eq_mem, List.mem_append, List.mem_singleton, decide_eq_false_iff_not, not_or] at hj
    have ih := tornUpto_each D fate hk m (by omega) j (by simpa using hj.1)
    simp only [tornUpto, hg]
    rw [getD_now_set _ _ _ _ (by rw [tornUpto_len]; exact hk _ (List.getElem_mem hlt)), if_neg hj.2, ih]
theorem tornUpto_torn (D : DiskG) (fate : List UInt8) (hk : ∀ i ∈ keysOf D, i < D.now.length) : ∀ m, m ≤ (keysOf D).length → ∀ j, ((keysOf D).take m).contains j = true → ∃ kk, (tornUpto D fate m).getD j [] = tornL (wasOf D j) (D.now.getD j []) kk
  | 0, _, j, h => by simp at h
  | m + 1, hm, j, hj => by
    have hlt : m < (keysOf D).length := by omega
    have hg : (keysOf D).getD m 0 = (keysOf D)[m] := by rw [List.getD_eq_getElem?_getD, List.getElem?_eq_getElem hlt]; rfl
    have hnd := (keysOf_sorted D)
    simp only [tornUpto, hg]
    rw [getD_now_set _ _ _ _ (by rw [tornUpto_len]; exact hk _ (List.getElem_mem hlt))]
    by_cases h : j = (keysOf D)[m]
    · rw [if_pos h, ← h]
      refine ⟨fateAt fate m, ?_⟩
      rw [tornUpto_each D fate hk m (by omega) j]
      rw [h]
      simp only [List.contains_eq_mem, decide_eq_false_iff_not]
      intro hmem
      obtain ⟨q, hq, he⟩ := List.mem_take_iff_getElem.1 hmem
      have := List.pairwise_iff_getElem.1 hnd q m (by omega) hlt (by omega)
      omega
    · rw [if_neg h]
      rw [List.take_succ_eq_append_getElem hlt] at hj
      simp only [List.contains_eq_mem, List.mem_append, List.mem_singleton, decide_eq_true_eq] at hj
      exact tornUpto_torn D fate hk m (by omega) j (by simpa using hj.resolve_right h)
/-- a loose sector is torn -/
theorem crash_torn (D : DiskG) (fate : List UInt8) {j : Nat} (hj : D.loose.any (fun e => e.1 == j) = true) (hl : j < D.now.length) : ∃ kk, (crash D fate).now.getD j [] = tornL (wasOf D j) (D.now.getD j []) kk := by
  have hk : ∀ i ∈ keysOf D, i < D.now.length := fun i hi => (keysOf_mem hi).1
  have := tornUpto_torn D fate hk _ (Nat.le_refl _) j (by
    rw [List.take_length]
    simp only [List.contains_eq_mem, decide_eq_true_eq]
    simp only [keysOf, List.mem_filter, List.mem_range]
    exact ⟨hl, hj⟩)
  exact this
/-! Sectors filled under a fuse, and a crash. -/
/-- E is D in which some sectors from lo on have been filled, loose -/
structure Mid (D E : DiskG) (xs : List UInt8) (base lo : Nat) : Prop where
  len : E.now.length = D.now.length
  old : ∀ j, E.loose.any (fun e => e.1 == j) = true → wasOf E j = D.now.getD j [] ∧ lo ≤ j ∧ E.now.getD j [] = secAt xs (j - base)
  still : ∀ j, E.loose.any (fun e => e.1 == j) = false → E.now.getD j [] = D.now.getD j []
theorem Mid.same {D E F : DiskG} {xs : List UInt8} {base lo : Nat} (h : Mid D E xs base lo) (h1 : F.now = E.now) (h2 : F.loose = E.loose) : Mid D F xs base lo := by
  refine ⟨by rw [h1]; exact h.len, fun j hj => ?_, fun j hj => ?_⟩
  · rw [h2] at hj
    have := h.old j hj
    unfold wasOf at *
    rw [h2, h1]; exact this
  · rw [h2] at hj; rw [h1]; exact h.still j hj
theorem Mid.put {D E : DiskG} {xs : List UInt8} {base lo k : Nat} (h : Mid D E xs base lo) (hk : lo ≤ k) (hl : k < D.now.length) : Mid D (put E k (secAt xs (k - base))) xs base lo := by
  have hn : (Go.Proofs.Ytggepeepjaoibaa.put E k (secAt xs (k - base))).now = E.now.set k (secAt xs (k - base)) := put_now _ _ _
  have hkl : k < E.now.length := by rw [h.len]; exact hl
  cases ha : E.loose.any (fun e => e.1 == k) with
  | true =>
    have hlo : (Go.Proofs.Ytggepeepjaoibaa.put E k (secAt xs (k - base))).loose = E.loose := by simp [Go.Proofs.Ytggepeepjaoibaa.put, addLoose, ha]
    refine ⟨by rw [hn, List.length_set]; exact h.len, fun j hj => ?_, fun j hj => ?_⟩
    · rw [hlo] at hj
      have h3 := h.old j hj
      have hw : wasOf (Go.Proofs.Ytggepeepjaoibaa.put E k (secAt xs (k - base))) j = wasOf E j := by unfold wasOf; rw [hlo]
      rw [hw, hn, getD_now_set _ _ _ _ hkl]
      refine ⟨h3.1, h3.2.1, ?_⟩
      split
      · rename_i e; rw [e]
      · exact h3.2.2
    · rw [hlo] at hj
      rw [hn, getD_now_set _ _ _ _ hkl, if_neg (by rintro rfl; rw [ha] at hj; cases hj)]
      exact h.still j hj
  | false =>
    have hlo : (Go.Proofs.Ytggepeepjaoibaa.put E k (secAt xs (k - base))).loose = E.loose ++ [(k, E.now.getD k [], E.clock)] := by simp [Go.Proofs.Ytggepeepjaoibaa.put, addLoose, ha]
    have hany : ∀ j, (Go.Proofs.Ytggepeepjaoibaa.put E k (secAt xs (k - base))).loose.any (fun e => e.1 == j) = (E.loose.any (fun e => e.1 == j) || (k == j)) := fun j => by rw [hlo]; simp
    have hfk : E.loose.find? (fun e => e.1 == k) = none := by
      rw [List.find?_eq_none]
      intro e he hc
      have : E.loose.any (fun e => e.1 == k) = true := List.any_eq_true.2 ⟨e, he, hc⟩
      rw [ha] at this; cases this
    refine ⟨by rw [hn, List.length_set]; exact h.len, fun j hj => ?_, fun j hj => ?_⟩
    · rw [hany] at hj
      rw [hn, getD_now_set _ _ _ _ hkl]
      by_cases e : j = k
      · subst e
        rw [if_pos rfl]
        refine ⟨?_, hk, rfl⟩
        unfold wasOf
        rw [hlo, List.find?_append, hfk]
        simp
        have := h.still j ha
        rw [List.getD_eq_getElem?_getD, List.getD_eq_getElem?_getD] at this
        exact this
      · rw [if_neg e]
        have hj2 : E.loose.any (fun e => e.1 == j) = true := by
          have : (k == j) = false := by rw [beq_eq_false_iff_ne]; exact fun h => e h.symm
          rw [this, Bool.or_false] at hj; exact hj
        have h3 := h.old j hj2
        refine ⟨?_, h3.2.1, h3.2.2⟩
        rw [← h3.1]
        unfold wasOf
        rw [hlo, List.find?_append]
        obtain ⟨x, hx, hx2⟩ := List.any_eq_true.1 hj2
        cases hf : E.loose.find? (fun e => e.1 == j) with
        | none => rw [List.find?_eq_none] at hf; exact absurd hx2 (hf x hx)
        | some y => rfl
    · rw [hany] at hj
      simp only [Bool.or_eq_false_iff, beq_eq_false_iff_ne] at hj
      rw [hn, getD_now_set _ _ _ _ hkl, if_neg (fun e => hj.2 e.symm)]
      exact h.still j hj.1
theorem Mid.crash_low {D E : DiskG} {xs : List UInt8} {base lo : Nat} (h : Mid D E xs base lo) (fate : List UInt8) {j : Nat} (hj : j < lo) : (crash E fate).now.getD j [] = D.now.getD j [] := by
  have ha : E.loose.any (fun e => e.1 == j) = false := by
    cases e : E.loose.any (fun e => e.1 == j) with
    | false => rfl
    | true => have := (h.old j e).2.1; omega
  rw [crash_stays fate ha]
  exact h.still j ha
theorem Mid.crash_byte {D E : DiskG} {xs : List UInt8} {base lo : Nat} (h : Mid D E xs base lo) (fate : List UInt8) {j q : Nat} (hj : j < D.now.length) (h64 : (D.now.getD j []).length = 64) (hq : q < 64) (he : (D.now.getD j []).getD q 0 = (secAt xs (j - base)).getD q 0) :
    ((crash E fate).now.getD j []).getD q 0 = (D.now.getD j []).getD q 0 := by
  cases ha : E.loose.any (fun e => e.1 == j) with
  | false => rw [crash_stays fate ha, h.still j ha]
  | true =>
    obtain ⟨h1, h2, h3⟩ := h.old j ha
    obtain ⟨kk, hk⟩ := crash_torn E fate ha (by rw [h.len]; exact hj)
    rw [hk, h1, h3]
    exact torn_keeps kk h64 (secAt_len _ _) hq he
/-! fill under a fuse. -/
theorem Mid.start {D : DiskG} (h : D.loose = []) (xs : List UInt8) (base lo : Nat) : Mid D D xs base lo :=
  ⟨rfl, fun j hj => (by rw [h] at hj; cases hj), fun j hj => rfl⟩
theorem syn_any {D : DiskG} (hg : D.gone = false) : syn D = if (burnt D).gone then (burnt D, 5) else ({ burnt D with loose := [] }, 0) := by
  unfold syn; rw [if_neg (by rw [hg]; decide)]
theorem wr_any {D : DiskG} (hg : D.gone = false) {p : Nat} {X : List UInt8} (hp : p < D.now.length) (hX : X.length = 64) : wr D ((p : Nat) : Int) X = if (burnt D).gone then (burnt D, 5) else (put (burnt D) p X, 0) := by
  have hhas : has D ((p : Nat) : Int) = true := by simp [has]; omega
  unfold wr
  rw [if_neg (by simp [hhas, hX]), if_neg (by rw [hg]; decide), Int.toNat_natCast]
theorem fill_crash {D0 : DiskG} {xs : List UInt8} {base lo : Nat} (hl : ∀ j, 64 * j < xs.length → base + j < D0.now.length) : ∀ (N i : Nat) (D : DiskG), Mid D0 D xs base lo → D.gone = false → lo ≤ base + i → xs.length ≤ 64 * (i + N) →
    ((fillF xs base N i D).2 = 0 ∧ (fillF xs base N i D).1.loose = [] ∧ (fillF xs base N i D).1.gone = false ∧ (∀ j, (fillF xs base N i D).1.now.getD j [] = if base + i ≤ j ∧ 64 * (j - base) < xs.length then secAt xs (j - base) else D.now.getD j [])) ∨
    ((fillF xs base N i D).2 = 5 ∧ Mid D0 (fillF xs base N i D).1 xs base lo)
  | N, i, D, hM, hg, hlo, hN => by
    obtain ⟨b1, b2, b3, b4⟩ := burnt_same D
    have hend : ¬ 64 * i < xs.length → ((syn D).2 = 0 ∧ (syn D).1.loose = [] ∧ (syn D).1.gone = false ∧ (∀ j, (syn D).1.now.getD j [] = if base + i ≤ j ∧ 64 * (j - base) < xs.length then secAt xs (j - base) else D.now.getD j [])) ∨ ((syn D).2 = 5 ∧ Mid D0 (syn D).1 xs base lo) := fun hi => by
      rw [syn_any hg]
      cases hb : (burnt D).gone with
      | true => exact .inr ⟨rfl, hM.same b3 b4⟩
      | false =>
        refine .inl ⟨rfl, rfl, hb, fun j => ?_⟩
        show (burnt D).now.getD j [] = _
        rw [if_neg (by omega), b3]
    by_cases hi : 64 * i < xs.length
    · cases N with
      | zero => omega
      | succ N =>
        have hbl := hl i hi
        have hw := wr_any (X := secAt xs i) hg (p := base + i) (by rw [hM.len]; exact hbl) (secAt_len xs i)
        cases hb : (burnt D).gone with
        | true =>
          rw [hb, if_pos rfl] at hw
          have e : fillF xs base (N + 1) i D = (burnt D, 5) := by simp only [fillF, if_pos hi, hw]; rfl
          rw [e]
          exact .inr ⟨rfl, hM.same b3 b4⟩
        | false =>
          rw [hb, if_neg (by decide)] at hw
          have e : fillF xs base (N + 1) i D = fillF xs base N (i + 1) (put (burnt D) (base + i) (secAt xs i)) := by simp only [fillF, if_pos hi, hw, if_true]
          rw [e]
          have hMp : Mid D0 (put (burnt D) (base + i) (secAt xs i)) xs base lo := by
            have := (hM.same b3 b4).put (k := base + i) hlo hbl
            rwa [Nat.add_sub_cancel_left] at this
          have hgp : (put (burnt D) (base + i) (secAt xs i)).gone = false := by rw [(put_calm (burnt D) (base + i) (secAt xs i)).2]; exact hb
          rcases fill_crash hl N (i + 1) _ hMp hgp (by omega) (by omega) with ⟨h1, h2, h3, h4⟩ | h
          · refine .inl ⟨h1, h2, h3, fun j => ?_⟩
            rw [h4 j, put_now, b3, getD_now_set _ _ _ _ (by rw [hM.len]; exact hbl)]
            by_cases hj : j = base + i
            · subst hj
              rw [if_neg (by omega), if_pos rfl, if_pos ⟨Nat.le_refl _, by rw [Nat.add_sub_cancel_left]; exact hi⟩, Nat.add_sub_cancel_left]
            · rw [if_neg hj]
              by_cases hc : base + i ≤ j ∧ 64 * (j - base) < xs.length
              · rw [if_pos hc, if_pos ⟨by omega, hc.2⟩]
              · rw [if_neg hc, if_neg (by omega)]
          · exact .inr h
    · rw [fillF_end _ _ _ _ _ hi]
      exact hend hi
termination_by N => N
/-! The bytes of a log behind a fill that was cut off. -/
theorem take_getD {l : List UInt8} {n q : Nat} (h : q < n) : (l.take n).getD q 0 = l.getD q 0 := by
  rw [List.getD_eq_getElem?_getD, List.getElem?_take, if_pos h, ← List.getD_eq_getElem?_getD]
theorem keep_bytes {D G : DiskG} {k m : Nat} {xs : List UInt8} (hD : ∀ j, j < D.now.length → (D.now.getD j []).length = 64) (hG : ∀ j, j < G.now.length → (G.now.getD j []).length = 64) (hn : G.now.length = D.now.length) (hm : k + m ≤ D.now.length)
    (hx : (catS D k m).take xs.length = xs) (hl : xs.length ≤ 64 * m) (hF : ∀ i q, i < m → q < 64 → 64 * i + q < xs.length → (G.now.getD (k + i) []).getD q 0 = (D.now.getD (k + i) []).getD q 0) : (catS G k m).take xs.length = xs := by
  obtain ⟨l1, a1⟩ := catS_at hD k m hm
  obtain ⟨l2, a2⟩ := catS_at hG k m (by omega)
  refine list_ext_getD (by rw [List.length_take, l2]; omega) fun q hq => ?_
  rw [take_getD hq, a2 q (by omega), hF (q / 64) (q % 64) (by omega) (by omega) (by omega), ← a1 q (by omega)]
  have := congrArg (fun l => l.getD q 0) hx
  rw [take_getD hq] at this
  exact this
/-- the sector to be written bears the bytes that stand there already -/
theorem secAt_was {D : DiskG} {k m : Nat} {xs ys : List UInt8} (hD : ∀ j, j < D.now.length → (D.now.getD j []).length = 64) (hm : k + m ≤ D.now.length) (hx : (catS D k m).take xs.length = xs) {i q : Nat} (hi : i < m) (hq : q < 64) (hl : 64 * i + q < xs.length) :
    (D.now.getD (k + i) []).getD q 0 = (secAt (xs ++ ys) i).getD q 0 := by
  obtain ⟨l1, a1⟩ := catS_at hD k m hm
  have e1 := a1 (64 * i + q) (by omega)
  rw [show (64 * i + q) / 64 = i by omega, show (64 * i + q) % 64 = q by omega] at e1
  have e2 := secAt_at (xs ++ ys) (q := 64 * i + q) (by rw [List.length_append]; omega)
  rw [show (64 * i + q) / 64 = i by omega, show (64 * i + q) % 64 = q by omega] at e2
  rw [← e1, e2]
  have := congrArg (fun l => l.getD (64 * i + q) 0) hx
  rw [take_getD hl] at this
  rw [this, List.getD_eq_getElem?_getD, List.getD_eq_getElem?_getD, List.getElem?_append_left hl]
/-! A head written under a fuse, and a crash: what the log is opened to. -/
theorem readH_same {D G : DiskG} {f most k : Nat} (h : G.now.getD (f + k) [] = D.now.getD (f + k) []) : readH G f most k = readH D f most k := by simp only [readH, h]
theorem turn_joined {E : DiskG} {f most s z z' : Nat} {n n' : List UInt8} (fate : List UInt8) (hg : E.gone = false) (hl : E.loose = []) (hn : n'.length = 16) (hf : f + 1 < E.now.length) (hP : Places (fateAt fate 0) E f most s)
    (hcur : readH E f most (s % 2) = (s, z, n)) (hoth : (readH E f most ((s + 1) % 2)).1 ≤ s) (hz : z' ≤ most) (hs : s + 1 < 18446744073709551616) (hz64 : z' < 18446744073709551616) :
    (((turnF E f (s + 1) z' n').2 = 0 ∧ opH (crash (turnF E f (s + 1) z' n').1 fate) f most = (s + 1, z', n')) ∨
     ((turnF E f (s + 1) z' n').2 = 5 ∧ (opH (crash (turnF E f (s + 1) z' n').1 fate) f most = (s, z, n) ∨ opH (crash (turnF E f (s + 1) z' n').1 fate) f most = (s + 1, z', n')))) ∧
    (∀ j, j ≠ f + (s + 1) % 2 → (crash (turnF E f (s + 1) z' n').1 fate).now.getD j [] = E.now.getD j []) := by
  have hop := opH_places hcur hoth
  rcases turn_crash (s := s + 1) (z := z') fate hg hl hn hf with ⟨h1, h2⟩ | ⟨h1, h2 | h2⟩
  · refine ⟨.inl ⟨h1, ?_⟩, fun j hj => by rw [h2 j, if_neg hj]⟩
    exact opH_turn (D := E) (fun j hj => h2 (f + j)) (by rw [hop]; exact Nat.lt_succ_self _) hz hs hz64 hn
  · refine ⟨.inr ⟨h1, .inl ?_⟩, fun j hj => h2 j⟩
    refine opH_places ?_ ?_
    · rw [readH_same (h2 _)]; exact hcur
    · rw [readH_same (h2 _)]; exact hoth
  · refine ⟨.inr ⟨h1, ?_⟩, fun j hj => by rw [h2 j, if_neg hj]⟩
    exact (open_torn hP hcur (by rw [h2, if_neg (by omega)]) (by rw [h2, if_pos rfl]) hz hs hz64 hn).2
theorem turn_places {E : DiskG} {f most s z z' : Nat} {n n' : List UInt8} (fate : List UInt8) (hg : E.gone = false) (hl : E.loose = []) (hn : n'.length = 16) (hf : f + 1 < E.now.length) (hP : Places (fateAt fate 0) E f most s)
    (hcur : readH E f most (s % 2) = (s, z, n)) (hz : z' ≤ most) (hs : s + 1 < 18446744073709551616) (hz64 : z' < 18446744073709551616) : Places (fateAt fate 0) (crash (turnF E f (s + 1) z' n').1 fate) f most (s + 1) := by
  have lh : (halfL (s + 1) z' n').length = 32 := by simp [halfL, be8_len, hn]
  rcases turn_crash (s := s + 1) (z := z') fate hg hl hn hf with ⟨h1, h2⟩ | ⟨h1, h2 | h2⟩
  · intro j hj
    by_cases hjs : j = (s + 1) % 2
    · subst hjs
      have l64 : (halfL (s + 1) z' n' ++ halfL (s + 1) z' n').length = 64 := by rw [List.length_append, lh]
      refine ⟨halfL (s + 1) z' n', halfL (s + 1) z' n' ++ halfL (s + 1) z' n', lh, l64, by rw [h2, if_pos rfl, torn_self _ l64], ?_⟩
      have := congrArg (·.1) (headL_half (most := most) (z := z') rfl hz hs hz64 hn)
      exact Nat.le_of_eq this
    · obtain ⟨H, Y, q1, q2, q3, q4⟩ := hP j hj
      exact ⟨H, Y, q1, q2, by rw [h2, if_neg (by omega)]; exact q3, Nat.le_succ_of_le q4⟩
  · intro j hj
    obtain ⟨H, Y, q1, q2, q3, q4⟩ := hP j hj
    exact ⟨H, Y, q1, q2, by rw [h2]; exact q3, Nat.le_succ_of_le q4⟩
  · exact (open_torn hP hcur (by rw [h2, if_neg (by omega)]) (by rw [h2, if_pos rfl]) hz hs hz64 hn).1.mono (Nat.le_succ s)
/-! A change of a log under a fuse, and a crash: what the log is opened to. -/
theorem tells_heads {D : DiskG} {f most s z : Nat} {n : List UInt8} (h : opH D f most = (s, z, n)) : readH D f most (s % 2) = (s, z, n) ∧ (readH D f most ((s + 1) % 2)).1 ≤ s := by
  have m := opH_max D f most
  rw [h] at m
  have p0 := readH_par D f most 0
  have p1 := readH_par D f most 1
  unfold opH at h
  split at h
  · rename_i hlt
    rw [h] at p1 hlt
    have e1 : s % 2 = 1 := by simp only at p1 hlt; omega
    have e2 : (s + 1) % 2 = 0 := by omega
    rw [e1, e2]
    exact ⟨h, m.1⟩
  · rename_i hlt
    rw [h] at p0
    have e1 : s % 2 = 0 := by simp only at p0; omega
    have e2 : (s + 1) % 2 = 1 := by omega
    rw [e1, e2]
    exact ⟨h, m.2⟩
theorem opH_same {D G : DiskG} {f most : Nat} (h : ∀ j, j < 2 → G.now.getD (f + j) [] = D.now.getD (f + j) []) : opH G f most = opH D f most := by
  unfold opH
  rw [readH_same (h 0 (by omega)), readH_same (h 1 (by omega))]
theorem Places.same {k : UInt8} {D G : DiskG} {f most s : Nat} (hP : Places k D f most s) (h : ∀ j, j < 2 → G.now.getD (f + j) [] = D.now.getD (f + j) []) : Places k G f most s := fun j hj => by
  obtain ⟨H, Y, q1, q2, q3, q4⟩ := hP j hj
  exact ⟨H, Y, q1, q2, by rw [h j hj]; exact q3, q4⟩
theorem turn_both {E : DiskG} {f most s z z' : Nat} {n n' : List UInt8} (fate : List UInt8) (hg : E.gone = false) (hl : E.loose = []) (hn : n'.length = 16) (hf : f + 1 < E.now.length) (hP : Places (fateAt fate 0) E f most s)
    (ho : opH E f most = (s, z, n)) (hz : z' ≤ most) (hs : s + 1 < 18446744073709551616) (hz64 : z' < 18446744073709551616) :
    (((turnF E f (s + 1) z' n').2 = 0 ∧ opH (crash (turnF E f (s + 1) z' n').1 fate) f most = (s + 1, z', n') ∧ Places (fateAt fate 0) (crash (turnF E f (s + 1) z' n').1 fate) f most (s + 1)) ∨
     ((turnF E f (s + 1) z' n').2 = 5 ∧ ((opH (crash (turnF E f (s + 1) z' n').1 fate) f most = (s, z, n) ∧ Places (fateAt fate 0) (crash (turnF E f (s + 1) z' n').1 fate) f most s) ∨
       (opH (crash (turnF E f (s + 1) z' n').1 fate) f most = (s + 1, z', n') ∧ Places (fateAt fate 0) (crash (turnF E f (s + 1) z' n').1 fate) f most (s + 1))))) ∧
    (∀ j, j ≠ f + (s + 1) % 2 → (crash (turnF E f (s + 1) z' n').1 fate).now.getD j [] = E.now.getD j []) := by
  obtain ⟨hcur, hoth⟩ := tells_heads ho
  have hpl := turn_places (z' := z') fate hg hl hn hf hP hcur hz hs hz64
  rcases turn_crash (s := s + 1) (z := z') fate hg hl hn hf with ⟨h1, h2⟩ | ⟨h1, h2 | h2⟩
  · refine ⟨.inl ⟨h1, ?_, hpl⟩, fun j hj => by rw [h2 j, if_neg hj]⟩
    exact opH_turn (D := E) (fun j hj => h2 (f + j)) (by rw [ho]; exact Nat.lt_succ_self _) hz hs hz64 hn
  · refine ⟨.inr ⟨h1, .inl ⟨?_, hP.same (fun j hj => h2 _)⟩⟩, fun j hj => h2 j⟩
    rw [opH_same (fun j hj => h2 _)]; exact ho
  · refine ⟨.inr ⟨h1, ?_⟩, fun j hj => by rw [h2 j, if_neg hj]⟩
    obtain ⟨q1, q2⟩ := open_torn hP hcur (by rw [h2, if_neg (by omega)]) (by rw [h2, if_pos rfl]) hz hs hz64 hn
    rcases q2 with q2 | q2
    · exact .inl ⟨q2, q1⟩
    · exact .inr ⟨q2, q1.mono (Nat.le_succ s)⟩
/-- a log that tells its state, its heads torn or not -/
structure Rests (k : UInt8) (D : DiskG) (f m s : Nat) (xs n : List UInt8) : Prop where
  tells : Tells D f m s xs n
  places : Places k D f (64 * m) s
theorem catS_same {D G : DiskG} {k m : Nat} (hn : G.now.length = D.now.length) (hm : k + m ≤ D.now.length) (h : ∀ j, k ≤ j → j < k + m → G.now.getD j [] = D.now.getD j []) : catS G k m = catS D k m := by
  unfold catS
  congr 1
  apply List.ext_getElem?
  intro i
  rw [List.getElem?_take, List.getElem?_take]
  split
  · rename_i hi
    rw [List.getElem?_drop, List.getElem?_drop]
    have e := h (k + i) (by omega) (by omega)
    have l1 : k + i < G.now.length := by omega
    have l2 : k + i < D.now.length := by omega
    rw [List.getD_eq_getElem?_getD, List.getD_eq_getElem?_getD, List.getElem?_eq_getElem l1, List.getElem?_eq_getElem l2] at e
    rw [List.getElem?_eq_getElem l1, List.getElem?_eq_getElem l2]
    exact congrArg some e
  · rfl
theorem clear_crash {D : DiskG} {f m s : Nat} {xs n : List UInt8} (fate : List UInt8) (hg : D.gone = false) (hl : D.loose = []) (hn : n.length = 16) (hf : f + 2 + m ≤ D.now.length) (hR : Rests (fateAt fate 0) D f m s xs n) (hs : s + 1 < 18446744073709551616) :
    ((turnF D f (s + 1) 0 n).2 = 0 ∧ Rests (fateAt fate 0) (crash (turnF D f (s + 1) 0 n).1 fate) f m (s + 1) [] n) ∨
    ((turnF D f (s + 1) 0 n).2 = 5 ∧ (Rests (fateAt fate 0) (crash (turnF D f (s + 1) 0 n).1 fate) f m s xs n ∨ Rests (fateAt fate 0) (crash (turnF D f (s + 1) 0 n).1 fate) f m (s + 1) [] n)) := by
  obtain ⟨h1, h2⟩ := turn_both (z' := 0) fate hg hl hn (by omega) hR.places hR.tells.head (Nat.zero_le _) hs (by decide)
  have hlen : (crash (turnF D f (s + 1) 0 n).1 fate).now.length = D.now.length := by rw [(crash_like _ _).hn, (turnF_like _ _ _ _ _).hn]
  have hc := catS_same hlen hf (fun j hj _ => h2 j (by omega))
  rcases h1 with ⟨a, b, c⟩ | ⟨a, ⟨b, c⟩ | ⟨b, c⟩⟩
  · exact .inl ⟨a, ⟨⟨b, by simp⟩, c⟩⟩
  · exact .inr ⟨a, .inl ⟨⟨b, by rw [hc]; exact hR.tells.bytes⟩, c⟩⟩
  · exact .inr ⟨a, .inr ⟨⟨b, by simp⟩, c⟩⟩
theorem append_crash {w : World} {d : Nat} {D : DiskG} {L : LogG} {ys note : List UInt8} {m N : Nat} (fate : List UInt8) (hD : IsDisk w d D) (hg : D.gone = false) (hl : D.loose = []) (hf : L.f + 2 + m ≤ D.now.length)
    (hR : Rests (fateAt fate 0) D L.f m L.s L.xs L.n) (hly : L.xs.length + ys.length ≤ 64 * m) (hs : L.s + 1 < 18446744073709551616) (hm : 64 * m < 18446744073709551616) (hn : note.length = 16) (hN : L.xs.length + ys.length ≤ 64 * (L.xs.length / 64 + N))
    (h64G : ∀ j, j < (crash (becomeF D L (L.xs ++ ys) note true N).1 fate).now.length → ((crash (becomeF D L (L.xs ++ ys) note true N).1 fate).now.getD j []).length = 64) :
    ((becomeF D L (L.xs ++ ys) note true N).2 = 0 ∧ Rests (fateAt fate 0) (crash (becomeF D L (L.xs ++ ys) note true N).1 fate) L.f m (L.s + 1) (L.xs ++ ys) note) ∨
    ((becomeF D L (L.xs ++ ys) note true N).2 = 5 ∧ (Rests (fateAt fate 0) (crash (becomeF D L (L.xs ++ ys) note true N).1 fate) L.f m L.s L.xs L.n ∨ Rests (fateAt fate 0) (crash (becomeF D L (L.xs ++ ys) note true N).1 fate) L.f m (L.s + 1) (L.xs ++ ys) note)) := by
  have hxl : (L.xs ++ ys).length = L.xs.length + ys.length := List.length_append
  have h64 : ∀ j, j < D.now.length → (D.now.getD j []).length = 64 := fun j hj => hD.secLen hj
  have hfl := fillF_like (L.xs ++ ys) (L.f + 2) N (L.xs.length / 64) D
  rcases fill_crash (D0 := D) (xs := L.xs ++ ys) (base := L.f + 2) (lo := L.f + 2 + L.xs.length / 64) (fun j hj => by omega) N (L.xs.length / 64) D (Mid.start hl _ _ _) hg (Nat.le_refl _) (by omega) with ⟨f1, f2, f3, f4⟩ | ⟨f1, f2⟩
  · have hB : becomeF D L (L.xs ++ ys) note true N = turnF (fillF (L.xs ++ ys) (L.f + 2) N (L.xs.length / 64) D).1 L.f (L.s + 1) (L.xs ++ ys).length note := by
      simp only [becomeF, if_true, f1]
    rw [hB] at h64G ⊢
    generalize (fillF (L.xs ++ ys) (L.f + 2) N (L.xs.length / 64) D).1 = F at f2 f3 f4 hfl h64G
    have hh : ∀ j, j < 2 → F.now.getD (L.f + j) [] = D.now.getD (L.f + j) [] := fun j hj => by rw [f4, if_neg (by omega)]
    obtain ⟨h1, h2⟩ := turn_both (z' := (L.xs ++ ys).length) (n' := note) fate f3 f2 hn (by rw [hfl.hn]; omega) (hR.places.same hh) ((opH_same hh).trans hR.tells.head) (by omega) hs (by omega)
    have hlen : (crash (turnF F L.f (L.s + 1) (L.xs ++ ys).length note).1 fate).now.length = D.now.length := by rw [(crash_like _ _).hn, (turnF_like _ _ _ _ _).hn, hfl.hn]
    have hc : (catS (crash (turnF F L.f (L.s + 1) (L.xs ++ ys).length note).1 fate) (L.f + 2) m).take (L.xs ++ ys).length = L.xs ++ ys := by
      refine catS_fill h64 h64G hlen hf hR.tells.bytes hly (fun i hi => ?_)
      rw [h2 _ (by omega), f4]
      by_cases hc : L.xs.length / 64 ≤ i ∧ 64 * i < (L.xs ++ ys).length
      · rw [if_pos hc, if_pos ⟨by omega, by omega⟩]
        congr 1
        omega
      · rw [if_neg hc, if_neg (by omega)]
    have hc2 : (catS (crash (turnF F L.f (L.s + 1) (L.xs ++ ys).length note).1 fate) (L.f + 2) m).take L.xs.length = L.xs := by
      have := congrArg (List.take L.xs.length) hc
      rw [List.take_take, Nat.min_eq_left (by omega), List.take_left] at this
      exact this
    rcases h1 with ⟨a, b, c⟩ | ⟨a, ⟨b, c⟩ | ⟨b, c⟩⟩
    · exact .inl ⟨a, ⟨⟨b, hc⟩, c⟩⟩
    · exact .inr ⟨a, .inl ⟨⟨b, hc2⟩, c⟩⟩
    · exact .inr ⟨a, .inr ⟨⟨b, hc⟩, c⟩⟩
  · have hB : becomeF D L (L.xs ++ ys) note true N = fillF (L.xs ++ ys) (L.f + 2) N (L.xs.length / 64) D := by
      simp only [becomeF, if_true, f1]
      rw [if_neg (by decide)]
    rw [hB] at h64G ⊢
    have hlen : (crash (fillF (L.xs ++ ys) (L.f + 2) N (L.xs.length / 64) D).1 fate).now.length = D.now.length := by rw [(crash_like _ _).hn, hfl.hn]
    have hh : ∀ j, j < 2 → (crash (fillF (L.xs ++ ys) (L.f + 2) N (L.xs.length / 64) D).1 fate).now.getD (L.f + j) [] = D.now.getD (L.f + j) [] := fun j hj => f2.crash_low fate (by omega)
    refine .inr ⟨f1, .inl ⟨⟨(opH_same hh).trans hR.tells.head, ?_⟩, hR.places.same hh⟩⟩
    refine keep_bytes h64 h64G hlen hf hR.tells.bytes (by omega) (fun i q hi hq hl => ?_)
    refine f2.crash_byte fate (by omega) (h64 _ (by omega)) hq ?_
    rw [Nat.add_sub_cancel_left]
    exact secAt_was h64 hf hR.tells.bytes hi hq hl
theorem places_fresh (k : UInt8) (B M n f m : Nat) (h : f + 1 < n) : Places k (fresh B M n) f (64 * m) 0 := fun j hj => by
  refine ⟨zeros 32, zeros 64, by simp [zeros], by simp [zeros], ?_, ?_⟩
  · have e : zeros 32 ++ zeros 32 = zeros 64 := by decide
    rw [e, torn_self k (by simp [zeros])]
    simp only [fresh]
    rw [List.getD_eq_getElem?_getD, List.getElem?_replicate, if_pos (by omega)]; rfl
  · have e : zeros 32 ++ zeros 32 = zeros 64 := by decide
    have hz : readH (fresh B M n) f (64 * m) j = (0, 0, zeros 16) := readH_zeros (by simp only [fresh]; rw [List.getD_eq_getElem?_getD, List.getElem?_replicate, if_pos (by omega)]; rfl)
    rw [readH_headL] at hz
    have hx : (fresh B M n).now.getD (f + j) [] = zeros 64 := by simp only [fresh]; rw [List.getD_eq_getElem?_getD, List.getElem?_replicate, if_pos (by omega)]; rfl
    rw [hx] at hz
    rw [e]
    exact Nat.le_of_eq (congrArg (·.1) hz)
end Go.Proofs.Ytggepeepjaoibaa

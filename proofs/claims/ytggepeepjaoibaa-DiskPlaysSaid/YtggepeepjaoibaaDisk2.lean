/- A disk's Read, Write, Sync, New. -/
import Derived.Test.YtggepeepjaoibaaDisk1
import Derived.Test.YtggepeepjaoibaaBytes
import Derived.StillTail
import Derived.StillTactics
import Derived.Lib.Hide
namespace Go.Proofs.Ytggepeepjaoibaa
open Go.RowKit
set_option linter.unusedVariables false

/-! ### plain: what a disk answers -/
def rd (D : DiskG) (i : Int) : List UInt8 × Int := if has D i = false then ([], 1) else if D.gone then ([], 5) else (D.now.getD i.toNat [], 0)
def addLoose (D : DiskG) (i : Nat) : DiskG := if D.loose.any (fun e => e.1 == i) then D else { D with loose := D.loose ++ [(i, D.now.getD i [], D.clock)], clock := D.clock + 1 }
def put (D : DiskG) (i : Nat) (xs : List UInt8) : DiskG := { addLoose D i with now := D.now.set i xs }
def wr (D : DiskG) (i : Int) (xs : List UInt8) : DiskG × Int :=
  if has D i = false ∨ xs.length ≠ 64 then (D, 1) else if D.gone then (D, 5) else if (burnt D).gone then (burnt D, 5) else (put (burnt D) i.toNat xs, 0)
def syn (D : DiskG) : DiskG × Int := if D.gone then (D, 5) else if (burnt D).gone then (burnt D, 5) else ({ burnt D with loose := [] }, 0)

section
variable {w w' : World} {d : Nat} {D : DiskG}
theorem IsDisk.all64 (h : IsDisk w d D) : All64 D.now := h.len
theorem IsDisk.cellB (h : IsDisk w d D) {i j : Nat} (hi : i < D.now.length) (hj : j < 64) : w.cell? ⟨D.B, i * 64 + j, none⟩ = some (bv ((D.now.getD i []).getD j 0)) := by
  rw [cell_of_row w D.B _ _ _ _ h.hB]
  have hs : D.now[i]? = some (D.now.getD i []) := by simp [List.getElem?_eq_getElem hi]
  have := flat_get D.now i j _ h.len hs hj
  have hl : (D.now.getD i []).length = 64 := by simp only [List.getD_eq_getElem?_getD, List.getElem?_eq_getElem hi, Option.getD_some]; exact h.len _ (List.getElem_mem hi)
  rw [Nat.mul_comm i 64]
  generalize D.now.getD i [] = S at *
  simp only [bvs, List.getElem?_toArray, List.getElem?_map, this, List.getD_eq_getElem?_getD, List.getElem?_eq_getElem (show j < S.length by omega), Option.map_some, Option.getD_some]
theorem IsDisk.secLen (h : IsDisk w d D) {i : Nat} (hi : i < D.now.length) : (D.now.getD i []).length = 64 := by
  simp only [List.getD_eq_getElem?_getD, List.getElem?_eq_getElem hi, Option.getD_some]; exact h.len _ (List.getElem_mem hi)
theorem IsDisk.sector (h : IsDisk w d D) {i : Nat} (hi : i < D.now.length) (c : Nat) (hc : 64 ≤ c) (hm : c ≤ maxLen) : IsBytes w (.slice (some ⟨D.B, i * 64, none⟩) 64 c) (D.now.getD i []) :=
  ⟨some ⟨D.B, i * 64, none⟩, c, by rw [h.secLen hi], by rw [h.secLen hi]; exact hc, hm, fun e => (by cases e), .inr ⟨D.B, i * 64, rfl, fun j hj => h.cellB hi (by rw [h.secLen hi] at hj; exact hj)⟩⟩
theorem IsDisk.agg (h : IsDisk w d D) {i : Nat} (hi : i < D.now.length) : AggIs w D.B (i * 64) (bvs (D.now.getD i [])) := by
  intro j v hv
  have hl := h.secLen hi
  have hc := fun hj => h.cellB (j := j) hi hj
  generalize D.now.getD i [] = S at *
  simp only [bvs, List.getElem?_toArray, List.getElem?_map] at hv
  by_cases hj : j < 64
  · rw [hc hj]
    simpa only [List.getD_eq_getElem?_getD, List.getElem?_eq_getElem (show j < S.length by omega), Option.map_some, Option.getD_some] using hv
  · rw [List.getElem?_eq_none (by omega)] at hv
    cases hv
theorem IsDisk.intKeys (h : IsDisk w d D) : IntKeys (D.loose.map mkE) := by
  intro e he
  rw [List.mem_map] at he
  obtain ⟨x, _, rfl⟩ := he
  exact ⟨_, rfl⟩
theorem findI_mk (i : Nat) : ∀ (l : List (Nat × List UInt8 × Nat)) (k : Nat), (findI (l.map mkE) (i : Int) k).isSome = l.any (fun e => e.1 == i)
  | [], _ => rfl
  | e :: l, k => by
    by_cases hi : (i : Int) = (e.1 : Int)
    · have : e.1 = i := by omega
      simp [findI, mkE, hi, this]
    · have : (e.1 == i) = false := by simp; omega
      simp [findI, mkE, hi, this, findI_mk i l (k + 1)]
theorem findI_val (i : Nat) : ∀ (l : List (Nat × List UInt8 × Nat)) (k : Nat) (r : Nat × Value), findI (l.map mkE) (i : Int) k = some r → ∃ e ∈ l, e.1 = i ∧ r.2 = .agg (bvs e.2.1)
  | [], _, r, h => by cases h
  | e :: l, k, r, h => by
    by_cases hi : (i : Int) = (e.1 : Int)
    · simp only [List.map_cons, findI, mkE, hi, if_true, Option.some.injEq] at h
      exact ⟨e, by simp, by omega, by rw [← h]⟩
    · simp only [List.map_cons, findI, mkE, hi, if_false] at h
      obtain ⟨x, hx, h1, h2⟩ := findI_val i l (k + 1) r h
      exact ⟨x, by simp [hx], h1, h2⟩
theorem IsDisk.setSector (h : IsDisk w d D) {i : Nat} (hi : i < D.now.length) {xs : List UInt8} (hx : xs.length = 64) (hu : Upd (fun k => k = D.B) w w')
    (hh : w'.heap[D.B]? = some (.cells (splice (bvs D.now.flatten).toList (i * 64) (bvs xs).toList).toArray 102 (0, 0))) : IsDisk w' d { D with now := D.now.set i xs } :=
  { h with
    hd := by simpa using hu.heap h.hd (fun e => h.dB e)
    hB := by
      rw [hh, bvs_toList, bvs_toList, splice_map, Nat.mul_comm i 64, flat_splice D.now i xs h.len hi hx]; rfl
    hM := hu.heap h.hM (fun e => h.BM e.symm)
    len := all64_set i h.len hx
    few := by simpa using h.few
    lens := by simpa using h.lens }
theorem IsDisk.setLoose (h : IsDisk w d D) {i : Nat} (hi : i < D.now.length) (hn : D.loose.any (fun e => e.1 == i) = false) (hu : Upd (fun k => k = D.M) w w')
    (hh : w'.heap[D.M]? = some (.map ((D.loose.map mkE).toArray.push { key := .int .i64 (i : Int), val := .agg (bvs (D.now.getD i [])), born := D.clock }) (D.clock + 1))) : IsDisk w' d (addLoose D i) := by
  have e : addLoose D i = { D with loose := D.loose ++ [(i, D.now.getD i [], D.clock)], clock := D.clock + 1 } := by simp [addLoose, hn]
  rw [e]
  have hn' : ∀ x ∈ D.loose, x.1 ≠ i := fun x hx e1 => by
    have : D.loose.any (fun e => e.1 == i) = true := List.any_eq_true.2 ⟨x, hx, by simp [e1]⟩
    rw [hn] at this; cases this
  exact { h with
    hd := hu.heap h.hd (fun e => h.dM e)
    hB := hu.heap h.hB (fun e => h.BM e)
    hM := by rw [hh]; simp [mkE]
    lens := by
      intro x hx
      simp only [List.mem_append, List.mem_singleton] at hx
      rcases hx with hx | rfl
      · have := h.lens x hx
        exact ⟨this.1, this.2.1, by simp only; omega⟩
      · exact ⟨h.secLen hi, hi, by simp⟩
    keys := by
      rw [List.map_append]
      refine List.nodup_append.2 ⟨h.keys, by simp, ?_⟩
      intro a ha b hb
      simp at hb; subst hb
      rw [List.mem_map] at ha
      obtain ⟨x, hx, rfl⟩ := ha
      exact hn' x hx
    borns := by
      rw [List.map_append]
      refine List.nodup_append.2 ⟨h.borns, by simp, ?_⟩
      intro a ha b hb
      simp at hb; subst hb
      rw [List.mem_map] at ha
      obtain ⟨x, hx, rfl⟩ := ha
      have := (h.lens x hx).2.2
      omega }
theorem IsDisk.cleared (h : IsDisk w d D) (hu : Upd (fun k => k = D.M) w w') (hh : w'.heap[D.M]? = some (.map #[] D.clock)) : IsDisk w' d { D with loose := [] } :=
  { h with
    hd := hu.heap h.hd (fun e => h.dM e)
    hB := hu.heap h.hB (fun e => h.BM e)
    hM := by rw [hh]; rfl
    lens := by simp
    keys := by simp
    borns := by simp }
end

theorem read_calls {w : World} {d : Nat} {D : DiskG} (h : IsDisk w d D) (i : Int) :
    Calls Try.prog 51 #[.pointer (some ⟨d, 0, none⟩), .int .i64 i] w fun e w' => ∃ v', e = .returned (.tuple #[v', .int .i64 (rd D i).2]) ∧ OwnB w' w.heap.size v' (rd D i).1 ∧ Upd (fun _ => False) w w' := by
  have c0 := h.c0
  have c3 := h.c3
  cases hi : has D i with
  | false =>
    have hr : rd D i = ([], 1) := by simp [rd, hi]
    rw [hr]
    clear hr
    go_enter Try.func51, Try.ntmps51
    go_wp2_with (go_at_call 48; refine (has_calls h _).mono ?_; rintro e w' ⟨rfl, rfl⟩; rw [hi])
    go_ret2
    exact ⟨_, rfl, World.ownsRow_nil _ _ _ _, Upd.refl _ _⟩
  | true =>
    cases hg : D.gone with
    | true =>
      have hr : rd D i = ([], 5) := by simp [rd, hi, hg]
      rw [hr]
      clear hr
      rw [hg] at c3
      go_enter Try.func51, Try.ntmps51
      go_wp2_with (go_at_call 48; refine (has_calls h _).mono ?_; rintro e w' ⟨rfl, rfl⟩; rw [hi])
      go_ret2
      exact ⟨_, rfl, World.ownsRow_nil _ _ _ _, Upd.refl _ _⟩
    | false =>
      have hr : rd D i = (D.now.getD i.toNat [], 0) := by simp [rd, hi, hg]
      rw [hr]
      clear hr
      rw [hg] at c3
      have hi' : 0 ≤ i ∧ i < (D.now.length : Int) := by simpa [has] using hi
      obtain ⟨h0, h1⟩ := hi'
      have hl := h.few
      have hs := h.sector (i := i.toNat) (by omega) 64 (Nat.le_refl _) (by unfold maxLen; omega)
      have hsl := h.secLen (i := i.toNat) (by omega)
      go_enter Try.func51, Try.ntmps51
      go_wp2_with (first | (go_at_call 48; refine (has_calls h _).mono ?_; rintro e w' ⟨rfl, rfl⟩; rw [hi]) | (go_at_call 47; refine (clone_calls hs (by omega)).mono ?_; rintro e w' ⟨v', rfl, ho, hu⟩))
      go_ret2
      exact ⟨_, rfl, ho, hu⟩

theorem sync_calls {w : World} {d : Nat} {D : DiskG} (h : IsDisk w d D) :
    Calls Try.prog 79 #[.pointer (some ⟨d, 0, none⟩)] w fun e w' => e = .returned (.int .i64 (syn D).2) ∧ IsDisk w' d (syn D).1 ∧ Upd (fp d D) w w' := by
  have c3 := h.c3
  cases hg : D.gone with
  | true =>
    have hr : syn D = (D, 5) := by simp [syn, hg]
    rw [hr]
    clear hr
    rw [hg] at c3
    go_enter Try.func79, Try.ntmps79
    go_wp2
    go_ret
    exact ⟨rfl, h, Upd.refl _ _⟩
  | false =>
    rw [hg] at c3
    cases hb : (burnt D).gone with
    | true =>
      have hr : syn D = (burnt D, 5) := by simp [syn, hg, hb]
      rw [hr]
      clear hr
      go_enter Try.func79, Try.ntmps79
      go_wp2_with (go_at_call 49; refine (burn_calls h).mono ?_; rintro e w1 ⟨rfl, h1, u1⟩; rw [hb])
      go_ret
      exact ⟨rfl, h1, u1⟩
    | false =>
      have hr : syn D = ({ burnt D with loose := [] }, 0) := by simp [syn, hg, hb]
      rw [hr]
      clear hr
      have hM := Lib.hid (show (burnt D).M = D.M by unfold burnt; split <;> (try split) <;> rfl)
      go_enter Try.func79, Try.ntmps79
      go_wp2_with (first | (go_at_call 49; refine (burn_calls h).mono ?_; rintro e w1 ⟨rfl, h1, u1⟩; rw [hb]; have c1 := h1.c1) | (guard_target =~ wpList _ _ _ (Oper.mk _ (Op.call (Call.mk (Callee.builtin Builtin.clear) _ _)) _ _ _ _ :: _) _ _; refine wpList_clear_map rfl 89 3 102 _ rfl Try.underlying89 rfl h1.hM ?_; intro w2 hm2 u2; have H2 := Lib.hid hm2; clear hm2))
      go_ret
      exact ⟨rfl, h1.cleared u2 H2.out, u1.trans (u2.mono (fun k _ hk => .inr (.inr (by rw [hk, hM.out]))))⟩
end Go.Proofs.Ytggepeepjaoibaa

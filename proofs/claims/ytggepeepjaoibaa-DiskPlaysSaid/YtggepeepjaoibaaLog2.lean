/- Log.load. -/
import Derived.Test.YtggepeepjaoibaaLog1
namespace Go.Proofs.Ytggepeepjaoibaa
open Go.RowKit
set_option linter.unusedVariables false

/-- the bytes of the sectors from k on, i of them -/
def catS (D : DiskG) (k i : Nat) : List UInt8 := ((D.now.drop k).take i).flatten
theorem catS_len {w : World} {d : Nat} {D : DiskG} (h : IsDisk w d D) (k : Nat) : ∀ i, k + i ≤ D.now.length → (catS D k i).length = 64 * i
  | 0, _ => by simp [catS]
  | i + 1, hi => by
    have h1 := catS_len h k i (by omega)
    have h2 : (D.now.drop k).take (i + 1) = (D.now.drop k).take i ++ [(D.now.drop k)[i]'(by simp; omega)] := List.take_succ_eq_append_getElem (by simp; omega)
    unfold catS at *
    rw [h2, List.flatten_append, List.length_append, h1]
    have h3 := h.secLen (i := k + i) (by omega)
    simp only [List.getElem_drop, List.flatten_cons, List.flatten_nil, List.append_nil]
    rw [List.getD_eq_getElem?_getD, List.getElem?_eq_getElem (by omega)] at h3
    simp only [Option.getD_some] at h3
    omega
theorem catS_succ {D : DiskG} {k i : Nat} (hi : k + i < D.now.length) : catS D k (i + 1) = catS D k i ++ D.now.getD (k + i) [] := by
  have h2 : (D.now.drop k).take (i + 1) = (D.now.drop k).take i ++ [(D.now.drop k)[i]'(by simp; omega)] := List.take_succ_eq_append_getElem (by simp; omega)
  unfold catS
  rw [h2, List.flatten_append]
  simp [List.getD_eq_getElem?_getD, List.getElem?_eq_getElem hi]

theorem logA_bytes (L : LogG) (h : L.n.length = 16) (v : Value) (xs : List UInt8) : (logA L).setIfInBounds 21 v = logA { L with v := v, xs := xs } := by
  apply Array.ext'
  have e : (headA L.s L.z L.n).size = 18 := by rw [headA_size, h]
  simp only [logA, Array.toList_setIfInBounds, Array.toList_append]
  rw [List.append_assoc, List.set_append_right _ _ (by simp), List.set_append_right _ _ (by simp [e]), List.append_assoc]
  simp [e]
theorem IsLog.setBytes {w : World} {p : Nat} {L : LogG} (h : IsLog w p L) {v : Value} {xs : List UInt8} (hv : OwnB w (p + 1) v xs) : IsLog (w.setCell ⟨p, 21, none⟩ v) p { L with v := v, xs := xs } :=
  { h with
    hp := by rw [heap_setCell_same w p 21 _ _ _ h.hp, logA_bytes L h.hn v xs]
    hv := hv.keep (upd_cell (S := fun k => k = p) v rfl) (fun k hk => by have := hv.base_le k hk; omega) }

theorem Grows.heap {base : Nat} {W w' : World} (h : Grows base W w') (hb : base ≤ W.heap.size) {k : Nat} (hk : k < base) : w'.heap[k]? = W.heap[k]? := by
  have hs : (W.heap.extract 0 base).size = base := by simp; omega
  have h0 : Upd (fun _ => False) { W with heap := W.heap.extract 0 base } W := ⟨rfl, rfl, rfl, by show (W.heap.extract 0 base).size ≤ _; omega, fun j hj _ => by
    have hj' : j < base := by have : j < (W.heap.extract 0 base).size := hj; omega
    show W.heap[j]? = (W.heap.extract 0 base)[j]?
    rw [Array.getElem?_extract, if_pos (by omega), Nat.zero_add]⟩
  have h1 := h _ _ h0 (by show (W.heap.extract 0 base).size ≤ base; omega)
  have e1 := h0.block k (by show k < (W.heap.extract 0 base).size; omega) id
  have e2 := h1.block k (by show k < (W.heap.extract 0 base).size; omega) id
  rw [e2, ← e1]
theorem IsLog.newBytes {w w0 : World} {p : Nat} {L : LogG} (hp : w.heap[p]? = some (.cells (logA L) 95 (0, 0))) (h : IsLog w0 p L) {v : Value} {xs : List UInt8} (hv : OwnB w (p + 1) v xs) : IsLog (w.setCell ⟨p, 21, none⟩ v) p { L with v := v, xs := xs } :=
  { h with
    hp := by rw [heap_setCell_same w p 21 _ _ _ hp, logA_bytes L h.hn v xs]
    hv := hv.keep (upd_cell (S := fun k => k = p) v rfl) (fun k hk => by have := hv.base_le k hk; omega) }

theorem OwnB.take {w : World} {base g n cap : Nat} {xs : List UInt8} (h : OwnB w base (.slice (some ⟨g, 0, none⟩) n cap) xs) {m : Nat} (hm : m ≤ n) : OwnB w base (.slice (some ⟨g, 0, none⟩) m cap) (xs.take m) := by
  obtain ⟨h1, h2⟩ := h
  rcases h2 with ⟨e, _⟩ | ⟨g', cap', cur, e, hb, hh, h3, h4, h5, h6⟩
  · cases e
  · cases e
    have hl : (xs.take m).length = m := by rw [List.length_take]; omega
    refine ⟨by simp, .inr ⟨g, cap, cur, by rw [hl], hb, hh, by rw [hl]; omega, h4, h5, ?_⟩⟩
    rw [hl, Nat.mul_one]
    rw [Nat.mul_one] at h6
    have := congrArg (List.take m) h6
    rw [List.take_take, Nat.min_eq_left (by omega)] at this
    rw [this, List.map_take]

attribute [local irreducible] wpStill wpReads
set_option maxRecDepth 100000 in
set_option maxHeartbeats 2000000 in
theorem load_calls {w : World} {p m : Nat} {L : LogG} {D : DiskG} (h : IsLog w p L) (hD : IsDisk w L.d D) (hg : D.gone = false) (hm : L.f + 2 + m ≤ D.now.length) (hz : L.z ≤ 64 * m)
    (hx : L.xs = []) (hv : L.v = .slice none 0 0) (hdp : L.d < p ∧ D.B < p ∧ D.M < p) :
    Calls Try.prog 45 #[.pointer (some ⟨p, 0, none⟩)] w fun e w' => e = .returned (.int .i64 0) ∧ ∃ v, IsLog w' p { L with v := v, xs := (catS D (L.f + 2) m).take L.z } ∧ Upd (fun k => k = p) w w' ∧ (∀ k, v.ownBlock = some k → w.heap.size ≤ k) := by
  obtain ⟨d, f, most, sn, z, n, v0, xs0, over⟩ := L
  simp only at hx hv hm hz hdp hD
  subst hx hv
  have hff : f ≤ 16384 := h.hf
  have hmm := h.hm
  have hz64 : z < 18446744073709551616 := h.hz
  have hfew := hD.few
  have hlt := h.lt
  have hzw : IntKind.i64.wrap (z : Int) = (z : Int) := IntWalk.i64_in _ (by omega)
  have hcl := fun i hi => catS_len hD (f + 2) i hi
  have HC := Lib.hid hcl
  clear hcl
  show Calls Try.prog 45 #[.pointer (some ⟨p, 0, none⟩)] w fun e w' => e = .returned (.int .i64 0) ∧ ∃ v, IsLog w' p ⟨d, f, most, sn, z, n, v, (catS D (f + 2) m).take z, over⟩ ∧ Upd (fun k => k = p) w w' ∧ (∀ k, v.ownBlock = some k → w.heap.size ≤ k)
  go_enter Try.func45, Try.ntmps45
  go_wp2
  go_loopw [3] (fun y wr => ∃ (i : Nat) (v : Value), i ≤ m ∧ (0 < i → 64 * (i - 1) < z) ∧ y = .int .i64 i ∧ OwnB wr w.heap.size v (catS D (f + 2) i) ∧ (i = 0 → v = .slice none 0 0) ∧ IsLog wr p ⟨d, f, most, sn, z, n, v, catS D (f + 2) i, over⟩ ∧ Upd (fun k => k = p) w wr) (fun y _ => m - (intOf y).toNat)
  case atStart => exact ⟨0, _, by omega, fun h => absurd h (by omega), rfl, ⟨rfl, .inl ⟨rfl, rfl⟩⟩, fun _ => rfl, h, Upd.refl _ _⟩
  case round =>
    obtain ⟨i, v, hi, hiz, rfl, hO, hv0, hL, hU⟩ := hrel
    have hDr := hD.keep hU (by omega) (by omega) (by omega)
    have hlen := HC.out i (by omega)
    obtain ⟨pa, cap, rfl, hpa⟩ : ∃ pa cap, v = .slice pa (64 * i) cap ∧ ((i = 0 ∧ pa = none ∧ cap = 0) ∨ (0 < i ∧ ∃ g, pa = some ⟨g, 0, none⟩ ∧ w.heap.size ≤ g)) := by
      by_cases h0 : i = 0
      · subst h0; exact ⟨none, 0, hv0 rfl, .inl ⟨rfl, rfl, rfl⟩⟩
      · obtain ⟨g, cap, e, g1, _⟩ := hO.formN hlen (by omega)
        exact ⟨_, cap, e, .inr ⟨by omega, g, rfl, g1⟩⟩
    have c21 := hL.c21
    have c4 := hL.c4
    simp only at c21 c4
    by_cases hlt2 : 64 * i < z
    · have hlt3 : decide ((64 : Int) * (i : Int) < (z : Int)) = true := decide_eq_true (by omega)
      have him : i < m := by omega
      go_wp2
      refine region_still (by kernel_rfl) (by kernel_rfl) (fun w3 u3 => ?_)
      have L3 := hL.quiet (u3 _)
      have q21 := L3.c21
      have q4 := L3.c4
      simp only at q21 q4
      clear c21 c4
      iterate 12 ((apply s_value (by first | rfl | go_simp) (v := ?_); focus (go_simp; exact rfl)); (apply s_at; focus (go_simp; exact rfl)))
      refine wpStill_nil ?_
      clear q21 q4
      go_wp2
      have D3 := hDr.keep (u3 (fun _ => False)) id id id
      have O3 := hO.keep (u3 (fun _ => False)) (fun _ _ => id)
      have U3 := hU.trans (u3 _)
      have kd := fun x (hx : Upd (fun _ => False) w3 x) => (L3.quiet hx).c0
      have kf := fun x (hx : Upd (fun _ => False) w3 x) => (L3.quiet hx).c1
      have hf2 : IntKind.i64.wrap ((f : Int) + 2) = (f : Int) + 2 := IntWalk.i64_in _ (by omega)
      have hf3 : IntKind.i64.wrap ((f : Int) + 2 + (i : Int)) = (f : Int) + 2 + (i : Int) := IntWalk.i64_in _ (by omega)
      refine region_mid 11 (by kernel_rfl) (by kernel_rfl) (fun x => Upd (fun _ => False) w3 x) ((Upd.refl _ w3).drew) rfl ?_
      simp only [List.take_succ_cons, List.take_zero]
      (apply quiet_value (by first | rfl | go_simp); focus (intro _ _; go_simp; try exact rfl)); (apply q_at; focus (go_simp; exact rfl))
      (apply quiet_value (by first | rfl | go_simp); focus (intro _ _; go_simp; try exact rfl)); (apply q_at; focus (go_simp; exact rfl))
      (apply quiet_value (by first | rfl | go_simp); focus (intro _ _; go_simp; try exact rfl)); (apply q_at; focus (go_simp; exact rfl))
      refine q_load rfl 24 (.tmp 23) rfl (fun w => by go_simp) ⟨p, 0, none⟩ rfl _ kd ?_; (apply q_at; focus (go_simp; exact rfl))
      (apply quiet_value (by first | rfl | go_simp); focus (intro _ _; go_simp; try exact rfl)); (apply q_at; focus (go_simp; exact rfl))
      (apply quiet_value (by first | rfl | go_simp); focus (intro _ _; go_simp; try exact rfl)); (apply q_at; focus (go_simp; exact rfl))
      (apply quiet_value (by first | rfl | go_simp); focus (intro _ _; go_simp; try exact rfl)); (apply q_at; focus (go_simp; exact rfl))
      refine q_load rfl 3 (.tmp 27) rfl (fun w => by go_simp) ⟨p, 1, none⟩ rfl _ kf ?_; (apply q_at; focus (go_simp; exact rfl))
      (apply quiet_value (by first | rfl | go_simp); focus (intro _ _; go_simp; try exact rfl)); (apply q_at; focus (go_simp; exact rfl))
      (apply quiet_value (by first | rfl | go_simp); focus (intro _ _; go_simp; try exact rfl)); (apply q_at; focus (go_simp; exact rfl))
      (apply quiet_value (by first | rfl | go_simp); focus (intro _ _; go_simp; try exact rfl)); (apply q_at; focus (go_simp; exact rfl))
      have hb64 := hDr.secLen (i := f + 2 + i) (by omega)
      have hr : rd D ((f : Int) + 2 + (i : Int)) = (D.now.getD (f + 2 + i) [], 0) := by
        have : has D ((f : Int) + 2 + i) = true := by simp [has]; omega
        have e : ((f : Int) + 2 + i).toNat = f + 2 + i := by omega
        simp only [rd, this, hg, e]; simp
      have hcs := catS_succ (D := D) (k := f + 2) (i := i) (by omega)
      generalize D.now.getD (f + 2 + i) [] = b at hb64 hr hcs
      have HR := Lib.hid hr
      have HCS := Lib.hid hcs
      clear hr hcs
      refine wpQuiet_nil ⟨rfl, fun x hx => mid_call 51 #[.pointer (some ⟨d, 0, none⟩), .int .i64 ((f : Int) + 2 + (i : Int))] (by go_simp) ((read_calls (D3.keep hx id id id) ((f : Int) + 2 + (i : Int))).mono ?_)⟩
      rw [HR.out]
      rintro e w4 ⟨vb, rfl, o4, u4⟩
      refine ⟨_, rfl, ?_⟩
      clear kd kf
      obtain ⟨gb, capb, rfl, gb1, gb2⟩ := o4.formN hb64 (by omega)
      have b4 := o4.bytes
      have u4 : Upd (fun _ => False) w3 w4 := hx.trans u4
      (apply s_at; focus (go_simp; exact rfl))
      iterate 5 ((apply s_value (by first | rfl | go_simp) (v := ?_); focus (go_simp; exact rfl)); (apply s_at; focus (go_simp; exact rfl)))
      refine wpStill_nil ?_
      have L4 := L3.quiet u4
      have O4 := O3.keep u4 (fun _ _ => id)
      have U4 := U3.then u4 (fun _ _ hk => hk.elim)
      have z4 : w.heap.size ≤ w4.heap.size := U4.size
      have q21 := L4.c21
      have qf := L4.fr 21
      simp only at q21
      have hll : (catS D (f + 2) i).length + b.length ≤ 140737488355328 := by rw [hlen, hb64]; omega
      have hl1 := HC.out (i + 1) (by omega)
      have after : ∀ w5, Grows w.heap.size w4 w5 → Hid (w5.heap[p]? = some (.cells (logA ⟨d, f, most, sn, z, n, .slice pa (64 * i) cap, catS D (f + 2) i, over⟩) 95 (0, 0))) ∧ w5.cell? ⟨p, 21, none⟩ = some (.slice pa (64 * i) cap) ∧ w5.frozen? ⟨p, 21, none⟩ = false := fun w5 g5 => by
        have e : w5.heap[p]? = w4.heap[p]? := g5.heap z4 hlt
        have hp5 := e.trans L4.hp
        exact ⟨Lib.hid hp5, by rw [World.cell?_of_block e]; exact q21, frozen_of_row w5 p 21 _ _ hp5⟩
      go_wp2_with (at_builtin; go_must (refine wpList_append_bytes w.heap.size O4 b4 rfl _ _ rfl rfl rfl z4 hll ?_); intro v5 w5 o5 g5; have U5 := g5 _ _ U4 (Nat.le_refl _); rw [← HCS.out] at o5; obtain ⟨hp5, c5, f5⟩ := after w5 g5; obtain ⟨g6, cap6, rfl, g61, g62⟩ := o5.formN hl1 (by omega))
      have hs5 : w.heap.size ≤ w5.heap.size := U5.size
      refine ⟨⟨i + 1, _, him, fun _ => by rw [Nat.add_sub_cancel]; exact hlt2, by rw [Int.natCast_add]; rfl, o5.keep (upd_cell (S := fun k => k = p) _ rfl) (fun k hk e => by have := o5.base_le k hk; omega), fun h => absurd h (by omega), IsLog.newBytes hp5 L4 (o5.mono (by omega)), U5.setCell (p := ⟨p, 21, none⟩) (fun _ => rfl) _⟩, ?_⟩
      show m - ((i : Int) + 1).toNat < m - ((i : Int)).toNat
      omega
    · have hlt3 : decide ((64 : Int) * (i : Int) < (z : Int)) = false := decide_eq_false (by omega)
      have hzi : (z : Int) ≤ 64 * (i : Int) := by omega
      go_wp2
      refine region_still (by kernel_rfl) (by kernel_rfl) (fun w3 u3 => ?_)
      have L3 := hL.quiet (u3 _)
      have O3 := hO.keep (u3 (fun _ => False)) (fun _ _ => id)
      have U3 := hU.trans (u3 _)
      have q21 := L3.c21
      have q4 := L3.c4
      simp only at q21 q4
      clear c21 c4
      iterate 12 ((apply s_value (by first | rfl | go_simp) (v := ?_); focus (go_simp; exact rfl)); (apply s_at; focus (go_simp; exact rfl)))
      refine wpStill_nil ?_
      clear q21 q4
      have hst : (catS D (f + 2) m).take z = (catS D (f + 2) i).take z := by
        have e : catS D (f + 2) i = (catS D (f + 2) m).take (64 * i) := by
          have e1 : (D.now.drop (f + 2)).take m = (D.now.drop (f + 2)).take i ++ ((D.now.drop (f + 2)).drop i).take (m - i) := by
            rw [← List.take_add]; congr 1; omega
          unfold catS at hlen ⊢
          rw [e1, List.flatten_append, ← hlen, List.take_left']
          rfl
        rw [e, List.take_take]; congr 1; omega
      rcases hpa with ⟨rfl, rfl, rfl⟩ | ⟨hi0, g, rfl, hgw⟩
      · have hz0 : z = 0 := by omega
        subst hz0
        go_wp2
        refine region_still_tail 11 (by kernel_rfl) (by kernel_rfl) (fun w5 u5 => ?_); simp only [List.take_succ_cons, List.take_zero, List.drop_succ_cons, List.drop_zero]
        have L5 := L3.quiet (u5 _)
        have q21 := L5.c21
        have q4 := L5.c4
        have qf := L5.fr 21
        simp only at q21 q4
        iterate 10 ((apply s_value (by first | rfl | go_simp) (v := ?_); focus (go_simp; exact rfl)); (apply s_at; focus (go_simp; exact rfl)))
        (apply s_value (by first | rfl | go_simp) (v := ?_); focus (go_simp; exact rfl))
        (apply s_at; focus (go_simp; exact rfl))
        refine wpStill_nil ?_
        go_wp2
        go_ret
        refine ⟨rfl, .slice none 0 0, ?_, (U3.trans (u5 _)).setCell (p := ⟨p, 21, none⟩) (fun _ => rfl) _, fun k hk => by cases hk⟩
        exact IsLog.newBytes L5.hp L5 ⟨rfl, .inl ⟨rfl, rfl⟩⟩
      · have hcap : (z : Int) ≤ (cap : Int) := by
          obtain ⟨a', c', e, q1, q2, _⟩ := O3.bytes.at_
          simp only [Value.slice.injEq] at e
          omega
        have hz0 : (0 : Int) ≤ (z : Int) := by omega
        go_wp2
        refine region_still_tail 11 (by kernel_rfl) (by kernel_rfl) (fun w5 u5 => ?_); simp only [List.take_succ_cons, List.take_zero, List.drop_succ_cons, List.drop_zero]
        have L5 := L3.quiet (u5 _)
        have q21 := L5.c21
        have q4 := L5.c4
        have qf := L5.fr 21
        simp only at q21 q4
        iterate 10 ((apply s_value (by first | rfl | go_simp) (v := ?_); focus (go_simp; exact rfl)); (apply s_at; focus (go_simp; exact rfl)))
        (apply s_value (by first | rfl | go_simp) (v := ?_); focus (go_simp; exact rfl))
        (apply s_at; focus (go_simp; exact rfl))
        refine wpStill_nil ?_
        go_wp2
        go_ret
        refine ⟨rfl, .slice (some ⟨g, 0, none⟩) z cap, ?_, (U3.trans (u5 _)).setCell (p := ⟨p, 21, none⟩) (fun _ => rfl) _, fun k hk => by cases hk; exact hgw⟩
        rw [hst]
        exact IsLog.newBytes L5.hp L5 (((O3.keep (u5 (fun _ => False)) (fun _ _ => id)).take (by omega)).mono (by omega))
end Go.Proofs.Ytggepeepjaoibaa

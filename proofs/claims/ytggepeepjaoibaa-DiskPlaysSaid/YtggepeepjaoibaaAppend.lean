/- Log.Append and Clear. -/
import Derived.Test.YtggepeepjaoibaaBecome
namespace Go.Proofs.Ytggepeepjaoibaa
open Go.RowKit
set_option linter.unusedVariables false

/-- an operation by a law of the walk -/
theorem o_of_list {P : Program} {ops : Array Oper} {K : Act → World → Prop} {Q : Exit → Act → World → Prop} {o : Oper} {a : Act} {w : World} (hw : Region.wanted o (yielded ops a.tmps) = true)
    (h : wpList P ops (fun e a w => e = .normal ∧ K a w) [o] a w) : o.wp P a w K Q := by
  unfold wpList at h
  rw [if_pos hw] at h
  rcases h with h | ⟨_, _, _, h, _⟩
  · unfold Oper.wp at *
    generalize (execOp a.eval o).run P w = r at *
    cases r with
    | ok n w' =>
      cases n <;> simp only [Oper.upon] at h ⊢
      case value v => exact h.2
      case skip => exact h.2
      case defer d => exact h.2
      case enter f args =>
        refine h.mono ?_
        intro e w2 h2
        cases e with
        | returned v => exact h2.2
        | panicked c => cases h2.1
        | outgrown => obtain ⟨_, _, h3, _⟩ := h2; cases h3
      case row r args => exact Rows.mono h fun v w' hr => hr.2
    | halt x w' =>
      cases x <;> simp only [Oper.upon] at h ⊢ <;> first | exact h.elim | (cases h.1)
  · cases h

attribute [local irreducible] wpStill wpReads
set_option maxRecDepth 100000 in
set_option maxHeartbeats 2000000 in
theorem append_calls {w : World} {p : Nat} {L : LogG} {D : DiskG} (h : IsLog w p L) (hD : IsDisk w L.d D) (hsep : ∀ k, lp p L k → ¬ fp L.d D k) {vb : Value} {ys note : List UInt8} (hv : IsBytes w vb ys)
    (ho : L.over = false) (hs : L.s < 4611686018427387904) (hn : note.length = 16) (hroom : L.xs.length + ys.length ≤ L.most) {N : Nat} (hN : L.xs.length + ys.length ≤ 64 * (L.xs.length / 64 + N)) :
    Calls Try.prog 13 #[.pointer (some ⟨p, 0, none⟩), vb, .agg (bvs note)] w fun e w' => ∃ v', e = .returned (.int .i64 (if (becomeF D L (L.xs ++ ys) note true N).2 = 0 then 0 else 5)) ∧ IsDisk w' L.d (becomeF D L (L.xs ++ ys) note true N).1 ∧
      IsLog w' p (nextL L (becomeF D L (L.xs ++ ys) note true N).2 v' (L.xs ++ ys) note) ∧ Upd (fun k => k = p ∨ fp L.d D k) w w' ∧ (∀ k, v'.ownBlock = some k → w.heap.size ≤ k) := by
  have hlt := hD.lt
  have hltp := h.lt
  have hmm := h.hm
  obtain ⟨va, vcap, rfl, v1, v2, _⟩ := id hv.at_
  obtain ⟨R, hR⟩ : ∃ R, becomeF D L (L.xs ++ ys) note true N = R := ⟨_, rfl⟩
  rw [hR]
  have HRR := Lib.hid hR
  clear hR
  obtain ⟨c, hc⟩ : ∃ c : Int, (if R.2 = 0 then (0 : Int) else 5) = c := ⟨_, rfl⟩
  rw [hc]
  have HC := Lib.hid hc
  clear hc
  have c22 := h.c22
  have c3 := h.c3
  rw [ho] at c22
  have t1 : decide ((4611686018427387904 : Int) ≤ (L.s : Int)) = false := decide_eq_false (by omega)
  have t2 : decide ((L.most : Int) - (L.xs.length : Int) < (ys.length : Int)) = false := decide_eq_false (by omega)
  go_enter Try.func13, Try.ntmps13
  go_wp2_with (first
    | (guard_target =~ wpList _ _ _ (Oper.mk _ (Op.box 32 _) _ _ _ _ :: _) _ _; go_must (refine wpList_box_new rfl 32 _ rfl rfl ?_); intro g1 w1 hg1 x1 z1 u1; have Y1 := Lib.hid x1; have G1 := Lib.hid hg1; clear x1 z1 hg1; have h1 := h.quiet u1; have d22 := h1.c22; rw [ho] at d22; have d3 := h1.c3)
    | (go_at_call 24; go_must (refine (room_calls h1).mono ?_); rintro e w2 ⟨rfl, u2⟩))
  have h2 := h1.quiet u2
  have U2 := u1.trans u2
  have D2 := hD.keep U2 id id id
  have b2 := hv.keep U2 (fun _ _ _ => id)
  have Y2 : w2.heap[g1]? = some (.cells (bvs note) 32 (0, 0)) := u2.heap Y1.out id
  have z2 := U2.size
  have hg1w : w.heap.size ≤ g1 := Nat.le_of_eq G1.out.symm
  have hlw2 : g1 < w2.heap.size := lt_of_heap Y2
  clear c22 c3 t1 t2 d22 d3
  refine region_order 2 6 (by kernel_rfl) (by kernel_rfl) rfl (by kernel_rfl) (fun x => x.heap[g1]? = some (.cells (bvs note) 32 (0, 0))) Y2 ?_
  simp only [List.take_succ_cons, List.take_zero]
  iterate 2 ((apply r_value (by first | rfl | go_simp) (v := ?_); focus (intro _ _; go_simp; try exact rfl)); (apply r_at; focus (go_simp; exact rfl)))
  refine r_nil ?_
  have u3 : Upd (fun _ => False) w2 { w2 with drawn := w2.drawn + 1 } := (Upd.refl _ w2).drew
  generalize ({ w2 with drawn := w2.drawn + 1 } : World) = w3 at u3
  have Y3 := u3.heap Y2 id
  refine o_reads (n := 0) (f := 5) (k := 3) (l := [_]) (fun _ _ _ h => h.1) (by kernel_rfl) (fun x => x.heap[g1]? = some (.cells (bvs note) 32 (0, 0))) (fun _ h => h) Y3 (fun j hj => by have : j = 0 := (by simpa using hj); subst this; rfl) (by kernel_rfl) ?_
  (apply r_value (by first | rfl | go_simp) (v := ?_); focus (intro _ _; go_simp; try exact rfl)); (apply r_at; focus (go_simp; exact rfl))
  refine r_nil ?_
  refine o_reads (n := 0) (f := 4) (k := 5) (l := [_]) (fun _ _ _ h => h.1) (by kernel_rfl) (fun x => x.heap[g1]? = some (.cells (bvs note) 32 (0, 0))) (fun _ h => h) Y3 (fun j hj => by have : j = 0 := (by simpa using hj); subst this; rfl) (by kernel_rfl) ?_
  refine r_value rfl (v := .agg (bvs note)) (fun x hx => run_op_load_agg 32 _ rfl rfl _ Try.isAgg37 (by rw [Try.size37, size_bvs, hn]) (agg_heap hx)) ?_
  (apply r_at; focus (go_simp; exact rfl))
  refine r_nil ?_
  have h3 := h2.quiet u3
  have hlx : L.xs.length ≤ 140737488355328 := by omega
  have z3 : w.heap.size ≤ w3.heap.size := Nat.le_trans z2 u3.size
  have hg13 : g1 < w3.heap.size := lt_of_heap Y3
  refine o_one 2 (by kernel_rfl) rfl rfl ?_
  refine mid_call 15 #[.pointer (some ⟨p, 0, none⟩)] (by go_simp) ((bytes_calls h3 hlx).mono ?_)
  rintro e w4 ⟨v4, rfl, o4, u4⟩
  refine ⟨_, rfl, u4.heap Y3 id, ?_⟩
  (apply o_at; focus (go_simp; exact rfl))
  have U4 := (U2.trans u3).trans u4
  have b4 := hv.keep U4 (fun _ _ _ => id)
  refine o_one 4 (by kernel_rfl) rfl rfl ?_
  refine o_of_list (ops := #[]) rfl (wpList_append_bytes w3.heap.size o4 b4 rfl _ _ rfl rfl rfl u4.size (by omega) ?_)
  intro v5 w5 o5 g5
  have U5 : Upd (fun _ => False) w w5 := g5 _ _ U4 z3
  have Y5 : w5.heap[g1]? = some (.cells (bvs note) 32 (0, 0)) := (g5.heap u4.size hg13).trans (u4.heap Y3 id)
  have h5 := h.quiet U5
  have D5 := hD.keep U5 id id id
  have hvs : ∀ k, v5.ownBlock = some k → ¬ fp L.d D k := fun k hk hf => by
    have := o5.base_le k hk
    rcases hf with hf | hf | hf <;> omega
  have become := become_calls h5 D5 hsep (o5.mono (by omega)) hvs (by omega) hn (by rw [List.length_append]; omega) true (N := N) (fun _ => by rw [List.length_append]; exact ⟨by omega, hN⟩)
  rw [HRR.out, HC.out] at become
  have v5k : ∀ k, v5.ownBlock = some k → w.heap.size ≤ k := fun k hk => by have := o5.base_le k hk; omega
  obtain ⟨a5, c5, rfl, _⟩ := o5.bytes.at_
  refine ⟨rfl, Y5, ?_⟩
  (apply o_at; focus (go_simp; exact rfl))
  refine o_one 6 (by kernel_rfl) rfl rfl ?_
  refine mid_call 46 #[.pointer (some ⟨p, 0, none⟩), .slice a5 (L.xs ++ ys).length c5, .agg (bvs note), .bool true] (by go_simp) (become.mono ?_)
  rintro e w6 ⟨rfl, D6, L6, u6⟩
  have Y6 : w6.heap[g1]? = some (.cells (bvs note) 32 (0, 0)) := u6.heap Y5 (by rintro (hf | hf | hf | hf) <;> omega)
  refine ⟨_, rfl, Y6, ?_⟩
  (apply o_at; focus (go_simp; exact rfl))
  refine o_one 7 (by kernel_rfl) rfl rfl ?_
  refine o_value (v := .int .i64 c) (w' := w6) (by go_simp) ?_
  refine ⟨Y6, ?_⟩
  (apply o_at; focus (go_simp; exact rfl))
  refine o_end (by kernel_rfl) ?_
  go_wp2
  go_ret
  exact ⟨_, rfl, D6, L6, (U5.mono (fun _ _ hk => hk.elim)).trans u6, v5k⟩
end Go.Proofs.Ytggepeepjaoibaa

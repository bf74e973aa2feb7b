/- Log.turn. -/
import Derived.Test.YtggepeepjaoibaaLog3
import Derived.ArgAppend
namespace Go.Proofs.Ytggepeepjaoibaa
open Go.RowKit
set_option linter.unusedVariables false

/-- append onto a full slice of bytes, whoever's it is -/
theorem o_append_grows {K : Act → World → Prop} {Q : Exit → Act → World → Prop} {o : Oper} {a : Act} {w : World} (s x : Operand) (ho : o.op = .call { callee := .builtin .append, args := #[s, x], argTypes := #[26, 26] })
    {b off n cap b2 off2 m c : Nat} {xs ys : List UInt8} (hs : a.eval s = .slice (some ⟨b, off, none⟩) n cap) (hx : a.eval x = .slice (some ⟨b2, off2, none⟩) m c)
    (hn : xs.length = n) (hm : ys.length = m) (hcx : ∀ j, j < xs.length → w.cell? ⟨b, off + j, none⟩ = some (bv (xs.getD j 0))) (hcy : ∀ j, j < ys.length → w.cell? ⟨b2, off2 + j, none⟩ = some (bv (ys.getD j 0)))
    (hfull : cap < n + m) (hl : n + m ≤ 140737488355328)
    (h : ∀ v' w', OwnB w' w.heap.size v' (xs ++ ys) → Upd (fun _ => False) w w' → K (a.put o.dst v') w') : o.wp Try.prog a w K Q := by
  obtain ⟨i0, hi, hz0, hz1, hz2⟩ := info_parts Try.info5b
  obtain ⟨v', w', hr, h1, h2⟩ := run_append_arg_grows (P := Try.prog) w 26 o.type 5 i0 (.int .u8 0) 1 1 Try.underlying26 hi hz0 hz1 hz2 rfl (by decide) ⟨b, off, none⟩ n cap (xs.map bv) (by simp [hn]) (cells_of hcx) ⟨b2, off2, none⟩ m c (ys.map bv) (by simp [hm]) (cells_of hcy) hfull (by unfold maxLen; omega) (by omega)
  refine o_value (v := v') (w' := w') ?_ (h v' w' ?_ ((Upd.of_grown h2).mono (fun k _ hk => by cases hk)))
  · simp [execOp, ho, resolve, invoke, builtin, hs, hx, hr, Result.andThen]
  · unfold OwnB
    rw [List.length_append, hn, hm, List.map_append]
    exact h1

def halfL (s z : Nat) (n : List UInt8) : List UInt8 := be8 s ++ be8 z ++ n
def turnF (D : DiskG) (f s z : Nat) (n : List UInt8) : DiskG × Int :=
  let r := wr D ((f + s % 2 : Nat) : Int) (halfL s z n ++ halfL s z n)
  if r.2 = 0 then syn r.1 else r

attribute [local irreducible] wpStill wpReads
set_option maxRecDepth 100000 in
set_option maxHeartbeats 2000000 in
theorem turn_calls {w : World} {p : Nat} {L : LogG} {D : DiskG} (h : IsLog w p L) (hD : IsDisk w L.d D) (hsep : ∀ k, lp p L k → ¬ fp L.d D k) {s z : Nat} {n : List UInt8} (hs : s < 18446744073709551616) (hz : z < 18446744073709551616) (hn : n.length = 16) :
    Calls Try.prog 89 #[.pointer (some ⟨p, 0, none⟩), .agg (headA s z n)] w fun e w' => e = .returned (.int .i64 (turnF D L.f s z n).2) ∧ IsDisk w' L.d (turnF D L.f s z n).1 ∧ Upd (fp L.d D) w w' := by
  have hff := h.hf
  have hlt := hD.lt
  have l18 : (headA s z n).size = 18 := by rw [headA_size, hn]
  have lh : (halfL s z n).length = 32 := by simp [halfL, be8_len, hn]
  obtain ⟨X, hX⟩ : ∃ X, halfL s z n = X := ⟨_, rfl⟩
  rw [hX] at lh
  have HX := Lib.hid hX
  clear hX
  go_enter Try.func89, Try.ntmps89
  go_wp2_with (first
    | (guard_target =~ wpList _ _ _ (Oper.mk _ (Op.box 93 _) _ _ _ _ :: _) _ _; go_must (refine wpList_box_new rfl 93 _ rfl rfl ?_); intro g1 w1 hg1 x1 z1 u1; have Y1 := Lib.hid x1; have G1 := Lib.hid hg1; clear x1 z1 hg1)
    | (guard_target =~ wpList _ _ _ (Oper.mk _ (Op.load 93 _) _ _ _ _ :: _) _ _; go_must (refine wpList_value rfl (run_op_load_agg 93 _ rfl rfl (headA s z n) Try.isAgg102 (by rw [Try.size102, l18]) (agg_heap Y1.out)) ?_))
    | (go_at_call 116; go_must (refine (half_calls hs hz hn).mono ?_); rintro e w2 ⟨rfl, u2⟩; rw [show be8 s ++ be8 z ++ n = X from HX.out])
    | (guard_target =~ wpList _ _ _ (Oper.mk _ (Op.alloc 142) _ _ _ _ :: _) _ _; go_must (refine wpList_alloc_new rfl 142 rfl _ Try.zero145 ?_); intro g3 w3 hg3 x3 z3 u3; have X3 := Lib.hid x3; have G3 := Lib.hid hg3; clear x3 hg3 z3)
    | (guard_target =~ wpList _ _ _ (Oper.mk _ (Op.store 142 _ _) _ _ _ _ :: _) _ _; go_must (refine wpList_store_agg rfl 142 _ _ rfl rfl rfl (by rw [Try.size145, size_bvs, lh]) Try.some145 (bvs (zeros 32)) 142 X3.out (by (rw [size_bvs, lh]; decide)) (one_bvs _) ?_); intro w4 x4 u4; have X4 := Lib.hid x4; clear x4))
  have X4 : w4.heap[g3]? = some (.cells (bvs X) 142 (0, 0)) := by
    rw [X4.out, bvs_toList, bvs_toList, splice_map, splice_all _ _ (by rw [lh]; simp [zeros])]; rfl
  have u34 : Upd (fun _ => False) w2 w4 := u3.then u4 (fun i hi e => absurd hi (by rw [e, G3.out]; exact Nat.lt_irrefl _))
  have U4 : Upd (fun _ => False) w w4 := (u1.trans u2).trans u34
  have L4 := h.quiet U4
  have D4 := hD.keep U4 id id id
  have A1 := u34.heap (u2.heap Y1.out id) id
  have kd := fun x (hx : Upd (fp L.d D) w4 x) => (L4.keep hx hsep).c0
  have kf := fun x (hx : Upd (fp L.d D) w4 x) => (L4.keep hx hsep).c1
  have ks : ∀ x, Upd (fp L.d D) w4 x → x.cell? ⟨g1, 0, none⟩ = some (.int .u64 (s : Int)) := fun x hx => cell_headA0 (hx.heap A1 (fun hf => by have := G1.out; rcases hf with hf | hf | hf <;> omega))
  obtain ⟨q, hq⟩ : ∃ q, s % 2 = q := ⟨_, rfl⟩
  have hq2 : q < 2 := by omega
  have ht : (s : Int).tmod 2 = (q : Int) := by rw [← hq]; rfl
  have hw1 : IntKind.i64.wrap (q : Int) = (q : Int) := IntWalk.i64_in _ (by omega)
  have hw2 : IntKind.i64.wrap ((L.f : Int) + (q : Int)) = (L.f : Int) + (q : Int) := IntWalk.i64_in _ (by omega)
  have T : turnF D L.f s z n = if (wr D ((L.f : Int) + (q : Int)) (X ++ X)).2 = 0 then syn (wr D ((L.f : Int) + (q : Int)) (X ++ X)).1 else wr D ((L.f : Int) + (q : Int)) (X ++ X) := by
    simp only [turnF, hq, HX.out]; rfl
  have HT := Lib.hid T
  clear T hq
  refine region_order 15 3 (by kernel_rfl) (by kernel_rfl) rfl (by kernel_rfl) (fun x => Upd (fp L.d D) w4 x) ((Upd.refl _ w4).drew) ?_
  simp only [List.take_succ_cons, List.take_zero]
  iterate 3 ((apply r_value (by first | rfl | go_simp) (v := ?_); focus (intro _ _; go_simp; try exact rfl)); (apply r_at; focus (go_simp; exact rfl)))
  refine r_load rfl 24 (.tmp 11) rfl (fun w => by go_simp) ⟨p, 0, none⟩ rfl _ kd ?_; (apply r_at; focus (go_simp; exact rfl))
  iterate 3 ((apply r_value (by first | rfl | go_simp) (v := ?_); focus (intro _ _; go_simp; try exact rfl)); (apply r_at; focus (go_simp; exact rfl)))
  refine r_load rfl 3 (.tmp 15) rfl (fun w => by go_simp) ⟨p, 1, none⟩ rfl _ kf ?_; (apply r_at; focus (go_simp; exact rfl))
  (apply r_value (by first | rfl | go_simp) (v := ?_); focus (intro _ _; go_simp; try exact rfl)); (apply r_at; focus (go_simp; exact rfl))
  refine r_load rfl 35 (.tmp 17) rfl (fun w => by go_simp) ⟨g1, 0, none⟩ rfl _ ks ?_; (apply r_at; focus (go_simp; exact rfl))
  (apply r_value (by first | rfl | go_simp) (v := ?_); focus (intro _ _; go_simp; try exact rfl)); (apply r_at; focus (go_simp; exact rfl))
  (apply r_value (by first | rfl | go_simp) (v := ?_); focus (intro _ _; go_simp; try exact rfl)); (apply r_at; focus (go_simp; exact rfl))
  (apply r_value (by first | rfl | go_simp) (v := ?_); focus (intro _ _; go_simp; try exact rfl)); (apply r_at; focus (go_simp; exact rfl))
  refine r_value rfl (v := .slice (some ⟨g3, 0, none⟩) 32 32) (fun x hx => run_op_slice_all 142 5 32 _ rfl Try.underlying142 (by kernel_rfl) (off := 0) rfl) ?_
  (apply r_at; focus (go_simp; exact rfl))
  refine r_value rfl (v := .slice (some ⟨g3, 0, none⟩) 32 32) (fun x hx => run_op_slice_all 142 5 32 _ rfl Try.underlying142 (by kernel_rfl) (off := 0) rfl) ?_
  (apply r_at; focus (go_simp; exact rfl))
  refine r_nil ?_
  clear kd kf ks
  have u5 : Upd (fun _ => False) w4 { w4 with drawn := w4.drawn + 1 } := (Upd.refl _ w4).drew
  generalize ({ w4 with drawn := w4.drawn + 1 } : World) = w5 at u5
  have X5 := u5.heap X4 id
  have L5 := L4.quiet u5
  have D5 := D4.keep u5 id id id
  have cX : ∀ j, j < X.length → w5.cell? ⟨g3, 0 + j, none⟩ = some (bv (X.getD j 0)) := fun j hj => by rw [Nat.zero_add]; exact cell_bvs X5 hj
  refine o_one 15 (by kernel_rfl) rfl rfl ?_
  refine o_append_grows _ _ rfl rfl rfl lh lh cX cX (by omega) (by omega) ?_
  intro v6 w6 o6 u6
  have u46 : Upd (fun _ => False) w4 w6 := u5.trans u6
  refine ⟨u46.mono (fun _ _ hk => hk.elim), ?_⟩
  have D6 := D5.keep u6 id id id
  obtain ⟨g6, c6, rfl, g61, g62⟩ := o6.formN (show (X ++ X).length = 64 by simp [lh]) (by omega)
  (apply o_at; focus (go_simp; exact rfl))
  refine o_one 16 (by kernel_rfl) rfl rfl ?_
  have lt5 := D5.lt
  refine mid_call 18 #[.pointer (some ⟨L.d, 0, none⟩), .int .i64 ((L.f : Int) + (q : Int)), .slice (some ⟨g6, 0, none⟩) 64 c6] (by go_simp) ((write_calls D6 ((L.f : Int) + (q : Int)) o6.bytes (fun _ => o6.blocks lt5.1 lt5.2.1 lt5.2.2)).mono ?_)
  obtain ⟨⟨E, e⟩, hW⟩ : ∃ r, wr D ((L.f : Int) + (q : Int)) (X ++ X) = r := ⟨_, rfl⟩
  have hT := HT.out
  rw [hW] at hT ⊢
  have hlk := wr_like D ((L.f : Int) + (q : Int)) (X ++ X)
  rw [hW] at hlk
  rintro e' w7 ⟨rfl, D7, u7⟩
  refine ⟨_, rfl, u46.mono (fun _ _ hk => hk.elim) |>.trans u7, ?_⟩
  (apply o_at; focus (go_simp; exact rfl))
  refine o_one 17 (by kernel_rfl) rfl rfl ?_
  have U7 : Upd (fp L.d D) w w7 := (U4.trans u46).mono (fun _ _ hk => hk.elim) |>.trans u7
  refine o_value (v := .int .i64 e) (w' := w7) (by go_simp) ?_
  refine ⟨u46.mono (fun _ _ hk => hk.elim) |>.trans u7, ?_⟩
  (apply o_at; focus (go_simp; exact rfl))
  refine o_end (by kernel_rfl) ?_
  have c0 := ((L4.quiet u46).keep u7 hsep).c0
  by_cases he : e = 0
  · subst he
    rw [if_pos rfl] at hT
    go_wp2_with (go_at_call 79; go_must (refine (sync_calls D7).mono ?_); rintro e w8 ⟨rfl, D8, u8⟩)
    go_ret
    rw [hT]
    exact ⟨rfl, D8, U7.trans (by rw [hlk.fp] at u8; exact u8)⟩
  · have he' : (e == 0) = false := by rw [beq_eq_false_iff_ne]; exact he
    rw [if_neg he] at hT
    have HT2 := Lib.hid hT
    clear hT
    go_wp2
    go_ret
    rw [HT2.out]
    exact ⟨rfl, D7, U7⟩
end Go.Proofs.Ytggepeepjaoibaa

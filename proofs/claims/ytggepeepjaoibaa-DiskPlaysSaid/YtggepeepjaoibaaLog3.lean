/- The small methods of a log, and turn. -/
import Derived.Test.YtggepeepjaoibaaOpen8
namespace Go.Proofs.Ytggepeepjaoibaa
open Go.RowKit
set_option linter.unusedVariables false

theorem serial_calls {w : World} {p : Nat} {L : LogG} (h : IsLog w p L) : Calls Try.prog 16 #[.pointer (some ⟨p, 0, none⟩)] w fun e w' => e = .returned (.int .u64 (L.s : Int)) ∧ w = w' := by
  have c3 := h.c3
  go_enter Try.func16, Try.ntmps16
  go_wp2
  go_ret
  exact ⟨rfl, rfl⟩
theorem over_calls {w : World} {p : Nat} {L : LogG} (h : IsLog w p L) : Calls Try.prog 25 #[.pointer (some ⟨p, 0, none⟩)] w fun e w' => e = .returned (.bool L.over) ∧ w = w' := by
  have c22 := h.c22
  go_enter Try.func25, Try.ntmps25
  go_wp2
  go_ret
  exact ⟨rfl, rfl⟩
theorem bytes_calls {w : World} {p : Nat} {L : LogG} (h : IsLog w p L) (hl : L.xs.length ≤ 140737488355328) : Calls Try.prog 15 #[.pointer (some ⟨p, 0, none⟩)] w fun e w' => ∃ v', e = .returned v' ∧ OwnB w' w.heap.size v' L.xs ∧ Upd (fun _ => False) w w' := by
  have c21 := h.c21
  have hb := h.hv.bytes
  obtain ⟨a, c, e, _⟩ := id hb.at_
  rw [e] at c21 hb
  go_enter Try.func15, Try.ntmps15
  go_wp2_with (go_at_call 47; go_must (refine (clone_calls hb hl).mono ?_); rintro e w1 ⟨v1, rfl, o1, u1⟩)
  go_ret
  exact ⟨v1, rfl, o1, u1⟩
attribute [local irreducible] wpStill wpReads
theorem room_calls {w : World} {p : Nat} {L : LogG} (h : IsLog w p L) : Calls Try.prog 24 #[.pointer (some ⟨p, 0, none⟩)] w fun e w' => e = .returned (.int .i64 ((L.most : Int) - (L.xs.length : Int))) ∧ Upd (fun _ => False) w w' := by
  have hb := h.hv.bytes
  have hm := h.hm
  have hl := hb.len
  unfold maxLen at hl
  obtain ⟨a, c, e, _⟩ := id hb.at_
  have hw : IntKind.i64.wrap ((L.most : Int) - (L.xs.length : Int)) = (L.most : Int) - (L.xs.length : Int) := IntWalk.i64_in _ (by omega)
  go_enter Try.func24, Try.ntmps24
  go_wp2
  refine region_still (by kernel_rfl) (by kernel_rfl) (fun w1 u1 => ?_)
  have h1 := h.quiet (u1 _)
  have c2 := h1.c2
  have c21 := h1.c21
  rw [e] at c21
  iterate 11 ((apply s_value (by first | rfl | go_simp) (v := ?_); focus (go_simp; exact rfl)); (apply s_at; focus (go_simp; exact rfl)))
  refine wpStill_nil ?_
  go_wp2
  go_ret
  exact ⟨rfl, u1 _⟩
set_option maxRecDepth 100000 in
theorem note_log_calls {w : World} {p : Nat} {L : LogG} (h : IsLog w p L) : Calls Try.prog 17 #[.pointer (some ⟨p, 0, none⟩)] w fun e w' => e = .returned (.agg (bvs L.n)) ∧ Upd (fun _ => False) w w' := by
  have hz : (Try.prog.info? 32).bind (·.zero) = some (.agg (bvs (zeros 16))) := by kernel_rfl
  have hn := h.hn
  go_enter Try.func17, Try.ntmps17
  go_wp2_with (first
    | (guard_target =~ wpList _ _ _ (Oper.mk _ (Op.alloc 32) _ _ _ _ :: _) _ _; go_must (refine wpList_alloc_new rfl 32 rfl _ hz ?_); intro g1 w1 hg1 x1 z1 u1; have X1 := Lib.hid x1; have G1 := Lib.hid hg1; clear x1 hg1 z1; have h1 := h.quiet u1)
    | (guard_target =~ wpList _ _ _ (Oper.mk _ (Op.load 32 _) _ _ _ _ :: _) _ _; go_must (refine wpList_value rfl (run_op_load_agg 32 _ rfl rfl (bvs L.n) Try.isAgg37 (by rw [Try.size37, size_bvs, hn]) h1.note) ?_))
    | (guard_target =~ wpList _ _ _ (Oper.mk _ (Op.store 32 _ _) _ _ _ _ :: _) _ _; go_must (refine wpList_store_agg rfl 32 _ _ rfl rfl rfl (by rw [Try.size37, size_bvs, hn]) (by kernel_rfl) _ 32 X1.out (by (rw [size_bvs, hn]; decide)) (one_bvs _) ?_); intro w2 x2 u2; have X2 := Lib.hid x2; clear x2))
  have x3 : w2.heap[g1]? = some (.cells (bvs L.n) 32 (0, 0)) := by
    rw [X2.out]
    have e : splice (Value.agg (bvs (zeros 16))).cells.toList 0 (bvs L.n).toList = (bvs L.n).toList := splice_all _ _ (by
      show (bvs (zeros 16)).toList.length = _
      rw [Array.length_toList, Array.length_toList, size_bvs, size_bvs, hn]; rfl)
    rw [e]
  exact bodyPost_ret (results_cell_row rfl _ _ g1 _ (bvs L.n) (0, 0) _ rfl x3 Try.underlying32 rfl (by rw [size_bvs, hn]; kernel_rfl)) rfl ⟨rfl, u1.then u2 (fun i hi e => absurd hi (by rw [e, G1.out]; exact Nat.lt_irrefl _))⟩
end Go.Proofs.Ytggepeepjaoibaa

/- disk.torn. -/
import Derived.Test.YtggepeepjaoibaaKeys
import Derived.Test.YtggepeepjaoibaaFull
namespace Go.Proofs.Ytggepeepjaoibaa
open Go.RowKit
set_option linter.unusedVariables false

def tornN (k : UInt8) : Nat := min (k.toNat % 128) 64
/-- a sector of which some bytes stay -/
def tornL (was now : List UInt8) (k : UInt8) : List UInt8 :=
  if k.toNat < 128 then now.take (tornN k) ++ was.drop (tornN k) else was.take (64 - tornN k) ++ now.drop (64 - tornN k)
theorem torn_len {was now : List UInt8} (k : UInt8) (h1 : was.length = 64) (h2 : now.length = 64) : (tornL was now k).length = 64 := by
  unfold tornL tornN
  split <;> simp <;> omega

set_option maxRecDepth 100000 in
set_option maxHeartbeats 1000000 in
theorem torn_calls {w : World} {was now : List UInt8} (k : UInt8) (h1 : was.length = 64) (h2 : now.length = 64) :
    Calls Try.prog 86 #[.agg (bvs was), .agg (bvs now), .int .u8 (k.toNat : Int)] w fun e w' => e = .returned (.agg (bvs (tornL was now k))) ∧ Upd (fun _ => False) w w' := by
  have hk := k.toNat_lt
  have hn : min ((k.toNat : Int) % 128) 64 = ((tornN k : Nat) : Int) := by unfold tornN; omega
  have hl : tornN k ≤ 64 := by unfold tornN; omega
  have hA3 := alloc3 w (.cells (bvs was) 102) (.cells (bvs now) 102) (.cells (bvs (zeros 64)) 102)
  obtain ⟨hx, hy, hz⟩ := hA3
  have HX := Lib.hid hx; have HY := Lib.hid hy; have HZ := Lib.hid hz
  clear hx hy hz
  have HT := Lib.hid (show tornL was now k = if k.toNat < 128 then now.take (tornN k) ++ was.drop (tornN k) else was.take (64 - tornN k) ++ now.drop (64 - tornN k) from rfl)
  generalize tornN k = n at hn hl HT
  by_cases hA : k.toNat < 128
  · rw [if_pos hA] at HT
    go_enter Try.func86, Try.ntmps86
    go_wp2_with (guard_target =~ wpList _ _ _ (Oper.mk _ (Op.alloc 102) _ _ _ _ :: _) _ _; go_must (refine wpList_value rfl (run_op_alloc 102 rfl _ Try.zero98) ?_))
    refine region_still_tail 4 (by kernel_rfl) (by kernel_rfl) (fun w3 u3 => ?_); simp only [List.take_succ_cons, List.take_zero, List.drop_succ_cons, List.drop_zero]
    iterate 1 still_step
    refine wpStill_value rfl (run_op_slice_hi 102 5 64 _ _ rfl Try.underlying102 (by kernel_rfl) rfl rfl hl) ?_
    iterate 1 still_step
    refine wpStill_value rfl (run_op_slice_hi 102 5 64 _ _ rfl Try.underlying102 (by kernel_rfl) rfl rfl hl) ?_
    refine wpStill_nil ?_
    have Y3 := Lib.hid ((u3 (fun _ => False)).heap HY.out id)
    have G3 := Lib.hid ((u3 (fun _ => False)).heap HX.out id)
    have P1 := Lib.hid (show (now.take n).length = Nat.min n n by rw [List.length_take]; show _ = min n n; omega)
    have P2 := Lib.hid (show ∀ j, j < (now.take n).length → w3.cell? ⟨w.heap.size + 1, 0 + j, none⟩ = some (bv ((now.take n).getD j 0)) by
      intro j hj
      rw [List.length_take] at hj
      rw [Nat.zero_add, cell_bvs Y3.out (by omega)]
      have : (now.take n).getD j 0 = now.getD j 0 := by simp only [List.getD_eq_getElem?_getD, List.getElem?_take, if_pos (show j < n by omega)]
      rw [this])
    have P3 := Lib.hid (show 0 + (now.take n).length ≤ was.length by rw [List.length_take]; omega)
    have E4 := Lib.hid (show splice was 0 (now.take n) = tornL was now k by
      rw [HT.out]
      simp only [splice, List.take_zero, List.nil_append, List.length_take]
      congr 2
      omega)
    have l4 := torn_len k h1 h2
    go_wp2_with (first
      | (guard_target =~ wpList _ _ _ (Oper.mk _ (Op.call (Call.mk (Callee.builtin Builtin.copy) _ _)) _ _ _ _ :: _) _ _; go_must (refine wpList_copy_bytes rfl _ _ 26 26 rfl 5 Try.underlying26 (by kernel_rfl) rfl rfl w.heap.size 0 was 102 G3.out (now.take n) P1.out (fun _ => ⟨rfl, _, _, rfl, P2.out⟩) P3.out ?_); intro w4 x4 u4; rw [E4.out] at x4; have X4 := Lib.hid x4; clear x4; have Z4 := Lib.hid (show w4.heap[w.heap.size + 1 + 1]? = some (.cells (bvs (zeros 64)) 102 (0, 0)) from u4.heap ((u3 (fun _ => False)).heap HZ.out id) (by omega)))
      | (guard_target =~ wpList _ _ _ (Oper.mk _ (Op.load 102 _) _ _ _ _ :: _) _ _; go_must (refine wpList_value rfl (run_op_load_agg 102 _ rfl rfl (bvs (tornL was now k)) Try.isAgg98 (by rw [Try.size98, size_bvs, l4]) (agg_bvs X4.out)) ?_))
      | (guard_target =~ wpList _ _ _ (Oper.mk _ (Op.store 102 _ _) _ _ _ _ :: _) _ _; go_must (refine wpList_store_agg rfl 102 _ _ rfl rfl rfl (by rw [Try.size98, size_bvs, l4]) Try.some98 _ 102 Z4.out (by rw [size_bvs, size_bvs, l4]; exact Nat.le_refl _) (one_bvs _) ?_; intro w5 x5 u5; have X5 := Lib.hid x5; clear x5)))
    have x6 : w5.heap[w.heap.size + 1 + 1]? = some (.cells (bvs (tornL was now k)) 102 (0, 0)) := by
      rw [X5.out, bvs_toList, bvs_toList, splice_map]
      have e : splice (zeros 64) 0 (tornL was now k) = tornL was now k := by
        have : (zeros 64).drop (0 + (tornL was now k).length) = [] := List.drop_eq_nil_of_le (by rw [l4]; exact Nat.le_refl _)
        simp only [splice, this, List.append_nil, List.take_zero, List.nil_append]
      rw [e]; rfl
    have hsz : (Try.prog.info? 102).map (·.size) = some (bvs (tornL was now k)).size := by
      rw [size_bvs, l4]; kernel_rfl
    refine bodyPost_ret (results_cell_row rfl _ _ (w.heap.size + 1 + 1) _ (bvs (tornL was now k)) (0, 0) _ rfl x6 Try.underlying102 rfl hsz) rfl ⟨rfl, ?_⟩
    have b0 : Upd (fun _ => False) w (((w.alloc (.cells (bvs was) 102)).alloc (.cells (bvs now) 102)).alloc (.cells (bvs (zeros 64)) 102)) := (((Upd.refl _ _).alloc _).alloc _).alloc _
    exact ((b0.trans (u3 _)).then u4 (fun i hi e => absurd hi (by rw [e]; exact Nat.lt_irrefl _))).then u5 (fun i hi e => absurd hi (by rw [e]; omega))
  · rw [if_neg hA] at HT
    obtain ⟨m, hm⟩ : ∃ m, m = 64 - n := ⟨_, rfl⟩
    rw [← hm] at HT
    have hm64 : m ≤ 64 := by omega
    have w64 : IntKind.i64.wrap (64 - (n : Int)) = (m : Int) := by rw [IntWalk.i64_in _ (by omega)]; omega
    clear hm
    go_enter Try.func86, Try.ntmps86
    go_wp2_with (guard_target =~ wpList _ _ _ (Oper.mk _ (Op.alloc 102) _ _ _ _ :: _) _ _; go_must (refine wpList_value rfl (run_op_alloc 102 rfl _ Try.zero98) ?_))
    refine region_still_tail 6 (by kernel_rfl) (by kernel_rfl) (fun w3 u3 => ?_); simp only [List.take_succ_cons, List.take_zero, List.drop_succ_cons, List.drop_zero]
    iterate 2 still_step
    refine wpStill_value rfl (run_op_slice_lo0 102 5 64 _ _ rfl Try.underlying102 (by kernel_rfl) rfl (n := m) rfl (by omega)) ?_
    iterate 2 still_step
    refine wpStill_value rfl (run_op_slice_lo0 102 5 64 _ _ rfl Try.underlying102 (by kernel_rfl) rfl (n := m) rfl (by omega)) ?_
    refine wpStill_nil ?_
    have Y3 := Lib.hid ((u3 (fun _ => False)).heap HY.out id)
    have G3 := Lib.hid ((u3 (fun _ => False)).heap HX.out id)
    have P1 := Lib.hid (show (now.drop (m)).length = Nat.min (64 - (m)) (64 - (m)) by rw [List.length_drop]; show _ = min _ _; omega)
    have P2 := Lib.hid (show 0 < (now.drop (m)).length → some (Addr.mk w.heap.size (if 64 = m then 0 else m) none) = some ⟨w.heap.size, m, none⟩ ∧ ∃ b2 o2, some (Addr.mk (w.heap.size + 1) (if 64 = m then 0 else m) none) = some ⟨b2, o2, none⟩ ∧ ∀ j, j < (now.drop (m)).length → w3.cell? ⟨b2, o2 + j, none⟩ = some (bv ((now.drop (m)).getD j 0)) by
      intro h0
      rw [List.length_drop] at h0
      rw [if_neg (by omega)]
      refine ⟨rfl, _, _, rfl, fun j hj => ?_⟩
      rw [List.length_drop] at hj
      rw [cell_bvs Y3.out (by omega)]
      have : (now.drop (m)).getD j 0 = now.getD (m + j) 0 := by simp only [List.getD_eq_getElem?_getD, List.getElem?_drop]
      rw [this])
    have P3 := Lib.hid (show m + (now.drop (m)).length ≤ was.length by rw [List.length_drop]; omega)
    have E4 := Lib.hid (show splice was (m) (now.drop (m)) = tornL was now k by
      rw [HT.out]
      have : was.drop (m + (now.drop (m)).length) = [] := List.drop_eq_nil_of_le (by rw [List.length_drop]; omega)
      simp only [splice, this, List.append_nil])
    have l4 := torn_len k h1 h2
    go_wp2_with (first
      | (guard_target =~ wpList _ _ _ (Oper.mk _ (Op.call (Call.mk (Callee.builtin Builtin.copy) _ _)) _ _ _ _ :: _) _ _; go_must (refine wpList_copy_bytes rfl _ _ 26 26 rfl 5 Try.underlying26 (by kernel_rfl) rfl rfl w.heap.size (m) was 102 G3.out (now.drop (m)) P1.out P2.out P3.out ?_); intro w4 x4 u4; rw [E4.out] at x4; have X4 := Lib.hid x4; clear x4; have Z4 := Lib.hid (show w4.heap[w.heap.size + 1 + 1]? = some (.cells (bvs (zeros 64)) 102 (0, 0)) from u4.heap ((u3 (fun _ => False)).heap HZ.out id) (by omega)))
      | (guard_target =~ wpList _ _ _ (Oper.mk _ (Op.load 102 _) _ _ _ _ :: _) _ _; go_must (refine wpList_value rfl (run_op_load_agg 102 _ rfl rfl (bvs (tornL was now k)) Try.isAgg98 (by rw [Try.size98, size_bvs, l4]) (agg_bvs X4.out)) ?_))
      | (guard_target =~ wpList _ _ _ (Oper.mk _ (Op.store 102 _ _) _ _ _ _ :: _) _ _; go_must (refine wpList_store_agg rfl 102 _ _ rfl rfl rfl (by rw [Try.size98, size_bvs, l4]) Try.some98 _ 102 Z4.out (by rw [size_bvs, size_bvs, l4]; exact Nat.le_refl _) (one_bvs _) ?_; intro w5 x5 u5; have X5 := Lib.hid x5; clear x5)))
    all_goals
      have x6 : w5.heap[w.heap.size + 1 + 1]? = some (.cells (bvs (tornL was now k)) 102 (0, 0)) := by
        rw [X5.out, bvs_toList, bvs_toList, splice_map]
        have e : splice (zeros 64) 0 (tornL was now k) = tornL was now k := by
          have : (zeros 64).drop (0 + (tornL was now k).length) = [] := List.drop_eq_nil_of_le (by rw [l4]; exact Nat.le_refl _)
          simp only [splice, this, List.append_nil, List.take_zero, List.nil_append]
        rw [e]; rfl
      have hsz : (Try.prog.info? 102).map (·.size) = some (bvs (tornL was now k)).size := by
        rw [size_bvs, l4]; kernel_rfl
      refine bodyPost_ret (results_cell_row rfl _ _ (w.heap.size + 1 + 1) _ (bvs (tornL was now k)) (0, 0) _ rfl x6 Try.underlying102 rfl hsz) rfl ⟨rfl, ?_⟩
      have b0 : Upd (fun _ => False) w (((w.alloc (.cells (bvs was) 102)).alloc (.cells (bvs now) 102)).alloc (.cells (bvs (zeros 64)) 102)) := (((Upd.refl _ _).alloc _).alloc _).alloc _
      exact ((b0.trans (u3 _)).then u4 (fun i hi e => absurd hi (by rw [e]; exact Nat.lt_irrefl _))).then u5 (fun i hi e => absurd hi (by rw [e]; omega))
end Go.Proofs.Ytggepeepjaoibaa

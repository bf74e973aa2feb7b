/- cells.headOf, head.half. -/
import Derived.Test.YtggepeepjaoibaaBig
import Derived.Test.YtggepeepjaoibaaSteps
import Derived.Test.YtggepeepjaoibaaDisk3
import Derived.Laws.Tables
namespace Go.Proofs.Ytggepeepjaoibaa
open Go.RowKit
set_option linter.unusedVariables false
section
variable {P : Program} {o : Oper} {a : Act} {w : World}
/-- x[l:h] of an array of single cells -/
theorem run_op_slice_lohi (t e : TypeId) (N : Nat) (x y z : Operand) (ho : o.op = .slice t x (some y) (some z) none) (ht : P.underlying t = some (.array N e)) (he : (P.info? e).map (·.size) = some 1)
    {b off : Nat} (hx : a.eval x = .pointer (some ⟨b, off, none⟩)) {n m : Nat} (hy : a.eval y = .int .i64 (n : Int)) (hz : a.eval z = .int .i64 (m : Int)) (hn : n ≤ m) (hm : m ≤ N) (hN : n < N) :
    (execOp a.eval o).run P w = .ok (.value (.slice (some ⟨b, off + n, none⟩) (m - n) (N - n))) w := by
  have h0 : (0 : Int) ≤ (n : Int) ∧ (n : Int) ≤ (m : Int) ∧ (m : Int) ≤ (N : Int) := by omega
  have h1 : ¬ N = n := by omega
  simp [execOp, ho, Instr.sliceAt, run_underlying ht, hx, hy, hz, Instr.sureAddr, Instr.sliceBounds, Instr.sliceBound, asIntOf, h0, hn, hm, run_sizeOf_one e he, h1, add_plain]
theorem run_op_build (t : TypeId) (parts : Array (Nat × Operand)) (ho : o.op = .build t parts) (l : List (Nat × Value)) (hp : (parts.map fun (i, x) => (i, a.eval x)).toList = l) (cells : Array Value) (h : P.built t l = some cells) :
    (execOp a.eval o).run P w = .ok (.value (.agg cells)) w := by
  subst hp
  unfold execOp
  simp only [ho, Sem.run_bind, run_build w t _ cells h, Result.andThen_ok]
  rfl
end
/-- a head's cells -/
def headA (s z : Nat) (n : List UInt8) : Array Value := #[.int .u64 (s : Int), .int .u64 (z : Int)] ++ bvs n
theorem headA_size (s z : Nat) (n : List UInt8) : (headA s z n).size = 2 + n.length := by simp [headA, bvs]; omega
theorem headA_one (s z : Nat) (n : List UInt8) : AllOne (headA s z n) := by
  intro v hv
  simp only [headA, Array.toList_append, List.mem_append] at hv
  rcases hv with hv | hv
  · simp at hv
    rcases hv with rfl | rfl <;> rfl
  · exact one_bvs n v hv
theorem Try.built102' (s z : Nat) (n0 n1 n2 n3 n4 n5 n6 n7 n8 n9 n10 n11 n12 n13 n14 n15 : UInt8) : Try.prog.built 93 [(0, .int .u64 (s : Int)), (1, .int .u64 (z : Int)), (2, .agg (bvs [n0, n1, n2, n3, n4, n5, n6, n7, n8, n9, n10, n11, n12, n13, n14, n15]))] = some (headA s z [n0, n1, n2, n3, n4, n5, n6, n7, n8, n9, n10, n11, n12, n13, n14, n15]) := by kernel_rfl
theorem Try.built102 (s z : Nat) (n : List UInt8) (hn : n.length = 16) : Try.prog.built 93 [(0, .int .u64 (s : Int)), (1, .int .u64 (z : Int)), (2, .agg (bvs n))] = some (headA s z n) := by
  match n, hn with
  | [n0, n1, n2, n3, n4, n5, n6, n7, n8, n9, n10, n11, n12, n13, n14, n15], _ => exact Try.built102' ..
theorem Try.zero102 : (Try.prog.info? 93).bind (·.zero) = some (.agg (headA 0 0 (zeros 16))) := by kernel_rfl
theorem Try.size102 : aggSize Try.prog 93 = 18 := by kernel_rfl
theorem Try.isAgg102 : isAggB Try.prog 93 = true := by kernel_rfl
theorem Try.some102 : (Try.prog.info? 93).isSome = true := by kernel_rfl
theorem Try.size37 : aggSize Try.prog 32 = 16 := by kernel_rfl
theorem Try.isAgg37 : isAggB Try.prog 32 = true := by kernel_rfl
/-- a part of a block of bytes -/
theorem part_bytes {w : World} {b off n cap : Nat} {L : List UInt8} {t : TypeId} {fr : Nat × Nat} (hb : w.heap[b]? = some (.cells (bvs L) t fr)) (h : off + n ≤ L.length) (hc : n ≤ cap) (hm : cap ≤ maxLen) : IsBytes w (.slice (some ⟨b, off, none⟩) n cap) ((L.drop off).take n) := by
  have hl : ((L.drop off).take n).length = n := by simp; omega
  refine ⟨some ⟨b, off, none⟩, cap, by rw [hl], by rw [hl]; exact hc, hm, fun e => (by cases e), ?_⟩
  right
  refine ⟨b, off, rfl, fun j hj => ?_⟩
  rw [hl] at hj
  rw [cell_bvs hb (by omega)]
  have : ((L.drop off).take n).getD j 0 = L.getD (off + j) 0 := by simp only [List.getD_eq_getElem?_getD, List.getElem?_take, if_pos hj, List.getElem?_drop]
  rw [this]
theorem part_agg {w : World} {b off n : Nat} {L : List UInt8} {t : TypeId} {fr : Nat × Nat} (hb : w.heap[b]? = some (.cells (bvs L) t fr)) (h : off + n ≤ L.length) : AggIs w b off (bvs ((L.drop off).take n)) := by
  have hl : ((L.drop off).take n).length = n := by simp; omega
  intro j v hv
  simp only [bvs, List.getElem?_toArray, List.getElem?_map] at hv
  by_cases hj : j < n
  · rw [cell_bvs hb (by omega)]
    simp only [List.getElem?_take, if_pos hj, List.getElem?_drop, List.getElem?_eq_getElem (show off + j < L.length by omega), Option.map_some] at hv
    simpa [List.getElem?_eq_getElem (show off + j < L.length by omega)] using hv
  · rw [List.getElem?_eq_none (by omega)] at hv
    cases hv

set_option maxRecDepth 100000 in
set_option maxHeartbeats 1000000 in
theorem headOf_calls {w : World} {L : List UInt8} (hL : L.length = 32) :
    Calls Try.prog 87 #[.agg (bvs L)] w fun e w' => e = .returned (.agg (headA (num (L.take 8)) (num ((L.drop 8).take 8)) (L.drop 16))) ∧ Upd (fun _ => False) w w' := by
  go_enter Try.func87, Try.ntmps87
  go_wp2_with (guard_target =~ wpList _ _ _ (Oper.mk _ (Op.alloc 93) _ _ _ _ :: _) _ _; go_must (refine wpList_value rfl (run_op_alloc 93 rfl _ Try.zero102) ?_))
  obtain ⟨w1, hw1⟩ : ∃ w1, w1 = (w.alloc (.cells (bvs L) 142)).alloc (.cells (headA 0 0 (zeros 16)) 93) := ⟨_, rfl⟩
  have hb : w1.heap[w.heap.size]? = some (.cells (bvs L) 142 (0, 0)) := by rw [hw1]; exact ((Upd.refl (fun _ => False) _).alloc _).heap (heap_alloc_new w _) id
  have hb2 : w1.heap[w.heap.size + 1]? = some (.cells (headA 0 0 (zeros 16)) 93 (0, 0)) := by rw [hw1]; have := heap_alloc_new (w.alloc (.cells (bvs L) 142)) (.cells (headA 0 0 (zeros 16)) 93); simpa using this
  have hu1 : Upd (fun _ => False) w w1 := by rw [hw1]; exact ((Upd.refl _ _).alloc _).alloc _
  have hsz : (w.alloc (.cells (bvs L) 142)).heap.size = w.heap.size + 1 := by simp
  rw [hsz]
  change Code.wp _ _ _ _ ((w.alloc (.cells (bvs L) 142)).alloc (.cells (headA 0 0 (zeros 16)) 93))
  rw [← hw1]
  clear hw1 hsz
  have kb := fun x (hx : Upd (fun _ => False) w1 x) => hx.heap hb id
  have c1 : ∀ x, Upd (fun _ => False) w1 x → Calls Try.prog 115 #[.slice (some ⟨w.heap.size, 0, none⟩) 8 32] x fun e w' => e = .returned (.int .u64 (num (L.take 8) : Int)) ∧ Upd (fun _ => False) w1 w' := fun x hx =>
    (big_calls (w := x) (v := .slice (some ⟨w.heap.size, 0, none⟩) 8 32) (xs := L.take 8) (by have := part_bytes (off := 0) (n := 8) (cap := 32) (kb x hx) (by omega) (by omega) (by decide); rwa [List.drop_zero] at this) (by simp; omega)).mono (fun e w' h => ⟨h.1, h.2 ▸ hx⟩)
  have c2 : ∀ x, Upd (fun _ => False) w1 x → Calls Try.prog 115 #[.slice (some ⟨w.heap.size, 8, none⟩) 8 24] x fun e w' => e = .returned (.int .u64 (num ((L.drop 8).take 8) : Int)) ∧ Upd (fun _ => False) w1 w' := fun x hx =>
    (big_calls (w := x) (v := .slice (some ⟨w.heap.size, 8, none⟩) 8 24) (xs := (L.drop 8).take 8) (part_bytes (off := 8) (n := 8) (cap := 24) (kb x hx) (by omega) (by omega) (by decide)) (by simp; omega)).mono (fun e w' h => ⟨h.1, h.2 ▸ hx⟩)
  have hl16 : (L.drop 16).length = 16 := by simp; omega
  have ht16 : (L.drop 16).take 16 = L.drop 16 := List.take_of_length_le (by omega)
  have kA := fun x (hx : Upd (fun _ => False) w1 x) => part_agg (off := 16) (n := 16) (kb x hx) (by omega)
  rw [ht16] at kA
  have HB := Lib.hid (Try.built102 (num (L.take 8)) (num ((L.drop 8).take 8)) (L.drop 16) hl16)
  refine region_quiet_tail 8 (by kernel_rfl) (by kernel_rfl) (fun x => Upd (fun _ => False) w1 x) ((Upd.refl _ w1).drew) ?_
  simp only [List.take_succ_cons, List.take_zero, List.drop_succ_cons, List.drop_zero]
  (apply q_at; focus (go_simp; exact rfl))
  refine quiet_value rfl (.slice (some ⟨w.heap.size, 0, none⟩) 8 32) (fun x hx => run_op_slice_hi 142 5 32 _ _ rfl Try.underlying142 (by kernel_rfl) rfl (n := 8) rfl (by omega)) ?_
  (apply q_at; focus (go_simp; exact rfl))
  refine quiet_call rfl _ 115 _ (fun w _ => by go_simp) (fun x hx => c1 x hx) ?_
  (apply q_at; focus (go_simp; exact rfl))
  refine quiet_value rfl (.slice (some ⟨w.heap.size, 8, none⟩) 8 24) (fun x hx => run_op_slice_lohi 142 5 32 _ _ _ rfl Try.underlying142 (by kernel_rfl) (off := 0) rfl (n := 8) (m := 16) rfl rfl (by omega) (by omega) (by omega)) ?_
  (apply q_at; focus (go_simp; exact rfl))
  refine quiet_call rfl _ 115 _ (fun w _ => by go_simp) (fun x hx => c2 x hx) ?_
  (apply q_at; focus (go_simp; exact rfl))
  refine quiet_value rfl (.slice (some ⟨w.heap.size, 16, none⟩) 16 16) (fun x hx => run_op_slice_lo 142 5 32 _ _ rfl Try.underlying142 (by kernel_rfl) (off := 0) rfl (n := 16) rfl (by omega)) ?_
  (apply q_at; focus (go_simp; exact rfl))
  refine quiet_value rfl (.pointer (some ⟨w.heap.size, 16, none⟩)) (fun x hx => run_op_arrayPtr 32 5 16 _ rfl Try.underlying32 rfl (Nat.le_refl _)) ?_
  (apply q_at; focus (go_simp; exact rfl))
  refine quiet_value rfl (.agg (bvs (L.drop 16))) (fun x hx => run_op_load_agg 32 _ rfl rfl _ Try.isAgg37 (by rw [Try.size37, size_bvs, hl16]) (kA x hx)) ?_
  (apply q_at; focus (go_simp; exact rfl))
  refine quiet_value rfl (.agg (headA (num (L.take 8)) (num ((L.drop 8).take 8)) (L.drop 16))) (fun x hx => run_op_build 93 #[(0, .tmp 4), (1, .tmp 6), (2, .tmp 9)] rfl _ (by go_simp) _ HB.out) ?_
  (apply q_at; focus (go_simp; exact rfl))
  intro w3 u3
  have hb3 := u3.heap hb2 id
  have l18 : (headA (num (L.take 8)) (num ((L.drop 8).take 8)) (L.drop 16)).size = 18 := by rw [headA_size, hl16]
  go_wp2_with (guard_target =~ wpList _ _ _ (Oper.mk _ (Op.store 93 _ _) _ _ _ _ :: _) _ _; go_must (refine wpList_store_agg rfl 93 _ _ rfl rfl rfl (by rw [Try.size102, l18]) Try.some102 _ 93 hb3 (by rw [l18]; exact Nat.le_refl _) (headA_one _ _ _) ?_; intro w4 x4 u4; have X4 := Lib.hid x4; clear x4))
  have x5 : w4.heap[w.heap.size + 1]? = some (.cells (headA (num (L.take 8)) (num ((L.drop 8).take 8)) (L.drop 16)) 93 (0, 0)) := by
    rw [X4.out]
    have hd : (headA 0 0 (zeros 16)).toList.drop (0 + (headA (num (L.take 8)) (num ((L.drop 8).take 8)) (L.drop 16)).toList.length) = [] := List.drop_eq_nil_of_le (by rw [Array.length_toList, Array.length_toList, l18]; exact Nat.le_refl _)
    simp only [splice, hd, List.append_nil, List.take_zero, List.nil_append]
  refine bodyPost_ret (results_cell_row rfl _ _ (w.heap.size + 1) _ (headA (num (L.take 8)) (num ((L.drop 8).take 8)) (L.drop 16)) (0, 0) _ rfl x5 Try.underlying93 rfl (by rw [l18]; kernel_rfl)) rfl ⟨rfl, (hu1.trans u3).then u4 (fun i hi e => absurd hi (by rw [e]; omega))⟩

/-- x[:] of an array of single cells -/
theorem run_op_slice_all {P : Program} {o : Oper} {a : Act} {w : World} (t e : TypeId) (N : Nat) (x : Operand) (ho : o.op = .slice t x none none none) (ht : P.underlying t = some (.array N e)) (he : (P.info? e).map (·.size) = some 1)
    {b off : Nat} (hx : a.eval x = .pointer (some ⟨b, off, none⟩)) :
    (execOp a.eval o).run P w = .ok (.value (.slice (some ⟨b, off, none⟩) N N)) w := by
  simp [execOp, ho, Instr.sliceAt, run_underlying ht, hx, Instr.sureAddr, Instr.sliceBounds, run_sizeOf_one e he, Addr.add]
theorem headA_0 (s z : Nat) (n : List UInt8) : (headA s z n)[0]? = some (.int .u64 (s : Int)) := by rw [headA, Array.getElem?_append_left (by simp)]; rfl
theorem headA_1 (s z : Nat) (n : List UInt8) : (headA s z n)[1]? = some (.int .u64 (z : Int)) := by rw [headA, Array.getElem?_append_left (by simp)]; rfl
theorem headA_at (s z : Nat) (n : List UInt8) {j : Nat} (hj : j < n.length) : (headA s z n)[2 + j]? = some (bv (n.getD j 0)) := by
  rw [headA, Array.getElem?_append_right (by simp)]
  simp [bvs, List.getElem?_eq_getElem hj]
theorem Try.zero145 : (Try.prog.info? 142).bind (·.zero) = some (.agg (bvs (zeros 32))) := by kernel_rfl
theorem Try.size145 : aggSize Try.prog 142 = 32 := by kernel_rfl
theorem Try.isAgg145 : isAggB Try.prog 142 = true := by kernel_rfl
theorem Try.some145 : (Try.prog.info? 142).isSome = true := by kernel_rfl

theorem cell_headA0 {w : World} {g s z : Nat} {n : List UInt8} {t : TypeId} {fr : Nat × Nat} (h : w.heap[g]? = some (.cells (headA s z n) t fr)) : w.cell? ⟨g, 0, none⟩ = some (.int .u64 (s : Int)) := by
  rw [cell_of_row w g 0 _ _ _ h]; exact headA_0 s z n
theorem cell_headA1 {w : World} {g s z : Nat} {n : List UInt8} {t : TypeId} {fr : Nat × Nat} (h : w.heap[g]? = some (.cells (headA s z n) t fr)) : w.cell? ⟨g, 1, none⟩ = some (.int .u64 (z : Int)) := by
  rw [cell_of_row w g 1 _ _ _ h]; exact headA_1 s z n
theorem cell_headAn {w : World} {g s z : Nat} {n : List UInt8} {t : TypeId} {fr : Nat × Nat} (h : w.heap[g]? = some (.cells (headA s z n) t fr)) {j : Nat} (hj : j < n.length) : w.cell? ⟨g, 2 + j, none⟩ = some (bv (n.getD j 0)) := by
  rw [cell_of_row w g (2 + j) _ _ _ h]; exact headA_at s z n hj
theorem half_splice (a b n : List UInt8) (ha : a.length = 8) (hb : b.length = 8) (hn : n.length = 16) : splice (splice (splice (zeros 32) 0 a) 8 b) 16 n = a ++ b ++ n := by
  have h1 : splice (zeros 32) 0 a = a ++ zeros 24 := by simp [splice, ha, zeros]
  have h2 : splice (a ++ zeros 24) 8 b = a ++ b ++ zeros 16 := by
    simp only [splice, hb]
    rw [List.take_append_of_le_length (by omega), List.take_of_length_le (by omega), List.drop_append, List.drop_eq_nil_of_le (by omega)]
    simp [ha, zeros]
  rw [h1, h2]
  simp only [splice, hn]
  rw [List.take_append_of_le_length (by simp; omega), List.take_of_length_le (by simp; omega), List.drop_eq_nil_of_le (by simp [zeros]; omega), List.append_nil]

set_option maxRecDepth 100000 in
set_option maxHeartbeats 1000000 in
theorem half_calls {w : World} {s z : Nat} {n : List UInt8} (hs : s < 18446744073709551616) (hz : z < 18446744073709551616) (hn : n.length = 16) :
    Calls Try.prog 116 #[.agg (headA s z n)] w fun e w' => e = .returned (.agg (bvs (be8 s ++ be8 z ++ n))) ∧ Upd (fun _ => False) w w' := by
  have tok : True := trivial
  go_enter Try.func116, Try.ntmps116
  go_wp2_with (first
    | (guard_target =~ wpList _ _ _ (Oper.mk _ (Op.box 93 _) _ _ _ _ :: _) _ _; go_must (refine wpList_box_new rfl 93 _ rfl rfl ?_); intro g1 w1 hg1 x1 z1 u1; have X1 := Lib.hid x1; have Z1 := Lib.hid z1; have G1 := Lib.hid hg1; clear x1 z1 hg1)
    | (guard_target =~ wpList _ _ _ (Oper.mk _ (Op.alloc 142) _ _ _ _ :: _) _ _; have _t := tok; clear tok _t; go_must (refine wpList_alloc_new rfl 142 rfl _ Try.zero145 ?_); intro g2 w2 hg2 x2 z2 u2; have X2 := Lib.hid x2; have Z2 := Lib.hid z2; have G2 := Lib.hid hg2; clear x2 z2 hg2)
    | (guard_target =~ wpList _ _ _ (Oper.mk _ (Op.alloc 142) _ _ _ _ :: _) _ _; go_must (refine wpList_alloc_new rfl 142 rfl _ Try.zero145 ?_); intro g3 w3 hg3 x3 z3 u3; have X3 := Lib.hid x3; have Z3 := Lib.hid z3; have G3 := Lib.hid hg3; clear x3 z3 hg3))
  have e2 : g2 = g1 + 1 := by rw [G2.out, Z1.out]
  have e3 : g3 = g1 + 1 + 1 := by rw [G3.out, Z2.out, e2]
  have a1 : w3.heap[g1]? = some (.cells (headA s z n) 93 (0, 0)) := u3.heap (u2.heap X1.out id) id
  have a2 : w3.heap[g2]? = some (.cells (bvs (zeros 32)) 142 (0, 0)) := u3.heap X2.out id
  have a3 : w3.heap[g3]? = some (.cells (bvs (zeros 32)) 142 (0, 0)) := X3.out
  have U3 : Upd (fun _ => False) w w3 := (u1.trans u2).trans u3
  have hg := G1.out
  have A1 := Lib.hid a1; have A2 := Lib.hid a2; have A3 := Lib.hid a3; have E2 := Lib.hid e2; have E3 := Lib.hid e3; have HG := Lib.hid hg
  clear a1 a2 a3 X1 X2 X3 Z1 Z2 Z3 G1 G2 G3 u1 u2 u3 e2 e3 hg
  have lz : (zeros 32).length = 32 := by simp [zeros]
  refine region_still_tail 3 (by kernel_rfl) (by kernel_rfl) (fun w4 u4 => ?_); simp only [List.take_succ_cons, List.take_zero, List.drop_succ_cons, List.drop_zero]
  have b1 := Lib.hid ((u4 (fun _ => False)).heap A1.out id)
  have b2 := Lib.hid ((u4 (fun _ => False)).heap A2.out id)
  have b3 := Lib.hid ((u4 (fun _ => False)).heap A3.out id)
  have c0 := cell_headA0 b1.out
  (apply s_at; focus (go_simp; exact rfl))
  refine wpStill_value rfl (run_op_slice_hi 142 5 32 _ _ rfl Try.underlying142 (by kernel_rfl) rfl (n := 8) rfl (by omega)) ?_
  (apply s_at; focus (go_simp; exact rfl))
  (apply s_value (by first | rfl | go_simp) (v := ?_); focus (go_simp; exact rfl))
  (apply s_at; focus (go_simp; exact rfl))
  (apply s_value (by first | rfl | go_simp) (v := ?_); focus (go_simp; exact rfl))
  (apply s_at; focus (go_simp; exact rfl))
  refine wpStill_nil ?_
  clear c0
  have ne1 : g1 ≠ g3 := by rw [E3.out]; omega
  have ne2 : g2 ≠ g3 := by rw [E3.out, E2.out]; omega
  have U4 := U3.trans (u4 _)
  go_wp2_with (go_at_call 131; go_must (refine (putBig_calls (off := 0) b3.out (by rw [lz]; omega) hs).mono ?_); rintro e w5 ⟨rfl, x5, u5⟩; have X5 := Lib.hid x5; clear x5)
  have U5 : Upd (fun _ => False) w w5 := U4.then u5 (fun i hi e => absurd hi (by rw [e, E3.out, HG.out]; omega))
  have l5 : (splice (zeros 32) 0 (be8 s)).length = 32 := by simp [splice, be8_len, zeros]
  refine region_still_tail 3 (by kernel_rfl) (by kernel_rfl) (fun w6 u6 => ?_); simp only [List.take_succ_cons, List.take_zero, List.drop_succ_cons, List.drop_zero]
  have d1 := Lib.hid ((u6 (fun _ => False)).heap (u5.heap b1.out ne1) id)
  have d2 := Lib.hid ((u6 (fun _ => False)).heap (u5.heap b2.out ne2) id)
  have d3 := Lib.hid ((u6 (fun _ => False)).heap X5.out id)
  have c1 := cell_headA1 d1.out
  (apply s_at; focus (go_simp; exact rfl))
  refine wpStill_value rfl (run_op_slice_lohi 142 5 32 _ _ _ rfl Try.underlying142 (by kernel_rfl) (off := 0) rfl (n := 8) (m := 16) rfl rfl (by omega) (by omega) (by omega)) ?_
  (apply s_at; focus (go_simp; exact rfl))
  (apply s_value (by first | rfl | go_simp) (v := ?_); focus (go_simp; exact rfl))
  (apply s_at; focus (go_simp; exact rfl))
  (apply s_value (by first | rfl | go_simp) (v := ?_); focus (go_simp; exact rfl))
  (apply s_at; focus (go_simp; exact rfl))
  refine wpStill_nil ?_
  clear c1
  have U6 := U5.trans (u6 _)
  go_wp2_with (go_at_call 131; go_must (refine (putBig_calls (off := 8) d3.out (by rw [l5]; omega) hz).mono ?_); rintro e w7 ⟨rfl, x7, u7⟩; have X7 := Lib.hid x7; clear x7)
  have U7 : Upd (fun _ => False) w w7 := U6.then u7 (fun i hi e => absurd hi (by rw [e, E3.out, HG.out]; omega))
  have l7 : (splice (splice (zeros 32) 0 (be8 s)) 8 (be8 z)).length = 32 := by simp [splice, be8_len, zeros]
  refine region_still_tail 3 (by kernel_rfl) (by kernel_rfl) (fun w8 u8 => ?_); simp only [List.take_succ_cons, List.take_zero, List.drop_succ_cons, List.drop_zero]
  have f1 := Lib.hid ((u8 (fun _ => False)).heap (u7.heap d1.out ne1) id)
  have f2 := Lib.hid ((u8 (fun _ => False)).heap (u7.heap d2.out ne2) id)
  have f3 := Lib.hid ((u8 (fun _ => False)).heap X7.out id)
  (apply s_at; focus (go_simp; exact rfl))
  refine wpStill_value rfl (run_op_slice_lo 142 5 32 _ _ rfl Try.underlying142 (by kernel_rfl) (off := 0) rfl (n := 16) rfl (by omega)) ?_
  (apply s_at; focus (go_simp; exact rfl))
  (apply s_value (by first | rfl | go_simp) (v := ?_); focus (go_simp; exact rfl))
  (apply s_at; focus (go_simp; exact rfl))
  refine wpStill_value rfl (run_op_slice_all 32 5 16 _ rfl Try.underlying32 (by kernel_rfl) (off := 2) rfl) ?_
  (apply s_at; focus (go_simp; exact rfl))
  refine wpStill_nil ?_
  have U8 := U7.trans (u8 _)
  have P1 := Lib.hid (show n.length = Nat.min 16 16 from hn)
  have P2 := Lib.hid (show ∀ j, j < n.length → w8.cell? ⟨g1, 2 + j, none⟩ = some (bv (n.getD j 0)) from fun j hj => cell_headAn f1.out hj)
  have P3 := Lib.hid (show 16 + n.length ≤ (splice (splice (zeros 32) 0 (be8 s)) 8 (be8 z)).length by rw [hn, l7]; exact Nat.le_refl _)
  have E9 := Lib.hid (half_splice (be8 s) (be8 z) n (be8_len _) (be8_len _) hn)
  have l9 : (be8 s ++ be8 z ++ n).length = 32 := by simp [be8_len, hn]
  go_wp2_with (first
    | (guard_target =~ wpList _ _ _ (Oper.mk _ (Op.call (Call.mk (Callee.builtin Builtin.copy) _ _)) _ _ _ _ :: _) _ _; go_must (refine wpList_copy_bytes rfl _ _ 26 26 rfl 5 Try.underlying26 (by kernel_rfl) rfl rfl g3 16 _ 142 f3.out n P1.out (fun _ => ⟨rfl, _, _, rfl, P2.out⟩) P3.out ?_); intro w9 x9 u9; rw [E9.out] at x9; have X9 := Lib.hid x9; clear x9; have Z9 := Lib.hid (u9.heap f2.out ne2))
    | (guard_target =~ wpList _ _ _ (Oper.mk _ (Op.load 142 _) _ _ _ _ :: _) _ _; go_must (refine wpList_value rfl (run_op_load_agg 142 _ rfl rfl (bvs (be8 s ++ be8 z ++ n)) Try.isAgg145 (by rw [Try.size145, size_bvs, l9]) (agg_bvs X9.out)) ?_))
    | (guard_target =~ wpList _ _ _ (Oper.mk _ (Op.store 142 _ _) _ _ _ _ :: _) _ _; go_must (refine wpList_store_agg rfl 142 _ _ rfl rfl rfl (by rw [Try.size145, size_bvs, l9]) Try.some145 _ 142 Z9.out (by rw [size_bvs, size_bvs, l9, lz]; exact Nat.le_refl _) (one_bvs _) ?_; intro w10 x10 u10; have X10 := Lib.hid x10; clear x10)))
  have x11 : w10.heap[g2]? = some (.cells (bvs (be8 s ++ be8 z ++ n)) 142 (0, 0)) := by
    rw [X10.out, bvs_toList, bvs_toList, splice_map]
    have e : splice (zeros 32) 0 (be8 s ++ be8 z ++ n) = be8 s ++ be8 z ++ n := by
      have : (zeros 32).drop (0 + (be8 s ++ be8 z ++ n).length) = [] := List.drop_eq_nil_of_le (by rw [l9]; exact Nat.le_refl _)
      simp only [splice, this, List.append_nil, List.take_zero, List.nil_append]
    rw [e]; rfl
  refine bodyPost_ret (results_cell_row rfl _ _ g2 _ (bvs (be8 s ++ be8 z ++ n)) (0, 0) _ rfl x11 Try.underlying142 rfl (by rw [size_bvs, l9]; kernel_rfl)) rfl ⟨rfl, ?_⟩
  exact (U8.then u9 (fun i hi e => absurd hi (by rw [e, E3.out, HG.out]; omega))).then u10 (fun i hi e => absurd hi (by rw [e, E2.out, HG.out]; omega))
theorem OwnB.part {w : World} {base g n cap off m : Nat} {xs : List UInt8} (h : OwnB w base (.slice (some ⟨g, 0, none⟩) n cap) xs) (ho : off + m ≤ xs.length) : AggIs w g off (bvs ((xs.drop off).take m)) := by
  have hl : ((xs.drop off).take m).length = m := by simp; omega
  intro j v hv
  simp only [bvs, List.getElem?_toArray, List.getElem?_map] at hv
  by_cases hj : j < m
  · rw [h.cell (j := off + j) (by omega)]
    simp only [List.getElem?_take, if_pos hj, List.getElem?_drop, List.getElem?_eq_getElem (show off + j < xs.length by omega), Option.map_some] at hv
    simpa [List.getElem?_eq_getElem (show off + j < xs.length by omega)] using hv
  · rw [List.getElem?_eq_none (by omega)] at hv
    cases hv
theorem splice_all {α : Type} (a b : List α) (h : a.length = b.length) : splice a 0 b = b := by
  have : a.drop (0 + b.length) = [] := List.drop_eq_nil_of_le (by omega)
  simp only [splice, this, List.append_nil, List.take_zero, List.nil_append]
end Go.Proofs.Ytggepeepjaoibaa

/- cells.Open. -/
import Derived.Test.YtggepeepjaoibaaLog2
namespace Go.Proofs.Ytggepeepjaoibaa
open Go.RowKit
set_option linter.unusedVariables false

theorem readH_ok {w : World} {d : Nat} {D : DiskG} (h : IsDisk w d D) {f most k : Nat} (hk : f + k < D.now.length) : (readH D f most k).1 < 18446744073709551616 ∧ (readH D f most k).2.1 < 18446744073709551616 ∧ (readH D f most k).2.1 ≤ most ∧ (readH D f most k).2.2.length = 16 := by
  have hb := h.secLen hk
  unfold readH
  generalize D.now.getD (f + k) [] = b at hb
  simp only
  split
  · rename_i hc
    exact ⟨num_lt 8 _ (by simp; omega), num_lt 8 _ (by simp; omega), hc.2.2, by simp; omega⟩
  · exact ⟨by decide, by decide, Nat.zero_le _, by simp [zeros]⟩
/-- the head of the two -/
def opH (D : DiskG) (f most : Nat) : Nat × Nat × List UInt8 := if (readH D f most 0).1 < (readH D f most 1).1 then readH D f most 1 else readH D f most 0
def headJ (D : DiskG) (f most : Nat) : Nat → Nat × Nat × List UInt8
  | 0 => (0, 0, zeros 16)
  | 1 => readH D f most 0
  | _ => opH D f most
theorem headJ_ok {w : World} {d : Nat} {D : DiskG} (h : IsDisk w d D) {f most : Nat} (hk : f + 1 < D.now.length) (j : Nat) : (headJ D f most j).1 < 18446744073709551616 ∧ (headJ D f most j).2.1 < 18446744073709551616 ∧ (headJ D f most j).2.1 ≤ most ∧ (headJ D f most j).2.2.length = 16 := by
  unfold headJ
  split
  · exact ⟨by decide, by decide, Nat.zero_le _, by simp [zeros]⟩
  · exact readH_ok h (k := 0) (by omega)
  · unfold opH
    split
    · exact readH_ok h (k := 1) (by omega)
    · exact readH_ok h (k := 0) (by omega)
theorem headJ_step (D : DiskG) (f most : Nat) {j : Nat} (hj : j < 2) : headJ D f most (j + 1) = if (headJ D f most j).1 < (readH D f most j).1 ∨ j = 0 then readH D f most j else headJ D f most j := by
  match j, hj with
  | 0, _ => simp [headJ]
  | 1, _ => simp [headJ, opH]
def logO (d f most : Nat) (h : Nat × Nat × List UInt8) : LogG := ⟨d, f, most, h.1, h.2.1, h.2.2, .slice none 0 0, [], false⟩
theorem Try.built104 (d f most : Nat) : Try.prog.built 95 [(0, .pointer (some ⟨d, 0, none⟩)), (1, .int .i64 (f : Int)), (2, .int .i64 (most : Int))] = some (logA (logO d f most (0, 0, zeros 16))) := by kernel_rfl
theorem logA_head_set (L : LogG) (hn : L.n.length = 16) (s z : Nat) (n : List UInt8) (h : n.length = 16) : (splice (logA L).toList 3 (headA s z n).toList).toArray = logA { L with s := s, z := z, n := n } := by
  have e1 : (headA L.s L.z L.n).toList.length = 18 := by rw [Array.length_toList, headA_size, hn]
  have e2 : (headA s z n).toList.length = 18 := by rw [Array.length_toList, headA_size, h]
  apply Array.ext'
  simp only [logA, Array.toList_append, splice, e2]
  rw [List.take_append_of_le_length (by simp [e1]), List.take_append_of_le_length (by simp)]
  rw [List.drop_append, List.drop_eq_nil_of_le (by simp [e1])]
  simp [e1]

attribute [local irreducible] wpStill wpReads
set_option maxRecDepth 100000 in
set_option maxHeartbeats 2000000 in
theorem open_calls {w : World} {d f n : Nat} {D : DiskG} (hD : IsDisk w d D) (hg : D.gone = false) (h3 : 3 ≤ n) (hn : f + n ≤ D.now.length) :
    Calls Try.prog 12 #[.pointer (some ⟨d, 0, none⟩), .int .i64 (f : Int), .int .i64 (n : Int)] w fun e w' => ∃ p v, e = .returned (.tuple #[.pointer (some ⟨p, 0, none⟩), .int .i64 0]) ∧
      IsLog w' p { logO d f (64 * (n - 2)) (opH D f (64 * (n - 2))) with v := v, xs := (catS D (f + 2) (n - 2)).take (opH D f (64 * (n - 2))).2.1 } ∧ Upd (fun _ => False) w w' ∧ w.heap.size ≤ p := by
  have hfew := hD.few
  have hlt := hD.lt
  obtain ⟨m, hm⟩ : ∃ m, m = n - 2 := ⟨_, rfl⟩
  rw [← hm]
  obtain ⟨most, hmo⟩ : ∃ most, most = 64 * m := ⟨_, rfl⟩
  rw [← hmo]
  have hw1 : IntKind.i64.wrap ((n : Int) - 2) = (m : Int) := by rw [IntWalk.i64_in _ (by omega)]; omega
  have hw2 : IntKind.i64.wrap (64 * (m : Int)) = (most : Int) := by rw [IntWalk.i64_in _ (by omega)]; omega
  have hw3 : IntKind.i64.wrap ((D.now.length : Int) - (f : Int)) = (D.now.length : Int) - (f : Int) := IntWalk.i64_in _ (by omega)
  have t1 : decide ((n : Int) < 3) = false := decide_eq_false (by omega)
  have t2 : decide ((f : Int) < 0) = false := decide_eq_false (by omega)
  have t3 : decide ((D.now.length : Int) < (f : Int)) = false := decide_eq_false (by omega)
  have t4 : decide ((D.now.length : Int) - (f : Int) < (n : Int)) = false := decide_eq_false (by omega)
  have HM := Lib.hid hm
  have HMO := Lib.hid hmo
  clear hm hmo
  go_enter Try.func12, Try.ntmps12
  go_wp2_with (first
    | (go_at_call 43; go_must (refine (sectors_calls hD).mono ?_); rintro e w' ⟨rfl, rfl⟩)
    | (guard_target =~ wpList _ _ _ (Oper.mk _ (Op.build 95 _) _ _ _ _ :: _) _ _; go_must (refine wpList_value rfl (run_op_build 95 #[(0, .tmp 33), (1, .tmp 34), (2, .tmp 37)] rfl _ (by go_simp) _ (Try.built104 d f most)) ?_))
    | (guard_target =~ wpList _ _ _ (Oper.mk _ (Op.box 95 _) _ _ _ _ :: _) _ _; go_must (refine wpList_box_new rfl 95 _ rfl rfl ?_); intro p w1 hp x1 z1 u1; have X1 := Lib.hid x1; have Z1 := Lib.hid z1; have HP := Lib.hid hp; clear x1 z1 hp))
  have hI : IsLog w1 p (logO d f most (0, 0, zeros 16)) := ⟨X1.out, by simp [logO, zeros], by show (0 : Nat) < _; decide, by show (0 : Nat) < _; decide, ⟨rfl, .inl ⟨rfl, rfl⟩⟩, by show f ≤ 16384; omega, by show most ≤ 1048576; have := HMO.out; have := HM.out; omega⟩
  have hpw := HP.out
  have HPW := Lib.hid hpw
  clear hpw t1 t2 t3 t4
  have dp : d < p ∧ D.B < p ∧ D.M < p := by rw [HPW.out]; exact hlt
  have hzz : f + 1 < D.now.length := by omega
  go_loopw [40] (fun y wr => ∃ j : Nat, j ≤ 2 ∧ y = .int .u64 j ∧ IsLog wr p (logO d f most (headJ D f most j)) ∧ Upd (fun _ => False) w wr) (fun y _ => 2 - (intOf y).toNat)
  case atStart => exact ⟨0, by omega, rfl, hI, u1⟩
  case round =>
    obtain ⟨j, hj, rfl, hL, hU⟩ := hrel
    have hDr := hD.keep hU id id id
    by_cases hj2 : j < 2
    · obtain ⟨k1, k2, k3, k4⟩ := headJ_ok (most := most) hDr hzz j
      obtain ⟨r1, r2, r3, r4⟩ := readH_ok (f := f) (most := most) (k := j) hDr (by omega)
      have hst := headJ_step D f most hj2
      generalize headJ D f most j = H at hL hst k1 k2 k3 k4
      obtain ⟨hs, hz, hnn⟩ := H
      obtain ⟨⟨rs, rz, rn⟩, hr⟩ : ∃ r, readH D f most j = r := ⟨_, rfl⟩
      rw [hr] at hst r1 r2 r3 r4
      simp only at hst k1 k2 k3 k4 r1 r2 r3 r4
      have HR := Lib.hid hr
      have HST := Lib.hid hst
      clear hr hst
      have hdec : 2 - (intOf (.int .u64 ((j : Int) + 1))).toNat < 2 - (intOf (.int .u64 (j : Int))).toNat := by
        show 2 - ((j : Int) + 1).toNat < 2 - ((j : Int)).toNat
        omega
      have l18 : (headA rs rz rn).size = 18 := by rw [headA_size, r4]
      have tok : True := trivial
      have read := read_log_calls hL hDr hg hj2 (show f + j < D.now.length by omega)
      change Calls Try.prog 44 #[.pointer (some ⟨p, 0, none⟩), .int .u64 (j : Int)] wr (fun e w' => e = .returned (.tuple #[.agg (headA (readH D f most j).1 (readH D f most j).2.1 (readH D f most j).2.2), .int .i64 0]) ∧ Upd (fun _ => False) wr w') at read
      rw [HR.out] at read
      go_wp2_with (first
        | (go_at_call 44; go_must (refine read.mono ?_); rintro e w2 ⟨rfl, u2⟩; have L2 := hL.quiet u2)
        | (guard_target =~ wpList _ _ _ (Oper.mk _ (Op.alloc 93) _ _ _ _ :: _) _ _; go_must (refine wpList_alloc_new rfl 93 rfl _ Try.zero102 ?_); intro g3 w3 hg3 x3 z3 u3; have X3 := Lib.hid x3; have G3 := Lib.hid hg3; clear x3 hg3 z3)
        | (guard_target =~ wpList _ _ _ (Oper.mk _ (Op.store 93 _ _) _ _ _ _ :: _) _ _; go_must (refine wpList_store_agg rfl 93 _ _ rfl rfl rfl (by rw [Try.size102, l18]) Try.some102 _ 93 X3.out (by (rw [l18]; exact Nat.le_refl _)) (headA_one _ _ _) ?_); intro w4 x4 u4; rw [splice_all _ _ (by rw [Array.length_toList, Array.length_toList, l18]; rfl)] at x4; have X4 := Lib.hid x4; clear x4))
      have X4 : w4.heap[g3]? = some (.cells (headA rs rz rn) 93 (0, 0)) := by have := X4.out; simpa using this
      have u34 : Upd (fun _ => False) w2 w4 := u3.then u4 (fun i hi e => absurd hi (by rw [e, G3.out]; exact Nat.lt_irrefl _))
      have U4 := (hU.trans u2).trans u34
      have L4 := L2.quiet u34
      refine region_still (by kernel_rfl) (by kernel_rfl) (fun w5 u5 => ?_)
      have u5 : Upd (fun _ => False) w4 w5 := u5 _
      have L5 := L4.quiet u5
      have X5 := Lib.hid (u5.heap X4 id)
      have c0 := cell_headA0 X5.out
      have c3 : w5.cell? ⟨p, 3, none⟩ = some (.int .u64 (hs : Int)) := L5.c3
      have U5 := U4.trans u5
      clear X4 read
      (apply s_at; focus (go_simp; exact rfl))
      by_cases q1 : hs < rs
      · have t1 : decide ((hs : Int) < (rs : Int)) = true := decide_eq_true (by omega)
        iterate 9 ((apply s_value (by first | rfl | go_simp) (v := ?_); focus (go_simp; exact rfl)); (apply s_at; focus (go_simp; exact rfl)))
        iterate 2 (apply s_skip (by first | rfl | go_simp); apply s_at; focus (go_simp; exact rfl))
        (apply s_value (by first | rfl | go_simp) (v := ?_); focus (go_simp; exact rfl))
        (apply s_at; focus (go_simp; exact rfl))
        have hH : headJ D f most (j + 1) = (rs, rz, rn) := by rw [HST.out, if_pos (.inl q1)]
        (refine wpStill_nil ?_; clear c0 c3; go_wp2_with (first | (guard_target =~ wpList _ _ _ (Oper.mk _ (Op.load 93 _) _ _ _ _ :: _) _ _; go_must (refine wpList_value rfl (run_op_load_agg 93 _ rfl rfl (headA rs rz rn) Try.isAgg102 (by rw [Try.size102, l18]) (agg_heap X5.out)) ?_)) | (guard_target =~ wpList _ _ _ (Oper.mk _ (Op.store 93 _ _) _ _ _ _ :: _) _ _; go_must (refine wpList_store_agg rfl 93 _ _ rfl rfl rfl (by rw [Try.size102, l18]) Try.some102 _ 95 L5.hp (by (rw [l18, logA_size _ L5.hn]; decide)) (headA_one _ _ _) ?_); intro w6 x6 u6; rw [logA_head_set _ L5.hn _ _ _ r4] at x6; have X6 := Lib.hid x6; clear x6)); exact ⟨⟨j + 1, hj2, by rw [Int.natCast_add]; rfl, by rw [hH]; exact { L5 with hp := X6.out, hn := r4, hs := r1, hz := r2, hv := ⟨rfl, .inl ⟨rfl, rfl⟩⟩ }, U5.then u6 (fun i hi e => absurd hi (by rw [e, HPW.out]; exact Nat.lt_irrefl _))⟩, hdec⟩)
      · have t1 : decide ((hs : Int) < (rs : Int)) = false := decide_eq_false (by omega)
        by_cases q0 : j = 0
        · have t0 : ((j : Int) == 0) = true := by rw [q0]; rfl
          have hH : headJ D f most (j + 1) = (rs, rz, rn) := by rw [HST.out, if_pos (.inr q0)]
          clear q0
          iterate 12 ((apply s_value (by first | rfl | go_simp) (v := ?_); focus (go_simp; exact rfl)); (apply s_at; focus (go_simp; exact rfl)))
          (refine wpStill_nil ?_; clear c0 c3; go_wp2_with (first | (guard_target =~ wpList _ _ _ (Oper.mk _ (Op.load 93 _) _ _ _ _ :: _) _ _; go_must (refine wpList_value rfl (run_op_load_agg 93 _ rfl rfl (headA rs rz rn) Try.isAgg102 (by rw [Try.size102, l18]) (agg_heap X5.out)) ?_)) | (guard_target =~ wpList _ _ _ (Oper.mk _ (Op.store 93 _ _) _ _ _ _ :: _) _ _; go_must (refine wpList_store_agg rfl 93 _ _ rfl rfl rfl (by rw [Try.size102, l18]) Try.some102 _ 95 L5.hp (by (rw [l18, logA_size _ L5.hn]; decide)) (headA_one _ _ _) ?_); intro w6 x6 u6; rw [logA_head_set _ L5.hn _ _ _ r4] at x6; have X6 := Lib.hid x6; clear x6)); exact ⟨⟨j + 1, hj2, by rw [Int.natCast_add]; rfl, by rw [hH]; exact { L5 with hp := X6.out, hn := r4, hs := r1, hz := r2, hv := ⟨rfl, .inl ⟨rfl, rfl⟩⟩ }, U5.then u6 (fun i hi e => absurd hi (by rw [e, HPW.out]; exact Nat.lt_irrefl _))⟩, hdec⟩)
        · have t0 : ((j : Int) == 0) = false := by rw [beq_eq_false_iff_ne]; omega
          have hH : headJ D f most (j + 1) = (hs, hz, hnn) := by rw [HST.out, if_neg (by rintro (h | h); exact q1 h; exact q0 h)]
          iterate 12 ((apply s_value (by first | rfl | go_simp) (v := ?_); focus (go_simp; exact rfl)); (apply s_at; focus (go_simp; exact rfl)))
          refine wpStill_nil ?_
          clear c0 c3
          go_wp2
          exact ⟨⟨j + 1, hj2, by rw [Int.natCast_add]; rfl, by rw [hH]; exact L5, U5⟩, hdec⟩
    · have : j = 2 := by omega
      subst this
      have load := load_calls (m := m) hL hDr hg (by show f + 2 + m ≤ _; have := HM.out; omega) (by
        have := (headJ_ok (most := most) hDr hzz 2).2.2.1
        show (headJ D f most 2).2.1 ≤ 64 * m
        rw [← HMO.out]; exact this) rfl rfl dp
      go_wp2_with (go_at_call 45; go_must (refine load.mono ?_); rintro e w2 ⟨rfl, v, L2, u2, v2⟩)
      refine bodyPost_ret (results_tmp2 rfl _ _ _) rfl ?_
      exact ⟨p, v, rfl, L2, hU.then u2 (fun i hi e => absurd hi (by rw [e, HPW.out]; exact Nat.lt_irrefl _)), by rw [HPW.out]; exact Nat.le_refl _⟩
end Go.Proofs.Ytggepeepjaoibaa

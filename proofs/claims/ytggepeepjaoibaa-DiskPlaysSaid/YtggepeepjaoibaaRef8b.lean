/- jalousielaw08.sectors, state; jalousieref08.Same. -/
import Derived.Test.YtggepeepjaoibaaRef8a
import Derived.Test.YtggepeepjaoibaaEq8
import Derived.Test.YtggepeepjaoibaaRows8
namespace Go.Proofs.Ytggepeepjaoibaa
open Go.RowKit
set_option linter.unusedVariables false

/-- a row of slices of the call's own -/
def OwnR (w : World) (base : Nat) (v : Value) (us : List Value) : Prop := w.ownsRow base 26 1 v us.length us
theorem Try.infoRow : (Try.prog.info? 26).map (fun i => (i.zero, i.size, i.bytes)) = some (some (.slice none 0 0), 1, 24) := by kernel_rfl
section
variable {w w' : World} {base : Nat} {v : Value} {us : List Value}
theorem OwnR.keep (h : OwnR w base v us) {S : Nat → Prop} (hu : Upd S w w') (hs : ∀ k, v.ownBlock = some k → ¬ S k) : OwnR w' base v us := by
  refine ⟨h.1, ?_⟩
  rcases h.2 with h2 | ⟨g, cap, cur, rfl, h2, h3, h4⟩
  · exact .inl h2
  · exact .inr ⟨g, cap, cur, rfl, h2, hu.heap h3 (hs g rfl), h4⟩
theorem OwnR.apart (h : OwnR w base v us) {b2 : Nat} {u : Value} {xs : List UInt8} (hu : OwnB w b2 u xs) : ∀ k, u.ownBlock = some k → ¬ some k = v.ownBlock := by
  intro k hk e
  rcases h.2 with ⟨rfl, _⟩ | ⟨g, cap, cur, rfl, h2, h3, h4⟩
  · cases e
  · cases e
    rcases hu.2 with ⟨rfl, _⟩ | ⟨g', cap', cur', rfl, q2, q3, q4⟩
    · cases hk
    · cases hk
      rw [h3] at q3
      cases q3
theorem OwnR.rows (h : OwnR w base v us) {ls : List (List UInt8)} (hl : ls.length = us.length) (he : ∀ j, j < us.length → IsBytes w (us.getD j undef) (ls.getD j [])) : IsRowsB w v us ls := by
  refine ⟨?_, fun j hj => he j (by omega)⟩
  rcases h.2 with ⟨rfl, h0⟩ | ⟨g, cap, cur, rfl, hb, hh, h1, h2, h3, h4⟩
  · exact ⟨none, 0, by rw [hl, h0], by omega, by unfold maxLen; omega, fun _ => rfl, .inl (List.eq_nil_of_length_eq_zero (by omega))⟩
  · refine ⟨some ⟨g, 0, none⟩, cap, by rw [hl], by omega, h2, fun e => (by cases e), .inr ⟨g, 0, rfl, fun j hj => ?_⟩⟩
    have := World.ownsRow.cells h (g := g) rfl j (us.getD j undef) (by simp [List.getD_eq_getElem?_getD, List.getElem?_eq_getElem (show j < us.length by omega)])
    rwa [add_plain] at this
theorem wpList_append_row {ops : Array Oper} {rest : List Oper} {o : Oper} {a : Act} {W : World} {Q : Exit → Act → World → Prop} (base : Nat) (hown : OwnR W base v us) (hgd : o.guard = none) (s x : Operand) (ho : o.op = .call { callee := .builtin .append, args := #[s, x], argTypes := #[22, 22] })
    (hs : a.eval s = v) (hx : a.eval x = .slice (some ⟨W.heap.size, 0, none⟩) 1 1) {p : Option Addr} {l c : Nat} (hbase : base ≤ W.heap.size) (hl : us.length + 1 ≤ 1048576)
    (h : ∀ v' w', OwnR w' base v' (us ++ [.slice p l c]) → Upd (fun k => some k = v.ownBlock) W w' → wpList Try.prog ops Q rest (a.put o.dst v') w') : wpList Try.prog ops Q (o :: rest) a (W.alloc (.cells #[.slice p l c] 26)) := by
  obtain ⟨i0, hi, hz0, hz1, hz2⟩ := info_parts Try.infoRow
  have hown1 : OwnR (W.alloc (.cells #[.slice p l c] 26)) base v us := hown.keep (S := fun _ => False) ((Upd.refl _ _).alloc _) (fun _ _ => id)
  refine wpList_append_own _ hgd s x 22 ho base 26 i0 (.slice none 0 0) 1 24 Try.underlying22 hi hz0 hz1 hz2 rfl (by decide) v us.length us hs hown1 ⟨W.heap.size, 0, none⟩ 1 1 [.slice p l c] hx rfl
    (cell_one_new _ _ _) (by intro u hu; simp at hu; subst hu; rfl) (by unfold maxLen; omega) (by omega) (by simp; omega) ?_
  intro v' w1 hown2 hg1 _
  refine h v' w1 ?_ ?_
  · unfold OwnR; simpa using hown2
  · exact ((Upd.refl _ W).alloc _).then (Upd.of_grown hg1) (fun i hi e => e)
end

set_option maxRecDepth 100000 in
set_option maxHeartbeats 1000000 in
theorem sectors8_calls {w : World} {d f : Nat} {D : DiskG} (hD : IsDisk w d D) (hg : D.gone = false) (hf : f ≤ D.now.length) :
    Calls Try.prog 21 #[.pointer (some ⟨d, 0, none⟩), .int .i64 (f : Int)] w fun e w' => ∃ v us, e = .returned v ∧ IsRowsB w' v us (D.now.drop f) ∧ Upd (fun _ => False) w w' := by
  have hfew := hD.few
  have hlt := hD.lt
  go_enter Try.func21, Try.ntmps21
  go_wp2
  go_loopw [5, 6] (fun o i wr => ∃ (k : Nat) (us : List Value), f + k ≤ D.now.length ∧ i = .int .i64 ((f + k : Nat) : Int) ∧ us.length = k ∧ OwnR wr w.heap.size o us ∧ (∀ j, j < k → OwnB wr w.heap.size (us.getD j undef) (D.now.getD (f + j) [])) ∧ Upd (fun _ => False) w wr) (fun _ i _ => D.now.length - (intOf i).toNat)
  case atStart => exact ⟨0, [], by omega, rfl, rfl, World.ownsRow_nil _ _ _ _, fun j hj => by omega, Upd.refl _ _⟩
  case round =>
    obtain ⟨k, us, hk, rfl, hul, hO, hE, hU⟩ := hrel
    have hDr := hD.keep hU id id id
    have HE := Lib.hid hE
    clear hE
    by_cases hlt2 : f + k < D.now.length
    · have t1 : (f : Int) + (k : Int) < (D.now.length : Int) := by omega
      have hr : rd D ((f : Int) + (k : Int)) = (D.now.getD (f + k) [], 0) := by
        have : has D ((f : Int) + (k : Int)) = true := by simp [has]; omega
        have e : ((f : Int) + (k : Int)).toNat = f + k := by omega
        simp only [rd, this, hg, e]; simp
      have hb64 := hDr.secLen hlt2
      generalize hb : D.now.getD (f + k) [] = b at hr hb64
      have HR := Lib.hid hr
      have HB := Lib.hid hb
      clear hr hb
      go_wp2_with (first
        | (go_at_call 43; go_must (refine (sectors_calls hDr).mono ?_); rintro e w' ⟨rfl, rfl⟩)
        | (go_at_call 51; go_must (refine (read_calls hDr ((f : Int) + (k : Int))).mono ?_); rw [HR.out]; rintro e w2 ⟨v2, rfl, o2, u2⟩; obtain ⟨g2, cap2, rfl, g21, g22⟩ := o2.formN hb64 (by omega))
        | (at_builtin; go_must (refine wpList_append_row w.heap.size (hO.keep u2 (fun _ _ => id)) rfl _ _ rfl rfl rfl (by have := hU.size; have := u2.size; omega) (by omega) ?_); intro v3 w3 o3 u3))
      have o2b : OwnB w2 w.heap.size (.slice (some ⟨g2, 0, none⟩) 64 cap2) b := o2.mono hU.size
      have O2 := hO.keep u2 (fun _ _ => id)
      refine ⟨⟨k + 1, us ++ [.slice (some ⟨g2, 0, none⟩) 64 cap2], by omega, ?_, by simp [hul], o3, fun j hj => ?_, (hU.trans u2).then u3 (fun i hi e => ?_)⟩, ?_⟩
      · show Value.int _ _ = Value.int _ _
        congr 1
      · by_cases h : j = k
        · subst h
          rw [List.getD_eq_getElem?_getD, List.getElem?_append_right (by omega), hul, Nat.sub_self, HB.out]
          exact o2b.keep u3 (O2.apart o2b)
        · have hj2 : j < k := by omega
          rw [List.getD_eq_getElem?_getD, List.getElem?_append_left (by omega), ← List.getD_eq_getElem?_getD]
          have h2 := (HE.out j hj2).keep u2 (fun _ _ => id)
          exact h2.keep u3 (O2.apart h2)
      · rcases hO.2 with ⟨rfl, _⟩ | ⟨g, cap, cur, rfl, hb, _⟩
        · cases e
        · cases e; exact absurd hi (Nat.not_lt.2 hb)
      · show D.now.length - ((f : Int) + (k : Int) + 1).toNat < D.now.length - ((f : Int) + (k : Int)).toNat
        omega
    · have hlen : f + k = D.now.length := by omega
      have t1 : ¬ (f : Int) + (k : Int) < (D.now.length : Int) := by omega
      go_wp2_with (first
        | (go_at_call 43; go_must (refine (sectors_calls hDr).mono ?_); rintro e w' ⟨rfl, rfl⟩))
      go_ret
      refine ⟨_, us, rfl, hO.rows (by rw [List.length_drop]; omega) (fun j hj => ?_), hU⟩
      have e : (D.now.drop f).getD j [] = D.now.getD (f + j) [] := by simp [List.getD_eq_getElem?_getD, List.getElem?_drop]
      rw [e]
      exact (HE.out j (by omega)).bytes

/-- a state: serial, note, bytes -/
def stA (s : Nat) (n : List UInt8) (v : Value) : Array Value := #[.int .u64 (s : Int)] ++ bvs n ++ #[v]
theorem stA_size (s : Nat) (n : List UInt8) (v : Value) (h : n.length = 16) : (stA s n v).size = 18 := by simp [stA, bvs, h]
theorem stA_one (s : Nat) (n : List UInt8) {p : Option Addr} {l c : Nat} : AllOne (stA s n (.slice p l c)) := by
  intro u hu
  simp [stA, bvs] at hu
  rcases hu with rfl | ⟨b, _, rfl⟩ | rfl <;> rfl
theorem Try.builtSt' (s : Nat) (v : Value) (n0 n1 n2 n3 n4 n5 n6 n7 n8 n9 n10 n11 n12 n13 n14 n15 : UInt8) (p : Option Addr) (l c : Nat) : Try.prog.built 42 [(0, .int .u64 (s : Int)), (1, .agg (bvs [n0, n1, n2, n3, n4, n5, n6, n7, n8, n9, n10, n11, n12, n13, n14, n15])), (2, .slice p l c)] = some (stA s [n0, n1, n2, n3, n4, n5, n6, n7, n8, n9, n10, n11, n12, n13, n14, n15] (.slice p l c)) := by kernel_rfl
theorem Try.builtSt (s : Nat) (n : List UInt8) (p : Option Addr) (l c : Nat) (hn : n.length = 16) : Try.prog.built 42 [(0, .int .u64 (s : Int)), (1, .agg (bvs n)), (2, .slice p l c)] = some (stA s n (.slice p l c)) := by
  match n, hn with
  | [n0, n1, n2, n3, n4, n5, n6, n7, n8, n9, n10, n11, n12, n13, n14, n15], _ => exact Try.builtSt' s undef _ _ _ _ _ _ _ _ _ _ _ _ _ _ _ _ p l c
theorem Try.zeroSt : (Try.prog.info? 42).bind (·.zero) = some (.agg (stA 0 (zeros 16) (.slice none 0 0))) := by kernel_rfl
theorem Try.sizeSt : aggSize Try.prog 42 = 18 := by kernel_rfl
theorem Try.isAggSt : isAggB Try.prog 42 = true := by kernel_rfl
theorem Try.someSt : (Try.prog.info? 42).isSome = true := by kernel_rfl

set_option maxRecDepth 100000 in
set_option maxHeartbeats 1000000 in
theorem state8_calls {w : World} {p : Nat} {L : LogG} (h : IsLog w p L) (hl : L.xs.length ≤ 140737488355328) :
    Calls Try.prog 23 #[.pointer (some ⟨p, 0, none⟩)] w fun e w' => ∃ a c, e = .returned (.agg (stA L.s L.n (.slice a L.xs.length c))) ∧ OwnB w' w.heap.size (.slice a L.xs.length c) L.xs ∧ Upd (fun _ => False) w w' := by
  have lz16 : (zeros 16).length = 16 := by simp [zeros]
  go_enter Try.func23, Try.ntmps23
  go_wp2_with (first
    | (guard_target =~ wpList _ _ _ (Oper.mk _ (Op.alloc 42) _ _ _ _ :: _) _ _; go_must (refine wpList_alloc_new rfl 42 rfl _ Try.zeroSt ?_); intro g1 w1 hg1 x1 z1 u1; have X1 := Lib.hid x1; have G1 := Lib.hid hg1; clear x1 hg1 z1)
    | (go_at_call 16; go_must (refine (serial_calls (h.quiet u1)).mono ?_); rintro e w' ⟨rfl, rfl⟩)
    | (go_at_call 17; go_must (refine (note_log_calls (h.quiet u1)).mono ?_); rintro e w2 ⟨rfl, u2⟩)
    | (go_at_call 15; go_must (refine (bytes_calls (h.quiet (u1.trans u2)) hl).mono ?_); rintro e w3 ⟨v3, rfl, o3, u3⟩; obtain ⟨a3, c3, rfl, _⟩ := id o3.bytes.at_)
    | (guard_target =~ wpList _ _ _ (Oper.mk _ (Op.build 42 _) _ _ _ _ :: _) _ _; go_must (refine wpList_value rfl (run_op_build 42 #[(0, .tmp 4), (1, .tmp 6), (2, .tmp 8)] rfl _ (by go_simp) _ (Try.builtSt L.s L.n a3 L.xs.length c3 h.hn)) ?_))
    | (guard_target =~ wpList _ _ _ (Oper.mk _ (Op.store 42 _ _) _ _ _ _ :: _) _ _; go_must (refine wpList_store_agg rfl 42 _ _ rfl rfl rfl (by rw [Try.sizeSt, stA_size _ _ _ h.hn]) Try.someSt _ 42 (u3.heap (u2.heap X1.out id) id) (by (rw [stA_size _ _ _ h.hn]; show 0 + 18 ≤ (stA 0 (zeros 16) (.slice none 0 0)).size; rw [stA_size _ _ _ lz16]; decide)) (stA_one _ _) ?_); intro w4 x4 u4; have X4 := Lib.hid x4; clear x4))
  have lt1 : ¬ g1 < w.heap.size := by rw [G1.out]; exact Nat.lt_irrefl _
  have U3 : Upd (fun _ => False) w w3 := (u1.trans u2).trans u3
  have x5 : w4.heap[g1]? = some (.cells (stA L.s L.n (.slice a3 L.xs.length c3)) 42 (0, 0)) := by
    rw [X4.out, splice_all _ _ (by rw [Array.length_toList, Array.length_toList, stA_size _ _ _ h.hn]; exact stA_size _ _ _ lz16)]
  have hg3 : ∀ k, (Value.slice a3 L.xs.length c3).ownBlock = some k → ¬ k = g1 := fun k hk e => by
    have q1 := o3.base_le k hk
    have q2 : g1 < w2.heap.size := lt_of_heap (u2.heap X1.out id)
    omega
  refine bodyPost_ret (results_cell_row rfl _ _ g1 _ (stA L.s L.n (.slice a3 L.xs.length c3)) (0, 0) _ rfl x5 Try.underlying42 rfl (by rw [stA_size _ _ _ h.hn]; kernel_rfl)) rfl ⟨a3, c3, rfl, (o3.mono (u1.trans u2).size).keep u4 hg3, U3.then u4 (fun i hi e => lt1 (e ▸ hi))⟩

theorem cell_st0 {w : World} {g s : Nat} {n : List UInt8} {v : Value} {t : TypeId} {fr : Nat × Nat} (h : w.heap[g]? = some (.cells (stA s n v) t fr)) : w.cell? ⟨g, 0, none⟩ = some (.int .u64 (s : Int)) := by
  rw [cell_of_row w g 0 _ _ _ h, stA, Array.getElem?_append_left (by simp [bvs]), Array.getElem?_append_left (by simp)]; rfl
theorem cell_st2 {w : World} {g s : Nat} {n : List UInt8} {v : Value} {t : TypeId} {fr : Nat × Nat} (h : w.heap[g]? = some (.cells (stA s n v) t fr)) (hn : n.length = 16) : w.cell? ⟨g, 17, none⟩ = some v := by
  rw [cell_of_row w g 17 _ _ _ h, stA, Array.getElem?_append_right (by simp [bvs, hn])]; simp [bvs, hn]
theorem agg_st1 {w : World} {g s : Nat} {n : List UInt8} {v : Value} {t : TypeId} {fr : Nat × Nat} (h : w.heap[g]? = some (.cells (stA s n v) t fr)) : AggIs w g 1 (bvs n) := by
  intro j u hu
  have hj : j < n.length := by have := (Array.getElem?_eq_some_iff.1 hu).1; rwa [size_bvs] at this
  rw [cell_of_row w g (1 + j) _ _ _ h, stA, Array.getElem?_append_left (by simp [bvs]; omega), Array.getElem?_append_right (by simp)]
  simpa using hu
set_option maxRecDepth 100000 in
set_option maxHeartbeats 1000000 in
theorem same8_calls {w : World} {s t : Nat} {n m xs ys : List UInt8} {a b : Option Addr} {c d : Nat} (hx : IsBytes w (.slice a xs.length c) xs) (hy : IsBytes w (.slice b ys.length d) ys) (hn : n.length = 16) (hm : m.length = 16) :
    Calls Try.prog 22 #[.agg (stA s n (.slice a xs.length c)), .agg (stA t m (.slice b ys.length d))] w fun e w' => e = .returned (.bool (decide (s = t ∧ n = m ∧ xs = ys))) ∧ Upd (fun _ => False) w w' := by
  have tok : True := trivial
  obtain ⟨r, hr⟩ : ∃ r, decide (s = t ∧ n = m ∧ xs = ys) = r := ⟨_, rfl⟩
  rw [hr]
  have HR := Lib.hid hr
  clear hr
  have hr := HR.out
  by_cases hst : s = t
  · subst hst
    have te : ((s : Int) == (s : Int)) = true := by simp
    by_cases hnm : n = m
    · subst hnm
      have ne : (n == n) = true := by simp
      have e : (xs == ys) = r := by
        rw [← hr]
        by_cases h : xs = ys
        · simp [h]
        · have : (xs == ys) = false := by simpa using h
          rw [this]; simp [h]
      go_enter Try.func22, Try.ntmps22
      go_wp2_with (first
        | (guard_target =~ wpList _ _ _ (Oper.mk _ (Op.box 42 _) _ _ _ _ :: _) _ _; have _t := tok; clear tok _t; go_must (refine wpList_box_new rfl 42 _ rfl rfl ?_); intro g1 w1 hg1 x1 z1 u1; have X1 := Lib.hid x1; clear x1 hg1 z1) | (guard_target =~ wpList _ _ _ (Oper.mk _ (Op.box 42 _) _ _ _ _ :: _) _ _; go_must (refine wpList_box_new rfl 42 _ rfl rfl ?_); intro g2 w2 hg2 x2 z2 u2; have X2 := Lib.hid x2; have Y1 := Lib.hid (u2.heap X1.out id); have c1 := cell_st0 Y1.out; have c2 := cell_st0 X2.out; have d1 := cell_st2 Y1.out hn; have d2 := cell_st2 X2.out hm; have hx2 := hx.keep (u1.trans u2) (fun _ _ _ => id); have hy2 := hy.keep (u1.trans u2) (fun _ _ _ => id); clear x2 hg2 z2) | (guard_target =~ wpList _ _ _ (Oper.mk _ (Op.load 32 _) _ _ _ _ :: _) _ _; first | (refine wpList_value rfl (run_op_load_agg 32 _ rfl rfl (bvs n) Try.isAgg37 (by rw [Try.size37, size_bvs, hn]) (agg_st1 Y1.out)) ?_) | (refine wpList_value rfl (run_op_load_agg 32 _ rfl rfl (bvs n) Try.isAgg37 (by rw [Try.size37, size_bvs, hm]) (agg_st1 X2.out)) ?_)) | (guard_target =~ wpList _ _ _ (Oper.mk _ (Op.binOp .eql 32 _ _ _) _ _ _ _ :: _) _ _; go_must (refine wpList_value rfl (run_op_eql_arr 32 5 16 _ _ _ rfl rfl rfl Try.underlying32 Try.underlying5 (by kernel_rfl) (by kernel_rfl) hn hm) ?_))
        | (guard_target =~ wpList _ _ _ (Oper.mk _ (Op.convert 26 9 _) _ _ _ _ :: _) _ _; first | (refine wpList_value rfl (run_op_str 26 5 9 _ rfl Try.underlying26 Try.underlying5 Try.underlying9 hx2 rfl) ?_) | (refine wpList_value rfl (run_op_str 26 5 9 _ rfl Try.underlying26 Try.underlying5 Try.underlying9 hy2 rfl) ?_)))
      go_ret
      exact ⟨rfl, u1.trans u2⟩
    · have ne : (n == m) = false := by simpa using hnm
      have : r = false := by rw [← hr]; simp [hnm]
      subst this
      clear hr hnm
      go_enter Try.func22, Try.ntmps22
      go_wp2_with (first | (guard_target =~ wpList _ _ _ (Oper.mk _ (Op.box 42 _) _ _ _ _ :: _) _ _; have _t := tok; clear tok _t; go_must (refine wpList_box_new rfl 42 _ rfl rfl ?_); intro g1 w1 hg1 x1 z1 u1; have X1 := Lib.hid x1; clear x1 hg1 z1) | (guard_target =~ wpList _ _ _ (Oper.mk _ (Op.box 42 _) _ _ _ _ :: _) _ _; go_must (refine wpList_box_new rfl 42 _ rfl rfl ?_); intro g2 w2 hg2 x2 z2 u2; have X2 := Lib.hid x2; have Y1 := Lib.hid (u2.heap X1.out id); have c1 := cell_st0 Y1.out; have c2 := cell_st0 X2.out; have d1 := cell_st2 Y1.out hn; have d2 := cell_st2 X2.out hm; have hx2 := hx.keep (u1.trans u2) (fun _ _ _ => id); have hy2 := hy.keep (u1.trans u2) (fun _ _ _ => id); clear x2 hg2 z2) | (guard_target =~ wpList _ _ _ (Oper.mk _ (Op.load 32 _) _ _ _ _ :: _) _ _; first | (refine wpList_value rfl (run_op_load_agg 32 _ rfl rfl (bvs n) Try.isAgg37 (by rw [Try.size37, size_bvs, hn]) (agg_st1 Y1.out)) ?_) | (refine wpList_value rfl (run_op_load_agg 32 _ rfl rfl (bvs m) Try.isAgg37 (by rw [Try.size37, size_bvs, hm]) (agg_st1 X2.out)) ?_)) | (guard_target =~ wpList _ _ _ (Oper.mk _ (Op.binOp .eql 32 _ _ _) _ _ _ _ :: _) _ _; go_must (refine wpList_value rfl (run_op_eql_arr 32 5 16 _ _ _ rfl rfl rfl Try.underlying32 Try.underlying5 (by kernel_rfl) (by kernel_rfl) hn hm) ?_)))
      go_ret
      exact ⟨rfl, u1.trans u2⟩
  · have te : ((s : Int) == (t : Int)) = false := by rw [beq_eq_false_iff_ne]; intro e; exact hst (Int.ofNat.inj e)
    have : r = false := by rw [← hr]; simp [hst]
    subst this
    clear hr hst
    go_enter Try.func22, Try.ntmps22
    go_wp2_with (first | (guard_target =~ wpList _ _ _ (Oper.mk _ (Op.box 42 _) _ _ _ _ :: _) _ _; have _t := tok; clear tok _t; go_must (refine wpList_box_new rfl 42 _ rfl rfl ?_); intro g1 w1 hg1 x1 z1 u1; have X1 := Lib.hid x1; clear x1 hg1 z1) | (guard_target =~ wpList _ _ _ (Oper.mk _ (Op.box 42 _) _ _ _ _ :: _) _ _; go_must (refine wpList_box_new rfl 42 _ rfl rfl ?_); intro g2 w2 hg2 x2 z2 u2; have X2 := Lib.hid x2; have Y1 := Lib.hid (u2.heap X1.out id); have c1 := cell_st0 Y1.out; have c2 := cell_st0 X2.out; have d1 := cell_st2 Y1.out hn; have d2 := cell_st2 X2.out hm; have hx2 := hx.keep (u1.trans u2) (fun _ _ _ => id); have hy2 := hy.keep (u1.trans u2) (fun _ _ _ => id); clear x2 hg2 z2))
    go_ret
    exact ⟨rfl, u1.trans u2⟩
end Go.Proofs.Ytggepeepjaoibaa

/- jalousieref08.Of. -/
import Derived.Test.YtggepeepjaoibaaRef8b
namespace Go.Proofs.Ytggepeepjaoibaa
open Go.RowKit
set_option linter.unusedVariables false

/-- the head of the two that a row of sectors tells -/
def ofH (S : List (List UInt8)) (most : Nat) : Nat × Nat × List UInt8 :=
  let h := headL (S.getD 0 []) 0 most
  let g := headL (S.getD 1 []) 1 most
  if g.2.2.2 = true ∧ (h.2.2.2 = false ∨ h.1 < g.1) then (g.1, g.2.1, g.2.2.1) else (h.1, h.2.1, h.2.2.1)
theorem headL_ok {b : List UInt8} (hb : b.length = 64) (place most : Nat) : (headL b place most).1 < 18446744073709551616 ∧ (headL b place most).2.1 ≤ most ∧ (headL b place most).2.2.1.length = 16 := by
  unfold headL
  split
  · rename_i h
    exact ⟨num_lt 8 _ (by simp; omega), h.2.2, by simp; omega⟩
  · exact ⟨by decide, Nat.zero_le _, by simp [zeros]⟩
def catL (S : List (List UInt8)) (i : Nat) : List UInt8 := ((S.drop 2).take i).flatten
theorem catL_succ {S : List (List UInt8)} {i : Nat} (hi : 2 + i < S.length) : catL S (i + 1) = catL S i ++ S.getD (2 + i) [] := by
  have h2 : (S.drop 2).take (i + 1) = (S.drop 2).take i ++ [(S.drop 2)[i]'(by simp; omega)] := List.take_succ_eq_append_getElem (by simp; omega)
  unfold catL
  rw [h2, List.flatten_append]
  simp [List.getD_eq_getElem?_getD, List.getElem?_eq_getElem hi]
theorem catL_len {S : List (List UInt8)} (h : ∀ j, j < S.length → (S.getD j []).length = 64) : ∀ i, 2 + i ≤ S.length → (catL S i).length = 64 * i
  | 0, _ => by simp [catL]
  | i + 1, hi => by
    rw [catL_succ (by omega), List.length_append, catL_len h i (by omega), h (2 + i) (by omega)]
    omega

theorem ofstore {w : World} {g : Nat} {xs ys : List UInt8} {t : TypeId} (h : w.heap[g]? = some (.cells (splice (bvs xs).toList 0 (bvs ys).toList).toArray t (0, 0))) (hl : xs.length = ys.length) : w.heap[g]? = some (.cells (bvs ys) t (0, 0)) := by
  rw [h, bvs_toList, bvs_toList, splice_map, splice_all _ _ hl]; rfl
theorem ltX {w : World} {g : Nat} {o : Obj} (h : w.heap[g]? = some o) : g < w.heap.size := lt_of_heap h
theorem ne_new {g g6 : Nat} {S T : Nat → Prop} {a b c : World} (h : g < a.heap.size) (u : Upd S a b) (v : Upd T b c) (h6 : g6 = c.heap.size) : ¬ g = g6 := by
  have := u.size; have := v.size; omega

attribute [local irreducible] wpStill wpReads
set_option maxRecDepth 100000 in
set_option maxHeartbeats 2000000 in
theorem of8_calls {w : World} {v : Value} {us : List Value} {S : List (List UInt8)} (hv : IsRowsB w v us S) (h64 : ∀ j, j < S.length → (S.getD j []).length = 64) {m : Nat} (hm : S.length = m + 2) (hm1 : 1 ≤ m) (hm2 : m ≤ 16384) :
    Calls Try.prog 20 #[v] w fun e w' => ∃ a c, e = .returned (.agg (stA (ofH S (64 * m)).1 (ofH S (64 * m)).2.2 (.slice a (ofH S (64 * m)).2.1 c))) ∧ OwnB w' w.heap.size (.slice a (ofH S (64 * m)).2.1 c) ((catL S m).take (ofH S (64 * m)).2.1) ∧ Upd (fun _ => False) w w' := by
  obtain ⟨a, cap, rfl, v1, v2, v0, v3⟩ := id hv.at_
  obtain ⟨b, off, rfl, hcell⟩ := v3.resolve_left (by intro e; rw [e] at hm; simp at hm)
  unfold maxLen at v2
  have lz16 : (zeros 16).length = 16 := by simp [zeros]
  obtain ⟨most, hmo⟩ : ∃ most, 64 * m = most := ⟨_, rfl⟩
  have hmost : most ≤ 1048576 := by omega
  have hw1 : IntKind.i64.wrap ((S.length : Int) - 2) = (m : Int) := by rw [IntWalk.i64_in _ (by omega)]; omega
  have hw2 : IntKind.i64.wrap (64 * (m : Int)) = (most : Int) := by rw [IntWalk.i64_in _ (by omega)]; omega
  rw [hmo]
  have h0 := h64 0 (by omega)
  have h1 := h64 1 (by omega)
  obtain ⟨p1, p2, p3⟩ := headL_ok h0 0 most
  obtain ⟨q1, q2, q3⟩ := headL_ok h1 1 most
  have hof : ofH S most = if (headL (S.getD 1 []) 1 most).2.2.2 = true ∧ ((headL (S.getD 0 []) 0 most).2.2.2 = false ∨ (headL (S.getD 0 []) 0 most).1 < (headL (S.getD 1 []) 1 most).1) then ((headL (S.getD 1 []) 1 most).1, (headL (S.getD 1 []) 1 most).2.1, (headL (S.getD 1 []) 1 most).2.2.1) else ((headL (S.getD 0 []) 0 most).1, (headL (S.getD 0 []) 0 most).2.1, (headL (S.getD 0 []) 0 most).2.2.1) := rfl
  obtain ⟨⟨rs, rz, rn⟩, hR⟩ : ∃ r, ofH S most = r := ⟨_, rfl⟩
  rw [hR] at hof ⊢
  have B0 := hv.each 0 (by omega)
  have B1 := hv.each 1 (by omega)
  have C0 := hcell 0 (by omega)
  have C1 := hcell 1 (by omega)
  generalize hs0 : S.getD 0 [] = s0 at *
  generalize hs1 : S.getD 1 [] = s1 at *
  obtain ⟨a0, c0, e0, _⟩ := id B0.at_
  obtain ⟨a1, c1, e1, _⟩ := id B1.at_
  rw [h0] at e0
  rw [h1] at e1
  rw [e0] at B0 C0
  rw [e1] at B1 C1
  rw [Nat.add_zero] at C0
  have head0 := fun x (hx : Upd (fun _ => False) w x) => head8_calls (B0.keep hx (fun _ _ _ => id)) h0 (place := 0) (by omega) hmost
  have head1 := fun x (hx : Upd (fun _ => False) w x) => head8_calls (B1.keep hx (fun _ _ _ => id)) h1 (place := 1) (by omega) hmost
  generalize headL s0 0 most = H at p1 p2 p3 hof head0
  generalize headL s1 1 most = G at q1 q2 q3 hof head1
  obtain ⟨hs, hz, hn, hok⟩ := H
  obtain ⟨gs, gz, gn, gok⟩ := G
  simp only at p1 p2 p3 q1 q2 q3 hof head0 head1
  have HOF := Lib.hid hof
  have HMO := Lib.hid hmo
  have K0 := Lib.hid (show ∀ x, Upd (fun _ => False) w x → x.cell? ⟨b, off, none⟩ = some (.slice a0 64 c0) from fun x hx => by
    rw [World.cell?_of_block (hx.block b (World.block_lt_of_cell? w _ C0) id)]; exact C0)
  have K1 := Lib.hid (show ∀ x, Upd (fun _ => False) w x → x.cell? ⟨b, off + 1, none⟩ = some (.slice a1 64 c1) from fun x hx => by
    rw [World.cell?_of_block (hx.block b (World.block_lt_of_cell? w _ C1) id)]; exact C1)
  have H0 := Lib.hid head0
  have H1 := Lib.hid head1
  clear hof hmo hR C0 C1 head0 head1
  have tok : True := trivial
  have tok2 : True := trivial
  have tok3 : True := trivial
  have tok4 : True := trivial
  have hof := HOF.out
  cases gok with
  | false =>
    rw [if_neg (fun h => by cases h.1)] at hof
    have hof := hof.symm
    simp only [Prod.mk.injEq] at hof
    obtain ⟨rfl, rfl, rfl⟩ := hof
    go_enter Try.func20, Try.ntmps20
    go_wp2_with (first | (guard_target =~ wpList _ _ _ (Oper.mk _ (Op.alloc 42) _ _ _ _ :: _) _ _; go_must (refine wpList_alloc_new rfl 42 rfl _ Try.zeroSt ?_); intro g1 w1 hg1 x1 z1 u1; have X1 := Lib.hid x1; have G1 := Lib.hid hg1; have D0 := K0.out w1 u1; clear x1 hg1 z1) | (go_at_call 50; have _t := tok; clear tok _t; go_must (refine (H0.out w1 u1).mono ?_); rintro e w2 ⟨rfl, u2⟩; have U2 := u1.trans u2) | (guard_target =~ wpList _ _ _ (Oper.mk _ (Op.alloc 32) _ _ _ _ :: _) _ _; have _t := tok2; clear tok2 _t; go_must (refine wpList_alloc_new rfl 32 rfl _ Try.zero37 ?_); intro g3 w3 hg3 x3 z3 u3; have X3 := Lib.hid x3; have G3 := Lib.hid hg3; clear x3 hg3 z3) | (guard_target =~ wpList _ _ _ (Oper.mk _ (Op.store 32 _ _) _ _ _ _ :: _) _ _; have _t := tok3; clear tok3 _t; go_must (refine wpList_store_agg rfl 32 _ _ rfl rfl rfl (by rw [Try.size37, size_bvs, p3]) (by kernel_rfl) _ 32 X3.out (by show 0 + (bvs hn).size ≤ (bvs (zeros 16)).size; rw [size_bvs, size_bvs, p3, lz16]; decide) (one_bvs _) ?_); intro w4 x4 u4; have X4 := Lib.hid x4; have U4 := (U2.trans u3).then u4 (fun i hi e => by have := G3.out; have := U2.size; omega); have D1 := K1.out w4 U4; have N13 := Lib.hid (show ¬ g1 = g3 from by have q1 := ltX X1.out; have q2 := u2.size; have q3 := G3.out; omega); have Z4 := Lib.hid (u4.heap (u3.heap (u2.heap X1.out id) id) N13.out); clear x4) | (go_at_call 50; go_must (refine (H1.out w4 U4).mono ?_); rintro e w5 ⟨rfl, u5⟩; have U5 := U4.trans u5) | (guard_target =~ wpList _ _ _ (Oper.mk _ (Op.alloc 32) _ _ _ _ :: _) _ _; go_must (refine wpList_alloc_new rfl 32 rfl _ Try.zero37 ?_); intro g6 w6 hg6 x6 z6 u6; have X6 := Lib.hid x6; have G6 := Lib.hid hg6; clear x6 hg6 z6) | (guard_target =~ wpList _ _ _ (Oper.mk _ (Op.store 32 _ _) _ _ _ _ :: _) _ _; have _t := tok4; clear tok4 _t; go_must (refine wpList_store_agg rfl 32 _ _ rfl rfl rfl (by rw [Try.size37, size_bvs, q3]) (by kernel_rfl) _ 32 X6.out (by show 0 + (bvs gn).size ≤ (bvs (zeros 16)).size; rw [size_bvs, size_bvs, q3, lz16]; decide) (one_bvs _) ?_); intro w7 x7 u7; have X7 := Lib.hid x7; have U7 := (U5.trans u6).then u7 (fun i hi e => by have := G6.out; have := U5.size; omega); have N16 := Lib.hid (show ¬ g1 = g6 from by have q1 := ltX Z4.out; have q2 := u5.size; have q3 := G6.out; omega); have Z7 := Lib.hid (u7.heap (u6.heap (u5.heap Z4.out id) id) N16.out); have Y7 := Lib.hid (ofstore x7 (by rw [lz16, q3])); have NE := Lib.hid (ne_new (ltX X3.out) u4 u5 G6.out); have Y4 := Lib.hid (u7.heap (u6.heap (u5.heap (ofstore X4.out (by rw [lz16, p3])) id) id) NE.out); clear x7) | (guard_target =~ wpList _ _ _ (Oper.mk _ (Op.load 32 _) _ _ _ _ :: _) _ _; go_must (refine wpList_value rfl (run_op_load_agg 32 _ rfl rfl (bvs gn) Try.isAgg37 (by rw [Try.size37, size_bvs, q3]) (agg_bvs Y7.out)) ?_)) | (guard_target =~ wpList _ _ _ (Oper.mk _ (Op.store 32 _ _) _ _ _ _ :: _) _ _; go_must (refine wpList_store_agg rfl 32 _ _ rfl rfl rfl (by rw [Try.size37, size_bvs, q3]) (by kernel_rfl) _ 32 Y4.out (by rw [size_bvs, size_bvs, p3, q3]; decide) (one_bvs _) ?_); intro w8 x8 u8; have U8 := U7.then u8 (fun i hi e => by have := G3.out; have := U2.size; omega); have Z8 := Lib.hid (u8.heap Z7.out N13.out); have Y8 := Lib.hid (ofstore x8 (by rw [p3, q3])); clear x8))
    go_loopw [12, 13] (fun o y wr => ∃ i : Nat, i ≤ m ∧ y = .int .i64 ((2 + i : Nat) : Int) ∧ OwnB wr w7.heap.size o (catL S i) ∧ Upd (fun _ => False) w7 wr) (fun _ y _ => m + 2 - (intOf y).toNat)
    case atStart => exact ⟨0, by omega, rfl, World.ownsRow_nil _ _ _ _, Upd.refl _ _⟩
    case round =>
      obtain ⟨i, hi, rfl, hO, hU⟩ := hrel
      have UW := U7.trans hU
      have hl := catL_len h64 i (by omega)
      by_cases him : i < m
      · have hvr := hv.keep0 UW
        have hc := hvr.cell (k := 2 + i) (by omega)
        have hb := hvr.each (2 + i) (by omega)
        have hb64 := h64 (2 + i) (by omega)
        have hcs := catL_succ (S := S) (i := i) (by omega)
        generalize hx : S.getD (2 + i) [] = xs at hb hb64 hcs
        obtain ⟨pa, pcap, hpe, p1, p2, _⟩ := id hb.at_
        rw [hb64] at hpe
        rw [hpe] at hc hb
        have HCS := Lib.hid hcs
        have HL := Lib.hid hl
        clear hcs hx hl
        have t1 : (2 : Int) + (i : Int) < (m : Int) + 2 := by omega
        have t2 : (0 : Int) ≤ 2 + (i : Int) := by omega
        have t3 : ((2 : Int) + (i : Int)).toNat = 2 + i := by omega
        go_wp2_with (first
          | (at_builtin; go_must (refine wpList_append_bytes w7.heap.size hO hb rfl _ _ rfl rfl rfl hU.size (by rw [HL.out, hb64]; omega) ?_); intro v5 w5 o5 g5))
        refine ⟨⟨i + 1, him, ?_, by rw [HCS.out]; exact o5, g5 _ _ hU (Nat.le_refl _)⟩, ?_⟩
        · show Value.int _ _ = Value.int _ _
          congr 1
        · show m + 2 - ((2 : Int) + (i : Int) + 1).toNat < m + 2 - ((2 : Int) + (i : Int)).toNat
          omega
      · obtain rfl : i = m := by omega
        have t1 : ¬ (2 : Int) + (i : Int) < (i : Int) + 2 := by omega
        obtain ⟨g, gcap, rfl, g1', g2'⟩ := hO.formN hl (by omega)
        have hz64 : hz ≤ 64 * i := by have := HMO.out; omega
        have hcap : (hz : Int) ≤ (gcap : Int) := by
          obtain ⟨a', c', e, q1, q2, _⟩ := hO.bytes.at_
          simp only [Value.slice.injEq] at e
          omega
        have hz0 : (0 : Int) ≤ (hz : Int) := by omega
        have Y9 := Lib.hid (hU.heap Y4.out id)
        have Z9 := Lib.hid (hU.heap Z7.out id)
        clear hl
        go_wp2
        refine region_still_tail 6 (by kernel_rfl) (by kernel_rfl) (fun w5 u5 => ?_); simp only [List.take_succ_cons, List.take_zero, List.drop_succ_cons, List.drop_zero]
        have Y3 := Lib.hid ((u5 (fun _ => False)).heap Y9.out id)
        have Z3 := Lib.hid ((u5 (fun _ => False)).heap Z9.out id)
        have O3 := hO.keep (u5 (fun _ => False)) (fun _ _ => id)
        (apply s_value (by first | rfl | go_simp) (v := ?_); focus (go_simp; exact rfl))
        (apply s_at; focus (go_simp; exact rfl))
        refine s_value rfl (v := .agg (bvs hn)) (run_op_load_agg 32 _ rfl rfl _ Try.isAgg37 (by rw [Try.size37, size_bvs, p3]) (agg_bvs Y3.out)) ?_
        (apply s_at; focus (go_simp; exact rfl))
        (apply s_value (by first | rfl | go_simp) (v := ?_); focus (go_simp; exact rfl))
        (apply s_at; focus (go_simp; exact rfl))
        (apply s_value (by first | rfl | go_simp) (v := ?_); focus (go_simp; exact rfl))
        (apply s_at; focus (go_simp; exact rfl))
        (apply s_value (by first | rfl | go_simp) (v := ?_); focus (go_simp; exact rfl))
        (apply s_at; focus (go_simp; exact rfl))
        refine s_value rfl (v := .agg (stA hs hn (.slice (some ⟨g, 0, none⟩) hz gcap))) (run_op_build 42 #[(0, .tmp 63), (1, .tmp 64), (2, .tmp 67)] rfl _ (by go_simp) _ (Try.builtSt hs hn (some ⟨g, 0, none⟩) hz gcap p3)) ?_
        (apply s_at; focus (go_simp; exact rfl))
        refine wpStill_nil ?_
        go_wp2_with (guard_target =~ wpList _ _ _ (Oper.mk _ (Op.store 42 _ _) _ _ _ _ :: _) _ _; go_must (refine wpList_store_agg rfl 42 _ _ rfl rfl rfl (by rw [Try.sizeSt, stA_size _ _ _ p3]) Try.someSt _ 42 Z3.out (by (rw [stA_size _ _ _ p3]; show 0 + 18 ≤ (stA 0 (zeros 16) (.slice none 0 0)).size; rw [stA_size _ _ _ lz16]; decide)) (stA_one _ _) ?_); intro wx xx ux; have XX := Lib.hid xx; clear xx)
        have x5 : wx.heap[g1]? = some (.cells (stA hs hn (.slice (some ⟨g, 0, none⟩) hz gcap)) 42 (0, 0)) := by
          rw [XX.out, splice_all _ _ (by rw [Array.length_toList, Array.length_toList, stA_size _ _ _ p3]; exact stA_size _ _ _ lz16)]
        have lt1 : ¬ g1 < w.heap.size := by rw [G1.out]; exact Nat.lt_irrefl _
        have hg3 : ∀ k, (Value.slice (some ⟨g, 0, none⟩) hz gcap).ownBlock = some k → ¬ k = g1 := fun k hk e => by
          have q0 : g = k := Option.some.inj hk
          have q1 := g1'
          have q2 : g1 < w7.heap.size := lt_of_heap Z7.out
          omega
        refine bodyPost_ret (results_cell_row rfl _ _ g1 _ (stA hs hn (.slice (some ⟨g, 0, none⟩) hz gcap)) (0, 0) _ rfl x5 Try.underlying42 rfl (by rw [stA_size _ _ _ p3]; kernel_rfl)) rfl ⟨some ⟨g, 0, none⟩, gcap, rfl, ((O3.take hz64).mono U7.size).keep ux hg3, (UW.trans (u5 _)).then ux (fun i hi e => lt1 (e ▸ hi))⟩
  | true =>
    cases hok with
    | false =>
      rw [if_pos ⟨rfl, .inl rfl⟩] at hof
      have hof := hof.symm
      simp only [Prod.mk.injEq] at hof
      obtain ⟨rfl, rfl, rfl⟩ := hof
      go_enter Try.func20, Try.ntmps20
      go_wp2_with (first | (guard_target =~ wpList _ _ _ (Oper.mk _ (Op.alloc 42) _ _ _ _ :: _) _ _; go_must (refine wpList_alloc_new rfl 42 rfl _ Try.zeroSt ?_); intro g1 w1 hg1 x1 z1 u1; have X1 := Lib.hid x1; have G1 := Lib.hid hg1; have D0 := K0.out w1 u1; clear x1 hg1 z1) | (go_at_call 50; have _t := tok; clear tok _t; go_must (refine (H0.out w1 u1).mono ?_); rintro e w2 ⟨rfl, u2⟩; have U2 := u1.trans u2) | (guard_target =~ wpList _ _ _ (Oper.mk _ (Op.alloc 32) _ _ _ _ :: _) _ _; have _t := tok2; clear tok2 _t; go_must (refine wpList_alloc_new rfl 32 rfl _ Try.zero37 ?_); intro g3 w3 hg3 x3 z3 u3; have X3 := Lib.hid x3; have G3 := Lib.hid hg3; clear x3 hg3 z3) | (guard_target =~ wpList _ _ _ (Oper.mk _ (Op.store 32 _ _) _ _ _ _ :: _) _ _; have _t := tok3; clear tok3 _t; go_must (refine wpList_store_agg rfl 32 _ _ rfl rfl rfl (by rw [Try.size37, size_bvs, p3]) (by kernel_rfl) _ 32 X3.out (by show 0 + (bvs hn).size ≤ (bvs (zeros 16)).size; rw [size_bvs, size_bvs, p3, lz16]; decide) (one_bvs _) ?_); intro w4 x4 u4; have X4 := Lib.hid x4; have U4 := (U2.trans u3).then u4 (fun i hi e => by have := G3.out; have := U2.size; omega); have D1 := K1.out w4 U4; have N13 := Lib.hid (show ¬ g1 = g3 from by have q1 := ltX X1.out; have q2 := u2.size; have q3 := G3.out; omega); have Z4 := Lib.hid (u4.heap (u3.heap (u2.heap X1.out id) id) N13.out); clear x4) | (go_at_call 50; go_must (refine (H1.out w4 U4).mono ?_); rintro e w5 ⟨rfl, u5⟩; have U5 := U4.trans u5) | (guard_target =~ wpList _ _ _ (Oper.mk _ (Op.alloc 32) _ _ _ _ :: _) _ _; go_must (refine wpList_alloc_new rfl 32 rfl _ Try.zero37 ?_); intro g6 w6 hg6 x6 z6 u6; have X6 := Lib.hid x6; have G6 := Lib.hid hg6; clear x6 hg6 z6) | (guard_target =~ wpList _ _ _ (Oper.mk _ (Op.store 32 _ _) _ _ _ _ :: _) _ _; have _t := tok4; clear tok4 _t; go_must (refine wpList_store_agg rfl 32 _ _ rfl rfl rfl (by rw [Try.size37, size_bvs, q3]) (by kernel_rfl) _ 32 X6.out (by show 0 + (bvs gn).size ≤ (bvs (zeros 16)).size; rw [size_bvs, size_bvs, q3, lz16]; decide) (one_bvs _) ?_); intro w7 x7 u7; have X7 := Lib.hid x7; have U7 := (U5.trans u6).then u7 (fun i hi e => by have := G6.out; have := U5.size; omega); have N16 := Lib.hid (show ¬ g1 = g6 from by have q1 := ltX Z4.out; have q2 := u5.size; have q3 := G6.out; omega); have Z7 := Lib.hid (u7.heap (u6.heap (u5.heap Z4.out id) id) N16.out); have Y7 := Lib.hid (ofstore x7 (by rw [lz16, q3])); have NE := Lib.hid (ne_new (ltX X3.out) u4 u5 G6.out); have Y4 := Lib.hid (u7.heap (u6.heap (u5.heap (ofstore X4.out (by rw [lz16, p3])) id) id) NE.out); clear x7) | (guard_target =~ wpList _ _ _ (Oper.mk _ (Op.load 32 _) _ _ _ _ :: _) _ _; go_must (refine wpList_value rfl (run_op_load_agg 32 _ rfl rfl (bvs gn) Try.isAgg37 (by rw [Try.size37, size_bvs, q3]) (agg_bvs Y7.out)) ?_)) | (guard_target =~ wpList _ _ _ (Oper.mk _ (Op.store 32 _ _) _ _ _ _ :: _) _ _; go_must (refine wpList_store_agg rfl 32 _ _ rfl rfl rfl (by rw [Try.size37, size_bvs, q3]) (by kernel_rfl) _ 32 Y4.out (by rw [size_bvs, size_bvs, p3, q3]; decide) (one_bvs _) ?_); intro w8 x8 u8; have U8 := U7.then u8 (fun i hi e => by have := G3.out; have := U2.size; omega); have Z8 := Lib.hid (u8.heap Z7.out N13.out); have Y8 := Lib.hid (ofstore x8 (by rw [p3, q3])); clear x8))
      go_loopw [12, 13] (fun o y wr => ∃ i : Nat, i ≤ m ∧ y = .int .i64 ((2 + i : Nat) : Int) ∧ OwnB wr w8.heap.size o (catL S i) ∧ Upd (fun _ => False) w8 wr) (fun _ y _ => m + 2 - (intOf y).toNat)
      case atStart => exact ⟨0, by omega, rfl, World.ownsRow_nil _ _ _ _, Upd.refl _ _⟩
      case round =>
        obtain ⟨i, hi, rfl, hO, hU⟩ := hrel
        have UW := U8.trans hU
        have hl := catL_len h64 i (by omega)
        by_cases him : i < m
        · have hvr := hv.keep0 UW
          have hc := hvr.cell (k := 2 + i) (by omega)
          have hb := hvr.each (2 + i) (by omega)
          have hb64 := h64 (2 + i) (by omega)
          have hcs := catL_succ (S := S) (i := i) (by omega)
          generalize hx : S.getD (2 + i) [] = xs at hb hb64 hcs
          obtain ⟨pa, pcap, hpe, p1, p2, _⟩ := id hb.at_
          rw [hb64] at hpe
          rw [hpe] at hc hb
          have HCS := Lib.hid hcs
          have HL := Lib.hid hl
          clear hcs hx hl
          have t1 : (2 : Int) + (i : Int) < (m : Int) + 2 := by omega
          have t2 : (0 : Int) ≤ 2 + (i : Int) := by omega
          have t3 : ((2 : Int) + (i : Int)).toNat = 2 + i := by omega
          go_wp2_with (first
            | (at_builtin; go_must (refine wpList_append_bytes w8.heap.size hO hb rfl _ _ rfl rfl rfl hU.size (by rw [HL.out, hb64]; omega) ?_); intro v5 w5 o5 g5))
          refine ⟨⟨i + 1, him, ?_, by rw [HCS.out]; exact o5, g5 _ _ hU (Nat.le_refl _)⟩, ?_⟩
          · show Value.int _ _ = Value.int _ _
            congr 1
          · show m + 2 - ((2 : Int) + (i : Int) + 1).toNat < m + 2 - ((2 : Int) + (i : Int)).toNat
            omega
        · obtain rfl : i = m := by omega
          have t1 : ¬ (2 : Int) + (i : Int) < (i : Int) + 2 := by omega
          obtain ⟨g, gcap, rfl, g1', g2'⟩ := hO.formN hl (by omega)
          have hz64 : gz ≤ 64 * i := by have := HMO.out; omega
          have hcap : (gz : Int) ≤ (gcap : Int) := by
            obtain ⟨a', c', e, q1, q2, _⟩ := hO.bytes.at_
            simp only [Value.slice.injEq] at e
            omega
          have hz0 : (0 : Int) ≤ (gz : Int) := by omega
          have Y9 := Lib.hid (hU.heap Y8.out id)
          have Z9 := Lib.hid (hU.heap Z8.out id)
          clear hl
          go_wp2
          refine region_still_tail 6 (by kernel_rfl) (by kernel_rfl) (fun w5 u5 => ?_); simp only [List.take_succ_cons, List.take_zero, List.drop_succ_cons, List.drop_zero]
          have Y3 := Lib.hid ((u5 (fun _ => False)).heap Y9.out id)
          have Z3 := Lib.hid ((u5 (fun _ => False)).heap Z9.out id)
          have O3 := hO.keep (u5 (fun _ => False)) (fun _ _ => id)
          (apply s_value (by first | rfl | go_simp) (v := ?_); focus (go_simp; exact rfl))
          (apply s_at; focus (go_simp; exact rfl))
          refine s_value rfl (v := .agg (bvs gn)) (run_op_load_agg 32 _ rfl rfl _ Try.isAgg37 (by rw [Try.size37, size_bvs, q3]) (agg_bvs Y3.out)) ?_
          (apply s_at; focus (go_simp; exact rfl))
          (apply s_value (by first | rfl | go_simp) (v := ?_); focus (go_simp; exact rfl))
          (apply s_at; focus (go_simp; exact rfl))
          (apply s_value (by first | rfl | go_simp) (v := ?_); focus (go_simp; exact rfl))
          (apply s_at; focus (go_simp; exact rfl))
          (apply s_value (by first | rfl | go_simp) (v := ?_); focus (go_simp; exact rfl))
          (apply s_at; focus (go_simp; exact rfl))
          refine s_value rfl (v := .agg (stA gs gn (.slice (some ⟨g, 0, none⟩) gz gcap))) (run_op_build 42 #[(0, .tmp 63), (1, .tmp 64), (2, .tmp 67)] rfl _ (by go_simp) _ (Try.builtSt gs gn (some ⟨g, 0, none⟩) gz gcap q3)) ?_
          (apply s_at; focus (go_simp; exact rfl))
          refine wpStill_nil ?_
          go_wp2_with (guard_target =~ wpList _ _ _ (Oper.mk _ (Op.store 42 _ _) _ _ _ _ :: _) _ _; go_must (refine wpList_store_agg rfl 42 _ _ rfl rfl rfl (by rw [Try.sizeSt, stA_size _ _ _ q3]) Try.someSt _ 42 Z3.out (by (rw [stA_size _ _ _ q3]; show 0 + 18 ≤ (stA 0 (zeros 16) (.slice none 0 0)).size; rw [stA_size _ _ _ lz16]; decide)) (stA_one _ _) ?_); intro wx xx ux; have XX := Lib.hid xx; clear xx)
          have x5 : wx.heap[g1]? = some (.cells (stA gs gn (.slice (some ⟨g, 0, none⟩) gz gcap)) 42 (0, 0)) := by
            rw [XX.out, splice_all _ _ (by rw [Array.length_toList, Array.length_toList, stA_size _ _ _ q3]; exact stA_size _ _ _ lz16)]
          have lt1 : ¬ g1 < w.heap.size := by rw [G1.out]; exact Nat.lt_irrefl _
          have hg3 : ∀ k, (Value.slice (some ⟨g, 0, none⟩) gz gcap).ownBlock = some k → ¬ k = g1 := fun k hk e => by
            have q0 : g = k := Option.some.inj hk
            have q1 := g1'
            have q2 : g1 < w8.heap.size := lt_of_heap Z8.out
            omega
          refine bodyPost_ret (results_cell_row rfl _ _ g1 _ (stA gs gn (.slice (some ⟨g, 0, none⟩) gz gcap)) (0, 0) _ rfl x5 Try.underlying42 rfl (by rw [stA_size _ _ _ q3]; kernel_rfl)) rfl ⟨some ⟨g, 0, none⟩, gcap, rfl, ((O3.take hz64).mono U8.size).keep ux hg3, (UW.trans (u5 _)).then ux (fun i hi e => lt1 (e ▸ hi))⟩
    | true =>
      by_cases hlt : hs < gs
      · rw [if_pos ⟨rfl, .inr hlt⟩] at hof
        have hof := hof.symm
        simp only [Prod.mk.injEq] at hof
        obtain ⟨rfl, rfl, rfl⟩ := hof
        have te : decide ((hs : Int) < (gs : Int)) = true := decide_eq_true (by omega)
        go_enter Try.func20, Try.ntmps20
        go_wp2_with (first | (guard_target =~ wpList _ _ _ (Oper.mk _ (Op.alloc 42) _ _ _ _ :: _) _ _; go_must (refine wpList_alloc_new rfl 42 rfl _ Try.zeroSt ?_); intro g1 w1 hg1 x1 z1 u1; have X1 := Lib.hid x1; have G1 := Lib.hid hg1; have D0 := K0.out w1 u1; clear x1 hg1 z1) | (go_at_call 50; have _t := tok; clear tok _t; go_must (refine (H0.out w1 u1).mono ?_); rintro e w2 ⟨rfl, u2⟩; have U2 := u1.trans u2) | (guard_target =~ wpList _ _ _ (Oper.mk _ (Op.alloc 32) _ _ _ _ :: _) _ _; have _t := tok2; clear tok2 _t; go_must (refine wpList_alloc_new rfl 32 rfl _ Try.zero37 ?_); intro g3 w3 hg3 x3 z3 u3; have X3 := Lib.hid x3; have G3 := Lib.hid hg3; clear x3 hg3 z3) | (guard_target =~ wpList _ _ _ (Oper.mk _ (Op.store 32 _ _) _ _ _ _ :: _) _ _; have _t := tok3; clear tok3 _t; go_must (refine wpList_store_agg rfl 32 _ _ rfl rfl rfl (by rw [Try.size37, size_bvs, p3]) (by kernel_rfl) _ 32 X3.out (by show 0 + (bvs hn).size ≤ (bvs (zeros 16)).size; rw [size_bvs, size_bvs, p3, lz16]; decide) (one_bvs _) ?_); intro w4 x4 u4; have X4 := Lib.hid x4; have U4 := (U2.trans u3).then u4 (fun i hi e => by have := G3.out; have := U2.size; omega); have D1 := K1.out w4 U4; have N13 := Lib.hid (show ¬ g1 = g3 from by have q1 := ltX X1.out; have q2 := u2.size; have q3 := G3.out; omega); have Z4 := Lib.hid (u4.heap (u3.heap (u2.heap X1.out id) id) N13.out); clear x4) | (go_at_call 50; go_must (refine (H1.out w4 U4).mono ?_); rintro e w5 ⟨rfl, u5⟩; have U5 := U4.trans u5) | (guard_target =~ wpList _ _ _ (Oper.mk _ (Op.alloc 32) _ _ _ _ :: _) _ _; go_must (refine wpList_alloc_new rfl 32 rfl _ Try.zero37 ?_); intro g6 w6 hg6 x6 z6 u6; have X6 := Lib.hid x6; have G6 := Lib.hid hg6; clear x6 hg6 z6) | (guard_target =~ wpList _ _ _ (Oper.mk _ (Op.store 32 _ _) _ _ _ _ :: _) _ _; have _t := tok4; clear tok4 _t; go_must (refine wpList_store_agg rfl 32 _ _ rfl rfl rfl (by rw [Try.size37, size_bvs, q3]) (by kernel_rfl) _ 32 X6.out (by show 0 + (bvs gn).size ≤ (bvs (zeros 16)).size; rw [size_bvs, size_bvs, q3, lz16]; decide) (one_bvs _) ?_); intro w7 x7 u7; have X7 := Lib.hid x7; have U7 := (U5.trans u6).then u7 (fun i hi e => by have := G6.out; have := U5.size; omega); have N16 := Lib.hid (show ¬ g1 = g6 from by have q1 := ltX Z4.out; have q2 := u5.size; have q3 := G6.out; omega); have Z7 := Lib.hid (u7.heap (u6.heap (u5.heap Z4.out id) id) N16.out); have Y7 := Lib.hid (ofstore x7 (by rw [lz16, q3])); have NE := Lib.hid (ne_new (ltX X3.out) u4 u5 G6.out); have Y4 := Lib.hid (u7.heap (u6.heap (u5.heap (ofstore X4.out (by rw [lz16, p3])) id) id) NE.out); clear x7) | (guard_target =~ wpList _ _ _ (Oper.mk _ (Op.load 32 _) _ _ _ _ :: _) _ _; go_must (refine wpList_value rfl (run_op_load_agg 32 _ rfl rfl (bvs gn) Try.isAgg37 (by rw [Try.size37, size_bvs, q3]) (agg_bvs Y7.out)) ?_)) | (guard_target =~ wpList _ _ _ (Oper.mk _ (Op.store 32 _ _) _ _ _ _ :: _) _ _; go_must (refine wpList_store_agg rfl 32 _ _ rfl rfl rfl (by rw [Try.size37, size_bvs, q3]) (by kernel_rfl) _ 32 Y4.out (by rw [size_bvs, size_bvs, p3, q3]; decide) (one_bvs _) ?_); intro w8 x8 u8; have U8 := U7.then u8 (fun i hi e => by have := G3.out; have := U2.size; omega); have Z8 := Lib.hid (u8.heap Z7.out N13.out); have Y8 := Lib.hid (ofstore x8 (by rw [p3, q3])); clear x8))
        go_loopw [12, 13] (fun o y wr => ∃ i : Nat, i ≤ m ∧ y = .int .i64 ((2 + i : Nat) : Int) ∧ OwnB wr w8.heap.size o (catL S i) ∧ Upd (fun _ => False) w8 wr) (fun _ y _ => m + 2 - (intOf y).toNat)
        case atStart => exact ⟨0, by omega, rfl, World.ownsRow_nil _ _ _ _, Upd.refl _ _⟩
        case round =>
          obtain ⟨i, hi, rfl, hO, hU⟩ := hrel
          have UW := U8.trans hU
          have hl := catL_len h64 i (by omega)
          by_cases him : i < m
          · have hvr := hv.keep0 UW
            have hc := hvr.cell (k := 2 + i) (by omega)
            have hb := hvr.each (2 + i) (by omega)
            have hb64 := h64 (2 + i) (by omega)
            have hcs := catL_succ (S := S) (i := i) (by omega)
            generalize hx : S.getD (2 + i) [] = xs at hb hb64 hcs
            obtain ⟨pa, pcap, hpe, p1, p2, _⟩ := id hb.at_
            rw [hb64] at hpe
            rw [hpe] at hc hb
            have HCS := Lib.hid hcs
            have HL := Lib.hid hl
            clear hcs hx hl
            have t1 : (2 : Int) + (i : Int) < (m : Int) + 2 := by omega
            have t2 : (0 : Int) ≤ 2 + (i : Int) := by omega
            have t3 : ((2 : Int) + (i : Int)).toNat = 2 + i := by omega
            go_wp2_with (first
              | (at_builtin; go_must (refine wpList_append_bytes w8.heap.size hO hb rfl _ _ rfl rfl rfl hU.size (by rw [HL.out, hb64]; omega) ?_); intro v5 w5 o5 g5))
            refine ⟨⟨i + 1, him, ?_, by rw [HCS.out]; exact o5, g5 _ _ hU (Nat.le_refl _)⟩, ?_⟩
            · show Value.int _ _ = Value.int _ _
              congr 1
            · show m + 2 - ((2 : Int) + (i : Int) + 1).toNat < m + 2 - ((2 : Int) + (i : Int)).toNat
              omega
          · obtain rfl : i = m := by omega
            have t1 : ¬ (2 : Int) + (i : Int) < (i : Int) + 2 := by omega
            obtain ⟨g, gcap, rfl, g1', g2'⟩ := hO.formN hl (by omega)
            have hz64 : gz ≤ 64 * i := by have := HMO.out; omega
            have hcap : (gz : Int) ≤ (gcap : Int) := by
              obtain ⟨a', c', e, q1, q2, _⟩ := hO.bytes.at_
              simp only [Value.slice.injEq] at e
              omega
            have hz0 : (0 : Int) ≤ (gz : Int) := by omega
            have Y9 := Lib.hid (hU.heap Y8.out id)
            have Z9 := Lib.hid (hU.heap Z8.out id)
            clear hl
            go_wp2
            refine region_still_tail 6 (by kernel_rfl) (by kernel_rfl) (fun w5 u5 => ?_); simp only [List.take_succ_cons, List.take_zero, List.drop_succ_cons, List.drop_zero]
            have Y3 := Lib.hid ((u5 (fun _ => False)).heap Y9.out id)
            have Z3 := Lib.hid ((u5 (fun _ => False)).heap Z9.out id)
            have O3 := hO.keep (u5 (fun _ => False)) (fun _ _ => id)
            (apply s_value (by first | rfl | go_simp) (v := ?_); focus (go_simp; exact rfl))
            (apply s_at; focus (go_simp; exact rfl))
            refine s_value rfl (v := .agg (bvs gn)) (run_op_load_agg 32 _ rfl rfl _ Try.isAgg37 (by rw [Try.size37, size_bvs, q3]) (agg_bvs Y3.out)) ?_
            (apply s_at; focus (go_simp; exact rfl))
            (apply s_value (by first | rfl | go_simp) (v := ?_); focus (go_simp; exact rfl))
            (apply s_at; focus (go_simp; exact rfl))
            (apply s_value (by first | rfl | go_simp) (v := ?_); focus (go_simp; exact rfl))
            (apply s_at; focus (go_simp; exact rfl))
            (apply s_value (by first | rfl | go_simp) (v := ?_); focus (go_simp; exact rfl))
            (apply s_at; focus (go_simp; exact rfl))
            refine s_value rfl (v := .agg (stA gs gn (.slice (some ⟨g, 0, none⟩) gz gcap))) (run_op_build 42 #[(0, .tmp 63), (1, .tmp 64), (2, .tmp 67)] rfl _ (by go_simp) _ (Try.builtSt gs gn (some ⟨g, 0, none⟩) gz gcap q3)) ?_
            (apply s_at; focus (go_simp; exact rfl))
            refine wpStill_nil ?_
            go_wp2_with (guard_target =~ wpList _ _ _ (Oper.mk _ (Op.store 42 _ _) _ _ _ _ :: _) _ _; go_must (refine wpList_store_agg rfl 42 _ _ rfl rfl rfl (by rw [Try.sizeSt, stA_size _ _ _ q3]) Try.someSt _ 42 Z3.out (by (rw [stA_size _ _ _ q3]; show 0 + 18 ≤ (stA 0 (zeros 16) (.slice none 0 0)).size; rw [stA_size _ _ _ lz16]; decide)) (stA_one _ _) ?_); intro wx xx ux; have XX := Lib.hid xx; clear xx)
            have x5 : wx.heap[g1]? = some (.cells (stA gs gn (.slice (some ⟨g, 0, none⟩) gz gcap)) 42 (0, 0)) := by
              rw [XX.out, splice_all _ _ (by rw [Array.length_toList, Array.length_toList, stA_size _ _ _ q3]; exact stA_size _ _ _ lz16)]
            have lt1 : ¬ g1 < w.heap.size := by rw [G1.out]; exact Nat.lt_irrefl _
            have hg3 : ∀ k, (Value.slice (some ⟨g, 0, none⟩) gz gcap).ownBlock = some k → ¬ k = g1 := fun k hk e => by
              have q0 : g = k := Option.some.inj hk
              have q1 := g1'
              have q2 : g1 < w8.heap.size := lt_of_heap Z8.out
              omega
            refine bodyPost_ret (results_cell_row rfl _ _ g1 _ (stA gs gn (.slice (some ⟨g, 0, none⟩) gz gcap)) (0, 0) _ rfl x5 Try.underlying42 rfl (by rw [stA_size _ _ _ q3]; kernel_rfl)) rfl ⟨some ⟨g, 0, none⟩, gcap, rfl, ((O3.take hz64).mono U8.size).keep ux hg3, (UW.trans (u5 _)).then ux (fun i hi e => lt1 (e ▸ hi))⟩
      · rw [if_neg (fun h => h.2.elim (fun h => by cases h) hlt)] at hof
        have hof := hof.symm
        simp only [Prod.mk.injEq] at hof
        obtain ⟨rfl, rfl, rfl⟩ := hof
        have te : decide ((hs : Int) < (gs : Int)) = false := decide_eq_false (by omega)
        go_enter Try.func20, Try.ntmps20
        go_wp2_with (first | (guard_target =~ wpList _ _ _ (Oper.mk _ (Op.alloc 42) _ _ _ _ :: _) _ _; go_must (refine wpList_alloc_new rfl 42 rfl _ Try.zeroSt ?_); intro g1 w1 hg1 x1 z1 u1; have X1 := Lib.hid x1; have G1 := Lib.hid hg1; have D0 := K0.out w1 u1; clear x1 hg1 z1) | (go_at_call 50; have _t := tok; clear tok _t; go_must (refine (H0.out w1 u1).mono ?_); rintro e w2 ⟨rfl, u2⟩; have U2 := u1.trans u2) | (guard_target =~ wpList _ _ _ (Oper.mk _ (Op.alloc 32) _ _ _ _ :: _) _ _; have _t := tok2; clear tok2 _t; go_must (refine wpList_alloc_new rfl 32 rfl _ Try.zero37 ?_); intro g3 w3 hg3 x3 z3 u3; have X3 := Lib.hid x3; have G3 := Lib.hid hg3; clear x3 hg3 z3) | (guard_target =~ wpList _ _ _ (Oper.mk _ (Op.store 32 _ _) _ _ _ _ :: _) _ _; have _t := tok3; clear tok3 _t; go_must (refine wpList_store_agg rfl 32 _ _ rfl rfl rfl (by rw [Try.size37, size_bvs, p3]) (by kernel_rfl) _ 32 X3.out (by show 0 + (bvs hn).size ≤ (bvs (zeros 16)).size; rw [size_bvs, size_bvs, p3, lz16]; decide) (one_bvs _) ?_); intro w4 x4 u4; have X4 := Lib.hid x4; have U4 := (U2.trans u3).then u4 (fun i hi e => by have := G3.out; have := U2.size; omega); have D1 := K1.out w4 U4; have N13 := Lib.hid (show ¬ g1 = g3 from by have q1 := ltX X1.out; have q2 := u2.size; have q3 := G3.out; omega); have Z4 := Lib.hid (u4.heap (u3.heap (u2.heap X1.out id) id) N13.out); clear x4) | (go_at_call 50; go_must (refine (H1.out w4 U4).mono ?_); rintro e w5 ⟨rfl, u5⟩; have U5 := U4.trans u5) | (guard_target =~ wpList _ _ _ (Oper.mk _ (Op.alloc 32) _ _ _ _ :: _) _ _; go_must (refine wpList_alloc_new rfl 32 rfl _ Try.zero37 ?_); intro g6 w6 hg6 x6 z6 u6; have X6 := Lib.hid x6; have G6 := Lib.hid hg6; clear x6 hg6 z6) | (guard_target =~ wpList _ _ _ (Oper.mk _ (Op.store 32 _ _) _ _ _ _ :: _) _ _; have _t := tok4; clear tok4 _t; go_must (refine wpList_store_agg rfl 32 _ _ rfl rfl rfl (by rw [Try.size37, size_bvs, q3]) (by kernel_rfl) _ 32 X6.out (by show 0 + (bvs gn).size ≤ (bvs (zeros 16)).size; rw [size_bvs, size_bvs, q3, lz16]; decide) (one_bvs _) ?_); intro w7 x7 u7; have X7 := Lib.hid x7; have U7 := (U5.trans u6).then u7 (fun i hi e => by have := G6.out; have := U5.size; omega); have N16 := Lib.hid (show ¬ g1 = g6 from by have q1 := ltX Z4.out; have q2 := u5.size; have q3 := G6.out; omega); have Z7 := Lib.hid (u7.heap (u6.heap (u5.heap Z4.out id) id) N16.out); have Y7 := Lib.hid (ofstore x7 (by rw [lz16, q3])); have NE := Lib.hid (ne_new (ltX X3.out) u4 u5 G6.out); have Y4 := Lib.hid (u7.heap (u6.heap (u5.heap (ofstore X4.out (by rw [lz16, p3])) id) id) NE.out); clear x7) | (guard_target =~ wpList _ _ _ (Oper.mk _ (Op.load 32 _) _ _ _ _ :: _) _ _; go_must (refine wpList_value rfl (run_op_load_agg 32 _ rfl rfl (bvs gn) Try.isAgg37 (by rw [Try.size37, size_bvs, q3]) (agg_bvs Y7.out)) ?_)) | (guard_target =~ wpList _ _ _ (Oper.mk _ (Op.store 32 _ _) _ _ _ _ :: _) _ _; go_must (refine wpList_store_agg rfl 32 _ _ rfl rfl rfl (by rw [Try.size37, size_bvs, q3]) (by kernel_rfl) _ 32 Y4.out (by rw [size_bvs, size_bvs, p3, q3]; decide) (one_bvs _) ?_); intro w8 x8 u8; have U8 := U7.then u8 (fun i hi e => by have := G3.out; have := U2.size; omega); have Z8 := Lib.hid (u8.heap Z7.out N13.out); have Y8 := Lib.hid (ofstore x8 (by rw [p3, q3])); clear x8))
        go_loopw [12, 13] (fun o y wr => ∃ i : Nat, i ≤ m ∧ y = .int .i64 ((2 + i : Nat) : Int) ∧ OwnB wr w7.heap.size o (catL S i) ∧ Upd (fun _ => False) w7 wr) (fun _ y _ => m + 2 - (intOf y).toNat)
        case atStart => exact ⟨0, by omega, rfl, World.ownsRow_nil _ _ _ _, Upd.refl _ _⟩
        case round =>
          obtain ⟨i, hi, rfl, hO, hU⟩ := hrel
          have UW := U7.trans hU
          have hl := catL_len h64 i (by omega)
          by_cases him : i < m
          · have hvr := hv.keep0 UW
            have hc := hvr.cell (k := 2 + i) (by omega)
            have hb := hvr.each (2 + i) (by omega)
            have hb64 := h64 (2 + i) (by omega)
            have hcs := catL_succ (S := S) (i := i) (by omega)
            generalize hx : S.getD (2 + i) [] = xs at hb hb64 hcs
            obtain ⟨pa, pcap, hpe, p1, p2, _⟩ := id hb.at_
            rw [hb64] at hpe
            rw [hpe] at hc hb
            have HCS := Lib.hid hcs
            have HL := Lib.hid hl
            clear hcs hx hl
            have t1 : (2 : Int) + (i : Int) < (m : Int) + 2 := by omega
            have t2 : (0 : Int) ≤ 2 + (i : Int) := by omega
            have t3 : ((2 : Int) + (i : Int)).toNat = 2 + i := by omega
            go_wp2_with (first
              | (at_builtin; go_must (refine wpList_append_bytes w7.heap.size hO hb rfl _ _ rfl rfl rfl hU.size (by rw [HL.out, hb64]; omega) ?_); intro v5 w5 o5 g5))
            refine ⟨⟨i + 1, him, ?_, by rw [HCS.out]; exact o5, g5 _ _ hU (Nat.le_refl _)⟩, ?_⟩
            · show Value.int _ _ = Value.int _ _
              congr 1
            · show m + 2 - ((2 : Int) + (i : Int) + 1).toNat < m + 2 - ((2 : Int) + (i : Int)).toNat
              omega
          · obtain rfl : i = m := by omega
            have t1 : ¬ (2 : Int) + (i : Int) < (i : Int) + 2 := by omega
            obtain ⟨g, gcap, rfl, g1', g2'⟩ := hO.formN hl (by omega)
            have hz64 : hz ≤ 64 * i := by have := HMO.out; omega
            have hcap : (hz : Int) ≤ (gcap : Int) := by
              obtain ⟨a', c', e, q1, q2, _⟩ := hO.bytes.at_
              simp only [Value.slice.injEq] at e
              omega
            have hz0 : (0 : Int) ≤ (hz : Int) := by omega
            have Y9 := Lib.hid (hU.heap Y4.out id)
            have Z9 := Lib.hid (hU.heap Z7.out id)
            clear hl
            go_wp2
            refine region_still_tail 6 (by kernel_rfl) (by kernel_rfl) (fun w5 u5 => ?_); simp only [List.take_succ_cons, List.take_zero, List.drop_succ_cons, List.drop_zero]
            have Y3 := Lib.hid ((u5 (fun _ => False)).heap Y9.out id)
            have Z3 := Lib.hid ((u5 (fun _ => False)).heap Z9.out id)
            have O3 := hO.keep (u5 (fun _ => False)) (fun _ _ => id)
            (apply s_value (by first | rfl | go_simp) (v := ?_); focus (go_simp; exact rfl))
            (apply s_at; focus (go_simp; exact rfl))
            refine s_value rfl (v := .agg (bvs hn)) (run_op_load_agg 32 _ rfl rfl _ Try.isAgg37 (by rw [Try.size37, size_bvs, p3]) (agg_bvs Y3.out)) ?_
            (apply s_at; focus (go_simp; exact rfl))
            (apply s_value (by first | rfl | go_simp) (v := ?_); focus (go_simp; exact rfl))
            (apply s_at; focus (go_simp; exact rfl))
            (apply s_value (by first | rfl | go_simp) (v := ?_); focus (go_simp; exact rfl))
            (apply s_at; focus (go_simp; exact rfl))
            (apply s_value (by first | rfl | go_simp) (v := ?_); focus (go_simp; exact rfl))
            (apply s_at; focus (go_simp; exact rfl))
            refine s_value rfl (v := .agg (stA hs hn (.slice (some ⟨g, 0, none⟩) hz gcap))) (run_op_build 42 #[(0, .tmp 63), (1, .tmp 64), (2, .tmp 67)] rfl _ (by go_simp) _ (Try.builtSt hs hn (some ⟨g, 0, none⟩) hz gcap p3)) ?_
            (apply s_at; focus (go_simp; exact rfl))
            refine wpStill_nil ?_
            go_wp2_with (guard_target =~ wpList _ _ _ (Oper.mk _ (Op.store 42 _ _) _ _ _ _ :: _) _ _; go_must (refine wpList_store_agg rfl 42 _ _ rfl rfl rfl (by rw [Try.sizeSt, stA_size _ _ _ p3]) Try.someSt _ 42 Z3.out (by (rw [stA_size _ _ _ p3]; show 0 + 18 ≤ (stA 0 (zeros 16) (.slice none 0 0)).size; rw [stA_size _ _ _ lz16]; decide)) (stA_one _ _) ?_); intro wx xx ux; have XX := Lib.hid xx; clear xx)
            have x5 : wx.heap[g1]? = some (.cells (stA hs hn (.slice (some ⟨g, 0, none⟩) hz gcap)) 42 (0, 0)) := by
              rw [XX.out, splice_all _ _ (by rw [Array.length_toList, Array.length_toList, stA_size _ _ _ p3]; exact stA_size _ _ _ lz16)]
            have lt1 : ¬ g1 < w.heap.size := by rw [G1.out]; exact Nat.lt_irrefl _
            have hg3 : ∀ k, (Value.slice (some ⟨g, 0, none⟩) hz gcap).ownBlock = some k → ¬ k = g1 := fun k hk e => by
              have q0 : g = k := Option.some.inj hk
              have q1 := g1'
              have q2 : g1 < w7.heap.size := lt_of_heap Z7.out
              omega
            refine bodyPost_ret (results_cell_row rfl _ _ g1 _ (stA hs hn (.slice (some ⟨g, 0, none⟩) hz gcap)) (0, 0) _ rfl x5 Try.underlying42 rfl (by rw [stA_size _ _ _ p3]; kernel_rfl)) rfl ⟨some ⟨g, 0, none⟩, gcap, rfl, ((O3.take hz64).mono U7.size).keep ux hg3, (UW.trans (u5 _)).then ux (fun i hi e => lt1 (e ▸ hi))⟩
end Go.Proofs.Ytggepeepjaoibaa

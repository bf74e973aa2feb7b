/- CellsOpens' walk. -/
import Derived.Test.YtggepeepjaoibaaOpens8
import Derived.Test.YtggepeepjaoibaaOReads
namespace Go.Proofs.Ytggepeepjaoibaa
open Go.RowKit
set_option linter.unusedVariables false

theorem IsRowsB.takeN {w : World} {b off l cap : Nat} {us : List Value} {ls : List (List UInt8)} (h : IsRowsB w (.slice (some ⟨b, off, none⟩) l cap) us ls) {n : Nat} (hn : n ≤ ls.length) : IsRowsB w (.slice (some ⟨b, off, none⟩) n cap) us (ls.take n) := by
  obtain ⟨a', c', e, q1, q2, q0, q3⟩ := h.at_
  simp only [Value.slice.injEq] at e
  obtain ⟨rfl, rfl, rfl⟩ := e
  have hl : (ls.take n).length = n := by simp; omega
  refine ⟨⟨some ⟨b, off, none⟩, cap, by rw [hl], by omega, q2, q0, ?_⟩, fun j hj => ?_⟩
  · by_cases h0 : n = 0
    · left; rw [h0]; rfl
    · right
      obtain ⟨b', o', e, hc⟩ := q3.resolve_left (fun e => by rw [e] at hn; simp at hn; omega)
      exact ⟨b', o', e, fun j hj => hc j (by omega)⟩
  · rw [hl] at hj
    have := h.each j (by omega)
    rwa [show (ls.take n).getD j [] = ls.getD j [] by simp [List.getD_eq_getElem?_getD, List.getElem?_take, hj]]

attribute [local irreducible] wpStill wpReads
set_option maxRecDepth 100000 in
set_option maxHeartbeats 2000000 in
theorem opens8_walk {w : World} {v : Value} {us : List Value} {ls : List (List UInt8)} (hv : IsRowsB w v us ls) {f n : Int} (hf : -9223372036854775808 ≤ f ∧ f ≤ 9223372036854775807) (hn : -9223372036854775808 ≤ n ∧ n ≤ 9223372036854775807) :
    Calls Try.prog 4 #[v, .int .i64 f, .int .i64 n] w fun e w' => e = .returned (.bool true) ∧ Upd (fun _ => False) w w' := by
  obtain ⟨a, cap, rfl, v1, v2, v0, v3⟩ := id hv.at_
  unfold maxLen at v2
  by_cases h8 : ls.length ≤ 8
  · have t1 : decide ((8 : Int) < (ls.length : Int)) = false := decide_eq_false (by omega)
    go_enter Try.func4, Try.ntmps4
    go_wp2_with (first
      | (go_at_call 10; go_must (refine (awake08_calls (w := w)).mono ?_); rintro e w1 ⟨rfl, u1⟩)
      | (go_at_call 11; go_must (refine (new_calls ls.length (by omega)).mono ?_); rintro e w2 ⟨d, B, M, rfl, h2, hd, hB, hM, u2⟩; have s2 := h2.lt))
    have U2 := u1.trans u2
    have z1 := u1.size
    go_loopw [8] (fun i wr => ∃ (k : Nat) (E : DiskG), k ≤ ls.length ∧ i = .int .i64 k ∧ IsDisk wr d E ∧ Well E ∧ Like (fresh B M ls.length) E ∧ Upd (fun _ => False) w wr) (fun i _ => ls.length - (intOf i).toNat)
    case atStart => exact ⟨0, _, by omega, rfl, h2, well_fresh B M _, Like.refl _, U2⟩
    case round =>
      obtain ⟨k, E, hk, rfl, hE, hW, hL, hU⟩ := hrel
      have hvr := hv.keep0 hU
      have hnow : E.now.length = ls.length := by rw [hL.hn]; simp [fresh]
      have hEl := hE.lt
      by_cases hkl : k < ls.length
      · obtain ⟨b, off, rfl⟩ : ∃ b off, a = some ⟨b, off, none⟩ := by
          obtain ⟨b, off, e, _⟩ := v3.resolve_left (fun e => by rw [e] at hkl; simp at hkl)
          exact ⟨b, off, e⟩
        have hc := hvr.cell hkl
        have hb := hvr.each k hkl
        generalize ls.getD k [] = xs at hb
        obtain ⟨pa, pcap, hpe, p1, p2, _⟩ := id hb.at_
        rw [hpe] at hc hb
        go_wp2_with (first
          | (go_at_call 19; go_must (refine (full_calls (w := wr) 0 hb).mono ?_); rintro e w4 ⟨vx, rfl, o4, u4⟩)
          | (go_at_call 18; go_must (refine (write_calls (hE.keep u4 id id id) (k : Int) o4.bytes (fun _ => o4.blocks hEl.1 hEl.2.1 hEl.2.2)).mono ?_); rw [wr_calm ⟨by omega, by omega⟩ (full_len _ _) hW.gone hW.fuse, Int.toNat_natCast]; rintro e w5 ⟨rfl, h5, u5⟩))
        refine ⟨⟨k + 1, _, hkl, by rw [Int.natCast_add]; rfl, h5, hW.put _ _, hL.trans (put_like _ _ _), (hU.trans u4).own u5 (by omega) (by rw [hL.hB]; show _ ≤ B; omega) (by rw [hL.hM]; show _ ≤ M; omega)⟩, ?_⟩
        show ls.length - ((k : Int) + 1).toNat < ls.length - ((k : Int)).toNat
        omega
      · obtain rfl : k = ls.length := by omega
        by_cases hbad : n < 3 ∨ f < 0 ∨ (ls.length : Int) < f ∨ (ls.length : Int) - f < n
        · have ob := open_bad hE hf hn (by rw [hnow]; exact hbad)
          have HBAD := Lib.hid hbad
          clear hbad
          by_cases c1 : n < 3
          · go_wp2_with (go_at_call 12; go_must (refine ob.mono ?_); rintro e w3 ⟨rfl, rfl⟩)
            go_ret
            exact ⟨rfl, hU⟩
          · have t1 : decide (n < 3) = false := decide_eq_false c1
            by_cases c2 : f < 0
            · go_wp2_with (go_at_call 12; go_must (refine ob.mono ?_); rintro e w3 ⟨rfl, rfl⟩)
              go_ret
              exact ⟨rfl, hU⟩
            · have t2 : decide (f < 0) = false := decide_eq_false c2
              by_cases c3 : (ls.length : Int) < f
              · go_wp2_with (go_at_call 12; go_must (refine ob.mono ?_); rintro e w3 ⟨rfl, rfl⟩)
                go_ret
                exact ⟨rfl, hU⟩
              · have t3 : decide ((ls.length : Int) < f) = false := decide_eq_false c3
                have c4 : (ls.length : Int) - f < n := by have := HBAD.out; omega
                have t4 : decide ((ls.length : Int) - f < n) = true := decide_eq_true c4
                have hw : IntKind.i64.wrap ((ls.length : Int) - f) = (ls.length : Int) - f := IntWalk.i64_in _ (by omega)
                go_wp2_with (go_at_call 12; go_must (refine ob.mono ?_); rintro e w3 ⟨rfl, rfl⟩)
                go_ret
                exact ⟨rfl, hU⟩
        · obtain ⟨N, rfl⟩ : ∃ N : Nat, n = (N : Int) := ⟨n.toNat, by omega⟩
          obtain ⟨F, rfl⟩ : ∃ F : Nat, f = (F : Int) := ⟨f.toNat, by omega⟩
          have hN3 : 3 ≤ N := by omega
          have hFN : F + N ≤ E.now.length := by omega
          clear hbad
          have t1 : decide ((N : Int) < 3) = false := decide_eq_false (by omega)
          have t2 : decide ((F : Int) < 0) = false := decide_eq_false (by omega)
          have t3 : decide ((ls.length : Int) < (F : Int)) = false := decide_eq_false (by omega)
          have t4 : decide ((ls.length : Int) - (F : Int) < (N : Int)) = false := decide_eq_false (by omega)
          have hw : IntKind.i64.wrap ((ls.length : Int) - (F : Int)) = (ls.length : Int) - (F : Int) := IntWalk.i64_in _ (by omega)
          have hdl : (E.now.drop F).length = E.now.length - F := List.length_drop
          have hS64 : ∀ j, j < ((E.now.drop F).take N).length → (((E.now.drop F).take N).getD j []).length = 64 := fun j hj => by
            rw [List.length_take, hdl] at hj
            rw [List.getD_eq_getElem?_getD, List.getElem?_take, if_pos (by omega), List.getElem?_drop, ← List.getD_eq_getElem?_getD]
            exact hE.secLen (by omega)
          have hSl : ((E.now.drop F).take N).length = N - 2 + 2 := by rw [List.length_take, hdl]; omega
          have hfew := hE.few
          have hof : ofH ((E.now.drop F).take N) (64 * (N - 2)) = opH E F (64 * (N - 2)) := ofH_is E F _ _
            (by rw [List.getD_eq_getElem?_getD, List.getElem?_take, if_pos (by omega), List.getElem?_drop, ← List.getD_eq_getElem?_getD])
            (by rw [List.getD_eq_getElem?_getD, List.getElem?_take, if_pos (by omega), List.getElem?_drop, ← List.getD_eq_getElem?_getD])
          have hcat := catL_is E F N (by omega)
          have of8 := fun x (a4 : Option Addr) (us4 : List Value) (c4 : Nat) (hx : IsRowsB x (.slice a4 N c4) us4 ((E.now.drop F).take N)) => of8_calls hx hS64 hSl (by omega) (by omega)
          rw [hof, hcat] at of8
          have hz := (headJ_ok (f := F) (most := 64 * (N - 2)) hE (by omega) 2).2.2.1
          have hs := (headJ_ok (f := F) (most := 64 * (N - 2)) hE (by omega) 2).2.2.2
          have hopen := open_calls (f := F) (n := N) hE hW.gone hN3 hFN
          have hcl := catS_len hE (F + 2) (N - 2) (by omega)
          change (opH E F (64 * (N - 2))).2.1 ≤ 64 * (N - 2) at hz
          change (opH E F (64 * (N - 2))).2.2.length = 16 at hs
          generalize opH E F (64 * (N - 2)) = HD at of8 hopen hz hs
          generalize catS E (F + 2) (N - 2) = CB at of8 hopen hcl
          obtain ⟨rs, rz, rn⟩ := HD
          simp only at of8 hopen hz hs
          obtain ⟨xs, hxs⟩ : ∃ xs, CB.take rz = xs := ⟨_, rfl⟩
          have hxl : xs.length = rz := by rw [← hxs, List.length_take]; omega
          rw [hxs] at of8 hopen
          clear hxs
          subst hxl
          have HO8 := Lib.hid of8
          have HOP := Lib.hid hopen
          clear of8 hopen hof hcat hSl hS64
          go_wp2_with (first
            | (go_at_call 12; go_must (refine HOP.out.mono ?_); rintro e w3 ⟨p, v3, rfl, L3, u3, hp⟩)
            | (go_at_call 21; go_must (refine (sectors8_calls (f := F) (hE.keep u3 id id id) hW.gone (by omega)).mono ?_); rintro e w4 ⟨v4, us4, rfl, R4, u4⟩; obtain ⟨a4, c4, rfl, r41, r42, r40, r43⟩ := id R4.at_; obtain ⟨b4, o4, rfl, _⟩ := r43.resolve_left (fun e => by rw [e] at hdl; simp at hdl; omega); have hNc : (N : Int) ≤ (c4 : Int) := (by omega); have R4n := R4.takeN (n := N) (by omega); clear r43)
            | (go_at_call 20; go_must (refine (HO8.out _ _ _ _ R4n).mono ?_); rintro e w5 ⟨a5, c5, rfl, o5, u5⟩)
            | (guard_target =~ wpList _ _ _ (Oper.mk _ (Op.alloc 42) _ _ _ _ :: _) _ _; go_must (refine wpList_alloc_new rfl 42 rfl _ Try.zeroSt ?_); intro g6 w6 hg6 x6 z6 u6; have X6 := Lib.hid x6; have G6 := Lib.hid hg6; clear x6 hg6 z6)
            | (guard_target =~ wpList _ _ _ (Oper.mk _ (Op.store 42 _ _) _ _ _ _ :: _) _ _; go_must (refine wpList_store_agg rfl 42 _ _ rfl rfl rfl (by rw [Try.sizeSt, stA_size _ _ _ hs]) Try.someSt _ 42 X6.out (by (rw [stA_size _ _ _ hs]; show 0 + 18 ≤ (stA 0 (zeros 16) (.slice none 0 0)).size; rw [stA_size _ _ _ (by simp [zeros])]; decide)) (stA_one _ _) ?_); intro w7 x7 u7; have X7 := Lib.hid x7; clear x7))
          have U57 : Upd (fun _ => False) w5 w7 := u6.then u7 (fun i hi e => by have := G6.out; omega)
          have U37 := (u4.trans u5).trans U57
          have L7 := L3.quiet U37
          have b7 := o5.bytes.keep U57 (fun _ _ _ => id)
          have x7 : w7.heap[g6]? = some (.cells (stA rs rn (.slice a5 xs.length c5)) 42 (0, 0)) := by
            rw [X7.out, splice_all _ _ (by rw [Array.length_toList, Array.length_toList, stA_size _ _ _ hs]; exact stA_size _ _ _ (by simp [zeros]))]
          have U7 := (hU.trans u3).trans U37
          have hxl : xs.length ≤ 140737488355328 := by omega
          refine region_order 1 21 (by kernel_rfl) (by kernel_rfl) rfl (by kernel_rfl) (fun x => x.heap[g6]? = some (.cells (stA rs rn (.slice a5 xs.length c5)) 42 (0, 0))) x7 ?_
          simp only [List.take_succ_cons, List.take_zero]
          (apply r_value (by first | rfl | go_simp) (v := ?_); focus (intro _ _; go_simp; try exact rfl)); (apply r_at; focus (go_simp; exact rfl))
          refine r_nil ?_
          have u8 : Upd (fun _ => False) w7 { w7 with drawn := w7.drawn + 1 } := (Upd.refl _ w7).drew
          generalize ({ w7 with drawn := w7.drawn + 1 } : World) = w8 at u8
          have x8 := u8.heap x7 id
          refine o_readsK (k := 2) 1 (fun _ _ _ h => h.1) (by kernel_rfl) x8 (by decide) (by kernel_rfl) ?_
          simp only [List.drop_succ_cons, List.drop_zero, List.take_succ_cons, List.take_zero]
          refine r_value rfl (v := (.agg (stA rs rn (.slice a5 xs.length c5)))) (fun x hx => run_op_load_agg 42 _ rfl rfl _ Try.isAggSt (by rw [Try.sizeSt, stA_size _ _ _ hs]) (agg_heap hx)) ?_; (apply r_at; focus (go_simp; exact rfl))
          refine r_nil ?_
          refine o_one 1 (by kernel_rfl) rfl rfl ?_
          have st8 : Calls Try.prog 23 #[.pointer (some ⟨p, 0, none⟩)] w8 (fun e w' => ∃ a c, e = .returned (.agg (stA rs rn (.slice a xs.length c))) ∧ OwnB w' w8.heap.size (.slice a xs.length c) xs ∧ Upd (fun _ => False) w8 w') := state8_calls (L7.quiet u8) hxl
          refine mid_call 23 #[.pointer (some ⟨p, 0, none⟩)] (by go_simp) (st8.mono ?_)
          rintro e w9 ⟨a9, c9, rfl, o9, u9⟩
          have x9 := u9.heap x8 id
          refine ⟨_, rfl, x9, ?_⟩
          (apply o_at; focus (go_simp; exact rfl))
          refine o_one 3 (by kernel_rfl) rfl rfl ?_
          refine mid_call 22 #[.agg (stA rs rn (.slice a9 xs.length c9)), .agg (stA rs rn (.slice a5 xs.length c5))] (by go_simp) ((same8_calls o9.bytes (b7.keep (u8.trans u9) (fun _ _ _ => id)) hs hs).mono ?_)
          rintro e w10 ⟨rfl, u10⟩
          have hd : decide (rs = rs ∧ rn = rn ∧ xs = xs) = true := by simp
          rw [hd]
          have x10 := u10.heap x9 id
          refine ⟨_, rfl, x10, ?_⟩
          (apply o_at; focus (go_simp; exact rfl))
          refine o_one 4 (by kernel_rfl) rfl rfl ?_
          refine o_value (v := .bool true) (w' := w10) (by go_simp) ⟨x10, ?_⟩
          (apply o_at; focus (go_simp; exact rfl))
          have hw1 : IntKind.i64.wrap ((N : Int) - 2) = ((N - 2 : Nat) : Int) := by rw [IntWalk.i64_in _ (by omega)]; omega
          have hw2 : IntKind.i64.wrap (64 * ((N - 2 : Nat) : Int)) = ((64 * (N - 2) : Nat) : Int) := by rw [IntWalk.i64_in _ (by omega)]; omega
          have hw3 : IntKind.i64.wrap (((64 * (N - 2) : Nat) : Int) - (xs.length : Int)) = ((64 * (N - 2) : Nat) : Int) - (xs.length : Int) := IntWalk.i64_in _ (by omega)
          generalize 64 * (N - 2) = MM at *
          generalize N - 2 = NN at *
          refine o_readsK (k := 5) 1 (fun _ _ _ h => h.1) (by kernel_rfl) x10 (by decide) (by kernel_rfl) ?_
          simp only [List.drop_succ_cons, List.drop_zero, List.take_succ_cons, List.take_zero]
          (apply r_value (by first | rfl | go_simp) (v := ?_); focus (intro _ _; go_simp; try exact rfl)); (apply r_at; focus (go_simp; exact rfl))
          refine r_nil ?_
          refine o_readsK (k := 7) 7 (fun _ _ _ h => h.1) (by kernel_rfl) x10 (by decide) (by kernel_rfl) ?_
          simp only [List.drop_succ_cons, List.drop_zero, List.take_succ_cons, List.take_zero]
          iterate 4 ((apply r_value (by first | rfl | go_simp) (v := ?_); focus (intro _ _; go_simp; try exact rfl)); (apply r_at; focus (go_simp; exact rfl)))
          refine r_load rfl 26 (.tmp 88) rfl (fun w => by go_simp) ⟨g6, 17, none⟩ rfl _ (fun x hx => cell_st2 hx hs) ?_; (apply r_at; focus (go_simp; exact rfl))
          iterate 2 ((apply r_value (by first | rfl | go_simp) (v := ?_); focus (intro _ _; go_simp; try exact rfl)); (apply r_at; focus (go_simp; exact rfl)))
          refine r_nil ?_
          have L10 := L7.quiet ((u8.trans u9).trans u10)
          have rm : Calls Try.prog 24 #[.pointer (some ⟨p, 0, none⟩)] w10 (fun e w' => e = .returned (.int .i64 ((MM : Int) - (xs.length : Int))) ∧ Upd (fun _ => False) w10 w') := room_calls L10
          refine o_one 6 (by kernel_rfl) rfl rfl ?_
          refine mid_call 24 #[.pointer (some ⟨p, 0, none⟩)] (by go_simp) (rm.mono ?_)
          rintro e w11 ⟨rfl, u11⟩
          have x11 := u11.heap x10 id
          refine ⟨_, rfl, x11, ?_⟩
          (apply o_at; focus (go_simp; exact rfl))
          refine o_readsK (k := 14) 4 (fun _ _ _ h => h.1) (by kernel_rfl) x11 (by decide) (by kernel_rfl) ?_
          simp only [List.drop_succ_cons, List.drop_zero, List.take_succ_cons, List.take_zero]
          iterate 4 ((apply r_value (by first | rfl | go_simp) (v := ?_); focus (intro _ _; go_simp; try exact rfl)); (apply r_at; focus (go_simp; exact rfl)))
          refine r_nil ?_
          have ov : Calls Try.prog 25 #[.pointer (some ⟨p, 0, none⟩)] w11 (fun e w' => e = .returned (.bool false) ∧ w11 = w') := over_calls (L10.quiet u11)
          refine o_one 18 (by kernel_rfl) rfl rfl ?_
          refine mid_call 25 #[.pointer (some ⟨p, 0, none⟩)] (by go_simp) (ov.mono ?_)
          rintro e w12 ⟨rfl, rfl⟩
          refine ⟨_, rfl, x11, ?_⟩
          (apply o_at; focus (go_simp; exact rfl))
          refine o_one 19 (by kernel_rfl) rfl rfl ?_
          refine o_value (v := .bool true) (w' := w11) (by go_simp) ⟨x11, ?_⟩
          (apply o_at; focus (go_simp; exact rfl))
          refine o_one 20 (by kernel_rfl) rfl rfl ?_
          refine o_value (v := .bool true) (w' := w11) (by go_simp) ⟨x11, ?_⟩
          (apply o_at; focus (go_simp; exact rfl))
          refine o_one 21 (by kernel_rfl) rfl rfl ?_
          refine o_value (v := .bool true) (w' := w11) (by go_simp) ⟨x11, ?_⟩
          (apply o_at; focus (go_simp; exact rfl))
          refine o_end (by kernel_rfl) ?_
          go_wp2
          go_ret
          exact ⟨rfl, (((U7.trans u8).trans u9).trans u10).trans u11⟩
  · have t1 : decide ((8 : Int) < (ls.length : Int)) = true := decide_eq_true (by omega)
    have tok : True := trivial
    go_enter Try.func4, Try.ntmps4
    go_wp2_with (first
      | (go_at_call 10; have _t := tok; clear tok _t; go_must (refine (awake08_calls (w := w)).mono ?_); rintro e w1 ⟨rfl, u1⟩)
      | (go_at_call 10; go_must (refine (awake08_calls (w := w1)).mono ?_); rintro e w2 ⟨rfl, u2⟩))
    go_ret
    exact ⟨rfl, u1.trans u2⟩
end Go.Proofs.Ytggepeepjaoibaa

/- CellsPlays' walk. -/
import Derived.Test.YtggepeepjaoibaaPlays8a
namespace Go.Proofs.Ytggepeepjaoibaa
open Go.RowKit
set_option linter.unusedVariables false

attribute [local irreducible] wpStill wpReads
set_option maxRecDepth 100000 in
set_option maxHeartbeats 0 in
theorem plays8_walk {w : World} (n : UInt8) {v : Value} {os : List OpG} (hv : IsOps opA8 w v os) : Calls Try.prog 8 #[.int .u8 (n.toNat : Int), v] w fun e w' => e = .returned (.bool true) ∧ Upd (fun _ => False) w w' := by
  have hn8 := n.toNat_lt
  obtain ⟨q, hq⟩ : ∃ q, q = n.toNat % 9 := ⟨_, rfl⟩
  have hq' : ((n.toNat : Int) % 9) = (q : Int) := by omega
  have hq1 : q < 9 := by omega
  generalize n.toNat = nn at *
  have HQ := Lib.hid hq
  clear hq
  obtain ⟨S, hS⟩ : ∃ S, S = 4 + q := ⟨_, rfl⟩
  obtain ⟨T, hT⟩ : ∃ T, T = 3 + q := ⟨_, rfl⟩
  have hwS : IntKind.i64.wrap (4 + (q : Int)) = (S : Int) := by rw [IntWalk.i64_in _ (by omega)]; omega
  have hwT : IntKind.i64.wrap (3 + (q : Int)) = (T : Int) := by rw [IntWalk.i64_in _ (by omega)]; omega
  have hST := Lib.hid (show S = T + 1 by omega)
  have hT3 : 3 ≤ T := by omega
  have hT11 : T ≤ 11 := by omega
  clear hS hT
  obtain ⟨m, hm⟩ : ∃ m, m = T - 2 := ⟨_, rfl⟩
  obtain ⟨a, cap, rfl, v1, v2, _⟩ := id hv.at_
  unfold maxLen at v2
  have tok : True := trivial
  go_enter Try.func8, Try.ntmps8
  go_wp2_with (first
    | (go_at_call 10; have _t := tok; clear tok _t; go_must (refine (awake08_calls (w := w)).mono ?_); rintro e w1 ⟨rfl, u1⟩)
    | (go_at_call 38; go_must (refine (few8_calls (hv.keep0 u1)).mono ?_); rintro e w' ⟨⟨fb, rfl⟩, rfl⟩)
    | (go_at_call 10; go_must (refine (awake08_calls (w := w1)).mono ?_); rintro e w2 ⟨rfl, u2⟩)
    | (go_at_call 11; go_must (refine (new_calls S (by have := hST.out; omega)).mono ?_); rintro e w2 ⟨d, B, M, rfl, h2, hd, hB, hM, u2⟩; have s2 := h2.lt)
    | (go_at_call 12; go_must (refine (open_tells (f := 1) (n := T) h2 rfl hT3 (by show 1 + T ≤ (List.replicate S (zeros 64)).length; rw [List.length_replicate]; have := hST.out; omega) (tells_fresh B M S 1 (T - 2) (by have := hST.out; omega))).mono ?_); rintro e w3 ⟨p3, v3, rfl, L3, u3, hp3⟩))
  · go_ret
    exact ⟨rfl, u1.trans u2⟩
  have U3 := (u1.trans u2).trans u3
  have z1 := u1.size
  have hSm := Lib.hid (show S = m + 3 by have := hST.out; omega)
  rw [← hm] at L3
  go_loopw [6, 8] (fun lv iv wr => ∃ (k s p : Nat) (D : DiskG) (xs nt : List UInt8) (v : Value), k ≤ os.length ∧ iv = .int .i64 k ∧ lv = .pointer (some ⟨p, 0, none⟩) ∧ IsDisk wr d D ∧ Well D ∧ Like (fresh B M S) D ∧ D.loose = [] ∧ d < p ∧ B < p ∧ M < p ∧
      IsLog wr p (logG d 1 m s xs nt v) ∧ Tells D 1 m s xs nt ∧ xs.length ≤ 64 * m ∧ Upd (fun _ => False) w wr) (fun _ iv _ => os.length - (intOf iv).toNat)
  case atStart => exact ⟨0, 0, p3, _, _, _, v3, by omega, rfl, rfl, h2.keep u3 id id id, well_fresh B M S, Like.refl _, rfl, by omega, by have := s2.2.1; show B < p3; exact Nat.lt_of_lt_of_le this hp3, by have := s2.2.2; show M < p3; exact Nat.lt_of_lt_of_le this hp3, L3, tells_fresh B M S 1 m (by have := hST.out; omega), by simp, U3⟩
  case round =>
    obtain ⟨k, s, p, D, xs, nt, v, hk, rfl, rfl, hD, hW, hL, hlo, hdp, hBp, hMp, hlog, hT, hxm, hU⟩ := hrel
    have hnow : D.now.length = m + 3 := by rw [hL.hn]; simp [fresh, hSm.out]
    have hB' : D.B = B := hL.hB
    have hM' : D.M = M := hL.hM
    have hvr := hv.keep0 hU
    have hmm : 64 * m ≤ 1048576 := hlog.hm
    have hs64 : s < 18446744073709551616 := hlog.hs
    have hnt : nt.length = 16 := hlog.hn
    have HXS := Lib.hid (show xs.length ≤ 140737488355328 by omega)
    have HMM := Lib.hid hmm
    have HT := Lib.hid hT
    have HM := Lib.hid hm
    clear hT hm
    by_cases hkl : k < os.length
    · obtain ⟨b, off, rfl⟩ := hvr.addr (by omega)
      obtain ⟨o, ho⟩ : ∃ o, os[k]? = some o := ⟨_, List.getElem?_eq_getElem hkl⟩
      have hag := hvr.agg ho
      have hob := (hvr.each o (List.mem_of_getElem? ho)).1
      have hoi := Lib.hid (hvr.each o (List.mem_of_getElem? ho)).2
      obtain ⟨ok, on, oi, ob, ov⟩ := o
      simp only at hob
      obtain ⟨pa, pcap, rfl, p1, p2, _⟩ := id hob.at_
      have HO := Lib.hid ho
      clear ho
      have HAG := Lib.hid hag
      clear hag
      have hpl : p < wr.heap.size := hlog.lt
      obtain ⟨rm, hrm⟩ : ∃ rm : Nat, xs.length + rm = 64 * m := ⟨64 * m - xs.length, by omega⟩
      have room := fun x (hx : Upd (fun _ => False) wr x) => room_calls (hlog.quiet hx)
      have er : ((logG d 1 m s xs nt v).most : Int) - ((logG d 1 m s xs nt v).xs.length : Int) = (rm : Int) := by show ((64 * m : Nat) : Int) - (xs.length : Int) = _; omega
      rw [er] at room
      have ROOM := Lib.hid room
      have HRM := Lib.hid hrm
      clear room er hrm hmm
      by_cases hsp : 4611686018427387904 ≤ s
      · have tsp : decide ((4611686018427387904 : Int) ≤ (s : Int)) = true := decide_eq_true (by omega)
        have HSP := Lib.hid hsp
        have HS64 := Lib.hid hs64
        clear hsp hs64 hn8 hwS
        go_wp2_with (first | (guard_target =~ wpList _ _ _ (Oper.mk _ (Op.load 82 _) _ _ _ _ :: _) _ _; go_must (refine wpList_value rfl (run_op_load_agg 82 _ rfl rfl _ Try.isAggOp (by rw [Try.sizeOp]; rfl) HAG.out) ?_)) | (guard_target =~ wpList _ _ _ (Oper.mk _ (Op.alloc 82) _ _ _ _ :: _) _ _; go_must (refine wpList_alloc_new rfl 82 rfl _ Try.zeroOp ?_); intro g4 w4 hg4 x4 z4 u4; have X4 := Lib.hid x4; have G4 := Lib.hid hg4; clear x4 z4 hg4) | (guard_target =~ wpList _ _ _ (Oper.mk _ (Op.store 82 _ _) _ _ _ _ :: _) _ _; go_must (refine wpList_store_agg rfl 82 _ _ rfl rfl rfl (by rw [Try.sizeOp]; rfl) Try.someOp _ 82 X4.out (by show 0 + 4 ≤ 4; decide) op8_one ?_); intro w5 x5 u5; have X5 := Lib.hid (show w5.heap[g4]? = some (.cells (opA8 ⟨ok, on, oi, ob, .slice pa ob.length pcap⟩) 82 (0, 0)) from x5); have U5 : Upd (fun _ => False) wr w5 := u4.then u5 (fun i hi e => by have := G4.out; omega); clear x5) | (go_at_call 23; go_must (refine (state_logG (hlog.quiet U5) HXS.out).mono ?_); rintro e w6 ⟨a6, c6, rfl, o6, u6⟩) | (guard_target =~ wpList _ _ _ (Oper.mk _ (Op.alloc 42) _ _ _ _ :: _) _ _; go_must (refine wpList_alloc_new rfl 42 rfl _ Try.zeroSt ?_); intro g7 w7 hg7 x7 z7 u7; have X7 := Lib.hid x7; have G7 := Lib.hid hg7; clear x7 z7 hg7) | (guard_target =~ wpList _ _ _ (Oper.mk _ (Op.store 42 _ _) _ _ _ _ :: _) _ _; go_must (refine wpList_store_agg rfl 42 _ _ rfl rfl rfl (by rw [Try.sizeSt]; exact (stA_size _ _ _ hnt).symm) Try.someSt _ 42 X7.out (by show 0 + (stA s nt _).size ≤ (stA 0 (zeros 16) (.slice none 0 0)).size; rw [stA_size _ _ _ hnt, stA_size _ _ _ (by simp [zeros])]; decide) (stA_one _ _) ?_); intro w8 x8 u8; have X8 := Lib.hid (st_store x8 (by simp [zeros]) hnt); clear x8; have U58 : Upd (fun _ => False) w5 w8 := (u6.trans u7).then u8 (fun i hi e => by have := G7.out; have := u6.size; omega); have X58 := Lib.hid (U58.heap X5.out id); have o8 := Lib.hid (o6.bytes.keep (u7.then u8 (S := fun _ => False) (fun i hi e => by have := G7.out; omega)) (fun _ _ _ => id)); have U8 : Upd (fun _ => False) wr w8 := U5.trans U58) | (go_at_call 24; go_must (refine (ROOM.out w8 U8).mono ?_); rintro e w9 ⟨rfl, u9⟩; have X9 := Lib.hid (u9.heap X8.out id); have X59 := Lib.hid (u9.heap X58.out id); have c0 := cell_st0 X9.out; have U9 := U8.trans u9; have O9 := Lib.hid (o8.out.keep u9 (fun _ _ _ => id)); have r0 := op8_k X59.out; have r3 := op8_v X59.out))
        refine region_order 5 15 (by kernel_rfl) (by kernel_rfl) rfl (by kernel_rfl) (fun x => x.heap[g4]? = some (.cells (opA8 ⟨ok, on, oi, ob, .slice pa ob.length pcap⟩) 82 (0, 0)) ∧ x.heap[g7]? = some (.cells (stA s nt (.slice a6 xs.length c6)) 42 (0, 0))) ⟨X59.out, X9.out⟩ ?_
        simp only [List.take_succ_cons, List.take_zero]
        (apply r_value (by first | rfl | go_simp) (v := ?_); focus (intro _ _; go_simp; try exact rfl)); (apply r_at; focus (go_simp; exact rfl))
        (apply r_value (by first | rfl | go_simp) (v := ?_); focus (intro _ _; go_simp; try exact rfl)); (apply r_at; focus (go_simp; exact rfl))
        refine r_load rfl 26 (.tmp 58) rfl (fun w => by go_simp) ⟨g4, 3, none⟩ rfl _ (fun x hx => op8_v hx.1) ?_; (apply r_at; focus (go_simp; exact rfl))
        (apply r_value (by first | rfl | go_simp) (v := ?_); focus (intro _ _; go_simp; try exact rfl)); (apply r_at; focus (go_simp; exact rfl))
        refine r_load rfl 5 (.tmp 60) rfl (fun w => by go_simp) ⟨g4, 1, none⟩ rfl _ (fun x hx => op8_n hx.1) ?_; (apply r_at; focus (go_simp; exact rfl))
        refine r_nil ?_
        have ua : Upd (fun _ => False) w9 { w9 with drawn := w9.drawn + 1 } := (Upd.refl _ w9).drew
        generalize ({ w9 with drawn := w9.drawn + 1 } : World) = wa at ua
        have hC := And.intro (ua.heap X59.out id) (ua.heap X9.out id)
        refine o_one 5 (by kernel_rfl) rfl rfl ?_
        refine mid_call 14 #[.int .u8 (on.toNat : Int)] (by go_simp) ((note8_calls on).mono ?_)
        rintro e wb ⟨rfl, ub⟩
        have hC := And.intro (ub.heap hC.1 id) (ub.heap hC.2 id)
        refine ⟨_, rfl, hC, ?_⟩
        (apply o_at; focus (go_simp; exact rfl))
        refine o_one 6 (by kernel_rfl) rfl rfl ?_
        refine mid_call 13 #[.pointer (some ⟨p, 0, none⟩), .slice pa ob.length pcap, .agg (bvs (noteL on))] (by go_simp) ((append_spent (hlog.quiet ((U9.trans ua).trans ub)) rfl HSP.out ⟨_, rfl⟩).mono ?_)
        rintro e wc ⟨rfl, uc⟩
        have hC := And.intro (uc.heap hC.1 id) (uc.heap hC.2 id)
        refine ⟨_, rfl, hC, ?_⟩
        (apply o_at; focus (go_simp; exact rfl))
        refine o_readsK (k := 7) 3 (fun _ _ _ h => h.1) (by kernel_rfl) hC (by decide) (by kernel_rfl) ?_
        simp only [List.drop_succ_cons, List.drop_zero, List.take_succ_cons, List.take_zero]
        (apply r_value (by first | rfl | go_simp) (v := ?_); focus (intro _ _; go_simp; try exact rfl)); (apply r_at; focus (go_simp; exact rfl))
        (apply r_value (by first | rfl | go_simp) (v := ?_); focus (intro _ _; go_simp; try exact rfl)); (apply r_at; focus (go_simp; exact rfl))
        (apply r_value (by first | rfl | go_simp) (v := ?_); focus (intro _ _; go_simp; try exact rfl)); (apply r_at; focus (go_simp; exact rfl))
        refine r_nil ?_
        refine o_one 10 (by kernel_rfl) rfl rfl ?_
        refine mid_call 39 #[.pointer (some ⟨p, 0, none⟩)] (by go_simp) ((clear_spent (hlog.quiet (((U9.trans ua).trans ub).trans uc)) rfl HSP.out).mono ?_)
        rintro e wd ⟨rfl, rfl⟩
        have hC := hC
        refine ⟨_, rfl, hC, ?_⟩
        (apply o_at; focus (go_simp; exact rfl))
        refine o_readsK (k := 11) 4 (fun _ _ _ h => h.1) (by kernel_rfl) hC (by decide) (by kernel_rfl) ?_
        simp only [List.drop_succ_cons, List.drop_zero, List.take_succ_cons, List.take_zero]
        (apply r_value (by first | rfl | go_simp) (v := ?_); focus (intro _ _; go_simp; try exact rfl)); (apply r_at; focus (go_simp; exact rfl))
        (apply r_value (by first | rfl | go_simp) (v := ?_); focus (intro _ _; go_simp; try exact rfl)); (apply r_at; focus (go_simp; exact rfl))
        (apply r_value (by first | rfl | go_simp) (v := ?_); focus (intro _ _; go_simp; try exact rfl)); (apply r_at; focus (go_simp; exact rfl))
        (apply r_value (by first | rfl | go_simp) (v := ?_); focus (intro _ _; go_simp; try exact rfl)); (apply r_at; focus (go_simp; exact rfl))
        refine r_nil ?_
        refine o_readsK (k := 16) 1 (fun _ _ _ h => h.1) (by kernel_rfl) hC (by decide) (by kernel_rfl) ?_
        simp only [List.drop_succ_cons, List.drop_zero, List.take_succ_cons, List.take_zero]
        refine r_value rfl (v := (.agg (stA s nt (.slice a6 xs.length c6)))) (fun x hx => run_op_load_agg 42 _ rfl rfl _ Try.isAggSt (by rw [Try.sizeSt]; exact (stA_size _ _ _ hnt).symm) (agg_heap hx.2)) ?_; (apply r_at; focus (go_simp; exact rfl))
        refine r_nil ?_
        refine o_one 15 (by kernel_rfl) rfl rfl ?_
        refine mid_call 23 #[.pointer (some ⟨p, 0, none⟩)] (by go_simp) ((state_logG (hlog.quiet (((U9.trans ua).trans ub).trans uc)) HXS.out).mono ?_)
        rintro e we ⟨ae, ce, rfl, oe, ue⟩
        have hC := And.intro (ue.heap hC.1 id) (ue.heap hC.2 id)
        refine ⟨_, rfl, hC, ?_⟩
        (apply o_at; focus (go_simp; exact rfl))
        refine o_one 17 (by kernel_rfl) rfl rfl ?_
        refine mid_call 22 #[.agg (stA s nt (.slice ae xs.length ce)), .agg (stA s nt (.slice a6 xs.length c6))] (by go_simp) ((same8_true oe.bytes (O9.out.keep (((ua.trans ub).trans uc).trans ue) (fun _ _ _ => id)) hnt).mono ?_)
        rintro e wf ⟨rfl, uf⟩
        have hC := And.intro (uf.heap hC.1 id) (uf.heap hC.2 id)
        refine ⟨_, rfl, hC, ?_⟩
        (apply o_at; focus (go_simp; exact rfl))
        refine o_readsK (k := 18) 2 (fun _ _ _ h => h.1) (by kernel_rfl) hC (by decide) (by kernel_rfl) ?_
        simp only [List.drop_succ_cons, List.drop_zero, List.take_succ_cons, List.take_zero]
        (apply r_value (by first | rfl | go_simp) (v := ?_); focus (intro _ _; go_simp; try exact rfl)); (apply r_at; focus (go_simp; exact rfl))
        (apply r_value (by first | rfl | go_simp) (v := ?_); focus (intro _ _; go_simp; try exact rfl)); (apply r_at; focus (go_simp; exact rfl))
        refine r_nil ?_
        refine o_end (by kernel_rfl) ?_
        go_wp2
        go_ret
        exact ⟨rfl, hU.trans (((((U9.trans ua).trans ub).trans uc).trans ue).trans uf)⟩
      · have tsp : decide ((4611686018427387904 : Int) ≤ (s : Int)) = false := decide_eq_false (by omega)
        have HSP := Lib.hid hsp
        have HS64 := Lib.hid hs64
        clear hsp hs64 hn8 hwS
        have hm1 := Lib.hid (show 1 ≤ m by have := HM.out; omega)
        by_cases k0 : ok.toNat % 5 = 0
        · have e0 : (ok.toNat : Int) % 5 = 0 := by omega
          by_cases hfull : rm < ob.length
          · have tfull : decide ((rm : Int) < (ob.length : Int)) = true := decide_eq_true (by omega)
            clear k0
            go_wp2_with (first | (guard_target =~ wpList _ _ _ (Oper.mk _ (Op.load 82 _) _ _ _ _ :: _) _ _; go_must (refine wpList_value rfl (run_op_load_agg 82 _ rfl rfl _ Try.isAggOp (by rw [Try.sizeOp]; rfl) HAG.out) ?_)) | (guard_target =~ wpList _ _ _ (Oper.mk _ (Op.alloc 82) _ _ _ _ :: _) _ _; go_must (refine wpList_alloc_new rfl 82 rfl _ Try.zeroOp ?_); intro g4 w4 hg4 x4 z4 u4; have X4 := Lib.hid x4; have G4 := Lib.hid hg4; clear x4 z4 hg4) | (guard_target =~ wpList _ _ _ (Oper.mk _ (Op.store 82 _ _) _ _ _ _ :: _) _ _; go_must (refine wpList_store_agg rfl 82 _ _ rfl rfl rfl (by rw [Try.sizeOp]; rfl) Try.someOp _ 82 X4.out (by show 0 + 4 ≤ 4; decide) op8_one ?_); intro w5 x5 u5; have X5 := Lib.hid (show w5.heap[g4]? = some (.cells (opA8 ⟨ok, on, oi, ob, .slice pa ob.length pcap⟩) 82 (0, 0)) from x5); have U5 : Upd (fun _ => False) wr w5 := u4.then u5 (fun i hi e => by have := G4.out; omega); clear x5) | (go_at_call 23; go_must (refine (state_logG (hlog.quiet U5) HXS.out).mono ?_); rintro e w6 ⟨a6, c6, rfl, o6, u6⟩) | (guard_target =~ wpList _ _ _ (Oper.mk _ (Op.alloc 42) _ _ _ _ :: _) _ _; go_must (refine wpList_alloc_new rfl 42 rfl _ Try.zeroSt ?_); intro g7 w7 hg7 x7 z7 u7; have X7 := Lib.hid x7; have G7 := Lib.hid hg7; clear x7 z7 hg7) | (guard_target =~ wpList _ _ _ (Oper.mk _ (Op.store 42 _ _) _ _ _ _ :: _) _ _; go_must (refine wpList_store_agg rfl 42 _ _ rfl rfl rfl (by rw [Try.sizeSt]; exact (stA_size _ _ _ hnt).symm) Try.someSt _ 42 X7.out (by show 0 + (stA s nt _).size ≤ (stA 0 (zeros 16) (.slice none 0 0)).size; rw [stA_size _ _ _ hnt, stA_size _ _ _ (by simp [zeros])]; decide) (stA_one _ _) ?_); intro w8 x8 u8; have X8 := Lib.hid (st_store x8 (by simp [zeros]) hnt); clear x8; have U58 : Upd (fun _ => False) w5 w8 := (u6.trans u7).then u8 (fun i hi e => by have := G7.out; have := u6.size; omega); have X58 := Lib.hid (U58.heap X5.out id); have o8 := Lib.hid (o6.bytes.keep (u7.then u8 (S := fun _ => False) (fun i hi e => by have := G7.out; omega)) (fun _ _ _ => id)); have U8 : Upd (fun _ => False) wr w8 := U5.trans U58) | (go_at_call 24; go_must (refine (ROOM.out w8 U8).mono ?_); rintro e w9 ⟨rfl, u9⟩; have X9 := Lib.hid (u9.heap X8.out id); have X59 := Lib.hid (u9.heap X58.out id); have c0 := cell_st0 X9.out; have U9 := U8.trans u9; have O9 := Lib.hid (o8.out.keep u9 (fun _ _ _ => id)); have r0 := op8_k X59.out; have r3 := op8_v X59.out))
            refine region_order 5 3 (by kernel_rfl) (by kernel_rfl) rfl (by kernel_rfl) (fun x => x.heap[g4]? = some (.cells (opA8 ⟨ok, on, oi, ob, .slice pa ob.length pcap⟩) 82 (0, 0)) ∧ x.heap[g7]? = some (.cells (stA s nt (.slice a6 xs.length c6)) 42 (0, 0))) ⟨X59.out, X9.out⟩ ?_
            simp only [List.take_succ_cons, List.take_zero]
            (apply r_value (by first | rfl | go_simp) (v := ?_); focus (intro _ _; go_simp; try exact rfl)); (apply r_at; focus (go_simp; exact rfl))
            (apply r_value (by first | rfl | go_simp) (v := ?_); focus (intro _ _; go_simp; try exact rfl)); (apply r_at; focus (go_simp; exact rfl))
            refine r_load rfl 26 (.tmp 108) rfl (fun w => by go_simp) ⟨g4, 3, none⟩ rfl _ (fun x hx => op8_v hx.1) ?_; (apply r_at; focus (go_simp; exact rfl))
            (apply r_value (by first | rfl | go_simp) (v := ?_); focus (intro _ _; go_simp; try exact rfl)); (apply r_at; focus (go_simp; exact rfl))
            refine r_load rfl 5 (.tmp 110) rfl (fun w => by go_simp) ⟨g4, 1, none⟩ rfl _ (fun x hx => op8_n hx.1) ?_; (apply r_at; focus (go_simp; exact rfl))
            refine r_nil ?_
            have ua : Upd (fun _ => False) w9 { w9 with drawn := w9.drawn + 1 } := (Upd.refl _ w9).drew
            generalize ({ w9 with drawn := w9.drawn + 1 } : World) = wa at ua
            have hC := And.intro (ua.heap X59.out id) (ua.heap X9.out id)
            refine o_one 5 (by kernel_rfl) rfl rfl ?_
            refine mid_call 14 #[.int .u8 (on.toNat : Int)] (by go_simp) ((note8_calls on).mono ?_)
            rintro e wb ⟨rfl, ub⟩
            have hC := And.intro (ub.heap hC.1 id) (ub.heap hC.2 id)
            refine ⟨_, rfl, hC, ?_⟩
            (apply o_at; focus (go_simp; exact rfl))
            refine o_one 6 (by kernel_rfl) rfl rfl ?_
            refine mid_call 13 #[.pointer (some ⟨p, 0, none⟩), .slice pa ob.length pcap, .agg (bvs (noteL on))] (by go_simp) ((append_full (hlog.quiet ((U9.trans ua).trans ub)) rfl (by have := HSP.out; show s < _; omega) (by show 64 * m < xs.length + ob.length; have := HRM.out; omega) ⟨_, rfl⟩).mono ?_)
            rintro e wc ⟨rfl, uc⟩
            have hC := And.intro (uc.heap hC.1 id) (uc.heap hC.2 id)
            refine ⟨_, rfl, hC, ?_⟩
            (apply o_at; focus (go_simp; exact rfl))
            refine o_readsK (k := 7) 1 (fun _ _ _ h => h.1) (by kernel_rfl) hC (by decide) (by kernel_rfl) ?_
            simp only [List.drop_succ_cons, List.drop_zero, List.take_succ_cons, List.take_zero]
            (apply r_value (by first | rfl | go_simp) (v := ?_); focus (intro _ _; go_simp; try exact rfl)); (apply r_at; focus (go_simp; exact rfl))
            refine r_nil ?_
            refine o_end (by kernel_rfl) ?_
            clear c0 r0 r3
            have r3 := op8_v hC.1
            go_wp2
            refine region_order 4 5 (by kernel_rfl) (by kernel_rfl) rfl (by kernel_rfl) (fun x => x.heap[g4]? = some (.cells (opA8 ⟨ok, on, oi, ob, .slice pa ob.length pcap⟩) 82 (0, 0)) ∧ x.heap[g7]? = some (.cells (stA s nt (.slice a6 xs.length c6)) 42 (0, 0))) hC ?_
            simp only [List.take_succ_cons, List.take_zero]
            (apply r_value (by first | rfl | go_simp) (v := ?_); focus (intro _ _; go_simp; try exact rfl)); (apply r_at; focus (go_simp; exact rfl))
            (apply r_value (by first | rfl | go_simp) (v := ?_); focus (intro _ _; go_simp; try exact rfl)); (apply r_at; focus (go_simp; exact rfl))
            (apply r_value (by first | rfl | go_simp) (v := ?_); focus (intro _ _; go_simp; try exact rfl)); (apply r_at; focus (go_simp; exact rfl))
            (apply r_value (by first | rfl | go_simp) (v := ?_); focus (intro _ _; go_simp; try exact rfl)); (apply r_at; focus (go_simp; exact rfl))
            refine r_nil ?_
            have ue : Upd (fun _ => False) wc { wc with drawn := wc.drawn + 1 } := (Upd.refl _ wc).drew
            generalize ({ wc with drawn := wc.drawn + 1 } : World) = we at ue
            have hC := And.intro (ue.heap hC.1 id) (ue.heap hC.2 id)
            refine o_readsK (k := 5) 1 (fun _ _ _ h => h.1) (by kernel_rfl) hC (by decide) (by kernel_rfl) ?_
            simp only [List.drop_succ_cons, List.drop_zero, List.take_succ_cons, List.take_zero]
            refine r_value rfl (v := (.agg (stA s nt (.slice a6 xs.length c6)))) (fun x hx => run_op_load_agg 42 _ rfl rfl _ Try.isAggSt (by rw [Try.sizeSt]; exact (stA_size _ _ _ hnt).symm) (agg_heap hx.2)) ?_; (apply r_at; focus (go_simp; exact rfl))
            refine r_nil ?_
            refine o_one 4 (by kernel_rfl) rfl rfl ?_
            refine mid_call 23 #[.pointer (some ⟨p, 0, none⟩)] (by go_simp) ((state_logG (hlog.quiet ((((U9.trans ua).trans ub).trans uc).trans ue)) HXS.out).mono ?_)
            rintro e wf ⟨af, cf, rfl, of, uf⟩
            have hC := And.intro (uf.heap hC.1 id) (uf.heap hC.2 id)
            refine ⟨_, rfl, hC, ?_⟩
            (apply o_at; focus (go_simp; exact rfl))
            refine o_one 6 (by kernel_rfl) rfl rfl ?_
            refine mid_call 22 #[.agg (stA s nt (.slice af xs.length cf)), .agg (stA s nt (.slice a6 xs.length c6))] (by go_simp) ((same8_true of.bytes (O9.out.keep ((((ua.trans ub).trans uc).trans ue).trans uf) (fun _ _ _ => id)) hnt).mono ?_)
            rintro e wg ⟨rfl, ug⟩
            have hC := And.intro (ug.heap hC.1 id) (ug.heap hC.2 id)
            refine ⟨_, rfl, hC, ?_⟩
            (apply o_at; focus (go_simp; exact rfl))
            refine o_readsK (k := 7) 2 (fun _ _ _ h => h.1) (by kernel_rfl) hC (by decide) (by kernel_rfl) ?_
            simp only [List.drop_succ_cons, List.drop_zero, List.take_succ_cons, List.take_zero]
            (apply r_value (by first | rfl | go_simp) (v := ?_); focus (intro _ _; go_simp; try exact rfl)); (apply r_at; focus (go_simp; exact rfl))
            (apply r_value (by first | rfl | go_simp) (v := ?_); focus (intro _ _; go_simp; try exact rfl)); (apply r_at; focus (go_simp; exact rfl))
            refine r_nil ?_
            refine o_end (by kernel_rfl) ?_
            have UG := (((((U9.trans ua).trans ub).trans uc).trans ue).trans uf).trans ug
            clear r3
            go_wp2
            exact ⟨⟨k + 1, s, p, D, xs, nt, v, hkl, by rw [Int.natCast_add]; rfl, rfl, hD.keep UG id id id, hW, hL, hlo, hdp, hBp, hMp, hlog.quiet UG, HT.out, hxm, hU.trans UG⟩, by show os.length - ((k : Int) + 1).toNat < os.length - ((k : Int)).toNat; omega⟩
          · have tfull : decide ((rm : Int) < (ob.length : Int)) = false := decide_eq_false (by omega)
            obtain ⟨s1, hs1⟩ : ∃ s1, s + 1 = s1 := ⟨_, rfl⟩
            have hw64 : IntKind.u64.wrap ((s : Int) + 1) = (s1 : Int) := by rw [IntWalk.u64_in _ (by have := HSP.out; omega)]; omega
            obtain ⟨ys, hys⟩ : ∃ ys, xs ++ ob = ys := ⟨_, rfl⟩
            have hyl : ys.length = xs.length + ob.length := by rw [← hys, List.length_append]
            have app := fun x (hx : Upd (fun _ => False) wr x) => append_good (note := noteL on) (hlog.quiet hx) (hD.keep hx id id id) ((hlog.quiet hx).apart hdp (by omega) (by omega)) (hob.keep hx (fun _ _ _ => id)) hW (by omega) HT.out (by have := HSP.out; omega) (noteL_len on) (by have := HRM.out; omega)
            rw [hs1, hys] at app
            have APP := Lib.hid app
            have hdN := Lib.hid (show d < wr.heap.size by omega)
            have hBN := Lib.hid (show D.B < wr.heap.size by omega)
            have hMN := Lib.hid (show D.M < wr.heap.size by omega)
            have HYS := Lib.hid hys
            have HYL := Lib.hid hyl
            have hyx : ys.length ≤ 64 * m := by have := HRM.out; omega
            have HYX := Lib.hid hyx
            have hmm2 := HMM.out
            have LX1 := Lib.hid (show ([] : List UInt8).length + xs.length ≤ 140737488355328 by have := HXS.out; simp; exact this)
            have LX2 := Lib.hid (show xs.length + ob.length ≤ 140737488355328 by omega)
            have HYM := Lib.hid (show ys.length ≤ 140737488355328 by omega)
            obtain ⟨rm2, hrm2⟩ : ∃ rm2 : Nat, rm2 = rm - ob.length := ⟨_, rfl⟩
            have hwR : IntKind.i64.wrap ((rm : Int) - (ob.length : Int)) = (rm2 : Int) := by rw [IntWalk.i64_in _ (by have := HRM.out; omega)]; omega
            have er : ∀ vv, ((logG d 1 m s1 ys (noteL on) vv).most : Int) - ((logG d 1 m s1 ys (noteL on) vv).xs.length : Int) = (rm2 : Int) := fun vv => by show ((64 * m : Nat) : Int) - (ys.length : Int) = _; have := HRM.out; omega
            have HER := Lib.hid er
            clear k0 hs1 hys hyl hyx hmm2 app hrm2 er
            go_wp2_with (first | (guard_target =~ wpList _ _ _ (Oper.mk _ (Op.load 82 _) _ _ _ _ :: _) _ _; go_must (refine wpList_value rfl (run_op_load_agg 82 _ rfl rfl _ Try.isAggOp (by rw [Try.sizeOp]; rfl) HAG.out) ?_)) | (guard_target =~ wpList _ _ _ (Oper.mk _ (Op.alloc 82) _ _ _ _ :: _) _ _; go_must (refine wpList_alloc_new rfl 82 rfl _ Try.zeroOp ?_); intro g4 w4 hg4 x4 z4 u4; have X4 := Lib.hid x4; have G4 := Lib.hid hg4; clear x4 z4 hg4) | (guard_target =~ wpList _ _ _ (Oper.mk _ (Op.store 82 _ _) _ _ _ _ :: _) _ _; go_must (refine wpList_store_agg rfl 82 _ _ rfl rfl rfl (by rw [Try.sizeOp]; rfl) Try.someOp _ 82 X4.out (by show 0 + 4 ≤ 4; decide) op8_one ?_); intro w5 x5 u5; have X5 := Lib.hid (show w5.heap[g4]? = some (.cells (opA8 ⟨ok, on, oi, ob, .slice pa ob.length pcap⟩) 82 (0, 0)) from x5); have U5 : Upd (fun _ => False) wr w5 := u4.then u5 (fun i hi e => by have := G4.out; omega); clear x5) | (go_at_call 23; go_must (refine (state_logG (hlog.quiet U5) HXS.out).mono ?_); rintro e w6 ⟨a6, c6, rfl, o6, u6⟩) | (guard_target =~ wpList _ _ _ (Oper.mk _ (Op.alloc 42) _ _ _ _ :: _) _ _; go_must (refine wpList_alloc_new rfl 42 rfl _ Try.zeroSt ?_); intro g7 w7 hg7 x7 z7 u7; have X7 := Lib.hid x7; have G7 := Lib.hid hg7; clear x7 z7 hg7) | (guard_target =~ wpList _ _ _ (Oper.mk _ (Op.store 42 _ _) _ _ _ _ :: _) _ _; go_must (refine wpList_store_agg rfl 42 _ _ rfl rfl rfl (by rw [Try.sizeSt]; exact (stA_size _ _ _ hnt).symm) Try.someSt _ 42 X7.out (by show 0 + (stA s nt _).size ≤ (stA 0 (zeros 16) (.slice none 0 0)).size; rw [stA_size _ _ _ hnt, stA_size _ _ _ (by simp [zeros])]; decide) (stA_one _ _) ?_); intro w8 x8 u8; have X8 := Lib.hid (st_store x8 (by simp [zeros]) hnt); clear x8; have U58 : Upd (fun _ => False) w5 w8 := (u6.trans u7).then u8 (fun i hi e => by have := G7.out; have := u6.size; omega); have X58 := Lib.hid (U58.heap X5.out id); have o8 := Lib.hid (o6.bytes.keep (u7.then u8 (S := fun _ => False) (fun i hi e => by have := G7.out; omega)) (fun _ _ _ => id)); have U8 : Upd (fun _ => False) wr w8 := U5.trans U58) | (go_at_call 24; go_must (refine (ROOM.out w8 U8).mono ?_); rintro e w9 ⟨rfl, u9⟩; have X9 := Lib.hid (u9.heap X8.out id); have X59 := Lib.hid (u9.heap X58.out id); have c0 := cell_st0 X9.out; have U9 := U8.trans u9; have O9 := Lib.hid (o8.out.keep u9 (fun _ _ _ => id)); have r0 := op8_k X59.out; have r3 := op8_v X59.out))
            have hg4 : ¬ g4 < wr.heap.size := by rw [G4.out]; exact Nat.lt_irrefl _
            have hg7 : ¬ g7 < wr.heap.size := by have q1 := G7.out; have q2 := (U5.trans u6).size; omega
            refine region_order 5 3 (by kernel_rfl) (by kernel_rfl) rfl (by kernel_rfl) (fun x => x.heap[g4]? = some (.cells (opA8 ⟨ok, on, oi, ob, .slice pa ob.length pcap⟩) 82 (0, 0)) ∧ x.heap[g7]? = some (.cells (stA s nt (.slice a6 xs.length c6)) 42 (0, 0))) ⟨X59.out, X9.out⟩ ?_
            simp only [List.take_succ_cons, List.take_zero]
            (apply r_value (by first | rfl | go_simp) (v := ?_); focus (intro _ _; go_simp; try exact rfl)); (apply r_at; focus (go_simp; exact rfl))
            (apply r_value (by first | rfl | go_simp) (v := ?_); focus (intro _ _; go_simp; try exact rfl)); (apply r_at; focus (go_simp; exact rfl))
            refine r_load rfl 26 (.tmp 108) rfl (fun w => by go_simp) ⟨g4, 3, none⟩ rfl _ (fun x hx => op8_v hx.1) ?_; (apply r_at; focus (go_simp; exact rfl))
            (apply r_value (by first | rfl | go_simp) (v := ?_); focus (intro _ _; go_simp; try exact rfl)); (apply r_at; focus (go_simp; exact rfl))
            refine r_load rfl 5 (.tmp 110) rfl (fun w => by go_simp) ⟨g4, 1, none⟩ rfl _ (fun x hx => op8_n hx.1) ?_; (apply r_at; focus (go_simp; exact rfl))
            refine r_nil ?_
            have ua : Upd (fun _ => False) w9 { w9 with drawn := w9.drawn + 1 } := (Upd.refl _ w9).drew
            generalize ({ w9 with drawn := w9.drawn + 1 } : World) = wa at ua
            have hC := And.intro (ua.heap X59.out id) (ua.heap X9.out id)
            refine o_one 5 (by kernel_rfl) rfl rfl ?_
            refine mid_call 14 #[.int .u8 (on.toNat : Int)] (by go_simp) ((note8_calls on).mono ?_)
            rintro e wb ⟨rfl, ub⟩
            have hC := And.intro (ub.heap hC.1 id) (ub.heap hC.2 id)
            refine ⟨_, rfl, hC, ?_⟩
            (apply o_at; focus (go_simp; exact rfl))
            refine o_one 6 (by kernel_rfl) rfl rfl ?_
            refine mid_call 13 #[.pointer (some ⟨p, 0, none⟩), .slice pa ob.length pcap, .agg (bvs (noteL on))] (by go_simp) ((APP.out wb ((U9.trans ua).trans ub)).mono ?_)
            rintro e wc ⟨rfl, v1', E, D1, W1, l1, k1, T1, L1, uc, _⟩
            have hC := And.intro ((upd_old uc hpl hdN.out hBN.out hMN.out).heap hC.1 hg4) ((upd_old uc hpl hdN.out hBN.out hMN.out).heap hC.2 hg7)
            refine ⟨_, rfl, hC, ?_⟩
            (apply o_at; focus (go_simp; exact rfl))
            refine o_readsK (k := 7) 1 (fun _ _ _ h => h.1) (by kernel_rfl) hC (by decide) (by kernel_rfl) ?_
            simp only [List.drop_succ_cons, List.drop_zero, List.take_succ_cons, List.take_zero]
            (apply r_value (by first | rfl | go_simp) (v := ?_); focus (intro _ _; go_simp; try exact rfl)); (apply r_at; focus (go_simp; exact rfl))
            refine r_nil ?_
            refine o_end (by kernel_rfl) ?_
            clear c0 r0 r3
            have r3 := op8_v hC.1
            have UC : Upd (fun _ => False) w wc := (hU.trans ((U9.trans ua).trans ub)).then uc (fun i hi hf => by rcases hf with hf | hf | hf | hf <;> omega)
            have bw : IsBytes wc (.slice a6 xs.length c6) xs := (O9.out.keep (ua.trans ub) (fun _ _ _ => id)).keep (upd_old uc hpl hdN.out hBN.out hMN.out) (fun _ k hk hlt => by have q1 := o6.base_le k hk; have q2 := U5.size; omega)
            have bo : IsBytes wc (.slice pa ob.length pcap) ob := ((hv.keep0 UC).each _ (List.mem_of_getElem? HO.out)).1
            have hcx := hC.1
            have hcw := hC.2
            have HCX := Lib.hid hcx
            have HCW := Lib.hid hcw
            have BX := fun x (hx : Upd (fun _ => False) wc x) => bw.keep hx (fun _ _ _ => id)
            have BO := fun x (hx : Upd (fun _ => False) wc x) => bo.keep hx (fun _ _ _ => id)
            clear hC hcx hcw
            go_wp2
            refine region_order 5 11 (by kernel_rfl) (by kernel_rfl) rfl (by kernel_rfl) (fun x => Upd (fun _ => False) wc x) (Upd.refl _ wc).drew ?_
            simp only [List.take_succ_cons, List.take_zero]
            (apply r_value (by first | rfl | go_simp) (v := ?_); focus (intro _ _; go_simp; try exact rfl)); (apply r_at; focus (go_simp; exact rfl))
            refine r_load rfl 35 (.tmp 128) rfl (fun w => by go_simp) ⟨g7, 0, none⟩ rfl _ (fun x hx => cell_st0 (hx.heap HCW.out id)) ?_; (apply r_at; focus (go_simp; exact rfl))
            (apply r_value (by first | rfl | go_simp) (v := ?_); focus (intro _ _; go_simp; try exact rfl)); (apply r_at; focus (go_simp; exact rfl))
            (apply r_value (by first | rfl | go_simp) (v := ?_); focus (intro _ _; go_simp; try exact rfl)); (apply r_at; focus (go_simp; exact rfl))
            refine r_load rfl 5 (.tmp 131) rfl (fun w => by go_simp) ⟨g4, 1, none⟩ rfl _ (fun x hx => op8_n (hx.heap HCX.out id)) ?_; (apply r_at; focus (go_simp; exact rfl))
            refine r_nil ?_
            have VS : Upd (fun _ => False) wc { wc with drawn := wc.drawn + 1 } := (Upd.refl _ wc).drew
            generalize ({ wc with drawn := wc.drawn + 1 } : World) = wS at VS
            refine o_readsK (k := 7) 2 (fun _ _ _ h => h.1) (by kernel_rfl) VS (by decide) (by kernel_rfl) ?_
            simp only [List.drop_succ_cons, List.drop_zero, List.take_succ_cons, List.take_zero]
            (apply r_value (by first | rfl | go_simp) (v := ?_); focus (intro _ _; go_simp; try exact rfl)); (apply r_at; focus (go_simp; exact rfl))
            refine r_load rfl 26 (.tmp 135) rfl (fun w => by go_simp) ⟨g7, 17, none⟩ rfl _ (fun x hx => cell_st2 (hx.heap HCW.out id) hnt) ?_; (apply r_at; focus (go_simp; exact rfl))
            refine r_nil ?_
            refine o_readsK (k := 10) 2 (fun _ _ _ h => h.1) (by kernel_rfl) VS (by decide) (by kernel_rfl) ?_
            simp only [List.drop_succ_cons, List.drop_zero, List.take_succ_cons, List.take_zero]
            (apply r_value (by first | rfl | go_simp) (v := ?_); focus (intro _ _; go_simp; try exact rfl)); (apply r_at; focus (go_simp; exact rfl))
            refine r_load rfl 26 (.tmp 138) rfl (fun w => by go_simp) ⟨g4, 3, none⟩ rfl _ (fun x hx => op8_v (hx.heap HCX.out id)) ?_; (apply r_at; focus (go_simp; exact rfl))
            refine r_nil ?_
            generalize hA : Act.mk _ _ = a0
            refine anyW_cut (f2 := 1) (R := fun a' w' => ∃ (g : Nat) (p12 : Option Addr) (c12 : Nat) (x134 x137 : Value), Upd (fun _ => False) wc w' ∧ OwnB w' wc.heap.size (.slice p12 ys.length c12) ys ∧ w'.heap[g]? = some (.cells (stA 0 (zeros 16) (.slice none 0 0)) 42 (0, 0)) ∧ wc.heap.size ≤ g ∧
              a' = (((((a0.put (some 133) (.agg (bvs (noteL on)))).put (some 134) x134).put (some 137) x137).put (some 140) (.slice p12 ys.length c12)).put (some 13) (.pointer (some ⟨g, 0, none⟩))).put (some 141) (.agg (stA s1 (noteL on) (.slice p12 ys.length c12))))
              #[true, true, true, true, true, true, true, true, true, true, true, true, true, true, true, false] ?_ 6 _ _ _ ?_
            · rintro a1 x ⟨g, p12, c12, x134, x137, UX, OX, ZX, hgX, rfl⟩
              subst hA
              (apply o_at; focus (go_simp; exact rfl))
              refine o_one 15 (by kernel_rfl) rfl rfl ?_
              refine o_store_agg (b := g) (off := 0) (cs := stA s1 (noteL on) (.slice p12 ys.length c12)) 42 (.tmp 13) (.tmp 141) rfl rfl rfl (by rw [Try.sizeSt]; exact (stA_size _ _ _ (noteL_len on)).symm) Try.someSt (stA 0 (zeros 16) (.slice none 0 0)) 42 ZX (st_fit s1 (noteL_len on)) (stA_one _ _) ?_
              intro xz hz uz
              have UZ : Upd (fun _ => False) wc xz := UX.then uz (fun i hi e => by omega)
              refine ⟨UZ, ?_⟩
              (apply o_at; focus (go_simp; exact rfl))
              refine o_end (by kernel_rfl) ?_
              have hz2 := st_store hz (by simp [zeros]) (noteL_len on)
              have bz : IsBytes xz (.slice p12 ys.length c12) ys := OX.bytes.keep uz (fun _ k hk e => OX.apartO ZX (by rw [← e]; exact hk.symm))
              have LZ := L1.quiet UZ
              go_wp2
              refine region_order 4 15 (by kernel_rfl) (by kernel_rfl) rfl (by kernel_rfl) (fun x => x.heap[g]? = some (.cells (stA s1 (noteL on) (.slice p12 ys.length c12)) 42 (0, 0)) ∧ x.heap[g4]? = some (.cells (opA8 ⟨ok, on, oi, ob, .slice pa ob.length pcap⟩) 82 (0, 0))) ⟨hz2, UZ.heap HCX.out id⟩ ?_
              simp only [List.take_succ_cons, List.take_zero]
              (apply r_value (by first | rfl | go_simp) (v := ?_); focus (intro _ _; go_simp; try exact rfl)); (apply r_at; focus (go_simp; exact rfl))
              (apply r_value (by first | rfl | go_simp) (v := ?_); focus (intro _ _; go_simp; try exact rfl)); (apply r_at; focus (go_simp; exact rfl))
              (apply r_value (by first | rfl | go_simp) (v := ?_); focus (intro _ _; go_simp; try exact rfl)); (apply r_at; focus (go_simp; exact rfl))
              (apply r_value (by first | rfl | go_simp) (v := ?_); focus (intro _ _; go_simp; try exact rfl)); (apply r_at; focus (go_simp; exact rfl))
              refine r_nil ?_
              have va : Upd (fun _ => False) xz { xz with drawn := xz.drawn + 1 } := (Upd.refl _ xz).drew
              generalize ({ xz with drawn := xz.drawn + 1 } : World) = xa at va
              have hC := And.intro (va.heap hz2 id) (va.heap (UZ.heap HCX.out id) id)
              refine o_readsK (k := 5) 1 (fun _ _ _ h => h.1) (by kernel_rfl) hC (by decide) (by kernel_rfl) ?_
              simp only [List.drop_succ_cons, List.drop_zero, List.take_succ_cons, List.take_zero]
              refine r_value rfl (v := (.agg (stA s1 (noteL on) (.slice p12 ys.length c12)))) (fun x hx => run_op_load_agg 42 _ rfl rfl _ Try.isAggSt (by rw [Try.sizeSt]; exact (stA_size _ _ _ (noteL_len on)).symm) (agg_heap hx.1)) ?_; (apply r_at; focus (go_simp; exact rfl))
              refine r_nil ?_
              refine o_one 4 (by kernel_rfl) rfl rfl ?_
              refine mid_call 23 #[.pointer (some ⟨p, 0, none⟩)] (by go_simp) ((state_logG (LZ.quiet va) HYM.out).mono ?_)
              rintro e xb ⟨ab, cb, rfl, ob3, vb⟩
              have hC := And.intro (vb.heap hC.1 id) (vb.heap hC.2 id)
              refine ⟨_, rfl, hC, ?_⟩
              (apply o_at; focus (go_simp; exact rfl))
              refine o_one 6 (by kernel_rfl) rfl rfl ?_
              refine mid_call 22 #[.agg (stA s1 (noteL on) (.slice ab ys.length cb)), .agg (stA s1 (noteL on) (.slice p12 ys.length c12))] (by go_simp) ((same8_true ob3.bytes (bz.keep (va.trans vb) (fun _ _ _ => id)) (noteL_len on)).mono ?_)
              rintro e xc ⟨rfl, vc⟩
              have hC := And.intro (vc.heap hC.1 id) (vc.heap hC.2 id)
              refine ⟨_, rfl, hC, ?_⟩
              (apply o_at; focus (go_simp; exact rfl))
              refine o_readsK (k := 7) 4 (fun _ _ _ h => h.1) (by kernel_rfl) hC (by decide) (by kernel_rfl) ?_
              simp only [List.drop_succ_cons, List.drop_zero, List.take_succ_cons, List.take_zero]
              (apply r_value (by first | rfl | go_simp) (v := ?_); focus (intro _ _; go_simp; try exact rfl)); (apply r_at; focus (go_simp; exact rfl))
              (apply r_value (by first | rfl | go_simp) (v := ?_); focus (intro _ _; go_simp; try exact rfl)); (apply r_at; focus (go_simp; exact rfl))
              (apply r_value (by first | rfl | go_simp) (v := ?_); focus (intro _ _; go_simp; try exact rfl)); (apply r_at; focus (go_simp; exact rfl))
              (apply r_value (by first | rfl | go_simp) (v := ?_); focus (intro _ _; go_simp; try exact rfl)); (apply r_at; focus (go_simp; exact rfl))
              refine r_nil ?_
              refine o_readsK (k := 12) 5 (fun _ _ _ h => h.1) (by kernel_rfl) hC (by decide) (by kernel_rfl) ?_
              simp only [List.drop_succ_cons, List.drop_zero, List.take_succ_cons, List.take_zero]
              (apply r_value (by first | rfl | go_simp) (v := ?_); focus (intro _ _; go_simp; try exact rfl)); (apply r_at; focus (go_simp; exact rfl))
              (apply r_value (by first | rfl | go_simp) (v := ?_); focus (intro _ _; go_simp; try exact rfl)); (apply r_at; focus (go_simp; exact rfl))
              refine r_load rfl 26 (.tmp 155) rfl (fun w => by go_simp) ⟨g4, 3, none⟩ rfl _ (fun x hx => op8_v hx.2) ?_; (apply r_at; focus (go_simp; exact rfl))
              (apply r_value (by first | rfl | go_simp) (v := ?_); focus (intro _ _; go_simp; try exact rfl)); (apply r_at; focus (go_simp; exact rfl))
              (apply r_value (by first | rfl | go_simp) (v := ?_); focus (intro _ _; go_simp; try exact rfl)); (apply r_at; focus (go_simp; exact rfl))
              refine r_nil ?_
              refine o_one 11 (by kernel_rfl) rfl rfl ?_
              have RM2 : Calls Try.prog 24 #[.pointer (some ⟨p, 0, none⟩)] xc (fun e w' => e = .returned (.int .i64 (rm2 : Int)) ∧ Upd (fun _ => False) xc w') := by rw [← HER.out v1']; exact room_calls (LZ.quiet ((va.trans vb).trans vc))
              refine mid_call 24 #[.pointer (some ⟨p, 0, none⟩)] (by go_simp) (RM2.mono ?_)
              rintro e xd ⟨rfl, vd⟩
              have hC := And.intro (vd.heap hC.1 id) (vd.heap hC.2 id)
              refine ⟨_, rfl, hC, ?_⟩
              (apply o_at; focus (go_simp; exact rfl))
              refine o_readsK (k := 17) 2 (fun _ _ _ h => h.1) (by kernel_rfl) hC (by decide) (by kernel_rfl) ?_
              simp only [List.drop_succ_cons, List.drop_zero, List.take_succ_cons, List.take_zero]
              (apply r_value (by first | rfl | go_simp) (v := ?_); focus (intro _ _; go_simp; try exact rfl)); (apply r_at; focus (go_simp; exact rfl))
              (apply r_value (by first | rfl | go_simp) (v := ?_); focus (intro _ _; go_simp; try exact rfl)); (apply r_at; focus (go_simp; exact rfl))
              refine r_nil ?_
              refine o_end (by kernel_rfl) ?_
              have VV := ((va.trans vb).trans vc).trans vd
              have D2 := D1.keep (UZ.trans VV) id id id
              have L2 := LZ.quiet VV
              have HLN := Lib.hid (show E.now.length = 1 + (m + 2) by rw [k1.hn, hnow]; omega)
              have HXN := HYM
              have UD : Upd (fun _ => False) w xd := (UC.trans UZ).trans VV
              clear r3
              have hnn := noteL_len on
              go_wp2_with (first | (go_at_call 41; go_must (refine (loose_none D2 l1).mono ?_); rintro e wL ⟨rfl, rfl⟩) | (go_at_call 23; go_must (refine (state_logG L2 (by first | decide | exact HXN.out)).mono ?_); rintro e ws ⟨sa, sc, rfl, os_, us⟩) | (go_at_call 21; go_must (refine (sectors8_calls (f := 1) ((D2).keep us id id id) (W1).gone (by rw [HLN.out]; omega)).mono ?_); rintro e wt ⟨vt, ust, rfl, Rt, ut⟩) | (go_at_call 20; go_must (refine (of8_tells ((D2).keep (us.trans ut) id id id) T1 Rt HLN.out hm1.out).mono ?_); rintro e wu ⟨au, cu, rfl, ou, uu⟩) | (go_at_call 22; go_must (refine (same8_true (os_.bytes.keep (ut.trans uu) (fun _ _ _ => id)) ou.bytes hnn).mono ?_); rintro e wv ⟨rfl, uv⟩; have UT := ((us.trans ut).trans uu).trans uv) | (go_at_call 25; go_must (refine (over_logG ((L2).quiet UT)).mono ?_); rintro e wx ⟨rfl, rfl⟩))
              exact ⟨⟨k + 1, s1, p, E, ys, noteL on, _, hkl, by rw [Int.natCast_add]; rfl, rfl, D2.keep UT id id id, W1, hL.trans k1, l1, hdp, hBp, hMp, L2.quiet UT, T1, HYX.out, UD.trans UT⟩, by show os.length - ((k : Int) + 1).toNat < os.length - ((k : Int)).toNat; omega⟩
            · subst hA
              refine o_three 5 6 14 (by kernel_rfl) rfl rfl rfl rfl rfl rfl ?_ ?_ ?_
              ·
                refine mid_call 14 #[.int .u8 (on.toNat : Int)] (by go_simp) ((note8_calls on).mono ?_)
                rintro e x1 ⟨rfl, u1⟩
                have V1 := VS.trans u1
                refine ⟨_, rfl, V1, ?_⟩
                (apply o_at; focus (go_simp; exact rfl))
                refine o_two 6 14 (by kernel_rfl) rfl rfl rfl rfl ?_ ?_
                ·
                  refine o_value (v := .slice (some ⟨x1.heap.size, 0, none⟩) 0 0) (w' := x1.alloc (.cells #[] 5)) (by go_simp) ?_
                  have O6_2 := own_empty x1 wc.heap.size V1.size
                  have u2 : Upd (fun _ => False) x1 (x1.alloc (.cells #[] 5)) := (Upd.refl _ _).alloc _
                  generalize x1.alloc (.cells #[] 5) = x2 at O6_2 u2 ⊢
                  generalize x1.heap.size = b2 at O6_2 ⊢
                  have V2 := V1.trans u2
                  refine ⟨V2, ?_⟩
                  (apply o_at; focus (go_simp; exact rfl))
                  refine o_two 9 14 (by kernel_rfl) rfl rfl rfl rfl ?_ ?_
                  ·
                    refine o_of_list (ops := #[]) rfl (wpList_append_bytesU wc.heap.size O6_2 (BX x2 V2) rfl _ _ rfl rfl rfl V2.size (by first | exact LX1.out | exact LX2.out) ?_)
                    intro v3 x3 O9_3 u3
                    rw [List.nil_append] at O9_3
                    obtain ⟨p3, c3, rfl, _⟩ := id O9_3.bytes.at_
                    have V3 := V2.then u3 (fun i hi e => absurd hi (Nat.not_lt.2 (O6_2.base_le i e.symm)))
                    refine ⟨rfl, V3, ?_⟩
                    (apply o_at; focus (go_simp; exact rfl))
                    refine o_two 12 14 (by kernel_rfl) rfl rfl rfl rfl ?_ ?_
                    ·
                      refine o_of_list (ops := #[]) rfl (wpList_append_bytesU wc.heap.size O9_3 (BO x3 V3) rfl _ _ rfl rfl rfl V3.size (by first | exact LX1.out | exact LX2.out) ?_)
                      intro v4 x4 O12_4 u4
                      rw [HYS.out] at O12_4
                      obtain ⟨p4, c4, rfl, _⟩ := id O12_4.bytes.at_
                      have V4 := V3.then u4 (fun i hi e => absurd hi (Nat.not_lt.2 (O9_3.base_le i e.symm)))
                      refine ⟨rfl, V4, ?_⟩
                      (apply o_at; focus (go_simp; exact rfl))
                      refine o_two 13 14 (by kernel_rfl) rfl rfl rfl rfl ?_ ?_
                      ·
                        refine o_value (v := .agg (stA s1 (noteL on) (.slice p4 ys.length c4))) (w' := x4) (run_op_build 42 #[(0, .tmp 130), (1, .tmp 133), (2, .tmp 140)] rfl _ (by go_simp) _ (Try.builtSt s1 (noteL on) p4 ys.length c4 (noteL_len on))) ?_
                        refine ⟨V4, ?_⟩
                        (apply o_at; focus (go_simp; exact rfl))
                        refine o_one 14 (by kernel_rfl) rfl rfl ?_
                        refine o_alloc 42 rfl _ Try.zeroSt ?_
                        intro g6 x6 e6 Z_6 _ u6
                        have V6 := V4.trans u6
                        have h6 : wc.heap.size ≤ g6 := by have := V4.size; omega
                        have O12_6 := O12_4.keep u6 (fun _ _ => id)
                        refine ⟨V6, ?_⟩
                        (apply o_at; focus (go_simp; exact rfl))
                        exact ⟨by kernel_rfl, g6, p4, c4, (.slice (some ⟨b2, 0, none⟩) 0 0), (.slice p3 xs.length c3), V6, O12_6, Z_6, h6, (by go_simp; try exact rfl)⟩
                      ·
                        refine o_alloc 42 rfl _ Try.zeroSt ?_
                        intro g7 x7 e7 Z_7 _ u7
                        have V7 := V4.trans u7
                        have h7 : wc.heap.size ≤ g7 := by have := V4.size; omega
                        have O12_7 := O12_4.keep u7 (fun _ _ => id)
                        refine ⟨V7, ?_⟩
                        (apply o_at; focus (go_simp; exact rfl))
                        refine o_one 13 (by kernel_rfl) rfl rfl ?_
                        refine o_value (v := .agg (stA s1 (noteL on) (.slice p4 ys.length c4))) (w' := x7) (run_op_build 42 #[(0, .tmp 130), (1, .tmp 133), (2, .tmp 140)] rfl _ (by go_simp) _ (Try.builtSt s1 (noteL on) p4 ys.length c4 (noteL_len on))) ?_
                        refine ⟨V7, ?_⟩
                        (apply o_at; focus (go_simp; exact rfl))
                        exact ⟨by kernel_rfl, g7, p4, c4, (.slice (some ⟨b2, 0, none⟩) 0 0), (.slice p3 xs.length c3), V7, O12_7, Z_7, h7, (by go_simp; try exact rfl)⟩
                    ·
                      refine o_alloc 42 rfl _ Try.zeroSt ?_
                      intro g9 x9 e9 Z_9 _ u9
                      have V9 := V3.trans u9
                      have h9 : wc.heap.size ≤ g9 := by have := V3.size; omega
                      have O9_9 := O9_3.keep u9 (fun _ _ => id)
                      refine ⟨V9, ?_⟩
                      (apply o_at; focus (go_simp; exact rfl))
                      refine o_one 12 (by kernel_rfl) rfl rfl ?_
                      refine o_of_list (ops := #[]) rfl (wpList_append_bytesU wc.heap.size O9_9 (BO x9 V9) rfl _ _ rfl rfl rfl V9.size (by first | exact LX1.out | exact LX2.out) ?_)
                      intro v10 x10 O12_10 u10
                      rw [HYS.out] at O12_10
                      obtain ⟨p10, c10, rfl, _⟩ := id O12_10.bytes.at_
                      have V10 := V9.then u10 (fun i hi e => absurd hi (Nat.not_lt.2 (O9_9.base_le i e.symm)))
                      have Z_10 := u10.heap Z_9 (O9_9.apartO Z_9)
                      refine ⟨rfl, V10, ?_⟩
                      (apply o_at; focus (go_simp; exact rfl))
                      refine o_one 13 (by kernel_rfl) rfl rfl ?_
                      refine o_value (v := .agg (stA s1 (noteL on) (.slice p10 ys.length c10))) (w' := x10) (run_op_build 42 #[(0, .tmp 130), (1, .tmp 133), (2, .tmp 140)] rfl _ (by go_simp) _ (Try.builtSt s1 (noteL on) p10 ys.length c10 (noteL_len on))) ?_
                      refine ⟨V10, ?_⟩
                      (apply o_at; focus (go_simp; exact rfl))
                      exact ⟨by kernel_rfl, g9, p10, c10, (.slice (some ⟨b2, 0, none⟩) 0 0), (.slice p3 xs.length c3), V10, O12_10, Z_10, h9, (by go_simp; try exact rfl)⟩
                  ·
                    refine o_alloc 42 rfl _ Try.zeroSt ?_
                    intro g12 x12 e12 Z_12 _ u12
                    have V12 := V2.trans u12
                    have h12 : wc.heap.size ≤ g12 := by have := V2.size; omega
                    have O6_12 := O6_2.keep u12 (fun _ _ => id)
                    refine ⟨V12, ?_⟩
                    (apply o_at; focus (go_simp; exact rfl))
                    refine o_one 9 (by kernel_rfl) rfl rfl ?_
                    refine o_of_list (ops := #[]) rfl (wpList_append_bytesU wc.heap.size O6_12 (BX x12 V12) rfl _ _ rfl rfl rfl V12.size (by first | exact LX1.out | exact LX2.out) ?_)
                    intro v13 x13 O9_13 u13
                    rw [List.nil_append] at O9_13
                    obtain ⟨p13, c13, rfl, _⟩ := id O9_13.bytes.at_
                    have V13 := V12.then u13 (fun i hi e => absurd hi (Nat.not_lt.2 (O6_12.base_le i e.symm)))
                    have Z_13 := u13.heap Z_12 (O6_12.apartO Z_12)
                    refine ⟨rfl, V13, ?_⟩
                    (apply o_at; focus (go_simp; exact rfl))
                    refine o_one 12 (by kernel_rfl) rfl rfl ?_
                    refine o_of_list (ops := #[]) rfl (wpList_append_bytesU wc.heap.size O9_13 (BO x13 V13) rfl _ _ rfl rfl rfl V13.size (by first | exact LX1.out | exact LX2.out) ?_)
                    intro v14 x14 O12_14 u14
                    rw [HYS.out] at O12_14
                    obtain ⟨p14, c14, rfl, _⟩ := id O12_14.bytes.at_
                    have V14 := V13.then u14 (fun i hi e => absurd hi (Nat.not_lt.2 (O9_13.base_le i e.symm)))
                    have Z_14 := u14.heap Z_13 (O9_13.apartO Z_13)
                    refine ⟨rfl, V14, ?_⟩
                    (apply o_at; focus (go_simp; exact rfl))
                    refine o_one 13 (by kernel_rfl) rfl rfl ?_
                    refine o_value (v := .agg (stA s1 (noteL on) (.slice p14 ys.length c14))) (w' := x14) (run_op_build 42 #[(0, .tmp 130), (1, .tmp 133), (2, .tmp 140)] rfl _ (by go_simp) _ (Try.builtSt s1 (noteL on) p14 ys.length c14 (noteL_len on))) ?_
                    refine ⟨V14, ?_⟩
                    (apply o_at; focus (go_simp; exact rfl))
                    exact ⟨by kernel_rfl, g12, p14, c14, (.slice (some ⟨b2, 0, none⟩) 0 0), (.slice p13 xs.length c13), V14, O12_14, Z_14, h12, (by go_simp; try exact rfl)⟩
                ·
                  refine o_alloc 42 rfl _ Try.zeroSt ?_
                  intro g16 x16 e16 Z_16 _ u16
                  have V16 := V1.trans u16
                  have h16 : wc.heap.size ≤ g16 := by have := V1.size; omega
                  refine ⟨V16, ?_⟩
                  (apply o_at; focus (go_simp; exact rfl))
                  refine o_one 6 (by kernel_rfl) rfl rfl ?_
                  refine o_value (v := .slice (some ⟨x16.heap.size, 0, none⟩) 0 0) (w' := x16.alloc (.cells #[] 5)) (by go_simp) ?_
                  have O6_17 := own_empty x16 wc.heap.size V16.size
                  have u17 : Upd (fun _ => False) x16 (x16.alloc (.cells #[] 5)) := (Upd.refl _ _).alloc _
                  generalize x16.alloc (.cells #[] 5) = x17 at O6_17 u17 ⊢
                  generalize x16.heap.size = b17 at O6_17 ⊢
                  have V17 := V16.trans u17
                  have Z_17 := u17.heap Z_16 id
                  refine ⟨V17, ?_⟩
                  (apply o_at; focus (go_simp; exact rfl))
                  refine o_one 9 (by kernel_rfl) rfl rfl ?_
                  refine o_of_list (ops := #[]) rfl (wpList_append_bytesU wc.heap.size O6_17 (BX x17 V17) rfl _ _ rfl rfl rfl V17.size (by first | exact LX1.out | exact LX2.out) ?_)
                  intro v18 x18 O9_18 u18
                  rw [List.nil_append] at O9_18
                  obtain ⟨p18, c18, rfl, _⟩ := id O9_18.bytes.at_
                  have V18 := V17.then u18 (fun i hi e => absurd hi (Nat.not_lt.2 (O6_17.base_le i e.symm)))
                  have Z_18 := u18.heap Z_17 (O6_17.apartO Z_17)
                  refine ⟨rfl, V18, ?_⟩
                  (apply o_at; focus (go_simp; exact rfl))
                  refine o_one 12 (by kernel_rfl) rfl rfl ?_
                  refine o_of_list (ops := #[]) rfl (wpList_append_bytesU wc.heap.size O9_18 (BO x18 V18) rfl _ _ rfl rfl rfl V18.size (by first | exact LX1.out | exact LX2.out) ?_)
                  intro v19 x19 O12_19 u19
                  rw [HYS.out] at O12_19
                  obtain ⟨p19, c19, rfl, _⟩ := id O12_19.bytes.at_
                  have V19 := V18.then u19 (fun i hi e => absurd hi (Nat.not_lt.2 (O9_18.base_le i e.symm)))
                  have Z_19 := u19.heap Z_18 (O9_18.apartO Z_18)
                  refine ⟨rfl, V19, ?_⟩
                  (apply o_at; focus (go_simp; exact rfl))
                  refine o_one 13 (by kernel_rfl) rfl rfl ?_
                  refine o_value (v := .agg (stA s1 (noteL on) (.slice p19 ys.length c19))) (w' := x19) (run_op_build 42 #[(0, .tmp 130), (1, .tmp 133), (2, .tmp 140)] rfl _ (by go_simp) _ (Try.builtSt s1 (noteL on) p19 ys.length c19 (noteL_len on))) ?_
                  refine ⟨V19, ?_⟩
                  (apply o_at; focus (go_simp; exact rfl))
                  exact ⟨by kernel_rfl, g16, p19, c19, (.slice (some ⟨b17, 0, none⟩) 0 0), (.slice p18 xs.length c18), V19, O12_19, Z_19, h16, (by go_simp; try exact rfl)⟩
              ·
                refine o_value (v := .slice (some ⟨wS.heap.size, 0, none⟩) 0 0) (w' := wS.alloc (.cells #[] 5)) (by go_simp) ?_
                have O6_21 := own_empty wS wc.heap.size VS.size
                have u21 : Upd (fun _ => False) wS (wS.alloc (.cells #[] 5)) := (Upd.refl _ _).alloc _
                generalize wS.alloc (.cells #[] 5) = x21 at O6_21 u21 ⊢
                generalize wS.heap.size = b21 at O6_21 ⊢
                have V21 := VS.trans u21
                refine ⟨V21, ?_⟩
                (apply o_at; focus (go_simp; exact rfl))
                refine o_two 5 14 (by kernel_rfl) rfl rfl rfl rfl ?_ ?_
                ·
                  refine mid_call 14 #[.int .u8 (on.toNat : Int)] (by go_simp) ((note8_calls on).mono ?_)
                  rintro e x22 ⟨rfl, u22⟩
                  have V22 := V21.trans u22
                  have O6_22 := O6_21.keep u22 (fun _ _ => id)
                  refine ⟨_, rfl, V22, ?_⟩
                  (apply o_at; focus (go_simp; exact rfl))
                  refine o_two 9 14 (by kernel_rfl) rfl rfl rfl rfl ?_ ?_
                  ·
                    refine o_of_list (ops := #[]) rfl (wpList_append_bytesU wc.heap.size O6_22 (BX x22 V22) rfl _ _ rfl rfl rfl V22.size (by first | exact LX1.out | exact LX2.out) ?_)
                    intro v23 x23 O9_23 u23
                    rw [List.nil_append] at O9_23
                    obtain ⟨p23, c23, rfl, _⟩ := id O9_23.bytes.at_
                    have V23 := V22.then u23 (fun i hi e => absurd hi (Nat.not_lt.2 (O6_22.base_le i e.symm)))
                    refine ⟨rfl, V23, ?_⟩
                    (apply o_at; focus (go_simp; exact rfl))
                    refine o_two 12 14 (by kernel_rfl) rfl rfl rfl rfl ?_ ?_
                    ·
                      refine o_of_list (ops := #[]) rfl (wpList_append_bytesU wc.heap.size O9_23 (BO x23 V23) rfl _ _ rfl rfl rfl V23.size (by first | exact LX1.out | exact LX2.out) ?_)
                      intro v24 x24 O12_24 u24
                      rw [HYS.out] at O12_24
                      obtain ⟨p24, c24, rfl, _⟩ := id O12_24.bytes.at_
                      have V24 := V23.then u24 (fun i hi e => absurd hi (Nat.not_lt.2 (O9_23.base_le i e.symm)))
                      refine ⟨rfl, V24, ?_⟩
                      (apply o_at; focus (go_simp; exact rfl))
                      refine o_two 13 14 (by kernel_rfl) rfl rfl rfl rfl ?_ ?_
                      ·
                        refine o_value (v := .agg (stA s1 (noteL on) (.slice p24 ys.length c24))) (w' := x24) (run_op_build 42 #[(0, .tmp 130), (1, .tmp 133), (2, .tmp 140)] rfl _ (by go_simp) _ (Try.builtSt s1 (noteL on) p24 ys.length c24 (noteL_len on))) ?_
                        refine ⟨V24, ?_⟩
                        (apply o_at; focus (go_simp; exact rfl))
                        refine o_one 14 (by kernel_rfl) rfl rfl ?_
                        refine o_alloc 42 rfl _ Try.zeroSt ?_
                        intro g26 x26 e26 Z_26 _ u26
                        have V26 := V24.trans u26
                        have h26 : wc.heap.size ≤ g26 := by have := V24.size; omega
                        have O12_26 := O12_24.keep u26 (fun _ _ => id)
                        refine ⟨V26, ?_⟩
                        (apply o_at; focus (go_simp; exact rfl))
                        exact ⟨by kernel_rfl, g26, p24, c24, (.slice (some ⟨b21, 0, none⟩) 0 0), (.slice p23 xs.length c23), V26, O12_26, Z_26, h26, (by go_simp; try exact rfl)⟩
                      ·
                        refine o_alloc 42 rfl _ Try.zeroSt ?_
                        intro g27 x27 e27 Z_27 _ u27
                        have V27 := V24.trans u27
                        have h27 : wc.heap.size ≤ g27 := by have := V24.size; omega
                        have O12_27 := O12_24.keep u27 (fun _ _ => id)
                        refine ⟨V27, ?_⟩
                        (apply o_at; focus (go_simp; exact rfl))
                        refine o_one 13 (by kernel_rfl) rfl rfl ?_
                        refine o_value (v := .agg (stA s1 (noteL on) (.slice p24 ys.length c24))) (w' := x27) (run_op_build 42 #[(0, .tmp 130), (1, .tmp 133), (2, .tmp 140)] rfl _ (by go_simp) _ (Try.builtSt s1 (noteL on) p24 ys.length c24 (noteL_len on))) ?_
                        refine ⟨V27, ?_⟩
                        (apply o_at; focus (go_simp; exact rfl))
                        exact ⟨by kernel_rfl, g27, p24, c24, (.slice (some ⟨b21, 0, none⟩) 0 0), (.slice p23 xs.length c23), V27, O12_27, Z_27, h27, (by go_simp; try exact rfl)⟩
                    ·
                      refine o_alloc 42 rfl _ Try.zeroSt ?_
                      intro g29 x29 e29 Z_29 _ u29
                      have V29 := V23.trans u29
                      have h29 : wc.heap.size ≤ g29 := by have := V23.size; omega
                      have O9_29 := O9_23.keep u29 (fun _ _ => id)
                      refine ⟨V29, ?_⟩
                      (apply o_at; focus (go_simp; exact rfl))
                      refine o_one 12 (by kernel_rfl) rfl rfl ?_
                      refine o_of_list (ops := #[]) rfl (wpList_append_bytesU wc.heap.size O9_29 (BO x29 V29) rfl _ _ rfl rfl rfl V29.size (by first | exact LX1.out | exact LX2.out) ?_)
                      intro v30 x30 O12_30 u30
                      rw [HYS.out] at O12_30
                      obtain ⟨p30, c30, rfl, _⟩ := id O12_30.bytes.at_
                      have V30 := V29.then u30 (fun i hi e => absurd hi (Nat.not_lt.2 (O9_29.base_le i e.symm)))
                      have Z_30 := u30.heap Z_29 (O9_29.apartO Z_29)
                      refine ⟨rfl, V30, ?_⟩
                      (apply o_at; focus (go_simp; exact rfl))
                      refine o_one 13 (by kernel_rfl) rfl rfl ?_
                      refine o_value (v := .agg (stA s1 (noteL on) (.slice p30 ys.length c30))) (w' := x30) (run_op_build 42 #[(0, .tmp 130), (1, .tmp 133), (2, .tmp 140)] rfl _ (by go_simp) _ (Try.builtSt s1 (noteL on) p30 ys.length c30 (noteL_len on))) ?_
                      refine ⟨V30, ?_⟩
                      (apply o_at; focus (go_simp; exact rfl))
                      exact ⟨by kernel_rfl, g29, p30, c30, (.slice (some ⟨b21, 0, none⟩) 0 0), (.slice p23 xs.length c23), V30, O12_30, Z_30, h29, (by go_simp; try exact rfl)⟩
                  ·
                    refine o_alloc 42 rfl _ Try.zeroSt ?_
                    intro g32 x32 e32 Z_32 _ u32
                    have V32 := V22.trans u32
                    have h32 : wc.heap.size ≤ g32 := by have := V22.size; omega
                    have O6_32 := O6_22.keep u32 (fun _ _ => id)
                    refine ⟨V32, ?_⟩
                    (apply o_at; focus (go_simp; exact rfl))
                    refine o_one 9 (by kernel_rfl) rfl rfl ?_
                    refine o_of_list (ops := #[]) rfl (wpList_append_bytesU wc.heap.size O6_32 (BX x32 V32) rfl _ _ rfl rfl rfl V32.size (by first | exact LX1.out | exact LX2.out) ?_)
                    intro v33 x33 O9_33 u33
                    rw [List.nil_append] at O9_33
                    obtain ⟨p33, c33, rfl, _⟩ := id O9_33.bytes.at_
                    have V33 := V32.then u33 (fun i hi e => absurd hi (Nat.not_lt.2 (O6_32.base_le i e.symm)))
                    have Z_33 := u33.heap Z_32 (O6_32.apartO Z_32)
                    refine ⟨rfl, V33, ?_⟩
                    (apply o_at; focus (go_simp; exact rfl))
                    refine o_one 12 (by kernel_rfl) rfl rfl ?_
                    refine o_of_list (ops := #[]) rfl (wpList_append_bytesU wc.heap.size O9_33 (BO x33 V33) rfl _ _ rfl rfl rfl V33.size (by first | exact LX1.out | exact LX2.out) ?_)
                    intro v34 x34 O12_34 u34
                    rw [HYS.out] at O12_34
                    obtain ⟨p34, c34, rfl, _⟩ := id O12_34.bytes.at_
                    have V34 := V33.then u34 (fun i hi e => absurd hi (Nat.not_lt.2 (O9_33.base_le i e.symm)))
                    have Z_34 := u34.heap Z_33 (O9_33.apartO Z_33)
                    refine ⟨rfl, V34, ?_⟩
                    (apply o_at; focus (go_simp; exact rfl))
                    refine o_one 13 (by kernel_rfl) rfl rfl ?_
                    refine o_value (v := .agg (stA s1 (noteL on) (.slice p34 ys.length c34))) (w' := x34) (run_op_build 42 #[(0, .tmp 130), (1, .tmp 133), (2, .tmp 140)] rfl _ (by go_simp) _ (Try.builtSt s1 (noteL on) p34 ys.length c34 (noteL_len on))) ?_
                    refine ⟨V34, ?_⟩
                    (apply o_at; focus (go_simp; exact rfl))
                    exact ⟨by kernel_rfl, g32, p34, c34, (.slice (some ⟨b21, 0, none⟩) 0 0), (.slice p33 xs.length c33), V34, O12_34, Z_34, h32, (by go_simp; try exact rfl)⟩
                ·
                  refine o_alloc 42 rfl _ Try.zeroSt ?_
                  intro g36 x36 e36 Z_36 _ u36
                  have V36 := V21.trans u36
                  have h36 : wc.heap.size ≤ g36 := by have := V21.size; omega
                  have O6_36 := O6_21.keep u36 (fun _ _ => id)
                  refine ⟨V36, ?_⟩
                  (apply o_at; focus (go_simp; exact rfl))
                  refine o_one 5 (by kernel_rfl) rfl rfl ?_
                  refine mid_call 14 #[.int .u8 (on.toNat : Int)] (by go_simp) ((note8_calls on).mono ?_)
                  rintro e x37 ⟨rfl, u37⟩
                  have V37 := V36.trans u37
                  have O6_37 := O6_36.keep u37 (fun _ _ => id)
                  have Z_37 := u37.heap Z_36 id
                  refine ⟨_, rfl, V37, ?_⟩
                  (apply o_at; focus (go_simp; exact rfl))
                  refine o_one 9 (by kernel_rfl) rfl rfl ?_
                  refine o_of_list (ops := #[]) rfl (wpList_append_bytesU wc.heap.size O6_37 (BX x37 V37) rfl _ _ rfl rfl rfl V37.size (by first | exact LX1.out | exact LX2.out) ?_)
                  intro v38 x38 O9_38 u38
                  rw [List.nil_append] at O9_38
                  obtain ⟨p38, c38, rfl, _⟩ := id O9_38.bytes.at_
                  have V38 := V37.then u38 (fun i hi e => absurd hi (Nat.not_lt.2 (O6_37.base_le i e.symm)))
                  have Z_38 := u38.heap Z_37 (O6_37.apartO Z_37)
                  refine ⟨rfl, V38, ?_⟩
                  (apply o_at; focus (go_simp; exact rfl))
                  refine o_one 12 (by kernel_rfl) rfl rfl ?_
                  refine o_of_list (ops := #[]) rfl (wpList_append_bytesU wc.heap.size O9_38 (BO x38 V38) rfl _ _ rfl rfl rfl V38.size (by first | exact LX1.out | exact LX2.out) ?_)
                  intro v39 x39 O12_39 u39
                  rw [HYS.out] at O12_39
                  obtain ⟨p39, c39, rfl, _⟩ := id O12_39.bytes.at_
                  have V39 := V38.then u39 (fun i hi e => absurd hi (Nat.not_lt.2 (O9_38.base_le i e.symm)))
                  have Z_39 := u39.heap Z_38 (O9_38.apartO Z_38)
                  refine ⟨rfl, V39, ?_⟩
                  (apply o_at; focus (go_simp; exact rfl))
                  refine o_one 13 (by kernel_rfl) rfl rfl ?_
                  refine o_value (v := .agg (stA s1 (noteL on) (.slice p39 ys.length c39))) (w' := x39) (run_op_build 42 #[(0, .tmp 130), (1, .tmp 133), (2, .tmp 140)] rfl _ (by go_simp) _ (Try.builtSt s1 (noteL on) p39 ys.length c39 (noteL_len on))) ?_
                  refine ⟨V39, ?_⟩
                  (apply o_at; focus (go_simp; exact rfl))
                  exact ⟨by kernel_rfl, g36, p39, c39, (.slice (some ⟨b21, 0, none⟩) 0 0), (.slice p38 xs.length c38), V39, O12_39, Z_39, h36, (by go_simp; try exact rfl)⟩
              ·
                refine o_alloc 42 rfl _ Try.zeroSt ?_
                intro g41 x41 e41 Z_41 _ u41
                have V41 := VS.trans u41
                have h41 : wc.heap.size ≤ g41 := by have := VS.size; omega
                refine ⟨V41, ?_⟩
                (apply o_at; focus (go_simp; exact rfl))
                refine o_two 5 6 (by kernel_rfl) rfl rfl rfl rfl ?_ ?_
                ·
                  refine mid_call 14 #[.int .u8 (on.toNat : Int)] (by go_simp) ((note8_calls on).mono ?_)
                  rintro e x42 ⟨rfl, u42⟩
                  have V42 := V41.trans u42
                  have Z_42 := u42.heap Z_41 id
                  refine ⟨_, rfl, V42, ?_⟩
                  (apply o_at; focus (go_simp; exact rfl))
                  refine o_one 6 (by kernel_rfl) rfl rfl ?_
                  refine o_value (v := .slice (some ⟨x42.heap.size, 0, none⟩) 0 0) (w' := x42.alloc (.cells #[] 5)) (by go_simp) ?_
                  have O6_43 := own_empty x42 wc.heap.size V42.size
                  have u43 : Upd (fun _ => False) x42 (x42.alloc (.cells #[] 5)) := (Upd.refl _ _).alloc _
                  generalize x42.alloc (.cells #[] 5) = x43 at O6_43 u43 ⊢
                  generalize x42.heap.size = b43 at O6_43 ⊢
                  have V43 := V42.trans u43
                  have Z_43 := u43.heap Z_42 id
                  refine ⟨V43, ?_⟩
                  (apply o_at; focus (go_simp; exact rfl))
                  refine o_one 9 (by kernel_rfl) rfl rfl ?_
                  refine o_of_list (ops := #[]) rfl (wpList_append_bytesU wc.heap.size O6_43 (BX x43 V43) rfl _ _ rfl rfl rfl V43.size (by first | exact LX1.out | exact LX2.out) ?_)
                  intro v44 x44 O9_44 u44
                  rw [List.nil_append] at O9_44
                  obtain ⟨p44, c44, rfl, _⟩ := id O9_44.bytes.at_
                  have V44 := V43.then u44 (fun i hi e => absurd hi (Nat.not_lt.2 (O6_43.base_le i e.symm)))
                  have Z_44 := u44.heap Z_43 (O6_43.apartO Z_43)
                  refine ⟨rfl, V44, ?_⟩
                  (apply o_at; focus (go_simp; exact rfl))
                  refine o_one 12 (by kernel_rfl) rfl rfl ?_
                  refine o_of_list (ops := #[]) rfl (wpList_append_bytesU wc.heap.size O9_44 (BO x44 V44) rfl _ _ rfl rfl rfl V44.size (by first | exact LX1.out | exact LX2.out) ?_)
                  intro v45 x45 O12_45 u45
                  rw [HYS.out] at O12_45
                  obtain ⟨p45, c45, rfl, _⟩ := id O12_45.bytes.at_
                  have V45 := V44.then u45 (fun i hi e => absurd hi (Nat.not_lt.2 (O9_44.base_le i e.symm)))
                  have Z_45 := u45.heap Z_44 (O9_44.apartO Z_44)
                  refine ⟨rfl, V45, ?_⟩
                  (apply o_at; focus (go_simp; exact rfl))
                  refine o_one 13 (by kernel_rfl) rfl rfl ?_
                  refine o_value (v := .agg (stA s1 (noteL on) (.slice p45 ys.length c45))) (w' := x45) (run_op_build 42 #[(0, .tmp 130), (1, .tmp 133), (2, .tmp 140)] rfl _ (by go_simp) _ (Try.builtSt s1 (noteL on) p45 ys.length c45 (noteL_len on))) ?_
                  refine ⟨V45, ?_⟩
                  (apply o_at; focus (go_simp; exact rfl))
                  exact ⟨by kernel_rfl, g41, p45, c45, (.slice (some ⟨b43, 0, none⟩) 0 0), (.slice p44 xs.length c44), V45, O12_45, Z_45, h41, (by go_simp; try exact rfl)⟩
                ·
                  refine o_value (v := .slice (some ⟨x41.heap.size, 0, none⟩) 0 0) (w' := x41.alloc (.cells #[] 5)) (by go_simp) ?_
                  have O6_47 := own_empty x41 wc.heap.size V41.size
                  have u47 : Upd (fun _ => False) x41 (x41.alloc (.cells #[] 5)) := (Upd.refl _ _).alloc _
                  generalize x41.alloc (.cells #[] 5) = x47 at O6_47 u47 ⊢
                  generalize x41.heap.size = b47 at O6_47 ⊢
                  have V47 := V41.trans u47
                  have Z_47 := u47.heap Z_41 id
                  refine ⟨V47, ?_⟩
                  (apply o_at; focus (go_simp; exact rfl))
                  refine o_one 5 (by kernel_rfl) rfl rfl ?_
                  refine mid_call 14 #[.int .u8 (on.toNat : Int)] (by go_simp) ((note8_calls on).mono ?_)
                  rintro e x48 ⟨rfl, u48⟩
                  have V48 := V47.trans u48
                  have O6_48 := O6_47.keep u48 (fun _ _ => id)
                  have Z_48 := u48.heap Z_47 id
                  refine ⟨_, rfl, V48, ?_⟩
                  (apply o_at; focus (go_simp; exact rfl))
                  refine o_one 9 (by kernel_rfl) rfl rfl ?_
                  refine o_of_list (ops := #[]) rfl (wpList_append_bytesU wc.heap.size O6_48 (BX x48 V48) rfl _ _ rfl rfl rfl V48.size (by first | exact LX1.out | exact LX2.out) ?_)
                  intro v49 x49 O9_49 u49
                  rw [List.nil_append] at O9_49
                  obtain ⟨p49, c49, rfl, _⟩ := id O9_49.bytes.at_
                  have V49 := V48.then u49 (fun i hi e => absurd hi (Nat.not_lt.2 (O6_48.base_le i e.symm)))
                  have Z_49 := u49.heap Z_48 (O6_48.apartO Z_48)
                  refine ⟨rfl, V49, ?_⟩
                  (apply o_at; focus (go_simp; exact rfl))
                  refine o_one 12 (by kernel_rfl) rfl rfl ?_
                  refine o_of_list (ops := #[]) rfl (wpList_append_bytesU wc.heap.size O9_49 (BO x49 V49) rfl _ _ rfl rfl rfl V49.size (by first | exact LX1.out | exact LX2.out) ?_)
                  intro v50 x50 O12_50 u50
                  rw [HYS.out] at O12_50
                  obtain ⟨p50, c50, rfl, _⟩ := id O12_50.bytes.at_
                  have V50 := V49.then u50 (fun i hi e => absurd hi (Nat.not_lt.2 (O9_49.base_le i e.symm)))
                  have Z_50 := u50.heap Z_49 (O9_49.apartO Z_49)
                  refine ⟨rfl, V50, ?_⟩
                  (apply o_at; focus (go_simp; exact rfl))
                  refine o_one 13 (by kernel_rfl) rfl rfl ?_
                  refine o_value (v := .agg (stA s1 (noteL on) (.slice p50 ys.length c50))) (w' := x50) (run_op_build 42 #[(0, .tmp 130), (1, .tmp 133), (2, .tmp 140)] rfl _ (by go_simp) _ (Try.builtSt s1 (noteL on) p50 ys.length c50 (noteL_len on))) ?_
                  refine ⟨V50, ?_⟩
                  (apply o_at; focus (go_simp; exact rfl))
                  exact ⟨by kernel_rfl, g41, p50, c50, (.slice (some ⟨b47, 0, none⟩) 0 0), (.slice p49 xs.length c49), V50, O12_50, Z_50, h41, (by go_simp; try exact rfl)⟩
        · by_cases k1 : ok.toNat % 5 = 1
          · have e1 : (ok.toNat : Int) % 5 = 1 := by omega
            obtain ⟨s1, hs1⟩ : ∃ s1, s + 1 = s1 := ⟨_, rfl⟩
            have hw64 : IntKind.u64.wrap ((s : Int) + 1) = (s1 : Int) := by rw [IntWalk.u64_in _ (by have := HSP.out; omega)]; omega
            have clr := fun x (hx : Upd (fun _ => False) wr x) => clear_good (hlog.quiet hx) (hD.keep hx id id id) ((hlog.quiet hx).apart hdp (by omega) (by omega)) hW (by omega) HT.out (by have := HSP.out; omega)
            rw [hs1] at clr
            have CLR := Lib.hid clr
            have hdN := Lib.hid (show d < wr.heap.size by omega)
            have hBN := Lib.hid (show D.B < wr.heap.size by omega)
            have hMN := Lib.hid (show D.M < wr.heap.size by omega)
            have HS1 := Lib.hid hs1
            clear k0 k1 clr hs1
            go_wp2_with (first | (guard_target =~ wpList _ _ _ (Oper.mk _ (Op.load 82 _) _ _ _ _ :: _) _ _; go_must (refine wpList_value rfl (run_op_load_agg 82 _ rfl rfl _ Try.isAggOp (by rw [Try.sizeOp]; rfl) HAG.out) ?_)) | (guard_target =~ wpList _ _ _ (Oper.mk _ (Op.alloc 82) _ _ _ _ :: _) _ _; go_must (refine wpList_alloc_new rfl 82 rfl _ Try.zeroOp ?_); intro g4 w4 hg4 x4 z4 u4; have X4 := Lib.hid x4; have G4 := Lib.hid hg4; clear x4 z4 hg4) | (guard_target =~ wpList _ _ _ (Oper.mk _ (Op.store 82 _ _) _ _ _ _ :: _) _ _; go_must (refine wpList_store_agg rfl 82 _ _ rfl rfl rfl (by rw [Try.sizeOp]; rfl) Try.someOp _ 82 X4.out (by show 0 + 4 ≤ 4; decide) op8_one ?_); intro w5 x5 u5; have X5 := Lib.hid (show w5.heap[g4]? = some (.cells (opA8 ⟨ok, on, oi, ob, .slice pa ob.length pcap⟩) 82 (0, 0)) from x5); have U5 : Upd (fun _ => False) wr w5 := u4.then u5 (fun i hi e => by have := G4.out; omega); clear x5) | (go_at_call 23; go_must (refine (state_logG (hlog.quiet U5) HXS.out).mono ?_); rintro e w6 ⟨a6, c6, rfl, o6, u6⟩) | (guard_target =~ wpList _ _ _ (Oper.mk _ (Op.alloc 42) _ _ _ _ :: _) _ _; go_must (refine wpList_alloc_new rfl 42 rfl _ Try.zeroSt ?_); intro g7 w7 hg7 x7 z7 u7; have X7 := Lib.hid x7; have G7 := Lib.hid hg7; clear x7 z7 hg7) | (guard_target =~ wpList _ _ _ (Oper.mk _ (Op.store 42 _ _) _ _ _ _ :: _) _ _; go_must (refine wpList_store_agg rfl 42 _ _ rfl rfl rfl (by rw [Try.sizeSt]; exact (stA_size _ _ _ hnt).symm) Try.someSt _ 42 X7.out (by show 0 + (stA s nt _).size ≤ (stA 0 (zeros 16) (.slice none 0 0)).size; rw [stA_size _ _ _ hnt, stA_size _ _ _ (by simp [zeros])]; decide) (stA_one _ _) ?_); intro w8 x8 u8; have X8 := Lib.hid (st_store x8 (by simp [zeros]) hnt); clear x8; have U58 : Upd (fun _ => False) w5 w8 := (u6.trans u7).then u8 (fun i hi e => by have := G7.out; have := u6.size; omega); have X58 := Lib.hid (U58.heap X5.out id); have o8 := Lib.hid (o6.bytes.keep (u7.then u8 (S := fun _ => False) (fun i hi e => by have := G7.out; omega)) (fun _ _ _ => id)); have U8 : Upd (fun _ => False) wr w8 := U5.trans U58) | (go_at_call 24; go_must (refine (ROOM.out w8 U8).mono ?_); rintro e w9 ⟨rfl, u9⟩; have X9 := Lib.hid (u9.heap X8.out id); have X59 := Lib.hid (u9.heap X58.out id); have c0 := cell_st0 X9.out; have U9 := U8.trans u9; have O9 := Lib.hid (o8.out.keep u9 (fun _ _ _ => id)); have r0 := op8_k X59.out; have r3 := op8_v X59.out))
            have hg4 : ¬ g4 < wr.heap.size := by rw [G4.out]; exact Nat.lt_irrefl _
            have hg7 : ¬ g7 < wr.heap.size := by have q1 := G7.out; have q2 := (U5.trans u6).size; omega
            refine region_order 1 14 (by kernel_rfl) (by kernel_rfl) rfl (by kernel_rfl) (fun x => x.heap[g4]? = some (.cells (opA8 ⟨ok, on, oi, ob, .slice pa ob.length pcap⟩) 82 (0, 0)) ∧ x.heap[g7]? = some (.cells (stA s nt (.slice a6 xs.length c6)) 42 (0, 0))) ⟨X59.out, X9.out⟩ ?_
            simp only [List.take_succ_cons, List.take_zero]
            (apply r_value (by first | rfl | go_simp) (v := ?_); focus (intro _ _; go_simp; try exact rfl)); (apply r_at; focus (go_simp; exact rfl))
            refine r_nil ?_
            have ua : Upd (fun _ => False) w9 { w9 with drawn := w9.drawn + 1 } := (Upd.refl _ w9).drew
            generalize ({ w9 with drawn := w9.drawn + 1 } : World) = wa at ua
            have hC := And.intro (ua.heap X59.out id) (ua.heap X9.out id)
            refine o_one 1 (by kernel_rfl) rfl rfl ?_
            refine mid_call 39 #[.pointer (some ⟨p, 0, none⟩)] (by go_simp) ((CLR.out wa (U9.trans ua)).mono ?_)
            rintro e wb ⟨rfl, E, D1, W1, l1, k1, T1, L1, ub⟩
            have hC := And.intro ((upd_old ub hpl hdN.out hBN.out hMN.out).heap hC.1 hg4) ((upd_old ub hpl hdN.out hBN.out hMN.out).heap hC.2 hg7)
            refine ⟨_, rfl, hC, ?_⟩
            (apply o_at; focus (go_simp; exact rfl))
            refine o_readsK (k := 2) 3 (fun _ _ _ h => h.1) (by kernel_rfl) hC (by decide) (by kernel_rfl) ?_
            simp only [List.drop_succ_cons, List.drop_zero, List.take_succ_cons, List.take_zero]
            (apply r_value (by first | rfl | go_simp) (v := ?_); focus (intro _ _; go_simp; try exact rfl)); (apply r_at; focus (go_simp; exact rfl))
            (apply r_value (by first | rfl | go_simp) (v := ?_); focus (intro _ _; go_simp; try exact rfl)); (apply r_at; focus (go_simp; exact rfl))
            (apply r_value (by first | rfl | go_simp) (v := ?_); focus (intro _ _; go_simp; try exact rfl)); (apply r_at; focus (go_simp; exact rfl))
            refine r_nil ?_
            refine o_readsK (k := 6) 6 (fun _ _ _ h => h.1) (by kernel_rfl) hC (by decide) (by kernel_rfl) ?_
            simp only [List.drop_succ_cons, List.drop_zero, List.take_succ_cons, List.take_zero]
            (apply r_value (by first | rfl | go_simp) (v := ?_); focus (intro _ _; go_simp; try exact rfl)); (apply r_at; focus (go_simp; exact rfl))
            refine r_load rfl 35 (.tmp 169) rfl (fun w => by go_simp) ⟨g7, 0, none⟩ rfl _ (fun x hx => cell_st0 hx.2) ?_; (apply r_at; focus (go_simp; exact rfl))
            (apply r_value (by first | rfl | go_simp) (v := ?_); focus (intro _ _; go_simp; try exact rfl)); (apply r_at; focus (go_simp; exact rfl))
            (apply r_value (by first | rfl | go_simp) (v := ?_); focus (intro _ _; go_simp; try exact rfl)); (apply r_at; focus (go_simp; exact rfl))
            refine r_value rfl (v := (.agg (bvs nt))) (fun x hx => run_op_load_agg 32 _ rfl rfl _ Try.isAgg37 (by rw [Try.size37, size_bvs, hnt]) (agg_st1 hx.2)) ?_; (apply r_at; focus (go_simp; exact rfl))
            refine r_value rfl (v := (.agg (stA s1 nt (.slice none 0 0)))) (fun x hx => run_op_build 42 #[(0, .tmp 171), (1, .tmp 173)] rfl _ (by go_simp) _ (Try.builtD nt hnt s1)) ?_; (apply r_at; focus (go_simp; exact rfl))
            refine r_nil ?_
            refine o_one 5 (by kernel_rfl) rfl rfl ?_
            refine mid_call 23 #[.pointer (some ⟨p, 0, none⟩)] (by go_simp) ((state_logG L1 (by decide)).mono ?_)
            rintro e wf ⟨af, cf, rfl, of, uf⟩
            have hC := And.intro (uf.heap hC.1 id) (uf.heap hC.2 id)
            refine ⟨_, rfl, hC, ?_⟩
            (apply o_at; focus (go_simp; exact rfl))
            refine o_one 12 (by kernel_rfl) rfl rfl ?_
            refine mid_call 22 #[.agg (stA s1 nt (.slice af 0 cf)), .agg (stA s1 nt (.slice none 0 0))] (by go_simp) ((same8_true (xs := []) of.bytes (nil_bytes _) hnt).mono ?_)
            rintro e wg ⟨rfl, ug⟩
            have hC := And.intro (ug.heap hC.1 id) (ug.heap hC.2 id)
            refine ⟨_, rfl, hC, ?_⟩
            (apply o_at; focus (go_simp; exact rfl))
            refine o_readsK (k := 13) 2 (fun _ _ _ h => h.1) (by kernel_rfl) hC (by decide) (by kernel_rfl) ?_
            simp only [List.drop_succ_cons, List.drop_zero, List.take_succ_cons, List.take_zero]
            (apply r_value (by first | rfl | go_simp) (v := ?_); focus (intro _ _; go_simp; try exact rfl)); (apply r_at; focus (go_simp; exact rfl))
            (apply r_value (by first | rfl | go_simp) (v := ?_); focus (intro _ _; go_simp; try exact rfl)); (apply r_at; focus (go_simp; exact rfl))
            refine r_nil ?_
            refine o_end (by kernel_rfl) ?_
            clear c0 r0 r3
            have ufg := uf.trans ug
            have D2 := D1.keep ufg id id id
            have L2 := L1.quiet ufg
            have HLN := Lib.hid (show E.now.length = 1 + (m + 2) by rw [k1.hn, hnow]; omega)
            have UD : Upd (fun _ => False) w wg := ((hU.trans (U9.trans ua)).then ub (fun i hi hf => by rcases hf with hf | hf | hf | hf <;> omega)).trans ufg
            go_wp2_with (first | (go_at_call 41; go_must (refine (loose_none D2 l1).mono ?_); rintro e wL ⟨rfl, rfl⟩) | (go_at_call 23; go_must (refine (state_logG L2 (by first | decide | exact HXN.out)).mono ?_); rintro e ws ⟨sa, sc, rfl, os_, us⟩) | (go_at_call 21; go_must (refine (sectors8_calls (f := 1) ((D2).keep us id id id) (W1).gone (by rw [HLN.out]; omega)).mono ?_); rintro e wt ⟨vt, ust, rfl, Rt, ut⟩) | (go_at_call 20; go_must (refine (of8_tells ((D2).keep (us.trans ut) id id id) T1 Rt HLN.out hm1.out).mono ?_); rintro e wu ⟨au, cu, rfl, ou, uu⟩) | (go_at_call 22; go_must (refine (same8_true (os_.bytes.keep (ut.trans uu) (fun _ _ _ => id)) ou.bytes hnt).mono ?_); rintro e wv ⟨rfl, uv⟩; have UT := ((us.trans ut).trans uu).trans uv) | (go_at_call 25; go_must (refine (over_logG ((L2).quiet UT)).mono ?_); rintro e wx ⟨rfl, rfl⟩))
            exact ⟨⟨k + 1, s1, p, E, [], nt, _, hkl, by rw [Int.natCast_add]; rfl, rfl, D2.keep UT id id id, W1, hL.trans k1, l1, hdp, hBp, hMp, L2.quiet UT, T1, Nat.zero_le _, UD.trans UT⟩, by show os.length - ((k : Int) + 1).toNat < os.length - ((k : Int)).toNat; omega⟩
          · have hdN := Lib.hid (show d < wr.heap.size by omega)
            have hBN := Lib.hid (show D.B < wr.heap.size by omega)
            have hMN := Lib.hid (show D.M < wr.heap.size by omega)
            by_cases k4 : ok.toNat % 5 = 4
            · have e4 : (ok.toNat : Int) % 5 = 4 := by omega
              clear k0 k1 k4
              go_wp2_with (first | (guard_target =~ wpList _ _ _ (Oper.mk _ (Op.load 82 _) _ _ _ _ :: _) _ _; go_must (refine wpList_value rfl (run_op_load_agg 82 _ rfl rfl _ Try.isAggOp (by rw [Try.sizeOp]; rfl) HAG.out) ?_)) | (guard_target =~ wpList _ _ _ (Oper.mk _ (Op.alloc 82) _ _ _ _ :: _) _ _; go_must (refine wpList_alloc_new rfl 82 rfl _ Try.zeroOp ?_); intro g4 w4 hg4 x4 z4 u4; have X4 := Lib.hid x4; have G4 := Lib.hid hg4; clear x4 z4 hg4) | (guard_target =~ wpList _ _ _ (Oper.mk _ (Op.store 82 _ _) _ _ _ _ :: _) _ _; go_must (refine wpList_store_agg rfl 82 _ _ rfl rfl rfl (by rw [Try.sizeOp]; rfl) Try.someOp _ 82 X4.out (by show 0 + 4 ≤ 4; decide) op8_one ?_); intro w5 x5 u5; have X5 := Lib.hid (show w5.heap[g4]? = some (.cells (opA8 ⟨ok, on, oi, ob, .slice pa ob.length pcap⟩) 82 (0, 0)) from x5); have U5 : Upd (fun _ => False) wr w5 := u4.then u5 (fun i hi e => by have := G4.out; omega); clear x5) | (go_at_call 23; go_must (refine (state_logG (hlog.quiet U5) HXS.out).mono ?_); rintro e w6 ⟨a6, c6, rfl, o6, u6⟩) | (guard_target =~ wpList _ _ _ (Oper.mk _ (Op.alloc 42) _ _ _ _ :: _) _ _; go_must (refine wpList_alloc_new rfl 42 rfl _ Try.zeroSt ?_); intro g7 w7 hg7 x7 z7 u7; have X7 := Lib.hid x7; have G7 := Lib.hid hg7; clear x7 z7 hg7) | (guard_target =~ wpList _ _ _ (Oper.mk _ (Op.store 42 _ _) _ _ _ _ :: _) _ _; go_must (refine wpList_store_agg rfl 42 _ _ rfl rfl rfl (by rw [Try.sizeSt]; exact (stA_size _ _ _ hnt).symm) Try.someSt _ 42 X7.out (by show 0 + (stA s nt _).size ≤ (stA 0 (zeros 16) (.slice none 0 0)).size; rw [stA_size _ _ _ hnt, stA_size _ _ _ (by simp [zeros])]; decide) (stA_one _ _) ?_); intro w8 x8 u8; have X8 := Lib.hid (st_store x8 (by simp [zeros]) hnt); clear x8; have U58 : Upd (fun _ => False) w5 w8 := (u6.trans u7).then u8 (fun i hi e => by have := G7.out; have := u6.size; omega); have X58 := Lib.hid (U58.heap X5.out id); have o8 := Lib.hid (o6.bytes.keep (u7.then u8 (S := fun _ => False) (fun i hi e => by have := G7.out; omega)) (fun _ _ _ => id)); have U8 : Upd (fun _ => False) wr w8 := U5.trans U58) | (go_at_call 24; go_must (refine (ROOM.out w8 U8).mono ?_); rintro e w9 ⟨rfl, u9⟩; have X9 := Lib.hid (u9.heap X8.out id); have X59 := Lib.hid (u9.heap X58.out id); have c0 := cell_st0 X9.out; have U9 := U8.trans u9; have O9 := Lib.hid (o8.out.keep u9 (fun _ _ _ => id)); have r0 := op8_k X59.out; have r3 := op8_v X59.out))
              have hC := X59.out
              refine region_order 5 2 (by kernel_rfl) (by kernel_rfl) rfl (by kernel_rfl) (fun x => x.heap[g4]? = some (.cells (opA8 ⟨ok, on, oi, ob, .slice pa ob.length pcap⟩) 82 (0, 0))) hC ?_
              simp only [List.take_succ_cons, List.take_zero]
              (apply r_value (by first | rfl | go_simp) (v := ?_); focus (intro _ _; go_simp; try exact rfl)); (apply r_at; focus (go_simp; exact rfl))
              (apply r_value (by first | rfl | go_simp) (v := ?_); focus (intro _ _; go_simp; try exact rfl)); (apply r_at; focus (go_simp; exact rfl))
              refine r_load rfl 3 (.tmp 84) rfl (fun w => by go_simp) ⟨g4, 2, none⟩ rfl _ (fun x hx => op8_i hx) ?_; (apply r_at; focus (go_simp; exact rfl))
              (apply r_value (by first | rfl | go_simp) (v := ?_); focus (intro _ _; go_simp; try exact rfl)); (apply r_at; focus (go_simp; exact rfl))
              refine r_load rfl 26 (.tmp 86) rfl (fun w => by go_simp) ⟨g4, 3, none⟩ rfl _ (fun x hx => op8_v hx) ?_; (apply r_at; focus (go_simp; exact rfl))
              refine r_nil ?_
              have ua : Upd (fun _ => False) w9 { w9 with drawn := w9.drawn + 1 } := (Upd.refl _ w9).drew
              generalize ({ w9 with drawn := w9.drawn + 1 } : World) = wa at ua
              have hC := ua.heap X59.out id
              refine o_one 5 (by kernel_rfl) rfl rfl ?_
              refine mid_call 19 #[.int .u8 ((0 : UInt8).toNat : Int), .slice pa ob.length pcap] (by go_simp) ((full_calls 0 (hob.keep (U9.trans ua) (fun _ _ _ => id))).mono ?_)
              rintro e wb ⟨vb, rfl, ob2, ub⟩
              have hC := ub.heap hC id
              refine ⟨_, rfl, hC, ?_⟩
              (apply o_at; focus (go_simp; exact rfl))
              refine o_one 6 (by kernel_rfl) rfl rfl ?_
              refine mid_call 18 #[.pointer (some ⟨d, 0, none⟩), .int .i64 oi, vb] (by go_simp) ((write_calls (hD.keep ((U9.trans ua).trans ub) id id id) oi ob2.bytes (fun _ => ob2.blocks (Nat.lt_of_lt_of_le hdN.out (U9.trans ua).size) (Nat.lt_of_lt_of_le hBN.out (U9.trans ua).size) (Nat.lt_of_lt_of_le hMN.out (U9.trans ua).size))).mono ?_)
              rintro e wc ⟨rfl, D1, uc⟩
              have hC := (upd_oldD uc hdN.out hBN.out hMN.out).heap hC (by rw [G4.out]; exact Nat.lt_irrefl _)
              refine ⟨_, rfl, hC, ?_⟩
              (apply o_at; focus (go_simp; exact rfl))
              refine o_end (by kernel_rfl) ?_
              clear c0 r0 r3
              have W1 := hW.wr oi (fullL 0 ob)
              have K1 := hL.trans (wr_like D oi (fullL 0 ob))
              have UC : Upd (fun _ => False) w wc := (hU.trans ((U9.trans ua).trans ub)).then uc (fun i hi hf => by rcases hf with hf | hf | hf <;> omega)
              generalize (Go.Proofs.Ytggepeepjaoibaa.wr D oi (fullL 0 ob)).1 = E at D1 W1 K1
              go_wp2_with (first | (go_at_call 40; go_must (refine (crash64_calls D1).mono ?_); rintro e wd ⟨rfl, D2, ud⟩; have HLE := Lib.hid (show (E).now.length = m + 3 by rw [K1.hn]; simp [fresh, hSm.out]); obtain ⟨s2, xs2, nt2, T2, hx2⟩ := tells_open (f := 1) (m := m) D2 (by show 1 + 2 + m ≤ (E).now.length; rw [HLE.out]; omega)) | (go_at_call 12; go_must (refine (open_tells (f := 1) (n := T) D2 rfl hT3 (by show 1 + T ≤ (E).now.length; rw [HLE.out]; have := HM.out; omega) (by rw [← HM.out]; exact T2)).mono ?_); rintro e we ⟨p2, v2, rfl, L2, ue, hp2⟩; rw [← HM.out] at L2; have D3 := D2.keep ue id id id; have hn2 : nt2.length = 16 := L2.hn; have l2 : (calm E).loose = [] := rfl; have HXN := Lib.hid (show xs2.length ≤ 140737488355328 by have := L2.hm; have : 64 * m ≤ 1048576 := this; omega); have HLN := Lib.hid (show (calm E).now.length = 1 + (m + 2) by show (E).now.length = _; rw [HLE.out]; omega); have W2 := well_calm E) | (go_at_call 41; go_must (refine (loose_none D3 l2).mono ?_); rintro e wL ⟨rfl, rfl⟩) | (go_at_call 23; go_must (refine (state_logG L2 (by first | decide | exact HXN.out)).mono ?_); rintro e ws ⟨sa, sc, rfl, os_, us⟩) | (go_at_call 21; go_must (refine (sectors8_calls (f := 1) ((D3).keep us id id id) (W2).gone (by rw [HLN.out]; omega)).mono ?_); rintro e wt ⟨vt, ust, rfl, Rt, ut⟩) | (go_at_call 20; go_must (refine (of8_tells ((D3).keep (us.trans ut) id id id) T2 Rt HLN.out hm1.out).mono ?_); rintro e wu ⟨au, cu, rfl, ou, uu⟩) | (go_at_call 22; go_must (refine (same8_true (os_.bytes.keep (ut.trans uu) (fun _ _ _ => id)) ou.bytes hn2).mono ?_); rintro e wv ⟨rfl, uv⟩; have UT := ((us.trans ut).trans uu).trans uv) | (go_at_call 25; go_must (refine (over_logG ((L2).quiet UT)).mono ?_); rintro e wx ⟨rfl, rfl⟩)); have hEB : (E).B = B := K1.hB; have hEM : (E).M = M := K1.hM; have UD : Upd (fun _ => False) w we := (UC.then ud (fun i hi hf => by rcases hf with hf | hf | hf <;> omega)).trans ue; have d2 := D2.lt; exact ⟨⟨k + 1, s2, p2, calm E, xs2, nt2, v2, hkl, by rw [Int.natCast_add]; rfl, rfl, D3.keep UT id id id, W2, ⟨K1.hB, K1.hM, K1.hn⟩, rfl, Nat.lt_of_lt_of_le d2.1 hp2, by have q1 : (E).B < wd.heap.size := d2.2.1; omega, by have q1 : (E).M < wd.heap.size := d2.2.2; omega, L2.quiet UT, T2, hx2, UD.trans UT⟩, by show os.length - ((k : Int) + 1).toNat < os.length - ((k : Int)).toNat; omega⟩
            · have e4 : ((ok.toNat : Int) % 5 == 4) = false := by rw [beq_eq_false_iff_ne]; omega
              have e0 : ((ok.toNat : Int) % 5 == 0) = false := by rw [beq_eq_false_iff_ne]; omega
              have e1 : ((ok.toNat : Int) % 5 == 1) = false := by rw [beq_eq_false_iff_ne]; omega
              clear k0 k1 k4
              go_wp2_with (first | (guard_target =~ wpList _ _ _ (Oper.mk _ (Op.load 82 _) _ _ _ _ :: _) _ _; go_must (refine wpList_value rfl (run_op_load_agg 82 _ rfl rfl _ Try.isAggOp (by rw [Try.sizeOp]; rfl) HAG.out) ?_)) | (guard_target =~ wpList _ _ _ (Oper.mk _ (Op.alloc 82) _ _ _ _ :: _) _ _; go_must (refine wpList_alloc_new rfl 82 rfl _ Try.zeroOp ?_); intro g4 w4 hg4 x4 z4 u4; have X4 := Lib.hid x4; have G4 := Lib.hid hg4; clear x4 z4 hg4) | (guard_target =~ wpList _ _ _ (Oper.mk _ (Op.store 82 _ _) _ _ _ _ :: _) _ _; go_must (refine wpList_store_agg rfl 82 _ _ rfl rfl rfl (by rw [Try.sizeOp]; rfl) Try.someOp _ 82 X4.out (by show 0 + 4 ≤ 4; decide) op8_one ?_); intro w5 x5 u5; have X5 := Lib.hid (show w5.heap[g4]? = some (.cells (opA8 ⟨ok, on, oi, ob, .slice pa ob.length pcap⟩) 82 (0, 0)) from x5); have U5 : Upd (fun _ => False) wr w5 := u4.then u5 (fun i hi e => by have := G4.out; omega); clear x5) | (go_at_call 23; go_must (refine (state_logG (hlog.quiet U5) HXS.out).mono ?_); rintro e w6 ⟨a6, c6, rfl, o6, u6⟩) | (guard_target =~ wpList _ _ _ (Oper.mk _ (Op.alloc 42) _ _ _ _ :: _) _ _; go_must (refine wpList_alloc_new rfl 42 rfl _ Try.zeroSt ?_); intro g7 w7 hg7 x7 z7 u7; have X7 := Lib.hid x7; have G7 := Lib.hid hg7; clear x7 z7 hg7) | (guard_target =~ wpList _ _ _ (Oper.mk _ (Op.store 42 _ _) _ _ _ _ :: _) _ _; go_must (refine wpList_store_agg rfl 42 _ _ rfl rfl rfl (by rw [Try.sizeSt]; exact (stA_size _ _ _ hnt).symm) Try.someSt _ 42 X7.out (by show 0 + (stA s nt _).size ≤ (stA 0 (zeros 16) (.slice none 0 0)).size; rw [stA_size _ _ _ hnt, stA_size _ _ _ (by simp [zeros])]; decide) (stA_one _ _) ?_); intro w8 x8 u8; have X8 := Lib.hid (st_store x8 (by simp [zeros]) hnt); clear x8; have U58 : Upd (fun _ => False) w5 w8 := (u6.trans u7).then u8 (fun i hi e => by have := G7.out; have := u6.size; omega); have X58 := Lib.hid (U58.heap X5.out id); have o8 := Lib.hid (o6.bytes.keep (u7.then u8 (S := fun _ => False) (fun i hi e => by have := G7.out; omega)) (fun _ _ _ => id)); have U8 : Upd (fun _ => False) wr w8 := U5.trans U58) | (go_at_call 24; go_must (refine (ROOM.out w8 U8).mono ?_); rintro e w9 ⟨rfl, u9⟩; have X9 := Lib.hid (u9.heap X8.out id); have X59 := Lib.hid (u9.heap X58.out id); have c0 := cell_st0 X9.out; have U9 := U8.trans u9; have O9 := Lib.hid (o8.out.keep u9 (fun _ _ _ => id)); have r0 := op8_k X59.out; have r3 := op8_v X59.out))
              clear c0 r0 r3
              have D1 := hD.keep U9 id id id
              have K1 := hL
              have UC := hU.trans U9
              go_wp2_with (first | (go_at_call 40; go_must (refine (crash64_calls D1).mono ?_); rintro e wd ⟨rfl, D2, ud⟩; have HLE := Lib.hid (show (D).now.length = m + 3 by rw [K1.hn]; simp [fresh, hSm.out]); obtain ⟨s2, xs2, nt2, T2, hx2⟩ := tells_open (f := 1) (m := m) D2 (by show 1 + 2 + m ≤ (D).now.length; rw [HLE.out]; omega)) | (go_at_call 12; go_must (refine (open_tells (f := 1) (n := T) D2 rfl hT3 (by show 1 + T ≤ (D).now.length; rw [HLE.out]; have := HM.out; omega) (by rw [← HM.out]; exact T2)).mono ?_); rintro e we ⟨p2, v2, rfl, L2, ue, hp2⟩; rw [← HM.out] at L2; have D3 := D2.keep ue id id id; have hn2 : nt2.length = 16 := L2.hn; have l2 : (calm D).loose = [] := rfl; have HXN := Lib.hid (show xs2.length ≤ 140737488355328 by have := L2.hm; have : 64 * m ≤ 1048576 := this; omega); have HLN := Lib.hid (show (calm D).now.length = 1 + (m + 2) by show (D).now.length = _; rw [HLE.out]; omega); have W2 := well_calm D) | (go_at_call 41; go_must (refine (loose_none D3 l2).mono ?_); rintro e wL ⟨rfl, rfl⟩) | (go_at_call 23; go_must (refine (state_logG L2 (by first | decide | exact HXN.out)).mono ?_); rintro e ws ⟨sa, sc, rfl, os_, us⟩) | (go_at_call 21; go_must (refine (sectors8_calls (f := 1) ((D3).keep us id id id) (W2).gone (by rw [HLN.out]; omega)).mono ?_); rintro e wt ⟨vt, ust, rfl, Rt, ut⟩) | (go_at_call 20; go_must (refine (of8_tells ((D3).keep (us.trans ut) id id id) T2 Rt HLN.out hm1.out).mono ?_); rintro e wu ⟨au, cu, rfl, ou, uu⟩) | (go_at_call 22; go_must (refine (same8_true (os_.bytes.keep (ut.trans uu) (fun _ _ _ => id)) ou.bytes hn2).mono ?_); rintro e wv ⟨rfl, uv⟩; have UT := ((us.trans ut).trans uu).trans uv) | (go_at_call 25; go_must (refine (over_logG ((L2).quiet UT)).mono ?_); rintro e wx ⟨rfl, rfl⟩)); have hEB : (D).B = B := K1.hB; have hEM : (D).M = M := K1.hM; have UD : Upd (fun _ => False) w we := (UC.then ud (fun i hi hf => by rcases hf with hf | hf | hf <;> omega)).trans ue; have d2 := D2.lt; exact ⟨⟨k + 1, s2, p2, calm D, xs2, nt2, v2, hkl, by rw [Int.natCast_add]; rfl, rfl, D3.keep UT id id id, W2, ⟨K1.hB, K1.hM, K1.hn⟩, rfl, Nat.lt_of_lt_of_le d2.1 hp2, by have q1 : (D).B < wd.heap.size := d2.2.1; omega, by have q1 : (D).M < wd.heap.size := d2.2.2; omega, L2.quiet UT, T2, hx2, UD.trans UT⟩, by show os.length - ((k : Int) + 1).toNat < os.length - ((k : Int)).toNat; omega⟩
    · go_wp2
      go_ret
      exact ⟨rfl, hU⟩
end Go.Proofs.Ytggepeepjaoibaa

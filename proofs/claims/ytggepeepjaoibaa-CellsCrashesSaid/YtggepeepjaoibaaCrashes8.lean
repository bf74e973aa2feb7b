/- CellsCrashes' walk. -/
import Derived.Test.YtggepeepjaoibaaCrashes8a
namespace Go.Proofs.Ytggepeepjaoibaa
open Go.RowKit
set_option linter.unusedVariables false

attribute [local irreducible] wpStill wpReads
set_option maxRecDepth 100000 in
set_option maxHeartbeats 0 in
theorem crashes8_walk {w : World} {v vf : Value} {os : List OpG} {fate : List UInt8} (hv : IsOps opA8 w v os) (hf : IsBytes w vf fate) (hbr : ∀ o ∈ os, o.b.length ≤ 140737488351232) : Calls Try.prog 9 #[v, vf] w fun e w' => e = .returned (.bool true) ∧ Upd (fun _ => False) w w' := by
  obtain ⟨a, cap, rfl, v1, v2, _⟩ := id hv.at_
  unfold maxLen at v2
  obtain ⟨fa, fcap, rfl, f1, f2, _⟩ := id hf.at_
  unfold maxLen at f2
  have HFB := Lib.hid (fun (h : fate ≠ []) => hf.lt_size h)
  have tok : True := trivial
  go_enter Try.func9, Try.ntmps9
  go_wp2_with (first
    | (go_at_call 10; go_must (refine (awake08_calls (w := w)).mono ?_); rintro e w1 ⟨rfl, u1⟩))
  go_at_call 38
  refine (few8_le (hv.keep0 u1)).mono ?_
  rintro e w1' ⟨⟨fb, rfl, hfb⟩, rfl⟩
  cases fb
  · go_wp2_with (first
      | (go_at_call 10; go_must (refine (awake08_calls (w := w1)).mono ?_); rintro e w2 ⟨rfl, u2⟩))
    go_ret
    exact ⟨rfl, u1.trans u2⟩
  have h40 : os.length ≤ 40 := hfb rfl
  clear hfb
  by_cases h50 : 50 < fate.length
  · have t50 : decide ((50 : Int) < (fate.length : Int)) = true := decide_eq_true (by omega)
    go_wp2_with (first
      | (go_at_call 10; go_must (refine (awake08_calls (w := w1)).mono ?_); rintro e w2 ⟨rfl, u2⟩))
    go_ret
    exact ⟨rfl, u1.trans u2⟩
  have t50 : decide ((50 : Int) < (fate.length : Int)) = false := decide_eq_false (by omega)
  go_wp2_with (first
    | (go_at_call 11; go_must (refine (new_calls 30 (by omega)).mono ?_); rintro e w2 ⟨d, B, M, rfl, h2, hd, hB, hM, u2⟩; have s2 := h2.lt)
    | (go_at_call 12; go_must (refine (open_tells (f := 3) (n := 25) h2 rfl (by omega) (by show 3 + 25 ≤ (List.replicate 30 (zeros 64)).length; simp) (tells_fresh B M 30 3 23 (by omega))).mono ?_); rintro e w3 ⟨p3, v3, rfl, L3, u3, hp3⟩))
  have U3 := (u1.trans u2).trans u3
  have z1 := u1.size
  have hR0 := rests_fresh (fateAt fate 0) B M 30 3 23 (by omega)
  go_loopw [6, 8] (fun lv iv wr => ∃ (k s p : Nat) (D : DiskG) (xs nt : List UInt8) (v : Value), k ≤ os.length ∧ iv = .int .i64 k ∧ lv = .pointer (some ⟨p, 0, none⟩) ∧ IsDisk wr d D ∧ D.gone = false ∧ D.loose = [] ∧ Like (fresh B M 30) D ∧ d < p ∧ B < p ∧ M < p ∧
      IsLog wr p (logG d 3 23 s xs nt v) ∧ Rests (fateAt fate 0) D 3 23 s xs nt ∧ xs.length ≤ 1472 ∧ s ≤ k ∧ Upd (fun _ => False) w wr) (fun _ iv _ => os.length - (intOf iv).toNat)
  case atStart => exact ⟨0, 0, p3, _, _, _, v3, by omega, rfl, rfl, h2.keep u3 id id id, rfl, rfl, Like.refl _, by omega, by have := s2.2.1; show B < p3; exact Nat.lt_of_lt_of_le this hp3, by have := s2.2.2; show M < p3; exact Nat.lt_of_lt_of_le this hp3, L3, hR0, by simp, Nat.le_refl _, U3⟩
  case round =>
    obtain ⟨k, s, p, D, xs, nt, v, hk, rfl, rfl, hD, hgone, hloose, hL, hdp, hBp, hMp, hlog, hR, hxm, hsk, hU⟩ := hrel
    have hnow : D.now.length = 30 := by rw [hL.hn]; simp [fresh]
    have hB' : D.B = B := hL.hB
    have hM' : D.M = M := hL.hM
    have hvr := hv.keep0 hU
    have hnt : nt.length = 16 := hlog.hn
    have HXS := Lib.hid (show xs.length ≤ 140737488355328 by omega)
    by_cases hkl : k < os.length
    · obtain ⟨b, off, rfl⟩ := hvr.addr (by omega)
      obtain ⟨o, ho⟩ : ∃ o, os[k]? = some o := ⟨_, List.getElem?_eq_getElem hkl⟩
      have hag := hvr.agg ho
      have hob := (hvr.each o (List.mem_of_getElem? ho)).1
      have HOI := Lib.hid (hvr.each o (List.mem_of_getElem? ho)).2
      obtain ⟨ok, on, oi, ob, ov⟩ := o
      simp only at hob
      obtain ⟨pa, pcap, rfl, p1, p2, _⟩ := id hob.at_
      have HO := Lib.hid ho
      clear ho
      have HAG := Lib.hid hag
      clear hag
      have hpl : p < wr.heap.size := hlog.lt
      have hdN := Lib.hid (show d < wr.heap.size by omega)
      have hBN := Lib.hid (show D.B < wr.heap.size by omega)
      have hMN := Lib.hid (show D.M < wr.heap.size by omega)
      have HS62 := Lib.hid (show s < 4611686018427387904 by omega)
      obtain ⟨s1, hs1⟩ : ∃ s1, s + 1 = s1 := ⟨_, rfl⟩
      have hw64 : IntKind.u64.wrap ((s : Int) + 1) = (s1 : Int) := by rw [IntWalk.u64_in _ (by have := HS62.out; omega)]; omega
      have HS1 := Lib.hid hs1
      have HXM := Lib.hid hxm
      have HRR := Lib.hid hR
      clear hs1 hR
      have hob0 := Lib.hid (show IsBytes w (.slice pa ob.length pcap) ob from (hv.each _ (List.mem_of_getElem? HO.out)).1)
      have HBR := Lib.hid (show ob.length ≤ 140737488351232 from hbr _ (List.mem_of_getElem? HO.out))
      have HFE := Lib.hid (show ∀ E, Like D E → fate ≠ [] → ∀ kk, (Value.slice fa fate.length fcap).ownBlock = some kk → ¬ fp d E kk from fun E hE h kk hk hf => by have q := HFB.out h kk hk; have q1 := hE.hB; have q2 := hE.hM; rcases hf with hf | hf | hf <;> omega)
      have tk6 : True := trivial
      have tk7 : True := trivial
      have tk8 : True := trivial
      have tk9 : True := trivial
      have tka : True := trivial
      by_cases k0 : ok.toNat % 2 = 0
      · have e0 : (ok.toNat : Int) % 2 = 0 := by omega
        clear k0
        go_wp2_with (first | (guard_target =~ wpList _ _ _ (Oper.mk _ (Op.load 82 _) _ _ _ _ :: _) _ _; go_must (refine wpList_value rfl (run_op_load_agg 82 _ rfl rfl _ Try.isAggOp (by rw [Try.sizeOp]; rfl) HAG.out) ?_)) | (guard_target =~ wpList _ _ _ (Oper.mk _ (Op.alloc 82) _ _ _ _ :: _) _ _; go_must (refine wpList_alloc_new rfl 82 rfl _ Try.zeroOp ?_); intro g4 w4 hg4 x4 z4 u4; have X4 := Lib.hid x4; have G4 := Lib.hid hg4; clear x4 z4 hg4) | (guard_target =~ wpList _ _ _ (Oper.mk _ (Op.store 82 _ _) _ _ _ _ :: _) _ _; go_must (refine wpList_store_agg rfl 82 _ _ rfl rfl rfl (by rw [Try.sizeOp]; rfl) Try.someOp _ 82 X4.out (by show 0 + 4 ≤ 4; decide) op8_one ?_); intro w5 x5 u5; have X5 := Lib.hid (show w5.heap[g4]? = some (.cells (opA8 ⟨ok, on, oi, ob, .slice pa ob.length pcap⟩) 82 (0, 0)) from x5); have U5 : Upd (fun _ => False) wr w5 := u4.then u5 (fun i hi e => by have := G4.out; omega); clear x5) | (go_at_call 23; have _t := tk6; clear tk6 _t; go_must (refine (state_logG (hlog.quiet U5) HXS.out).mono ?_); rintro e w6 ⟨a6, c6, rfl, o6, u6⟩) | (guard_target =~ wpList _ _ _ (Oper.mk _ (Op.alloc 42) _ _ _ _ :: _) _ _; have _t := tk7; clear tk7 _t; go_must (refine wpList_alloc_new rfl 42 rfl _ Try.zeroSt ?_); intro g7 w7 hg7 x7 z7 u7; have X7 := Lib.hid x7; have G7 := Lib.hid hg7; clear x7 z7 hg7) | (guard_target =~ wpList _ _ _ (Oper.mk _ (Op.store 42 _ _) _ _ _ _ :: _) _ _; have _t := tk8; clear tk8 _t; go_must (refine wpList_store_agg rfl 42 _ _ rfl rfl rfl (by rw [Try.sizeSt]; exact (stA_size _ _ _ hnt).symm) Try.someSt _ 42 X7.out (st_fit s hnt) (stA_one _ _) ?_); intro w8 x8 u8; have X8 := Lib.hid (st_store x8 (by simp [zeros]) hnt); clear x8; have U58 : Upd (fun _ => False) w5 w8 := (u6.trans u7).then u8 (fun i hi e => by have := G7.out; have := u6.size; omega); have X58 := Lib.hid (U58.heap X5.out id); have o8 := Lib.hid (o6.bytes.keep (u7.then u8 (S := fun _ => False) (fun i hi e => by have := G7.out; omega)) (fun _ _ _ => id)); have U8 : Upd (fun _ => False) wr w8 := U5.trans U58; have c0 := cell_st0 X8.out) | (guard_target =~ wpList _ _ _ (Oper.mk _ (Op.load 32 _) _ _ _ _ :: _) _ _; go_must (refine wpList_value rfl (run_op_load_agg 32 _ rfl rfl (bvs nt) Try.isAgg37 (by rw [Try.size37, size_bvs, hnt]) (agg_st1 X8.out)) ?_)) | (guard_target =~ wpList _ _ _ (Oper.mk _ (Op.build 42 _) _ _ _ _ :: _) _ _; go_must (refine wpList_value rfl (run_op_build 42 #[(0, .tmp 51), (1, .tmp 53)] rfl _ (by go_simp) _ (Try.builtD nt hnt s1)) ?_)) | (guard_target =~ wpList _ _ _ (Oper.mk _ (Op.alloc 42) _ _ _ _ :: _) _ _; have _t := tk9; clear tk9 _t; go_must (refine wpList_alloc_new rfl 42 rfl _ Try.zeroSt ?_); intro g9 w9 hg9 x9 z9 u9; have X9 := Lib.hid x9; have G9 := Lib.hid hg9; clear x9 z9 hg9) | (guard_target =~ wpList _ _ _ (Oper.mk _ (Op.store 42 _ _) _ _ _ _ :: _) _ _; have _t := tka; clear tka _t; go_must (refine wpList_store_agg rfl 42 _ _ rfl rfl rfl (by rw [Try.sizeSt]; exact (stA_size _ _ _ hnt).symm) Try.someSt _ 42 X9.out (st_fit s1 hnt) (stA_one _ _) ?_); intro wa xa ua; have XaN := Lib.hid (st_store xa (by simp [zeros]) hnt); clear xa; have U8a : Upd (fun _ => False) w8 wa := u9.then ua (fun i hi e => by have := G9.out; omega); have XaO := Lib.hid (U8a.heap X58.out id); have XaW := Lib.hid (U8a.heap X8.out id); have oa := Lib.hid (o8.out.keep U8a (fun _ _ _ => id)); have Ua : Upd (fun _ => False) wr wa := U8.trans U8a; have r2 := op8_i XaO.out; clear c0))
        refine (fuse_calls (hD.keep Ua id id id) oi HOI.out.2).mono ?_
        rintro e wb ⟨rfl, Db, ub⟩
        have hg4 : ¬ g4 < wr.heap.size := by rw [G4.out]; exact Nat.lt_irrefl _
        have hg7 : ¬ g7 < wr.heap.size := by have q1 := G7.out; have q2 := (U5.trans u6).size; omega
        have hg9 : ¬ g9 < wr.heap.size := by have q1 := G9.out; have q2 := U8.size; omega
        have n49 := Lib.hid (show g4 ≠ g9 by have q1 := lt_of_heap X58.out; have q2 := G9.out; omega)
        have n79 := Lib.hid (show g7 ≠ g9 by have q1 := lt_of_heap X8.out; have q2 := G9.out; omega)
        have ubo := upd_oldD ub hdN.out hBN.out hMN.out
        have XbO := Lib.hid (ubo.heap XaO.out hg4)
        have XbW := Lib.hid (ubo.heap XaW.out hg7)
        have XbN := Lib.hid (ubo.heap XaN.out hg9)
        have Lb := (hlog.quiet Ua).keep ub ((hlog.quiet Ua).apart hdp (by omega) (by omega))
        have HW6 := Lib.hid (show ∀ kk, (Value.slice a6 xs.length c6).ownBlock = some kk → wr.heap.size ≤ kk from fun kk hk => by have q1 := o6.base_le kk hk; have q2 := U5.size; omega)
        have HW9 := Lib.hid (show ∀ kk, (Value.slice a6 xs.length c6).ownBlock = some kk → kk ≠ g9 from fun kk hk => by have q1 := o6.lt_size kk hk; have q2 := G9.out; have q3 := u7.size; have q4 := u8.size; omega)
        have obb := Lib.hid (oa.out.keep ubo (fun _ kk hk hlt => by have q1 := HW6.out kk hk; omega))
        have Ub : Upd (fun _ => False) w wb := (hU.trans Ua).then ub (fun i hi hf => by rcases hf with hf | hf | hf <;> omega)
        have Rb := Lib.hid (HRR.out.fuse (max oi (-1)))
        have r0 := op8_k XbO.out
        have r1 := op8_n XbO.out
        clear r2
        go_wp2_with (first
          | (go_at_call 14
             go_must (refine (note8_calls on).mono ?_)
             rintro e wc ⟨rfl, uc⟩
             have XcN := Lib.hid (uc.heap XbN.out id))
          | (guard_target =~ wpList _ _ _ (Oper.mk _ (Op.store 32 _ _) _ _ _ _ :: _) _ _
             go_must (refine wpList_store_agg rfl 32 _ _ rfl rfl rfl (by rw [Try.size37, size_bvs, noteL_len]) (by kernel_rfl) _ 42 XcN.out (by rw [stA_size _ _ _ hnt, size_bvs, noteL_len]; decide) (one_bvs _) ?_)
             intro wd xd ud
             rw [st_note _ _ _ _ hnt (noteL_len on)] at xd
             have XdN := Lib.hid xd
             clear xd))
        have Ubd : Upd (fun kk => kk = g9) wb wd := (uc.mono (fun _ _ hf => hf.elim)).trans ud
        have XdO := Lib.hid (Ubd.heap XbO.out n49.out)
        have XdW := Lib.hid (Ubd.heap XbW.out n79.out)
        have odW := Lib.hid (obb.out.keep Ubd (fun _ kk hk e => HW9.out kk hk e))
        have zU := hU.size
        have Ud : Upd (fun _ => False) w wd := Ub.then Ubd (fun i hi e => by omega)
        have Ld := (Lb.quiet uc).keep ud (fun kk hk e => by rcases hk with hk | hk; (· omega); (have := (hlog.vp kk hk).2; omega))
        have Dd := (Db.keep uc id id id).keep ud (fun e => by have := hdN.out; omega) (fun e => by have := hBN.out; change D.B = g9 at e; omega) (fun e => by have := hMN.out; change D.M = g9 at e; omega)
        have obd := Lib.hid (hob0.out.keep Ud (fun _ _ _ => id))
        obtain ⟨ys, hys⟩ : ∃ ys, xs ++ ob = ys := ⟨_, rfl⟩
        have hyl := Lib.hid (show ys.length = xs.length + ob.length by rw [← hys, List.length_append])
        have HYS := Lib.hid hys
        have LX1 := Lib.hid (show ([] : List UInt8).length + xs.length ≤ 140737488355328 by have := HXM.out; simp; omega)
        have LX2 := Lib.hid (show xs.length + ob.length ≤ 140737488355328 by have := HXM.out; have := HBR.out; omega)
        clear hys r0 r1
        refine region_order 0 9 (by kernel_rfl) (by kernel_rfl) rfl (by kernel_rfl) (fun x => x.heap[g4]? = some (.cells (opA8 ⟨ok, on, oi, ob, .slice pa ob.length pcap⟩) 82 (0, 0)) ∧ x.heap[g7]? = some (.cells (stA s nt (.slice a6 xs.length c6)) 42 (0, 0))) ⟨XdO.out, XdW.out⟩ ?_
        simp only [List.take_zero]
        refine r_nil ?_
        have ue : Upd (fun _ => False) wd { wd with drawn := wd.drawn + 1 } := (Upd.refl _ wd).drew
        generalize ({ wd with drawn := wd.drawn + 1 } : World) = we at ue
        have hC := And.intro (ue.heap XdO.out id) (ue.heap XdW.out id)
        refine o_readsK (k := 1) 2 (fun _ _ _ h => h.1) (by kernel_rfl) hC (by decide) (by kernel_rfl) ?_
        simp only [List.drop_succ_cons, List.drop_zero, List.take_succ_cons, List.take_zero]
        (apply r_value (by first | rfl | go_simp) (v := ?_); focus (intro _ _; go_simp; try exact rfl)); (apply r_at; focus (go_simp; exact rfl))
        refine r_load rfl 26 (.tmp 68) rfl (fun w => by go_simp) ⟨g7, 17, none⟩ rfl _ (fun x hx => cell_st2 hx.2 hnt) ?_; (apply r_at; focus (go_simp; exact rfl))
        refine r_nil ?_
        refine o_readsK (k := 4) 2 (fun _ _ _ h => h.1) (by kernel_rfl) hC (by decide) (by kernel_rfl) ?_
        simp only [List.drop_succ_cons, List.drop_zero, List.take_succ_cons, List.take_zero]
        (apply r_value (by first | rfl | go_simp) (v := ?_); focus (intro _ _; go_simp; try exact rfl)); (apply r_at; focus (go_simp; exact rfl))
        refine r_load rfl 26 (.tmp 71) rfl (fun w => by go_simp) ⟨g4, 3, none⟩ rfl _ (fun x hx => op8_v hx.1) ?_; (apply r_at; focus (go_simp; exact rfl))
        refine r_nil ?_
        refine o_one 0 (by kernel_rfl) rfl rfl ?_
        have hCe := hC
        refine o_value (v := .slice (some ⟨we.heap.size, 0, none⟩) 0 0) (w' := we.alloc (.cells #[] 5)) (by go_simp) ?_
        have O0 := own_empty we we.heap.size (Nat.le_refl _)
        have u0 : Upd (fun _ => False) we (we.alloc (.cells #[] 5)) := (Upd.refl _ _).alloc _
        generalize we.alloc (.cells #[] 5) = wf at O0 u0 ⊢
        have hC := And.intro (u0.heap hCe.1 id) (u0.heap hCe.2 id)
        refine ⟨hC, ?_⟩
        (apply o_at; focus (go_simp; exact rfl))
        refine o_one 3 (by kernel_rfl) rfl rfl ?_
        refine o_of_list (ops := #[]) rfl (wpList_append_bytesU we.heap.size O0 (odW.out.keep (ue.trans u0) (fun _ _ _ => id)) rfl _ _ rfl rfl rfl u0.size LX1.out ?_)
        intro v3 wg O3 u3
        rw [List.nil_append] at O3
        obtain ⟨p3', c3', rfl, _⟩ := id O3.bytes.at_
        have V3 : Upd (fun _ => False) we wg := u0.then u3 (fun i hi e => absurd hi (Nat.not_lt.2 (O0.base_le i e.symm)))
        have hC := And.intro (V3.heap hCe.1 id) (V3.heap hCe.2 id)
        refine ⟨rfl, hC, ?_⟩
        (apply o_at; focus (go_simp; exact rfl))
        refine o_one 6 (by kernel_rfl) rfl rfl ?_
        refine o_of_list (ops := #[]) rfl (wpList_append_bytesU we.heap.size O3 (obd.out.keep (ue.trans V3) (fun _ _ _ => id)) rfl _ _ rfl rfl rfl V3.size LX2.out ?_)
        intro v6 wh O6 u6'
        rw [HYS.out] at O6
        obtain ⟨p6', c6', rfl, _⟩ := id O6.bytes.at_
        have V6 : Upd (fun _ => False) we wh := V3.then u6' (fun i hi e => absurd hi (Nat.not_lt.2 (O3.base_le i e.symm)))
        have hC := And.intro (V6.heap hCe.1 id) (V6.heap hCe.2 id)
        refine ⟨rfl, hC, ?_⟩
        (apply o_at; focus (go_simp; exact rfl))
        refine o_readsK (k := 7) 1 (fun _ _ _ h => h.1) (by kernel_rfl) hC (by decide) (by kernel_rfl) ?_
        simp only [List.drop_succ_cons, List.drop_zero, List.take_succ_cons, List.take_zero]
        (apply r_value (by first | rfl | go_simp) (v := ?_); focus (intro _ _; go_simp; try exact rfl)); (apply r_at; focus (go_simp; exact rfl))
        refine r_nil ?_
        refine o_one 8 (by kernel_rfl) rfl rfl ?_
        have V6d := ue.trans V6
        refine o_store_one (b := g9) (off := 17) 26 (.tmp 74) (.tmp 73) rfl rfl rfl (by kernel_rfl) (by kernel_rfl) _ 42 (V6d.heap XdN.out id) (by rw [stA_size _ _ _ (noteL_len on)]; decide) (slice_cells _ _ _) (slice_one _ _ _) ?_
        intro wi xi ui
        rw [st_bytes _ _ _ _ (noteL_len on)] at xi
        have XiN := Lib.hid xi
        clear xi
        have hC := And.intro (ui.heap hC.1 n49.out) (ui.heap hC.2 n79.out)
        refine ⟨hC, ?_⟩
        (apply o_at; focus (go_simp; exact rfl))
        refine o_end (by kernel_rfl) ?_
        have hdi : wd.heap.size ≤ we.heap.size := ue.size
        have Udi : Upd (fun kk => kk = g9) wd wi := (V6d.mono (fun _ _ hf => hf.elim)).trans ui
        have XiO := Lib.hid hC.1
        have XiW := Lib.hid hC.2
        have HG9 := lt_of_heap XdN.out
        have oiW := Lib.hid (odW.out.keep Udi (fun _ kk hk e => HW9.out kk hk e))
        have oiN := Lib.hid (O6.bytes.keep ui (fun _ kk hk e => by have := O6.base_le kk hk; omega))
        have HNi := Lib.hid (show ∀ kk, (Value.slice p6' ys.length c6').ownBlock = some kk → wr.heap.size ≤ kk from fun kk hk => by have := O6.base_le kk hk; omega)
        have Ui : Upd (fun _ => False) w wi := Ud.then Udi (fun i hi e => by omega)
        have Li := Ld.keep Udi (fun kk hk e => by rcases hk with hk | hk; (· omega); (have := (hlog.vp kk hk).2; omega))
        have Di := Dd.keep Udi (fun e => by have := hdN.out; omega) (fun e => by have := hBN.out; change D.B = g9 at e; omega) (fun e => by have := hMN.out; change D.M = g9 at e; omega)
        have obi := Lib.hid (hob0.out.keep Ui (fun _ _ _ => id))
        go_wp2
        by_cases hfull : 1472 < xs.length + ob.length
        · skip
          refine region_order 5 3 (by kernel_rfl) (by kernel_rfl) rfl (by kernel_rfl) (fun x => x.heap[g4]? = some (.cells (opA8 ⟨ok, on, oi, ob, .slice pa ob.length pcap⟩) 82 (0, 0)) ∧ x.heap[g7]? = some (.cells (stA s nt (.slice a6 xs.length c6)) 42 (0, 0))) ⟨XiO.out, XiW.out⟩ ?_
          simp only [List.take_succ_cons, List.take_zero]
          (apply r_value (by first | rfl | go_simp) (v := ?_); focus (intro _ _; go_simp; try exact rfl)); (apply r_at; focus (go_simp; exact rfl))
          (apply r_value (by first | rfl | go_simp) (v := ?_); focus (intro _ _; go_simp; try exact rfl)); (apply r_at; focus (go_simp; exact rfl))
          refine r_load rfl 26 (.tmp 76) rfl (fun w => by go_simp) ⟨g4, 3, none⟩ rfl _ (fun x hx => op8_v hx.1) ?_; (apply r_at; focus (go_simp; exact rfl))
          (apply r_value (by first | rfl | go_simp) (v := ?_); focus (intro _ _; go_simp; try exact rfl)); (apply r_at; focus (go_simp; exact rfl))
          refine r_load rfl 5 (.tmp 78) rfl (fun w => by go_simp) ⟨g4, 1, none⟩ rfl _ (fun x hx => op8_n hx.1) ?_; (apply r_at; focus (go_simp; exact rfl))
          refine r_nil ?_
          have uj : Upd (fun _ => False) wi { wi with drawn := wi.drawn + 1 } := (Upd.refl _ wi).drew
          generalize ({ wi with drawn := wi.drawn + 1 } : World) = wj at uj
          have hC := And.intro (uj.heap XiO.out id) (uj.heap XiW.out id)
          refine o_one 5 (by kernel_rfl) rfl rfl ?_
          refine mid_call 14 #[.int .u8 (on.toNat : Int)] (by go_simp) ((note8_calls on).mono ?_)
          rintro e wk ⟨rfl, uk⟩
          have hC := And.intro (uk.heap hC.1 id) (uk.heap hC.2 id)
          refine ⟨_, rfl, hC, ?_⟩
          (apply o_at; focus (go_simp; exact rfl))
          refine o_one 6 (by kernel_rfl) rfl rfl ?_
          refine mid_call 13 #[.pointer (some ⟨p, 0, none⟩), .slice pa ob.length pcap, .agg (bvs (noteL on))] (by go_simp) ((append_full (Li.quiet (uj.trans uk)) rfl HS62.out (by show 64 * 23 < xs.length + ob.length; omega) ⟨_, rfl⟩).mono ?_)
          rintro e wz ⟨rfl, uz⟩
          have hC := And.intro (uz.heap hC.1 id) (uz.heap hC.2 id)
          refine ⟨_, rfl, hC, ?_⟩
          (apply o_at; focus (go_simp; exact rfl))
          refine o_readsK (k := 7) 1 (fun _ _ _ h => h.1) (by kernel_rfl) hC (by decide) (by kernel_rfl) ?_
          simp only [List.drop_succ_cons, List.drop_zero, List.take_succ_cons, List.take_zero]
          (apply r_value (by first | rfl | go_simp) (v := ?_); focus (intro _ _; go_simp; try exact rfl)); (apply r_at; focus (go_simp; exact rfl))
          refine r_nil ?_
          refine o_end (by kernel_rfl) ?_
          have Uiz := (uj.trans uk).trans uz
          have XzW := Lib.hid hC.2
          have XzN := Lib.hid (Uiz.heap XiN.out id)
          have ozW := Lib.hid (oiW.out.keep Uiz (fun _ _ _ => id))
          have Dz := Di.keep Uiz id id id
          obtain ⟨E, hE⟩ : ∃ E, { D with fuse := max oi (-1) } = E := ⟨_, rfl⟩
          have KE : Like D E := by rw [← hE]; exact ⟨rfl, rfl, rfl⟩
          have RR : Rests (fateAt fate 0) (crash E fate) 3 23 s xs nt := by rw [← hE]; exact Rb.out.crash0 hloose fate
          rw [hE] at Dz
          have hEB : E.B = B := KE.hB.trans hB'
          have hEM : E.M = M := KE.hM.trans hM'
          have Uzz : Upd (fun _ => False) w wz := Ui.trans Uiz
          have hnn := hnt
          have HLL := Lib.hid (show xs.length ≤ 1472 from HXM.out)
          have HLX := Lib.hid (show xs.length ≤ 140737488355328 by have := HLL.out; omega)
          have tkr : True := trivial
          have tkt : True := trivial
          clear hE
          have tl0 : True := trivial
          have tl1 : True := trivial
          have tl2 : True := trivial
          have tl3 : True := trivial
          have tks : True := trivial
          have tkc : True := trivial
          have tkd : True := trivial
          have tko : True := trivial
          have tkp : True := trivial
          go_wp2_with (first
            | (guard_target =~ wpList _ _ _ (Oper.mk _ (Op.load 42 _) _ _ _ _ :: _) _ _
               have _t := tkt; clear tkt _t
               go_must (refine wpList_value rfl (run_op_load_agg 42 _ rfl rfl _ Try.isAggSt (by rw [Try.sizeSt]; exact (stA_size _ _ _ hnt).symm) (agg_heap XzW.out)) ?_))
            | (guard_target =~ wpList _ _ _ (Oper.mk _ (Op.store 42 _ _) _ _ _ _ :: _) _ _
               have _t := tkr; clear tkr _t
               go_must (refine wpList_store_agg rfl 42 _ _ rfl rfl rfl (by rw [Try.sizeSt]; exact (stA_size _ _ _ hnt).symm) Try.someSt _ 42 XzN.out (by rw [stA_size _ _ _ hnt, stA_size _ _ _ (noteL_len on)]; decide) (stA_one _ _) ?_)
               intro wy xy uy
               have XyN := Lib.hid (st_store xy (noteL_len on) hnt)
               clear xy
               have XyW := Lib.hid (uy.heap XzW.out n79.out)
               have oyW := Lib.hid (ozW.out.keep uy (fun _ kk hk e => HW9.out kk hk e))
               have Dy := Dz.keep uy (fun e => by have := hdN.out; omega) (fun e => by have := hBN.out; omega) (fun e => by have := hMN.out; omega)
               have Uy : Upd (fun _ => False) w wy := Uzz.then uy (fun i hi e => by omega)
               clear XzW XzN ozW Uzz Dz
               have XzW := XyW
               have XzN := XyN
               have ozW := oyW
               have ozN := oyW
               have DE := Dy
               have HN6 := HW6
               have Uz := Uy
               have UzC : Upd (fun _ => False) wy wy := Upd.refl _ _)
            | (go_at_call 25
               go_must (refine (over_at LE hov).mono ?_)
               rintro e wq ⟨rfl, rfl⟩)
            | (go_at_call 40
               go_must (refine (crash_calls (fate := fate) (DE.keep UzC id id id) (hf.keep (Uz.trans UzC) (fun _ _ _ => id)) (HFE.out E KE)).mono ?_)
               rintro e wC ⟨rfl, DC, uC⟩
               have hEB : E.B = B := KE.hB.trans hB'
               have hEM : E.M = M := KE.hM.trans hM'
               have uCo := upd_oldD (N := wr.heap.size) uC hdN.out (by rw [hEB, ← hB']; exact hBN.out) (by rw [hEM, ← hM']; exact hMN.out)
               have XCW := Lib.hid (uCo.heap (UzC.heap XzW.out id) hg7)
               have XCN := Lib.hid (uCo.heap (UzC.heap XzN.out id) hg9)
               have oCW := Lib.hid ((ozW.out.keep UzC (fun _ _ _ => id)).keep uCo (fun _ kk hk hlt => by have q1 := HW6.out kk hk; omega))
               have oCN := Lib.hid ((ozN.out.keep UzC (fun _ _ _ => id)).keep uCo (fun _ kk hk hlt => by have q1 := HN6.out kk hk; omega))
               have UC : Upd (fun _ => False) w wC := (Uz.trans UzC).then uC (fun i hi hf => by rcases hf with hf | hf | hf <;> omega))
            | (go_at_call 12
               go_must (refine (open_tells (f := 3) (n := 25) DC rfl (by omega) (by rw [(crash_like E fate).hn, KE.hn, hnow]; omega) RR.tells).mono ?_)
               rintro e wO ⟨pO, vO, rfl, LO, uO, hpO⟩
               have hBO : (crash E fate).B = B := by rw [(crash_like E fate).hB]; exact hEB
               have hMO : (crash E fate).M = M := by rw [(crash_like E fate).hM]; exact hEM
               have hdO := Lib.hid (show d < pO ∧ B < pO ∧ M < pO by have q := DC.lt; rw [hBO, hMO] at q; omega)
               have XOW := Lib.hid (uO.heap XCW.out id)
               have XON := Lib.hid (uO.heap XCN.out id))
            | (go_at_call 23
               have _t := tks; clear tks _t
               go_must (refine (state_logG LO HLX.out).mono ?_)
               rintro e wS ⟨aS, cS, rfl, oS, uS⟩)
            | (guard_target =~ wpList _ _ _ (Oper.mk _ (Op.alloc 42) _ _ _ _ :: _) _ _
               go_must (refine wpList_alloc_new rfl 42 rfl _ Try.zeroSt ?_)
               intro gT wT hgT xT zT uT
               have XT := Lib.hid xT
               have GT := Lib.hid hgT
               clear xT zT hgT)
            | (guard_target =~ wpList _ _ _ (Oper.mk _ (Op.store 42 _ _) _ _ _ _ :: _) _ _
               go_must (refine wpList_store_agg rfl 42 _ _ rfl rfl rfl (by rw [Try.sizeSt]; exact (stA_size _ _ _ hnn).symm) Try.someSt _ 42 XT.out (st_fit _ hnn) (stA_one _ _) ?_)
               intro wU xU uU
               have XU := Lib.hid (st_store xU (by simp [zeros]) hnn)
               clear xU
               have UOU : Upd (fun _ => False) wO wU := (uS.trans uT).then uU (fun i hi e => by have q1 := GT.out; have q2 := uS.size; omega)
               have XUW := Lib.hid (UOU.heap XOW.out id)
               have XUN := Lib.hid (UOU.heap XON.out id)
               have oUS := Lib.hid (oS.bytes.keep (uT.then uU (S := fun _ => False) (fun i hi e => by have := GT.out; omega)) (fun _ _ _ => id))
               have oUW := Lib.hid (oCW.out.keep (uO.trans UOU) (fun _ _ _ => id))
               have oUN := Lib.hid (oCN.out.keep (uO.trans UOU) (fun _ _ _ => id)))
            | (guard_target =~ wpList _ _ _ (Oper.mk _ (Op.load 42 _) _ _ _ _ :: _) _ _
               have _t := tl0; clear tl0 _t
               refine wpList_value rfl (run_op_load_agg 42 _ rfl rfl _ Try.isAggSt (by rw [Try.sizeSt]; exact (stA_size _ _ _ hnn).symm) (agg_heap XU.out)) ?_)
            | (guard_target =~ wpList _ _ _ (Oper.mk _ (Op.load 42 _) _ _ _ _ :: _) _ _
               have _t := tl1; clear tl1 _t
               refine wpList_value rfl (run_op_load_agg 42 _ rfl rfl _ Try.isAggSt (by rw [Try.sizeSt]; exact (stA_size _ _ _ hnt).symm) (agg_heap XUN.out)) ?_)
            | (guard_target =~ wpList _ _ _ (Oper.mk _ (Op.load 42 _) _ _ _ _ :: _) _ _
               have _t := tl2; clear tl2 _t
               refine wpList_value rfl (run_op_load_agg 42 _ rfl rfl _ Try.isAggSt (by rw [Try.sizeSt]; exact (stA_size _ _ _ hnn).symm) (agg_heap XVS.out)) ?_)
            | (guard_target =~ wpList _ _ _ (Oper.mk _ (Op.load 42 _) _ _ _ _ :: _) _ _
               have _t := tl3; clear tl3 _t
               refine wpList_value rfl (run_op_load_agg 42 _ rfl rfl _ Try.isAggSt (by rw [Try.sizeSt]; exact (stA_size _ _ _ hnt).symm) (agg_heap XVN.out)) ?_)
            | (go_at_call 22
               have _t := tkc; clear tkc _t
               go_must (refine (same8_true oUS.out oUN.out hnn).mono ?_)
               rintro e wV ⟨rfl, uwV⟩
               have XVS := Lib.hid (uwV.heap XU.out id)
               have XVW := Lib.hid (uwV.heap XUW.out id)
               have XVN := Lib.hid (uwV.heap XUN.out id)
               have oVS := Lib.hid (oUS.out.keep uwV (fun _ _ _ => id))
               have oVW := Lib.hid (oUW.out.keep uwV (fun _ _ _ => id))
               have oVN := Lib.hid (oUN.out.keep uwV (fun _ _ _ => id)))
            | (go_at_call 22
               have _t := tkd; clear tkd _t
               go_must (refine (same8_true oVS.out oVN.out hnn).mono ?_)
               rintro e wX ⟨rfl, uwX⟩
               have XXS := Lib.hid (uwX.heap XVS.out id)
               have XXW := Lib.hid (uwX.heap XVW.out id)
               have XXN := Lib.hid (uwX.heap XVN.out id)
               have oXS := Lib.hid (oVS.out.keep uwX (fun _ _ _ => id))
               have oXW := Lib.hid (oVW.out.keep uwX (fun _ _ _ => id))
               have oXN := Lib.hid (oVN.out.keep uwX (fun _ _ _ => id))))
          have UF := (UOU.trans uwV).trans uwX
          exact ⟨⟨k + 1, s, pO, crash E fate, xs, nt, vO, hkl, by rw [Int.natCast_add]; rfl, rfl, DC.keep (uO.trans UF) id id id, rfl, rfl, (hL.trans KE).trans (crash_like _ _), hdO.out.1, hdO.out.2.1, hdO.out.2.2, LO.quiet UF, RR, HLL.out, by omega, UC.trans (uO.trans UF)⟩, by show os.length - ((k : Int) + 1).toNat < os.length - ((k : Int)).toNat; omega⟩
        · skip
          have hoc := out_cases (fateAt fate 0) (becomeF { D with fuse := max oi (-1) } (logG d 3 23 s xs nt v) (xs ++ ob) (noteL on) true (xs.length + ob.length)) fate 3 23 (s + 1) (xs ++ ob) (noteL on)
          have HNE := Lib.hid (show s ≠ s1 by have := HS1.out; omega)
          have tl0 : True := trivial
          have tl1 : True := trivial
          have tl2 : True := trivial
          have tl3 : True := trivial
          have tks : True := trivial
          have tkc : True := trivial
          have tkd : True := trivial
          have tko : True := trivial
          have tkp : True := trivial
          rcases hoc with hoc | hoc | hoc
          · have hnn := noteL_len on
            have HLL := Lib.hid (show (ys : List UInt8).length ≤ 1472 from by have := hyl.out; omega)
            have HLX := Lib.hid (show (ys : List UInt8).length ≤ 140737488355328 by have := HLL.out; omega)
            refine region_order 5 3 (by kernel_rfl) (by kernel_rfl) rfl (by kernel_rfl) (fun x => x.heap[g4]? = some (.cells (opA8 ⟨ok, on, oi, ob, .slice pa ob.length pcap⟩) 82 (0, 0)) ∧ x.heap[g7]? = some (.cells (stA s nt (.slice a6 xs.length c6)) 42 (0, 0))) ⟨XiO.out, XiW.out⟩ ?_
            simp only [List.take_succ_cons, List.take_zero]
            (apply r_value (by first | rfl | go_simp) (v := ?_); focus (intro _ _; go_simp; try exact rfl)); (apply r_at; focus (go_simp; exact rfl))
            (apply r_value (by first | rfl | go_simp) (v := ?_); focus (intro _ _; go_simp; try exact rfl)); (apply r_at; focus (go_simp; exact rfl))
            refine r_load rfl 26 (.tmp 76) rfl (fun w => by go_simp) ⟨g4, 3, none⟩ rfl _ (fun x hx => op8_v hx.1) ?_; (apply r_at; focus (go_simp; exact rfl))
            (apply r_value (by first | rfl | go_simp) (v := ?_); focus (intro _ _; go_simp; try exact rfl)); (apply r_at; focus (go_simp; exact rfl))
            refine r_load rfl 5 (.tmp 78) rfl (fun w => by go_simp) ⟨g4, 1, none⟩ rfl _ (fun x hx => op8_n hx.1) ?_; (apply r_at; focus (go_simp; exact rfl))
            refine r_nil ?_
            have uj : Upd (fun _ => False) wi { wi with drawn := wi.drawn + 1 } := (Upd.refl _ wi).drew
            generalize ({ wi with drawn := wi.drawn + 1 } : World) = wj at uj
            have hC := And.intro (uj.heap XiO.out id) (uj.heap XiW.out id)
            refine o_one 5 (by kernel_rfl) rfl rfl ?_
            refine mid_call 14 #[.int .u8 (on.toNat : Int)] (by go_simp) ((note8_calls on).mono ?_)
            rintro e wk ⟨rfl, uk⟩
            have hC := And.intro (uk.heap hC.1 id) (uk.heap hC.2 id)
            refine ⟨_, rfl, hC, ?_⟩
            (apply o_at; focus (go_simp; exact rfl))
            refine o_one 6 (by kernel_rfl) rfl rfl ?_
            refine mid_call 13 #[.pointer (some ⟨p, 0, none⟩), .slice pa ob.length pcap, .agg (bvs (noteL on))] (by go_simp) (((append_fused (c := 0) fate (Li.quiet (uj.trans uk)) (Di.keep (uj.trans uk) id id id) ((Li.quiet (uj.trans uk)).apart hdp (by show D.B < p; omega) (by show D.M < p; omega)) (obi.out.keep (uj.trans uk) (fun _ _ _ => id)) hgone hloose (by show 3 + 2 + 23 ≤ D.now.length; omega) Rb.out HS62.out (noteL_len on) (by omega) hoc).mono (fun e w' hh => hh.1 rfl)).mono ?_)
            rintro e wz ⟨E, L', rfl, DE, KE', LE, uz, hov, RR⟩
            have hC := And.intro ((upd_old (D := D) uz hpl hdN.out hBN.out hMN.out).heap hC.1 hg4) ((upd_old (D := D) uz hpl hdN.out hBN.out hMN.out).heap hC.2 hg7)
            refine ⟨_, rfl, hC, ?_⟩
            (apply o_at; focus (go_simp; exact rfl))
            refine o_readsK (k := 7) 1 (fun _ _ _ h => h.1) (by kernel_rfl) hC (by decide) (by kernel_rfl) ?_
            simp only [List.drop_succ_cons, List.drop_zero, List.take_succ_cons, List.take_zero]
            (apply r_value (by first | rfl | go_simp) (v := ?_); focus (intro _ _; go_simp; try exact rfl)); (apply r_at; focus (go_simp; exact rfl))
            refine r_nil ?_
            refine o_end (by kernel_rfl) ?_
            have uz : Upd (fun k => k = p ∨ fp d D k) wk wz := uz
            have KE : Like D E := ⟨KE'.hB, KE'.hM, KE'.hn⟩
            have uzo := upd_old uz hpl hdN.out hBN.out hMN.out
            have Ujk := uj.trans uk
            have XzW := Lib.hid hC.2
            have XzN := Lib.hid (uzo.heap (Ujk.heap XiN.out id) hg9)
            have ozW := Lib.hid ((oiW.out.keep Ujk (fun _ _ _ => id)).keep uzo (fun _ kk hk hlt => by have q1 := HW6.out kk hk; omega))
            have ozN := Lib.hid ((oiN.out.keep Ujk (fun _ _ _ => id)).keep uzo (fun _ kk hk hlt => by have q1 := HNi.out kk hk; omega))
            have HN6 := HNi
            have Uz : Upd (fun _ => False) w wz := (Ui.trans Ujk).then uz (fun i hi hf => by rcases hf with hf | hf | hf | hf <;> omega)
            have UzC : Upd (fun _ => False) wz wz := Upd.refl _ _
            rw [HS1.out, HYS.out] at RR
            go_wp2_with (first
              | (go_at_call 25
                 go_must (refine (over_at LE hov).mono ?_)
                 rintro e wq ⟨rfl, rfl⟩)
              | (go_at_call 40
                 go_must (refine (crash_calls (fate := fate) (DE.keep UzC id id id) (hf.keep (Uz.trans UzC) (fun _ _ _ => id)) (HFE.out E KE)).mono ?_)
                 rintro e wC ⟨rfl, DC, uC⟩
                 have hEB : E.B = B := KE.hB.trans hB'
                 have hEM : E.M = M := KE.hM.trans hM'
                 have uCo := upd_oldD (N := wr.heap.size) uC hdN.out (by rw [hEB, ← hB']; exact hBN.out) (by rw [hEM, ← hM']; exact hMN.out)
                 have XCW := Lib.hid (uCo.heap (UzC.heap XzW.out id) hg7)
                 have XCN := Lib.hid (uCo.heap (UzC.heap XzN.out id) hg9)
                 have oCW := Lib.hid ((ozW.out.keep UzC (fun _ _ _ => id)).keep uCo (fun _ kk hk hlt => by have q1 := HW6.out kk hk; omega))
                 have oCN := Lib.hid ((ozN.out.keep UzC (fun _ _ _ => id)).keep uCo (fun _ kk hk hlt => by have q1 := HN6.out kk hk; omega))
                 have UC : Upd (fun _ => False) w wC := (Uz.trans UzC).then uC (fun i hi hf => by rcases hf with hf | hf | hf <;> omega))
              | (go_at_call 12
                 go_must (refine (open_tells (f := 3) (n := 25) DC rfl (by omega) (by rw [(crash_like E fate).hn, KE.hn, hnow]; omega) RR.tells).mono ?_)
                 rintro e wO ⟨pO, vO, rfl, LO, uO, hpO⟩
                 have hBO : (crash E fate).B = B := by rw [(crash_like E fate).hB]; exact hEB
                 have hMO : (crash E fate).M = M := by rw [(crash_like E fate).hM]; exact hEM
                 have hdO := Lib.hid (show d < pO ∧ B < pO ∧ M < pO by have q := DC.lt; rw [hBO, hMO] at q; omega)
                 have XOW := Lib.hid (uO.heap XCW.out id)
                 have XON := Lib.hid (uO.heap XCN.out id))
              | (go_at_call 23
                 have _t := tks; clear tks _t
                 go_must (refine (state_logG LO HLX.out).mono ?_)
                 rintro e wS ⟨aS, cS, rfl, oS, uS⟩)
              | (guard_target =~ wpList _ _ _ (Oper.mk _ (Op.alloc 42) _ _ _ _ :: _) _ _
                 go_must (refine wpList_alloc_new rfl 42 rfl _ Try.zeroSt ?_)
                 intro gT wT hgT xT zT uT
                 have XT := Lib.hid xT
                 have GT := Lib.hid hgT
                 clear xT zT hgT)
              | (guard_target =~ wpList _ _ _ (Oper.mk _ (Op.store 42 _ _) _ _ _ _ :: _) _ _
                 go_must (refine wpList_store_agg rfl 42 _ _ rfl rfl rfl (by rw [Try.sizeSt]; exact (stA_size _ _ _ hnn).symm) Try.someSt _ 42 XT.out (st_fit _ hnn) (stA_one _ _) ?_)
                 intro wU xU uU
                 have XU := Lib.hid (st_store xU (by simp [zeros]) hnn)
                 clear xU
                 have UOU : Upd (fun _ => False) wO wU := (uS.trans uT).then uU (fun i hi e => by have q1 := GT.out; have q2 := uS.size; omega)
                 have XUW := Lib.hid (UOU.heap XOW.out id)
                 have XUN := Lib.hid (UOU.heap XON.out id)
                 have oUS := Lib.hid (oS.bytes.keep (uT.then uU (S := fun _ => False) (fun i hi e => by have := GT.out; omega)) (fun _ _ _ => id))
                 have oUW := Lib.hid (oCW.out.keep (uO.trans UOU) (fun _ _ _ => id))
                 have oUN := Lib.hid (oCN.out.keep (uO.trans UOU) (fun _ _ _ => id)))
              | (guard_target =~ wpList _ _ _ (Oper.mk _ (Op.load 42 _) _ _ _ _ :: _) _ _
                 have _t := tl0; clear tl0 _t
                 refine wpList_value rfl (run_op_load_agg 42 _ rfl rfl _ Try.isAggSt (by rw [Try.sizeSt]; exact (stA_size _ _ _ hnn).symm) (agg_heap XU.out)) ?_)
              | (guard_target =~ wpList _ _ _ (Oper.mk _ (Op.load 42 _) _ _ _ _ :: _) _ _
                 have _t := tl1; clear tl1 _t
                 refine wpList_value rfl (run_op_load_agg 42 _ rfl rfl _ Try.isAggSt (by rw [Try.sizeSt]; exact (stA_size _ _ _ (noteL_len on)).symm) (agg_heap XUN.out)) ?_)
              | (guard_target =~ wpList _ _ _ (Oper.mk _ (Op.load 42 _) _ _ _ _ :: _) _ _
                 have _t := tl2; clear tl2 _t
                 refine wpList_value rfl (run_op_load_agg 42 _ rfl rfl _ Try.isAggSt (by rw [Try.sizeSt]; exact (stA_size _ _ _ hnn).symm) (agg_heap XVS.out)) ?_)
              | (guard_target =~ wpList _ _ _ (Oper.mk _ (Op.load 42 _) _ _ _ _ :: _) _ _
                 have _t := tl3; clear tl3 _t
                 refine wpList_value rfl (run_op_load_agg 42 _ rfl rfl _ Try.isAggSt (by rw [Try.sizeSt]; exact (stA_size _ _ _ (noteL_len on)).symm) (agg_heap XVN.out)) ?_)
              | (go_at_call 22
                 have _t := tkc; clear tkc _t
                 go_must (refine (same8_true oUS.out oUN.out hnn).mono ?_)
                 rintro e wV ⟨rfl, uwV⟩
                 have XVS := Lib.hid (uwV.heap XU.out id)
                 have XVW := Lib.hid (uwV.heap XUW.out id)
                 have XVN := Lib.hid (uwV.heap XUN.out id)
                 have oVS := Lib.hid (oUS.out.keep uwV (fun _ _ _ => id))
                 have oVW := Lib.hid (oUW.out.keep uwV (fun _ _ _ => id))
                 have oVN := Lib.hid (oUN.out.keep uwV (fun _ _ _ => id)))
              | (go_at_call 22
                 have _t := tkd; clear tkd _t
                 go_must (refine (same8_true oVS.out oVN.out hnn).mono ?_)
                 rintro e wX ⟨rfl, uwX⟩
                 have XXS := Lib.hid (uwX.heap XVS.out id)
                 have XXW := Lib.hid (uwX.heap XVW.out id)
                 have XXN := Lib.hid (uwX.heap XVN.out id)
                 have oXS := Lib.hid (oVS.out.keep uwX (fun _ _ _ => id))
                 have oXW := Lib.hid (oVW.out.keep uwX (fun _ _ _ => id))
                 have oXN := Lib.hid (oVN.out.keep uwX (fun _ _ _ => id))))
            have UF := (UOU.trans uwV).trans uwX
            exact ⟨⟨k + 1, s1, pO, crash E fate, ys, noteL on, vO, hkl, by rw [Int.natCast_add]; rfl, rfl, DC.keep (uO.trans UF) id id id, rfl, rfl, (hL.trans KE).trans (crash_like _ _), hdO.out.1, hdO.out.2.1, hdO.out.2.2, LO.quiet UF, RR, HLL.out, by have := HS1.out; omega, UC.trans (uO.trans UF)⟩, by show os.length - ((k : Int) + 1).toNat < os.length - ((k : Int)).toNat; omega⟩
          · have hnn := noteL_len on
            have HLL := Lib.hid (show (ys : List UInt8).length ≤ 1472 from by have := hyl.out; omega)
            have HLX := Lib.hid (show (ys : List UInt8).length ≤ 140737488355328 by have := HLL.out; omega)
            refine region_order 5 3 (by kernel_rfl) (by kernel_rfl) rfl (by kernel_rfl) (fun x => x.heap[g4]? = some (.cells (opA8 ⟨ok, on, oi, ob, .slice pa ob.length pcap⟩) 82 (0, 0)) ∧ x.heap[g7]? = some (.cells (stA s nt (.slice a6 xs.length c6)) 42 (0, 0))) ⟨XiO.out, XiW.out⟩ ?_
            simp only [List.take_succ_cons, List.take_zero]
            (apply r_value (by first | rfl | go_simp) (v := ?_); focus (intro _ _; go_simp; try exact rfl)); (apply r_at; focus (go_simp; exact rfl))
            (apply r_value (by first | rfl | go_simp) (v := ?_); focus (intro _ _; go_simp; try exact rfl)); (apply r_at; focus (go_simp; exact rfl))
            refine r_load rfl 26 (.tmp 76) rfl (fun w => by go_simp) ⟨g4, 3, none⟩ rfl _ (fun x hx => op8_v hx.1) ?_; (apply r_at; focus (go_simp; exact rfl))
            (apply r_value (by first | rfl | go_simp) (v := ?_); focus (intro _ _; go_simp; try exact rfl)); (apply r_at; focus (go_simp; exact rfl))
            refine r_load rfl 5 (.tmp 78) rfl (fun w => by go_simp) ⟨g4, 1, none⟩ rfl _ (fun x hx => op8_n hx.1) ?_; (apply r_at; focus (go_simp; exact rfl))
            refine r_nil ?_
            have uj : Upd (fun _ => False) wi { wi with drawn := wi.drawn + 1 } := (Upd.refl _ wi).drew
            generalize ({ wi with drawn := wi.drawn + 1 } : World) = wj at uj
            have hC := And.intro (uj.heap XiO.out id) (uj.heap XiW.out id)
            refine o_one 5 (by kernel_rfl) rfl rfl ?_
            refine mid_call 14 #[.int .u8 (on.toNat : Int)] (by go_simp) ((note8_calls on).mono ?_)
            rintro e wk ⟨rfl, uk⟩
            have hC := And.intro (uk.heap hC.1 id) (uk.heap hC.2 id)
            refine ⟨_, rfl, hC, ?_⟩
            (apply o_at; focus (go_simp; exact rfl))
            refine o_one 6 (by kernel_rfl) rfl rfl ?_
            refine mid_call 13 #[.pointer (some ⟨p, 0, none⟩), .slice pa ob.length pcap, .agg (bvs (noteL on))] (by go_simp) (((append_fused (c := 1) fate (Li.quiet (uj.trans uk)) (Di.keep (uj.trans uk) id id id) ((Li.quiet (uj.trans uk)).apart hdp (by show D.B < p; omega) (by show D.M < p; omega)) (obi.out.keep (uj.trans uk) (fun _ _ _ => id)) hgone hloose (by show 3 + 2 + 23 ≤ D.now.length; omega) Rb.out HS62.out (noteL_len on) (by omega) hoc).mono (fun e w' hh => hh.2.1 rfl)).mono ?_)
            rintro e wz ⟨E, L', rfl, DE, KE', LE, uz, hov, RR⟩
            have hC := And.intro ((upd_old (D := D) uz hpl hdN.out hBN.out hMN.out).heap hC.1 hg4) ((upd_old (D := D) uz hpl hdN.out hBN.out hMN.out).heap hC.2 hg7)
            refine ⟨_, rfl, hC, ?_⟩
            (apply o_at; focus (go_simp; exact rfl))
            refine o_readsK (k := 7) 1 (fun _ _ _ h => h.1) (by kernel_rfl) hC (by decide) (by kernel_rfl) ?_
            simp only [List.drop_succ_cons, List.drop_zero, List.take_succ_cons, List.take_zero]
            (apply r_value (by first | rfl | go_simp) (v := ?_); focus (intro _ _; go_simp; try exact rfl)); (apply r_at; focus (go_simp; exact rfl))
            refine r_nil ?_
            refine o_end (by kernel_rfl) ?_
            have uz : Upd (fun k => k = p ∨ fp d D k) wk wz := uz
            have KE : Like D E := ⟨KE'.hB, KE'.hM, KE'.hn⟩
            have uzo := upd_old uz hpl hdN.out hBN.out hMN.out
            have Ujk := uj.trans uk
            have XzW := Lib.hid hC.2
            have XzN := Lib.hid (uzo.heap (Ujk.heap XiN.out id) hg9)
            have ozW := Lib.hid ((oiW.out.keep Ujk (fun _ _ _ => id)).keep uzo (fun _ kk hk hlt => by have q1 := HW6.out kk hk; omega))
            have ozN := Lib.hid ((oiN.out.keep Ujk (fun _ _ _ => id)).keep uzo (fun _ kk hk hlt => by have q1 := HNi.out kk hk; omega))
            have HN6 := HNi
            have Uz : Upd (fun _ => False) w wz := (Ui.trans Ujk).then uz (fun i hi hf => by rcases hf with hf | hf | hf | hf <;> omega)
            have UzC : Upd (fun _ => False) wz wz := Upd.refl _ _
            rw [HS1.out, HYS.out] at RR
            go_wp2_with (first
              | (go_at_call 25
                 go_must (refine (over_at LE hov).mono ?_)
                 rintro e wq ⟨rfl, rfl⟩)
              | (guard_target =~ wpList _ _ _ (Oper.mk _ (Op.build 32 _) _ _ _ _ :: _) _ _
                 go_must (refine wpList_value rfl (run_op_build 32 #[] rfl _ (by go_simp) _ Try.built37z) ?_))
              | (go_at_call 13
                 have _t := tko; clear tko _t
                 go_must (refine (append_over LE hov ⟨zeros 16, rfl⟩).mono ?_)
                 rintro e wy ⟨rfl, uwy⟩
                 clear UzC
                 have UzC : Upd (fun _ => False) wz wy := uwy)
              | (go_at_call 39
                 have _t := tkp; clear tkp _t
                 go_must (refine (clear_over (LE.quiet UzC) hov).mono ?_)
                 rintro e wq ⟨rfl, rfl⟩)
              | (go_at_call 40
                 go_must (refine (crash_calls (fate := fate) (DE.keep UzC id id id) (hf.keep (Uz.trans UzC) (fun _ _ _ => id)) (HFE.out E KE)).mono ?_)
                 rintro e wC ⟨rfl, DC, uC⟩
                 have hEB : E.B = B := KE.hB.trans hB'
                 have hEM : E.M = M := KE.hM.trans hM'
                 have uCo := upd_oldD (N := wr.heap.size) uC hdN.out (by rw [hEB, ← hB']; exact hBN.out) (by rw [hEM, ← hM']; exact hMN.out)
                 have XCW := Lib.hid (uCo.heap (UzC.heap XzW.out id) hg7)
                 have XCN := Lib.hid (uCo.heap (UzC.heap XzN.out id) hg9)
                 have oCW := Lib.hid ((ozW.out.keep UzC (fun _ _ _ => id)).keep uCo (fun _ kk hk hlt => by have q1 := HW6.out kk hk; omega))
                 have oCN := Lib.hid ((ozN.out.keep UzC (fun _ _ _ => id)).keep uCo (fun _ kk hk hlt => by have q1 := HN6.out kk hk; omega))
                 have UC : Upd (fun _ => False) w wC := (Uz.trans UzC).then uC (fun i hi hf => by rcases hf with hf | hf | hf <;> omega))
              | (go_at_call 12
                 go_must (refine (open_tells (f := 3) (n := 25) DC rfl (by omega) (by rw [(crash_like E fate).hn, KE.hn, hnow]; omega) RR.tells).mono ?_)
                 rintro e wO ⟨pO, vO, rfl, LO, uO, hpO⟩
                 have hBO : (crash E fate).B = B := by rw [(crash_like E fate).hB]; exact hEB
                 have hMO : (crash E fate).M = M := by rw [(crash_like E fate).hM]; exact hEM
                 have hdO := Lib.hid (show d < pO ∧ B < pO ∧ M < pO by have q := DC.lt; rw [hBO, hMO] at q; omega)
                 have XOW := Lib.hid (uO.heap XCW.out id)
                 have XON := Lib.hid (uO.heap XCN.out id))
              | (go_at_call 23
                 have _t := tks; clear tks _t
                 go_must (refine (state_logG LO HLX.out).mono ?_)
                 rintro e wS ⟨aS, cS, rfl, oS, uS⟩)
              | (guard_target =~ wpList _ _ _ (Oper.mk _ (Op.alloc 42) _ _ _ _ :: _) _ _
                 go_must (refine wpList_alloc_new rfl 42 rfl _ Try.zeroSt ?_)
                 intro gT wT hgT xT zT uT
                 have XT := Lib.hid xT
                 have GT := Lib.hid hgT
                 clear xT zT hgT)
              | (guard_target =~ wpList _ _ _ (Oper.mk _ (Op.store 42 _ _) _ _ _ _ :: _) _ _
                 go_must (refine wpList_store_agg rfl 42 _ _ rfl rfl rfl (by rw [Try.sizeSt]; exact (stA_size _ _ _ hnn).symm) Try.someSt _ 42 XT.out (st_fit _ hnn) (stA_one _ _) ?_)
                 intro wU xU uU
                 have XU := Lib.hid (st_store xU (by simp [zeros]) hnn)
                 clear xU
                 have UOU : Upd (fun _ => False) wO wU := (uS.trans uT).then uU (fun i hi e => by have q1 := GT.out; have q2 := uS.size; omega)
                 have XUW := Lib.hid (UOU.heap XOW.out id)
                 have XUN := Lib.hid (UOU.heap XON.out id)
                 have oUS := Lib.hid (oS.bytes.keep (uT.then uU (S := fun _ => False) (fun i hi e => by have := GT.out; omega)) (fun _ _ _ => id))
                 have oUW := Lib.hid (oCW.out.keep (uO.trans UOU) (fun _ _ _ => id))
                 have oUN := Lib.hid (oCN.out.keep (uO.trans UOU) (fun _ _ _ => id)))
              | (guard_target =~ wpList _ _ _ (Oper.mk _ (Op.load 42 _) _ _ _ _ :: _) _ _
                 have _t := tl0; clear tl0 _t
                 refine wpList_value rfl (run_op_load_agg 42 _ rfl rfl _ Try.isAggSt (by rw [Try.sizeSt]; exact (stA_size _ _ _ hnn).symm) (agg_heap XU.out)) ?_)
              | (guard_target =~ wpList _ _ _ (Oper.mk _ (Op.load 42 _) _ _ _ _ :: _) _ _
                 have _t := tl1; clear tl1 _t
                 refine wpList_value rfl (run_op_load_agg 42 _ rfl rfl _ Try.isAggSt (by rw [Try.sizeSt]; exact (stA_size _ _ _ (noteL_len on)).symm) (agg_heap XUN.out)) ?_)
              | (go_at_call 22
                 have _t := tkc; clear tkc _t
                 go_must (refine (same8_true oUS.out oUN.out hnn).mono ?_)
                 rintro e wV ⟨rfl, uwV⟩
                 have XVS := Lib.hid (uwV.heap XU.out id)
                 have XVW := Lib.hid (uwV.heap XUW.out id)
                 have XVN := Lib.hid (uwV.heap XUN.out id)
                 have oVS := Lib.hid (oUS.out.keep uwV (fun _ _ _ => id))
                 have oVW := Lib.hid (oUW.out.keep uwV (fun _ _ _ => id))
                 have oVN := Lib.hid (oUN.out.keep uwV (fun _ _ _ => id))))
            have UF := UOU.trans uwV
            exact ⟨⟨k + 1, s1, pO, crash E fate, ys, noteL on, vO, hkl, by rw [Int.natCast_add]; rfl, rfl, DC.keep (uO.trans UF) id id id, rfl, rfl, (hL.trans KE).trans (crash_like _ _), hdO.out.1, hdO.out.2.1, hdO.out.2.2, LO.quiet UF, RR, HLL.out, by have := HS1.out; omega, UC.trans (uO.trans UF)⟩, by show os.length - ((k : Int) + 1).toNat < os.length - ((k : Int)).toNat; omega⟩
          · have hnn := hnt
            have HLL := Lib.hid (show (xs : List UInt8).length ≤ 1472 from HXM.out)
            have HLX := Lib.hid (show (xs : List UInt8).length ≤ 140737488355328 by have := HLL.out; omega)
            refine region_order 5 3 (by kernel_rfl) (by kernel_rfl) rfl (by kernel_rfl) (fun x => x.heap[g4]? = some (.cells (opA8 ⟨ok, on, oi, ob, .slice pa ob.length pcap⟩) 82 (0, 0)) ∧ x.heap[g7]? = some (.cells (stA s nt (.slice a6 xs.length c6)) 42 (0, 0))) ⟨XiO.out, XiW.out⟩ ?_
            simp only [List.take_succ_cons, List.take_zero]
            (apply r_value (by first | rfl | go_simp) (v := ?_); focus (intro _ _; go_simp; try exact rfl)); (apply r_at; focus (go_simp; exact rfl))
            (apply r_value (by first | rfl | go_simp) (v := ?_); focus (intro _ _; go_simp; try exact rfl)); (apply r_at; focus (go_simp; exact rfl))
            refine r_load rfl 26 (.tmp 76) rfl (fun w => by go_simp) ⟨g4, 3, none⟩ rfl _ (fun x hx => op8_v hx.1) ?_; (apply r_at; focus (go_simp; exact rfl))
            (apply r_value (by first | rfl | go_simp) (v := ?_); focus (intro _ _; go_simp; try exact rfl)); (apply r_at; focus (go_simp; exact rfl))
            refine r_load rfl 5 (.tmp 78) rfl (fun w => by go_simp) ⟨g4, 1, none⟩ rfl _ (fun x hx => op8_n hx.1) ?_; (apply r_at; focus (go_simp; exact rfl))
            refine r_nil ?_
            have uj : Upd (fun _ => False) wi { wi with drawn := wi.drawn + 1 } := (Upd.refl _ wi).drew
            generalize ({ wi with drawn := wi.drawn + 1 } : World) = wj at uj
            have hC := And.intro (uj.heap XiO.out id) (uj.heap XiW.out id)
            refine o_one 5 (by kernel_rfl) rfl rfl ?_
            refine mid_call 14 #[.int .u8 (on.toNat : Int)] (by go_simp) ((note8_calls on).mono ?_)
            rintro e wk ⟨rfl, uk⟩
            have hC := And.intro (uk.heap hC.1 id) (uk.heap hC.2 id)
            refine ⟨_, rfl, hC, ?_⟩
            (apply o_at; focus (go_simp; exact rfl))
            refine o_one 6 (by kernel_rfl) rfl rfl ?_
            refine mid_call 13 #[.pointer (some ⟨p, 0, none⟩), .slice pa ob.length pcap, .agg (bvs (noteL on))] (by go_simp) (((append_fused (c := 2) fate (Li.quiet (uj.trans uk)) (Di.keep (uj.trans uk) id id id) ((Li.quiet (uj.trans uk)).apart hdp (by show D.B < p; omega) (by show D.M < p; omega)) (obi.out.keep (uj.trans uk) (fun _ _ _ => id)) hgone hloose (by show 3 + 2 + 23 ≤ D.now.length; omega) Rb.out HS62.out (noteL_len on) (by omega) hoc).mono (fun e w' hh => hh.2.2 rfl)).mono ?_)
            rintro e wz ⟨E, L', rfl, DE, KE', LE, uz, hov, RR⟩
            have hC := And.intro ((upd_old (D := D) uz hpl hdN.out hBN.out hMN.out).heap hC.1 hg4) ((upd_old (D := D) uz hpl hdN.out hBN.out hMN.out).heap hC.2 hg7)
            refine ⟨_, rfl, hC, ?_⟩
            (apply o_at; focus (go_simp; exact rfl))
            refine o_readsK (k := 7) 1 (fun _ _ _ h => h.1) (by kernel_rfl) hC (by decide) (by kernel_rfl) ?_
            simp only [List.drop_succ_cons, List.drop_zero, List.take_succ_cons, List.take_zero]
            (apply r_value (by first | rfl | go_simp) (v := ?_); focus (intro _ _; go_simp; try exact rfl)); (apply r_at; focus (go_simp; exact rfl))
            refine r_nil ?_
            refine o_end (by kernel_rfl) ?_
            have uz : Upd (fun k => k = p ∨ fp d D k) wk wz := uz
            have KE : Like D E := ⟨KE'.hB, KE'.hM, KE'.hn⟩
            have uzo := upd_old uz hpl hdN.out hBN.out hMN.out
            have Ujk := uj.trans uk
            have XzW := Lib.hid hC.2
            have XzN := Lib.hid (uzo.heap (Ujk.heap XiN.out id) hg9)
            have ozW := Lib.hid ((oiW.out.keep Ujk (fun _ _ _ => id)).keep uzo (fun _ kk hk hlt => by have q1 := HW6.out kk hk; omega))
            have ozN := Lib.hid ((oiN.out.keep Ujk (fun _ _ _ => id)).keep uzo (fun _ kk hk hlt => by have q1 := HNi.out kk hk; omega))
            have HN6 := HNi
            have Uz : Upd (fun _ => False) w wz := (Ui.trans Ujk).then uz (fun i hi hf => by rcases hf with hf | hf | hf | hf <;> omega)
            have UzC : Upd (fun _ => False) wz wz := Upd.refl _ _
            go_wp2_with (first
              | (go_at_call 25
                 go_must (refine (over_at LE hov).mono ?_)
                 rintro e wq ⟨rfl, rfl⟩)
              | (guard_target =~ wpList _ _ _ (Oper.mk _ (Op.build 32 _) _ _ _ _ :: _) _ _
                 go_must (refine wpList_value rfl (run_op_build 32 #[] rfl _ (by go_simp) _ Try.built37z) ?_))
              | (go_at_call 13
                 have _t := tko; clear tko _t
                 go_must (refine (append_over LE hov ⟨zeros 16, rfl⟩).mono ?_)
                 rintro e wy ⟨rfl, uwy⟩
                 clear UzC
                 have UzC : Upd (fun _ => False) wz wy := uwy)
              | (go_at_call 39
                 have _t := tkp; clear tkp _t
                 go_must (refine (clear_over (LE.quiet UzC) hov).mono ?_)
                 rintro e wq ⟨rfl, rfl⟩)
              | (go_at_call 40
                 go_must (refine (crash_calls (fate := fate) (DE.keep UzC id id id) (hf.keep (Uz.trans UzC) (fun _ _ _ => id)) (HFE.out E KE)).mono ?_)
                 rintro e wC ⟨rfl, DC, uC⟩
                 have hEB : E.B = B := KE.hB.trans hB'
                 have hEM : E.M = M := KE.hM.trans hM'
                 have uCo := upd_oldD (N := wr.heap.size) uC hdN.out (by rw [hEB, ← hB']; exact hBN.out) (by rw [hEM, ← hM']; exact hMN.out)
                 have XCW := Lib.hid (uCo.heap (UzC.heap XzW.out id) hg7)
                 have XCN := Lib.hid (uCo.heap (UzC.heap XzN.out id) hg9)
                 have oCW := Lib.hid ((ozW.out.keep UzC (fun _ _ _ => id)).keep uCo (fun _ kk hk hlt => by have q1 := HW6.out kk hk; omega))
                 have oCN := Lib.hid ((ozN.out.keep UzC (fun _ _ _ => id)).keep uCo (fun _ kk hk hlt => by have q1 := HN6.out kk hk; omega))
                 have UC : Upd (fun _ => False) w wC := (Uz.trans UzC).then uC (fun i hi hf => by rcases hf with hf | hf | hf <;> omega))
              | (go_at_call 12
                 go_must (refine (open_tells (f := 3) (n := 25) DC rfl (by omega) (by rw [(crash_like E fate).hn, KE.hn, hnow]; omega) RR.tells).mono ?_)
                 rintro e wO ⟨pO, vO, rfl, LO, uO, hpO⟩
                 have hBO : (crash E fate).B = B := by rw [(crash_like E fate).hB]; exact hEB
                 have hMO : (crash E fate).M = M := by rw [(crash_like E fate).hM]; exact hEM
                 have hdO := Lib.hid (show d < pO ∧ B < pO ∧ M < pO by have q := DC.lt; rw [hBO, hMO] at q; omega)
                 have XOW := Lib.hid (uO.heap XCW.out id)
                 have XON := Lib.hid (uO.heap XCN.out id))
              | (go_at_call 23
                 have _t := tks; clear tks _t
                 go_must (refine (state_logG LO HLX.out).mono ?_)
                 rintro e wS ⟨aS, cS, rfl, oS, uS⟩)
              | (guard_target =~ wpList _ _ _ (Oper.mk _ (Op.alloc 42) _ _ _ _ :: _) _ _
                 go_must (refine wpList_alloc_new rfl 42 rfl _ Try.zeroSt ?_)
                 intro gT wT hgT xT zT uT
                 have XT := Lib.hid xT
                 have GT := Lib.hid hgT
                 clear xT zT hgT)
              | (guard_target =~ wpList _ _ _ (Oper.mk _ (Op.store 42 _ _) _ _ _ _ :: _) _ _
                 go_must (refine wpList_store_agg rfl 42 _ _ rfl rfl rfl (by rw [Try.sizeSt]; exact (stA_size _ _ _ hnn).symm) Try.someSt _ 42 XT.out (st_fit _ hnn) (stA_one _ _) ?_)
                 intro wU xU uU
                 have XU := Lib.hid (st_store xU (by simp [zeros]) hnn)
                 clear xU
                 have UOU : Upd (fun _ => False) wO wU := (uS.trans uT).then uU (fun i hi e => by have q1 := GT.out; have q2 := uS.size; omega)
                 have XUW := Lib.hid (UOU.heap XOW.out id)
                 have XUN := Lib.hid (UOU.heap XON.out id)
                 have oUS := Lib.hid (oS.bytes.keep (uT.then uU (S := fun _ => False) (fun i hi e => by have := GT.out; omega)) (fun _ _ _ => id))
                 have oUW := Lib.hid (oCW.out.keep (uO.trans UOU) (fun _ _ _ => id))
                 have oUN := Lib.hid (oCN.out.keep (uO.trans UOU) (fun _ _ _ => id)))
              | (guard_target =~ wpList _ _ _ (Oper.mk _ (Op.load 42 _) _ _ _ _ :: _) _ _
                 have _t := tl0; clear tl0 _t
                 refine wpList_value rfl (run_op_load_agg 42 _ rfl rfl _ Try.isAggSt (by rw [Try.sizeSt]; exact (stA_size _ _ _ hnn).symm) (agg_heap XU.out)) ?_)
              | (guard_target =~ wpList _ _ _ (Oper.mk _ (Op.load 42 _) _ _ _ _ :: _) _ _
                 have _t := tl1; clear tl1 _t
                 refine wpList_value rfl (run_op_load_agg 42 _ rfl rfl _ Try.isAggSt (by rw [Try.sizeSt]; exact (stA_size _ _ _ (noteL_len on)).symm) (agg_heap XUN.out)) ?_)
              | (guard_target =~ wpList _ _ _ (Oper.mk _ (Op.load 42 _) _ _ _ _ :: _) _ _
                 have _t := tl2; clear tl2 _t
                 refine wpList_value rfl (run_op_load_agg 42 _ rfl rfl _ Try.isAggSt (by rw [Try.sizeSt]; exact (stA_size _ _ _ hnn).symm) (agg_heap XVS.out)) ?_)
              | (guard_target =~ wpList _ _ _ (Oper.mk _ (Op.load 42 _) _ _ _ _ :: _) _ _
                 have _t := tl3; clear tl3 _t
                 refine wpList_value rfl (run_op_load_agg 42 _ rfl rfl _ Try.isAggSt (by rw [Try.sizeSt]; exact (stA_size _ _ _ hnn).symm) (agg_heap XVW.out)) ?_)
              | (go_at_call 22
                 have _t := tkc; clear tkc _t
                 go_must (refine (same8_false oUS.out oUN.out hnn (noteL_len on) HNE.out).mono ?_)
                 rintro e wV ⟨rfl, uwV⟩
                 have XVS := Lib.hid (uwV.heap XU.out id)
                 have XVW := Lib.hid (uwV.heap XUW.out id)
                 have XVN := Lib.hid (uwV.heap XUN.out id)
                 have oVS := Lib.hid (oUS.out.keep uwV (fun _ _ _ => id))
                 have oVW := Lib.hid (oUW.out.keep uwV (fun _ _ _ => id))
                 have oVN := Lib.hid (oUN.out.keep uwV (fun _ _ _ => id)))
              | (go_at_call 22
                 have _t := tkd; clear tkd _t
                 go_must (refine (same8_true oVS.out oVW.out hnn).mono ?_)
                 rintro e wX ⟨rfl, uwX⟩
                 have XXS := Lib.hid (uwX.heap XVS.out id)
                 have XXW := Lib.hid (uwX.heap XVW.out id)
                 have XXN := Lib.hid (uwX.heap XVN.out id)
                 have oXS := Lib.hid (oVS.out.keep uwX (fun _ _ _ => id))
                 have oXW := Lib.hid (oVW.out.keep uwX (fun _ _ _ => id))
                 have oXN := Lib.hid (oVN.out.keep uwX (fun _ _ _ => id))))
            have UF := (UOU.trans uwV).trans uwX
            exact ⟨⟨k + 1, s, pO, crash E fate, xs, nt, vO, hkl, by rw [Int.natCast_add]; rfl, rfl, DC.keep (uO.trans UF) id id id, rfl, rfl, (hL.trans KE).trans (crash_like _ _), hdO.out.1, hdO.out.2.1, hdO.out.2.2, LO.quiet UF, RR, HLL.out, by omega, UC.trans (uO.trans UF)⟩, by show os.length - ((k : Int) + 1).toNat < os.length - ((k : Int)).toNat; omega⟩
      · have e1 : (ok.toNat : Int) % 2 = 1 := by omega
        clear k0
        go_wp2_with (first | (guard_target =~ wpList _ _ _ (Oper.mk _ (Op.load 82 _) _ _ _ _ :: _) _ _; go_must (refine wpList_value rfl (run_op_load_agg 82 _ rfl rfl _ Try.isAggOp (by rw [Try.sizeOp]; rfl) HAG.out) ?_)) | (guard_target =~ wpList _ _ _ (Oper.mk _ (Op.alloc 82) _ _ _ _ :: _) _ _; go_must (refine wpList_alloc_new rfl 82 rfl _ Try.zeroOp ?_); intro g4 w4 hg4 x4 z4 u4; have X4 := Lib.hid x4; have G4 := Lib.hid hg4; clear x4 z4 hg4) | (guard_target =~ wpList _ _ _ (Oper.mk _ (Op.store 82 _ _) _ _ _ _ :: _) _ _; go_must (refine wpList_store_agg rfl 82 _ _ rfl rfl rfl (by rw [Try.sizeOp]; rfl) Try.someOp _ 82 X4.out (by show 0 + 4 ≤ 4; decide) op8_one ?_); intro w5 x5 u5; have X5 := Lib.hid (show w5.heap[g4]? = some (.cells (opA8 ⟨ok, on, oi, ob, .slice pa ob.length pcap⟩) 82 (0, 0)) from x5); have U5 : Upd (fun _ => False) wr w5 := u4.then u5 (fun i hi e => by have := G4.out; omega); clear x5) | (go_at_call 23; have _t := tk6; clear tk6 _t; go_must (refine (state_logG (hlog.quiet U5) HXS.out).mono ?_); rintro e w6 ⟨a6, c6, rfl, o6, u6⟩) | (guard_target =~ wpList _ _ _ (Oper.mk _ (Op.alloc 42) _ _ _ _ :: _) _ _; have _t := tk7; clear tk7 _t; go_must (refine wpList_alloc_new rfl 42 rfl _ Try.zeroSt ?_); intro g7 w7 hg7 x7 z7 u7; have X7 := Lib.hid x7; have G7 := Lib.hid hg7; clear x7 z7 hg7) | (guard_target =~ wpList _ _ _ (Oper.mk _ (Op.store 42 _ _) _ _ _ _ :: _) _ _; have _t := tk8; clear tk8 _t; go_must (refine wpList_store_agg rfl 42 _ _ rfl rfl rfl (by rw [Try.sizeSt]; exact (stA_size _ _ _ hnt).symm) Try.someSt _ 42 X7.out (st_fit s hnt) (stA_one _ _) ?_); intro w8 x8 u8; have X8 := Lib.hid (st_store x8 (by simp [zeros]) hnt); clear x8; have U58 : Upd (fun _ => False) w5 w8 := (u6.trans u7).then u8 (fun i hi e => by have := G7.out; have := u6.size; omega); have X58 := Lib.hid (U58.heap X5.out id); have o8 := Lib.hid (o6.bytes.keep (u7.then u8 (S := fun _ => False) (fun i hi e => by have := G7.out; omega)) (fun _ _ _ => id)); have U8 : Upd (fun _ => False) wr w8 := U5.trans U58; have c0 := cell_st0 X8.out) | (guard_target =~ wpList _ _ _ (Oper.mk _ (Op.load 32 _) _ _ _ _ :: _) _ _; go_must (refine wpList_value rfl (run_op_load_agg 32 _ rfl rfl (bvs nt) Try.isAgg37 (by rw [Try.size37, size_bvs, hnt]) (agg_st1 X8.out)) ?_)) | (guard_target =~ wpList _ _ _ (Oper.mk _ (Op.build 42 _) _ _ _ _ :: _) _ _; go_must (refine wpList_value rfl (run_op_build 42 #[(0, .tmp 51), (1, .tmp 53)] rfl _ (by go_simp) _ (Try.builtD nt hnt s1)) ?_)) | (guard_target =~ wpList _ _ _ (Oper.mk _ (Op.alloc 42) _ _ _ _ :: _) _ _; have _t := tk9; clear tk9 _t; go_must (refine wpList_alloc_new rfl 42 rfl _ Try.zeroSt ?_); intro g9 w9 hg9 x9 z9 u9; have X9 := Lib.hid x9; have G9 := Lib.hid hg9; clear x9 z9 hg9) | (guard_target =~ wpList _ _ _ (Oper.mk _ (Op.store 42 _ _) _ _ _ _ :: _) _ _; have _t := tka; clear tka _t; go_must (refine wpList_store_agg rfl 42 _ _ rfl rfl rfl (by rw [Try.sizeSt]; exact (stA_size _ _ _ hnt).symm) Try.someSt _ 42 X9.out (st_fit s1 hnt) (stA_one _ _) ?_); intro wa xa ua; have XaN := Lib.hid (st_store xa (by simp [zeros]) hnt); clear xa; have U8a : Upd (fun _ => False) w8 wa := u9.then ua (fun i hi e => by have := G9.out; omega); have XaO := Lib.hid (U8a.heap X58.out id); have XaW := Lib.hid (U8a.heap X8.out id); have oa := Lib.hid (o8.out.keep U8a (fun _ _ _ => id)); have Ua : Upd (fun _ => False) wr wa := U8.trans U8a; have r2 := op8_i XaO.out; clear c0))
        refine (fuse_calls (hD.keep Ua id id id) oi HOI.out.2).mono ?_
        rintro e wb ⟨rfl, Db, ub⟩
        have hg4 : ¬ g4 < wr.heap.size := by rw [G4.out]; exact Nat.lt_irrefl _
        have hg7 : ¬ g7 < wr.heap.size := by have q1 := G7.out; have q2 := (U5.trans u6).size; omega
        have hg9 : ¬ g9 < wr.heap.size := by have q1 := G9.out; have q2 := U8.size; omega
        have n49 := Lib.hid (show g4 ≠ g9 by have q1 := lt_of_heap X58.out; have q2 := G9.out; omega)
        have n79 := Lib.hid (show g7 ≠ g9 by have q1 := lt_of_heap X8.out; have q2 := G9.out; omega)
        have ubo := upd_oldD ub hdN.out hBN.out hMN.out
        have XbO := Lib.hid (ubo.heap XaO.out hg4)
        have XbW := Lib.hid (ubo.heap XaW.out hg7)
        have XbN := Lib.hid (ubo.heap XaN.out hg9)
        have Lb := (hlog.quiet Ua).keep ub ((hlog.quiet Ua).apart hdp (by omega) (by omega))
        have HW6 := Lib.hid (show ∀ kk, (Value.slice a6 xs.length c6).ownBlock = some kk → wr.heap.size ≤ kk from fun kk hk => by have q1 := o6.base_le kk hk; have q2 := U5.size; omega)
        have HW9 := Lib.hid (show ∀ kk, (Value.slice a6 xs.length c6).ownBlock = some kk → kk ≠ g9 from fun kk hk => by have q1 := o6.lt_size kk hk; have q2 := G9.out; have q3 := u7.size; have q4 := u8.size; omega)
        have obb := Lib.hid (oa.out.keep ubo (fun _ kk hk hlt => by have q1 := HW6.out kk hk; omega))
        have Ub : Upd (fun _ => False) w wb := (hU.trans Ua).then ub (fun i hi hf => by rcases hf with hf | hf | hf <;> omega)
        have Rb := Lib.hid (HRR.out.fuse (max oi (-1)))
        have r0 := op8_k XbO.out
        have r1 := op8_n XbO.out
        clear r2
        have hoc := out_cases (fateAt fate 0) (turnF { D with fuse := max oi (-1) } 3 (s + 1) 0 nt) fate 3 23 (s + 1) [] nt
        have HNE := Lib.hid (show s ≠ s1 by have := HS1.out; omega)
        have hnn := hnt
        have tl0 : True := trivial
        have tl1 : True := trivial
        have tl2 : True := trivial
        have tl3 : True := trivial
        have tks : True := trivial
        have tkc : True := trivial
        have tkd : True := trivial
        have tko : True := trivial
        have tkp : True := trivial
        rcases hoc with hoc | hoc | hoc
        · have tkq : True := trivial
          have HLL := Lib.hid (show ([] : List UInt8).length ≤ 1472 from Nat.zero_le _)
          have HLX := Lib.hid (show ([] : List UInt8).length ≤ 140737488355328 by have := HLL.out; omega)
          go_wp2_with (first
            | (go_at_call 39
               have _t := tkq; clear tkq _t
               go_must (refine (clear_fused (c := 0) fate Lb Db (Lb.apart hdp (by show D.B < p; omega) (by show D.M < p; omega)) hgone hloose (by show 3 + 2 + 23 ≤ D.now.length; omega) Rb.out HS62.out hoc).mono ?_)
               rintro e wz ⟨hc0, hc1, hc2⟩
               have hcc := hc0 rfl
               clear hc0 hc1 hc2
               rw [HS1.out] at hcc
               obtain ⟨E, L', rfl, DE, KE', LE, uz, hov, RR⟩ := hcc
               have KE : Like D E := ⟨KE'.hB, KE'.hM, KE'.hn⟩
               have uz : Upd (fun k => k = p ∨ fp d D k) wb wz := uz
               have uzo := upd_old uz hpl hdN.out hBN.out hMN.out
               have XzW := Lib.hid (uzo.heap XbW.out hg7)
               have XzN := Lib.hid (uzo.heap XbN.out hg9)
               have ozW := Lib.hid (obb.out.keep uzo (fun _ kk hk hlt => by have q1 := HW6.out kk hk; omega))
               have ozN := Lib.hid (nil_bytes wz)
               have HN6 := Lib.hid (show ∀ kk, (Value.slice none 0 0).ownBlock = some kk → wr.heap.size ≤ kk from fun kk hk => by cases hk)
               have Uz : Upd (fun _ => False) w wz := Ub.then uz (fun i hi hf => by rcases hf with hf | hf | hf | hf <;> omega)
               have UzC : Upd (fun _ => False) wz wz := Upd.refl _ _)
            | (go_at_call 25
               go_must (refine (over_at LE hov).mono ?_)
               rintro e wq ⟨rfl, rfl⟩)
            | (go_at_call 40
               go_must (refine (crash_calls (fate := fate) (DE.keep UzC id id id) (hf.keep (Uz.trans UzC) (fun _ _ _ => id)) (HFE.out E KE)).mono ?_)
               rintro e wC ⟨rfl, DC, uC⟩
               have hEB : E.B = B := KE.hB.trans hB'
               have hEM : E.M = M := KE.hM.trans hM'
               have uCo := upd_oldD (N := wr.heap.size) uC hdN.out (by rw [hEB, ← hB']; exact hBN.out) (by rw [hEM, ← hM']; exact hMN.out)
               have XCW := Lib.hid (uCo.heap (UzC.heap XzW.out id) hg7)
               have XCN := Lib.hid (uCo.heap (UzC.heap XzN.out id) hg9)
               have oCW := Lib.hid ((ozW.out.keep UzC (fun _ _ _ => id)).keep uCo (fun _ kk hk hlt => by have q1 := HW6.out kk hk; omega))
               have oCN := Lib.hid ((ozN.out.keep UzC (fun _ _ _ => id)).keep uCo (fun _ kk hk hlt => by have q1 := HN6.out kk hk; omega))
               have UC : Upd (fun _ => False) w wC := (Uz.trans UzC).then uC (fun i hi hf => by rcases hf with hf | hf | hf <;> omega))
            | (go_at_call 12
               go_must (refine (open_tells (f := 3) (n := 25) DC rfl (by omega) (by rw [(crash_like E fate).hn, KE.hn, hnow]; omega) RR.tells).mono ?_)
               rintro e wO ⟨pO, vO, rfl, LO, uO, hpO⟩
               have hBO : (crash E fate).B = B := by rw [(crash_like E fate).hB]; exact hEB
               have hMO : (crash E fate).M = M := by rw [(crash_like E fate).hM]; exact hEM
               have hdO := Lib.hid (show d < pO ∧ B < pO ∧ M < pO by have q := DC.lt; rw [hBO, hMO] at q; omega)
               have XOW := Lib.hid (uO.heap XCW.out id)
               have XON := Lib.hid (uO.heap XCN.out id))
            | (go_at_call 23
               have _t := tks; clear tks _t
               go_must (refine (state_logG LO HLX.out).mono ?_)
               rintro e wS ⟨aS, cS, rfl, oS, uS⟩)
            | (guard_target =~ wpList _ _ _ (Oper.mk _ (Op.alloc 42) _ _ _ _ :: _) _ _
               go_must (refine wpList_alloc_new rfl 42 rfl _ Try.zeroSt ?_)
               intro gT wT hgT xT zT uT
               have XT := Lib.hid xT
               have GT := Lib.hid hgT
               clear xT zT hgT)
            | (guard_target =~ wpList _ _ _ (Oper.mk _ (Op.store 42 _ _) _ _ _ _ :: _) _ _
               go_must (refine wpList_store_agg rfl 42 _ _ rfl rfl rfl (by rw [Try.sizeSt]; exact (stA_size _ _ _ hnn).symm) Try.someSt _ 42 XT.out (st_fit _ hnn) (stA_one _ _) ?_)
               intro wU xU uU
               have XU := Lib.hid (st_store xU (by simp [zeros]) hnn)
               clear xU
               have UOU : Upd (fun _ => False) wO wU := (uS.trans uT).then uU (fun i hi e => by have q1 := GT.out; have q2 := uS.size; omega)
               have XUW := Lib.hid (UOU.heap XOW.out id)
               have XUN := Lib.hid (UOU.heap XON.out id)
               have oUS := Lib.hid (oS.bytes.keep (uT.then uU (S := fun _ => False) (fun i hi e => by have := GT.out; omega)) (fun _ _ _ => id))
               have oUW := Lib.hid (oCW.out.keep (uO.trans UOU) (fun _ _ _ => id))
               have oUN := Lib.hid (oCN.out.keep (uO.trans UOU) (fun _ _ _ => id)))
            | (guard_target =~ wpList _ _ _ (Oper.mk _ (Op.load 42 _) _ _ _ _ :: _) _ _
               have _t := tl0; clear tl0 _t
               refine wpList_value rfl (run_op_load_agg 42 _ rfl rfl _ Try.isAggSt (by rw [Try.sizeSt]; exact (stA_size _ _ _ hnn).symm) (agg_heap XU.out)) ?_)
            | (guard_target =~ wpList _ _ _ (Oper.mk _ (Op.load 42 _) _ _ _ _ :: _) _ _
               have _t := tl1; clear tl1 _t
               refine wpList_value rfl (run_op_load_agg 42 _ rfl rfl _ Try.isAggSt (by rw [Try.sizeSt]; exact (stA_size _ _ _ hnt).symm) (agg_heap XUN.out)) ?_)
            | (guard_target =~ wpList _ _ _ (Oper.mk _ (Op.load 42 _) _ _ _ _ :: _) _ _
               have _t := tl2; clear tl2 _t
               refine wpList_value rfl (run_op_load_agg 42 _ rfl rfl _ Try.isAggSt (by rw [Try.sizeSt]; exact (stA_size _ _ _ hnn).symm) (agg_heap XVS.out)) ?_)
            | (guard_target =~ wpList _ _ _ (Oper.mk _ (Op.load 42 _) _ _ _ _ :: _) _ _
               have _t := tl3; clear tl3 _t
               refine wpList_value rfl (run_op_load_agg 42 _ rfl rfl _ Try.isAggSt (by rw [Try.sizeSt]; exact (stA_size _ _ _ hnt).symm) (agg_heap XVN.out)) ?_)
            | (go_at_call 22
               have _t := tkc; clear tkc _t
               go_must (refine (same8_true oUS.out oUN.out hnn).mono ?_)
               rintro e wV ⟨rfl, uwV⟩
               have XVS := Lib.hid (uwV.heap XU.out id)
               have XVW := Lib.hid (uwV.heap XUW.out id)
               have XVN := Lib.hid (uwV.heap XUN.out id)
               have oVS := Lib.hid (oUS.out.keep uwV (fun _ _ _ => id))
               have oVW := Lib.hid (oUW.out.keep uwV (fun _ _ _ => id))
               have oVN := Lib.hid (oUN.out.keep uwV (fun _ _ _ => id)))
            | (go_at_call 22
               have _t := tkd; clear tkd _t
               go_must (refine (same8_true oVS.out oVN.out hnn).mono ?_)
               rintro e wX ⟨rfl, uwX⟩
               have XXS := Lib.hid (uwX.heap XVS.out id)
               have XXW := Lib.hid (uwX.heap XVW.out id)
               have XXN := Lib.hid (uwX.heap XVN.out id)
               have oXS := Lib.hid (oVS.out.keep uwX (fun _ _ _ => id))
               have oXW := Lib.hid (oVW.out.keep uwX (fun _ _ _ => id))
               have oXN := Lib.hid (oVN.out.keep uwX (fun _ _ _ => id))))
          have UF := (UOU.trans uwV).trans uwX
          exact ⟨⟨k + 1, s1, pO, crash E fate, [], nt, vO, hkl, by rw [Int.natCast_add]; rfl, rfl, DC.keep (uO.trans UF) id id id, rfl, rfl, (hL.trans KE).trans (crash_like _ _), hdO.out.1, hdO.out.2.1, hdO.out.2.2, LO.quiet UF, RR, HLL.out, by have := HS1.out; omega, UC.trans (uO.trans UF)⟩, by show os.length - ((k : Int) + 1).toNat < os.length - ((k : Int)).toNat; omega⟩
        · have tkq : True := trivial
          have HLL := Lib.hid (show ([] : List UInt8).length ≤ 1472 from Nat.zero_le _)
          have HLX := Lib.hid (show ([] : List UInt8).length ≤ 140737488355328 by have := HLL.out; omega)
          go_wp2_with (first
            | (go_at_call 39
               have _t := tkq; clear tkq _t
               go_must (refine (clear_fused (c := 1) fate Lb Db (Lb.apart hdp (by show D.B < p; omega) (by show D.M < p; omega)) hgone hloose (by show 3 + 2 + 23 ≤ D.now.length; omega) Rb.out HS62.out hoc).mono ?_)
               rintro e wz ⟨hc0, hc1, hc2⟩
               have hcc := hc1 rfl
               clear hc0 hc1 hc2
               rw [HS1.out] at hcc
               obtain ⟨E, L', rfl, DE, KE', LE, uz, hov, RR⟩ := hcc
               have KE : Like D E := ⟨KE'.hB, KE'.hM, KE'.hn⟩
               have uz : Upd (fun k => k = p ∨ fp d D k) wb wz := uz
               have uzo := upd_old uz hpl hdN.out hBN.out hMN.out
               have XzW := Lib.hid (uzo.heap XbW.out hg7)
               have XzN := Lib.hid (uzo.heap XbN.out hg9)
               have ozW := Lib.hid (obb.out.keep uzo (fun _ kk hk hlt => by have q1 := HW6.out kk hk; omega))
               have ozN := Lib.hid (nil_bytes wz)
               have HN6 := Lib.hid (show ∀ kk, (Value.slice none 0 0).ownBlock = some kk → wr.heap.size ≤ kk from fun kk hk => by cases hk)
               have Uz : Upd (fun _ => False) w wz := Ub.then uz (fun i hi hf => by rcases hf with hf | hf | hf | hf <;> omega)
               have UzC : Upd (fun _ => False) wz wz := Upd.refl _ _)
            | (go_at_call 25
               go_must (refine (over_at LE hov).mono ?_)
               rintro e wq ⟨rfl, rfl⟩)
            | (guard_target =~ wpList _ _ _ (Oper.mk _ (Op.build 32 _) _ _ _ _ :: _) _ _
               go_must (refine wpList_value rfl (run_op_build 32 #[] rfl _ (by go_simp) _ Try.built37z) ?_))
            | (go_at_call 13
               have _t := tko; clear tko _t
               go_must (refine (append_over LE hov ⟨zeros 16, rfl⟩).mono ?_)
               rintro e wy ⟨rfl, uwy⟩
               clear UzC
               have UzC : Upd (fun _ => False) wz wy := uwy)
            | (go_at_call 39
               have _t := tkp; clear tkp _t
               go_must (refine (clear_over (LE.quiet UzC) hov).mono ?_)
               rintro e wq ⟨rfl, rfl⟩)
            | (go_at_call 40
               go_must (refine (crash_calls (fate := fate) (DE.keep UzC id id id) (hf.keep (Uz.trans UzC) (fun _ _ _ => id)) (HFE.out E KE)).mono ?_)
               rintro e wC ⟨rfl, DC, uC⟩
               have hEB : E.B = B := KE.hB.trans hB'
               have hEM : E.M = M := KE.hM.trans hM'
               have uCo := upd_oldD (N := wr.heap.size) uC hdN.out (by rw [hEB, ← hB']; exact hBN.out) (by rw [hEM, ← hM']; exact hMN.out)
               have XCW := Lib.hid (uCo.heap (UzC.heap XzW.out id) hg7)
               have XCN := Lib.hid (uCo.heap (UzC.heap XzN.out id) hg9)
               have oCW := Lib.hid ((ozW.out.keep UzC (fun _ _ _ => id)).keep uCo (fun _ kk hk hlt => by have q1 := HW6.out kk hk; omega))
               have oCN := Lib.hid ((ozN.out.keep UzC (fun _ _ _ => id)).keep uCo (fun _ kk hk hlt => by have q1 := HN6.out kk hk; omega))
               have UC : Upd (fun _ => False) w wC := (Uz.trans UzC).then uC (fun i hi hf => by rcases hf with hf | hf | hf <;> omega))
            | (go_at_call 12
               go_must (refine (open_tells (f := 3) (n := 25) DC rfl (by omega) (by rw [(crash_like E fate).hn, KE.hn, hnow]; omega) RR.tells).mono ?_)
               rintro e wO ⟨pO, vO, rfl, LO, uO, hpO⟩
               have hBO : (crash E fate).B = B := by rw [(crash_like E fate).hB]; exact hEB
               have hMO : (crash E fate).M = M := by rw [(crash_like E fate).hM]; exact hEM
               have hdO := Lib.hid (show d < pO ∧ B < pO ∧ M < pO by have q := DC.lt; rw [hBO, hMO] at q; omega)
               have XOW := Lib.hid (uO.heap XCW.out id)
               have XON := Lib.hid (uO.heap XCN.out id))
            | (go_at_call 23
               have _t := tks; clear tks _t
               go_must (refine (state_logG LO HLX.out).mono ?_)
               rintro e wS ⟨aS, cS, rfl, oS, uS⟩)
            | (guard_target =~ wpList _ _ _ (Oper.mk _ (Op.alloc 42) _ _ _ _ :: _) _ _
               go_must (refine wpList_alloc_new rfl 42 rfl _ Try.zeroSt ?_)
               intro gT wT hgT xT zT uT
               have XT := Lib.hid xT
               have GT := Lib.hid hgT
               clear xT zT hgT)
            | (guard_target =~ wpList _ _ _ (Oper.mk _ (Op.store 42 _ _) _ _ _ _ :: _) _ _
               go_must (refine wpList_store_agg rfl 42 _ _ rfl rfl rfl (by rw [Try.sizeSt]; exact (stA_size _ _ _ hnn).symm) Try.someSt _ 42 XT.out (st_fit _ hnn) (stA_one _ _) ?_)
               intro wU xU uU
               have XU := Lib.hid (st_store xU (by simp [zeros]) hnn)
               clear xU
               have UOU : Upd (fun _ => False) wO wU := (uS.trans uT).then uU (fun i hi e => by have q1 := GT.out; have q2 := uS.size; omega)
               have XUW := Lib.hid (UOU.heap XOW.out id)
               have XUN := Lib.hid (UOU.heap XON.out id)
               have oUS := Lib.hid (oS.bytes.keep (uT.then uU (S := fun _ => False) (fun i hi e => by have := GT.out; omega)) (fun _ _ _ => id))
               have oUW := Lib.hid (oCW.out.keep (uO.trans UOU) (fun _ _ _ => id))
               have oUN := Lib.hid (oCN.out.keep (uO.trans UOU) (fun _ _ _ => id)))
            | (guard_target =~ wpList _ _ _ (Oper.mk _ (Op.load 42 _) _ _ _ _ :: _) _ _
               have _t := tl0; clear tl0 _t
               refine wpList_value rfl (run_op_load_agg 42 _ rfl rfl _ Try.isAggSt (by rw [Try.sizeSt]; exact (stA_size _ _ _ hnn).symm) (agg_heap XU.out)) ?_)
            | (guard_target =~ wpList _ _ _ (Oper.mk _ (Op.load 42 _) _ _ _ _ :: _) _ _
               have _t := tl1; clear tl1 _t
               refine wpList_value rfl (run_op_load_agg 42 _ rfl rfl _ Try.isAggSt (by rw [Try.sizeSt]; exact (stA_size _ _ _ hnt).symm) (agg_heap XUN.out)) ?_)
            | (go_at_call 22
               have _t := tkc; clear tkc _t
               go_must (refine (same8_true oUS.out oUN.out hnn).mono ?_)
               rintro e wV ⟨rfl, uwV⟩
               have XVS := Lib.hid (uwV.heap XU.out id)
               have XVW := Lib.hid (uwV.heap XUW.out id)
               have XVN := Lib.hid (uwV.heap XUN.out id)
               have oVS := Lib.hid (oUS.out.keep uwV (fun _ _ _ => id))
               have oVW := Lib.hid (oUW.out.keep uwV (fun _ _ _ => id))
               have oVN := Lib.hid (oUN.out.keep uwV (fun _ _ _ => id))))
          have UF := UOU.trans uwV
          exact ⟨⟨k + 1, s1, pO, crash E fate, [], nt, vO, hkl, by rw [Int.natCast_add]; rfl, rfl, DC.keep (uO.trans UF) id id id, rfl, rfl, (hL.trans KE).trans (crash_like _ _), hdO.out.1, hdO.out.2.1, hdO.out.2.2, LO.quiet UF, RR, HLL.out, by have := HS1.out; omega, UC.trans (uO.trans UF)⟩, by show os.length - ((k : Int) + 1).toNat < os.length - ((k : Int)).toNat; omega⟩
        · have tkq : True := trivial
          have HLL := Lib.hid (show (xs : List UInt8).length ≤ 1472 from HXM.out)
          have HLX := Lib.hid (show (xs : List UInt8).length ≤ 140737488355328 by have := HLL.out; omega)
          go_wp2_with (first
            | (go_at_call 39
               have _t := tkq; clear tkq _t
               go_must (refine (clear_fused (c := 2) fate Lb Db (Lb.apart hdp (by show D.B < p; omega) (by show D.M < p; omega)) hgone hloose (by show 3 + 2 + 23 ≤ D.now.length; omega) Rb.out HS62.out hoc).mono ?_)
               rintro e wz ⟨hc0, hc1, hc2⟩
               have hcc := hc2 rfl
               clear hc0 hc1 hc2
               obtain ⟨E, L', rfl, DE, KE', LE, uz, hov, RR⟩ := hcc
               have KE : Like D E := ⟨KE'.hB, KE'.hM, KE'.hn⟩
               have uz : Upd (fun k => k = p ∨ fp d D k) wb wz := uz
               have uzo := upd_old uz hpl hdN.out hBN.out hMN.out
               have XzW := Lib.hid (uzo.heap XbW.out hg7)
               have XzN := Lib.hid (uzo.heap XbN.out hg9)
               have ozW := Lib.hid (obb.out.keep uzo (fun _ kk hk hlt => by have q1 := HW6.out kk hk; omega))
               have ozN := Lib.hid (nil_bytes wz)
               have HN6 := Lib.hid (show ∀ kk, (Value.slice none 0 0).ownBlock = some kk → wr.heap.size ≤ kk from fun kk hk => by cases hk)
               have Uz : Upd (fun _ => False) w wz := Ub.then uz (fun i hi hf => by rcases hf with hf | hf | hf | hf <;> omega)
               have UzC : Upd (fun _ => False) wz wz := Upd.refl _ _)
            | (go_at_call 25
               go_must (refine (over_at LE hov).mono ?_)
               rintro e wq ⟨rfl, rfl⟩)
            | (guard_target =~ wpList _ _ _ (Oper.mk _ (Op.build 32 _) _ _ _ _ :: _) _ _
               go_must (refine wpList_value rfl (run_op_build 32 #[] rfl _ (by go_simp) _ Try.built37z) ?_))
            | (go_at_call 13
               have _t := tko; clear tko _t
               go_must (refine (append_over LE hov ⟨zeros 16, rfl⟩).mono ?_)
               rintro e wy ⟨rfl, uwy⟩
               clear UzC
               have UzC : Upd (fun _ => False) wz wy := uwy)
            | (go_at_call 39
               have _t := tkp; clear tkp _t
               go_must (refine (clear_over (LE.quiet UzC) hov).mono ?_)
               rintro e wq ⟨rfl, rfl⟩)
            | (go_at_call 40
               go_must (refine (crash_calls (fate := fate) (DE.keep UzC id id id) (hf.keep (Uz.trans UzC) (fun _ _ _ => id)) (HFE.out E KE)).mono ?_)
               rintro e wC ⟨rfl, DC, uC⟩
               have hEB : E.B = B := KE.hB.trans hB'
               have hEM : E.M = M := KE.hM.trans hM'
               have uCo := upd_oldD (N := wr.heap.size) uC hdN.out (by rw [hEB, ← hB']; exact hBN.out) (by rw [hEM, ← hM']; exact hMN.out)
               have XCW := Lib.hid (uCo.heap (UzC.heap XzW.out id) hg7)
               have XCN := Lib.hid (uCo.heap (UzC.heap XzN.out id) hg9)
               have oCW := Lib.hid ((ozW.out.keep UzC (fun _ _ _ => id)).keep uCo (fun _ kk hk hlt => by have q1 := HW6.out kk hk; omega))
               have oCN := Lib.hid ((ozN.out.keep UzC (fun _ _ _ => id)).keep uCo (fun _ kk hk hlt => by have q1 := HN6.out kk hk; omega))
               have UC : Upd (fun _ => False) w wC := (Uz.trans UzC).then uC (fun i hi hf => by rcases hf with hf | hf | hf <;> omega))
            | (go_at_call 12
               go_must (refine (open_tells (f := 3) (n := 25) DC rfl (by omega) (by rw [(crash_like E fate).hn, KE.hn, hnow]; omega) RR.tells).mono ?_)
               rintro e wO ⟨pO, vO, rfl, LO, uO, hpO⟩
               have hBO : (crash E fate).B = B := by rw [(crash_like E fate).hB]; exact hEB
               have hMO : (crash E fate).M = M := by rw [(crash_like E fate).hM]; exact hEM
               have hdO := Lib.hid (show d < pO ∧ B < pO ∧ M < pO by have q := DC.lt; rw [hBO, hMO] at q; omega)
               have XOW := Lib.hid (uO.heap XCW.out id)
               have XON := Lib.hid (uO.heap XCN.out id))
            | (go_at_call 23
               have _t := tks; clear tks _t
               go_must (refine (state_logG LO HLX.out).mono ?_)
               rintro e wS ⟨aS, cS, rfl, oS, uS⟩)
            | (guard_target =~ wpList _ _ _ (Oper.mk _ (Op.alloc 42) _ _ _ _ :: _) _ _
               go_must (refine wpList_alloc_new rfl 42 rfl _ Try.zeroSt ?_)
               intro gT wT hgT xT zT uT
               have XT := Lib.hid xT
               have GT := Lib.hid hgT
               clear xT zT hgT)
            | (guard_target =~ wpList _ _ _ (Oper.mk _ (Op.store 42 _ _) _ _ _ _ :: _) _ _
               go_must (refine wpList_store_agg rfl 42 _ _ rfl rfl rfl (by rw [Try.sizeSt]; exact (stA_size _ _ _ hnn).symm) Try.someSt _ 42 XT.out (st_fit _ hnn) (stA_one _ _) ?_)
               intro wU xU uU
               have XU := Lib.hid (st_store xU (by simp [zeros]) hnn)
               clear xU
               have UOU : Upd (fun _ => False) wO wU := (uS.trans uT).then uU (fun i hi e => by have q1 := GT.out; have q2 := uS.size; omega)
               have XUW := Lib.hid (UOU.heap XOW.out id)
               have XUN := Lib.hid (UOU.heap XON.out id)
               have oUS := Lib.hid (oS.bytes.keep (uT.then uU (S := fun _ => False) (fun i hi e => by have := GT.out; omega)) (fun _ _ _ => id))
               have oUW := Lib.hid (oCW.out.keep (uO.trans UOU) (fun _ _ _ => id))
               have oUN := Lib.hid (oCN.out.keep (uO.trans UOU) (fun _ _ _ => id)))
            | (guard_target =~ wpList _ _ _ (Oper.mk _ (Op.load 42 _) _ _ _ _ :: _) _ _
               have _t := tl0; clear tl0 _t
               refine wpList_value rfl (run_op_load_agg 42 _ rfl rfl _ Try.isAggSt (by rw [Try.sizeSt]; exact (stA_size _ _ _ hnn).symm) (agg_heap XU.out)) ?_)
            | (guard_target =~ wpList _ _ _ (Oper.mk _ (Op.load 42 _) _ _ _ _ :: _) _ _
               have _t := tl1; clear tl1 _t
               refine wpList_value rfl (run_op_load_agg 42 _ rfl rfl _ Try.isAggSt (by rw [Try.sizeSt]; exact (stA_size _ _ _ hnt).symm) (agg_heap XUN.out)) ?_)
            | (guard_target =~ wpList _ _ _ (Oper.mk _ (Op.load 42 _) _ _ _ _ :: _) _ _
               have _t := tl2; clear tl2 _t
               refine wpList_value rfl (run_op_load_agg 42 _ rfl rfl _ Try.isAggSt (by rw [Try.sizeSt]; exact (stA_size _ _ _ hnn).symm) (agg_heap XVS.out)) ?_)
            | (guard_target =~ wpList _ _ _ (Oper.mk _ (Op.load 42 _) _ _ _ _ :: _) _ _
               have _t := tl3; clear tl3 _t
               refine wpList_value rfl (run_op_load_agg 42 _ rfl rfl _ Try.isAggSt (by rw [Try.sizeSt]; exact (stA_size _ _ _ hnn).symm) (agg_heap XVW.out)) ?_)
            | (go_at_call 22
               have _t := tkc; clear tkc _t
               go_must (refine (same8_false (ys := []) oUS.out oUN.out hnn hnt HNE.out).mono ?_)
               rintro e wV ⟨rfl, uwV⟩
               have XVS := Lib.hid (uwV.heap XU.out id)
               have XVW := Lib.hid (uwV.heap XUW.out id)
               have XVN := Lib.hid (uwV.heap XUN.out id)
               have oVS := Lib.hid (oUS.out.keep uwV (fun _ _ _ => id))
               have oVW := Lib.hid (oUW.out.keep uwV (fun _ _ _ => id))
               have oVN := Lib.hid (oUN.out.keep uwV (fun _ _ _ => id)))
            | (go_at_call 22
               have _t := tkd; clear tkd _t
               go_must (refine (same8_true oVS.out oVW.out hnn).mono ?_)
               rintro e wX ⟨rfl, uwX⟩
               have XXS := Lib.hid (uwX.heap XVS.out id)
               have XXW := Lib.hid (uwX.heap XVW.out id)
               have XXN := Lib.hid (uwX.heap XVN.out id)
               have oXS := Lib.hid (oVS.out.keep uwX (fun _ _ _ => id))
               have oXW := Lib.hid (oVW.out.keep uwX (fun _ _ _ => id))
               have oXN := Lib.hid (oVN.out.keep uwX (fun _ _ _ => id))))
          have UF := (UOU.trans uwV).trans uwX
          exact ⟨⟨k + 1, s, pO, crash E fate, xs, nt, vO, hkl, by rw [Int.natCast_add]; rfl, rfl, DC.keep (uO.trans UF) id id id, rfl, rfl, (hL.trans KE).trans (crash_like _ _), hdO.out.1, hdO.out.2.1, hdO.out.2.2, LO.quiet UF, RR, HLL.out, by omega, UC.trans (uO.trans UF)⟩, by show os.length - ((k : Int) + 1).toNat < os.length - ((k : Int)).toNat; omega⟩
    · go_wp2
      go_ret
      exact ⟨rfl, hU⟩
end Go.Proofs.Ytggepeepjaoibaa

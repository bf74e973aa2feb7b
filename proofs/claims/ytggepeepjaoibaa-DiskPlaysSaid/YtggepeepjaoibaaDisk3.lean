/- A disk's Write and New. -/
import Derived.Test.YtggepeepjaoibaaDisk2
namespace Go.Proofs.Ytggepeepjaoibaa
open Go.RowKit
set_option linter.unusedVariables false

theorem burnt_same (D : DiskG) : (burnt D).B = D.B ∧ (burnt D).M = D.M ∧ (burnt D).now = D.now ∧ (burnt D).loose = D.loose := by unfold burnt; split <;> (try split) <;> simp
theorem fp_burnt (d : Nat) (D : DiskG) : fp d (burnt D) = fp d D := by
  obtain ⟨h1, h2, _⟩ := burnt_same D
  funext k
  simp [fp, h1, h2]
def zeros (n : Nat) : List UInt8 := List.replicate n 0
theorem Try.zero98 : (Try.prog.info? 102).bind (·.zero) = some (.agg (bvs (zeros 64))) := by kernel_rfl
theorem Try.size98 : aggSize Try.prog 102 = 64 := by kernel_rfl
theorem Try.isAgg98 : isAggB Try.prog 102 = true := by kernel_rfl
theorem Try.some98 : (Try.prog.info? 102).isSome = true := by kernel_rfl

theorem IsBytes.agg {w : World} {b off n cap : Nat} {xs : List UInt8} (h : IsBytes w (.slice (some ⟨b, off, none⟩) n cap) xs) : AggIs w b off (bvs xs) := by
  obtain ⟨a, c, h0, h1, h2, _, h3⟩ := h.at_
  cases h0
  intro j v hv
  simp only [bvs, List.getElem?_toArray, List.getElem?_map] at hv
  by_cases hj : j < xs.length
  · rcases h3 with h3 | ⟨b', off', e, hc⟩
    · rw [h3] at hj; simp at hj
    · cases e
      rw [hc j hj]
      simpa only [List.getD_eq_getElem?_getD, List.getElem?_eq_getElem hj, Option.map_some, Option.getD_some] using hv
  · rw [List.getElem?_eq_none (by omega)] at hv
    cases hv

set_option maxRecDepth 100000 in
set_option maxHeartbeats 1000000 in
theorem write_calls {w : World} {d : Nat} {D : DiskG} (h : IsDisk w d D) (i : Int) {v : Value} {xs : List UInt8} (hv : IsBytes w v xs) (hd : xs ≠ [] → ∀ k, v.ownBlock = some k → ¬ fp d D k) :
    Calls Try.prog 18 #[.pointer (some ⟨d, 0, none⟩), .int .i64 i, v] w fun e w' => e = .returned (.int .i64 (wr D i xs).2) ∧ IsDisk w' d (wr D i xs).1 ∧ Upd (fp d D) w w' := by
  have c3 := h.c3
  obtain ⟨a, cap, rfl, v1, v2, v0, v3⟩ := id hv.at_
  cases hi : has D i with
  | false =>
    have hr : wr D i xs = (D, 1) := by simp [wr, hi]
    rw [hr]
    clear hr
    go_enter Try.func18, Try.ntmps18
    go_wp2_with (go_at_call 48; refine (has_calls h _).mono ?_; rintro e w' ⟨rfl, rfl⟩; rw [hi])
    go_ret
    exact ⟨rfl, h, Upd.refl _ _⟩
  | true =>
    by_cases hx : xs.length = 64
    · have hx' : ((xs.length : Int) != 64) = false := by simp; omega
      cases hg : D.gone with
      | true =>
        have hr : wr D i xs = (D, 5) := by simp [wr, hi, hx, hg]
        rw [hr]
        clear hr
        rw [hg] at c3
        have hx := Lib.hid hx
        go_enter Try.func18, Try.ntmps18
        go_wp2_with (go_at_call 48; refine (has_calls h _).mono ?_; rintro e w' ⟨rfl, rfl⟩; rw [hi])
        go_ret
        exact ⟨rfl, h, Upd.refl _ _⟩
      | false =>
        rw [hg] at c3
        cases hb : (burnt D).gone with
        | true =>
          have hr : wr D i xs = (burnt D, 5) := by simp [wr, hi, hx, hg, hb]
          rw [hr]
          clear hr
          have HX := Lib.hid hx; clear hx
          go_enter Try.func18, Try.ntmps18
          go_wp2_with (first | (go_at_call 48; refine (has_calls h _).mono ?_; rintro e w' ⟨rfl, rfl⟩; rw [hi]) | (go_at_call 49; refine (burn_calls h).mono ?_; rintro e w1 ⟨rfl, h1, u1⟩; rw [hb]))
          go_ret
          exact ⟨rfl, h1, u1⟩
        | false =>
          have hr : wr D i xs = (put (burnt D) i.toNat xs, 0) := by simp [wr, hi, hx, hg, hb]
          rw [hr]
          clear hr
          have hi' : 0 ≤ i ∧ i < (D.now.length : Int) := by simpa [has] using hi
          obtain ⟨h0, hlt⟩ := hi'
          obtain ⟨a, rfl⟩ : ∃ a', a = some a' := by
            rcases v3 with v3 | ⟨b, off, rfl, _⟩
            · rw [v3] at hx; simp at hx
            · exact ⟨_, rfl⟩
          obtain ⟨b, off, sp⟩ := a
          have hsp : sp = none := by
            rcases v3 with v3 | ⟨b', off', e, _⟩
            · rw [v3] at hx; simp at hx
            · cases e; rfl
          subst hsp
          have HX := Lib.hid hx; clear hx
          obtain ⟨n, rfl⟩ := Int.eq_ofNat_of_zero_le h0
          have hk := Lib.hid (show IntKeys ((burnt D).loose.map mkE).toArray.toList by
            intro e he
            rw [List.toList_toArray, List.mem_map] at he
            obtain ⟨x, _, rfl⟩ := he
            exact ⟨_, rfl⟩)
          have hb1 : (burnt D).now.length = D.now.length := by rw [(burnt_same D).2.2.1]
          have hge : 64 ≤ xs.length := by rw [HX.out]; omega
          have hlt1 : n < (burnt D).now.length := by omega
          cases hf : (burnt D).loose.any (fun e => e.1 == n) with
          | true =>
            obtain ⟨r, hr⟩ : ∃ r, findI ((burnt D).loose.map mkE) (n : Int) 0 = some r := by
              rw [← Option.isSome_iff_exists, findI_mk]; exact hf
            obtain ⟨e0, he0, _, hr2⟩ := findI_val n _ _ _ hr
            have HR := Lib.hid (show findI ((burnt D).loose.map mkE).toArray.toList (n : Int) 0 = some r from by rw [List.toList_toArray]; exact hr)
            have HF := Lib.hid hf
            have HV := Lib.hid hr2
            have HB := Lib.hid hb1
            clear hr hf hr2 hb1
            go_enter Try.func18, Try.ntmps18
            go_wp2_with (first | (go_at_call 48; refine (has_calls h _).mono ?_; rintro e w' ⟨rfl, rfl⟩; rw [hi]) | (go_at_call 49; refine (burn_calls h).mono ?_; rintro e w1 ⟨rfl, h1, u1⟩; rw [hb]; have c1 := h1.c1; have l0 := (h1.lens e0 he0).1) | (at_lookup; refine wpList_lookup_int rfl 89 3 102 _ _ _ rfl Try.underlying89 Try.underlying3 rfl rfl h1.hM hk.out _ Try.zero98 _ HR.out (.tuple #[.agg (bvs e0.2.1), .bool true]) (by rw [← HV.out]; rfl) ?_) | (guard_target =~ wpList _ _ _ (Oper.mk _ (Op.alloc 102) _ _ _ _ :: _) _ _; refine wpList_value rfl (run_op_alloc 102 rfl _ Try.zero98) ?_) | (guard_target =~ wpList _ _ _ (Oper.mk _ (Op.store 102 _ _) _ _ _ _ :: _) _ _; refine wpList_store_agg rfl 102 _ _ rfl rfl rfl (by rw [Try.size98, size_bvs, l0]) Try.some98 (bvs (zeros 64)) 102 (heap_alloc_new w1 _) (by rw [size_bvs, size_bvs, l0]; exact Nat.le_refl _) (one_bvs _) ?_; intro w2 x2 u2; have X2 := Lib.hid x2; clear x2))
            have h2 : IsDisk w2 d (burnt D) := (h1.alloc _).keep u2 (Nat.ne_of_lt h1.lt.1) (Nat.ne_of_lt h1.lt.2.1) (Nat.ne_of_lt h1.lt.2.2)
            have U2 : Upd (fp d D) w w2 := (u1.alloc _).then u2 (fun k hk e => absurd (Nat.lt_of_lt_of_le hk u1.size) (by rw [e]; exact Nat.lt_irrefl _))
            refine region_still_tail 8 (by kernel_rfl) (by kernel_rfl) (fun w3 n3 => ?_); simp only [List.take_succ_cons, List.take_zero, List.drop_succ_cons, List.drop_zero]
            have h3 := h2.keep (n3 (fun _ => False)) id id id
            have U3 := U2.trans (n3 _)
            have c0 := h3.c0
            have hv2 := (hv.keep U3 hd).agg
            repeat still_step
            refine wpStill_value rfl (run_op_arrayPtr 102 5 64 _ rfl Try.underlying102 rfl hge) ?_
            refine wpStill_value rfl (run_op_load_agg 102 _ rfl rfl (bvs xs) Try.isAgg98 (by rw [Try.size98, size_bvs, HX.out]) hv2) ?_
            refine wpStill_nil ?_
            go_wp2_with (guard_target =~ wpList _ _ _ (Oper.mk _ (Op.store 102 _ _) _ _ _ _ :: _) _ _; refine wpList_store_agg rfl 102 _ _ rfl rfl rfl (by rw [Try.size98, size_bvs, HX.out]) Try.some98 _ 102 h3.hB (by rw [size_bvs, size_bvs, HX.out, flat_len _ h2.len]; omega) (one_bvs _) ?_; intro w4 x4 u4; have X4 := Lib.hid x4; clear x4)
            go_ret
            have e : put (burnt D) n xs = { burnt D with now := (burnt D).now.set n xs } := by simp [put, addLoose, HF.out]
            refine ⟨rfl, ?_, U3.then u4 (fun k _ hk => .inr (.inl (by rw [hk, (burnt_same D).1])))⟩
            rw [Int.toNat_natCast, e]
            exact h3.setSector hlt1 HX.out u4 X4.out
          | false =>
            have hn : findI ((burnt D).loose.map mkE) (n : Int) 0 = none := by
              have := findI_mk n (burnt D).loose 0
              rw [hf] at this
              simpa using this
            have HR := Lib.hid (show findI ((burnt D).loose.map mkE).toArray.toList (n : Int) 0 = none from by rw [List.toList_toArray]; exact hn)
            have HF := Lib.hid hf
            have HB := Lib.hid hb1
            clear hn hf hb1
            go_enter Try.func18, Try.ntmps18
            go_wp2_with (first | (go_at_call 48; refine (has_calls h _).mono ?_; rintro e w' ⟨rfl, rfl⟩; rw [hi]) | (go_at_call 49; refine (burn_calls h).mono ?_; rintro e w1 ⟨rfl, h1, u1⟩; rw [hb]; have c1 := h1.c1) | (at_lookup; refine wpList_lookup_int rfl 89 3 102 _ _ _ rfl Try.underlying89 Try.underlying3 rfl rfl h1.hM hk.out _ Try.zero98 _ HR.out (.tuple #[.agg (bvs (zeros 64)), .bool false]) rfl ?_) | (guard_target =~ wpList _ _ _ (Oper.mk _ (Op.alloc 102) _ _ _ _ :: _) _ _; refine wpList_value rfl (run_op_alloc 102 rfl _ Try.zero98) ?_) | (guard_target =~ wpList _ _ _ (Oper.mk _ (Op.store 102 _ _) _ _ _ _ :: _) _ _; refine wpList_store_agg rfl 102 _ _ rfl rfl rfl (by rw [Try.size98, size_bvs]; rfl) Try.some98 (bvs (zeros 64)) 102 (heap_alloc_new w1 _) (by rw [size_bvs]; exact Nat.le_refl _) (one_bvs _) ?_; intro w2 x2 u2; have X2 := Lib.hid x2; clear x2))
            have h2 : IsDisk w2 d (burnt D) := (h1.alloc _).keep u2 (Nat.ne_of_lt h1.lt.1) (Nat.ne_of_lt h1.lt.2.1) (Nat.ne_of_lt h1.lt.2.2)
            have U2 : Upd (fp d D) w w2 := (u1.alloc _).then u2 (fun k hk e => absurd (Nat.lt_of_lt_of_le hk u1.size) (by rw [e]; exact Nat.lt_irrefl _))
            refine region_still_tail 12 (by kernel_rfl) (by kernel_rfl) (fun w3 n3 => ?_); simp only [List.take_succ_cons, List.take_zero, List.drop_succ_cons, List.drop_zero]
            have h3 := h2.keep (n3 (fun _ => False)) id id id
            have U3 := U2.trans (n3 _)
            have c0 := h3.c0
            have c1' := h3.c1
            have ha := h3.agg hlt1
            have hs := h3.secLen hlt1
            iterate 11 still_step
            refine wpStill_value rfl (run_op_load_agg 102 _ rfl rfl _ Try.isAgg98 (by rw [Try.size98, size_bvs, hs]) ha) ?_
            refine wpStill_nil ?_
            go_wp2_with (at_mapUpdate; refine wpList_mapUpdate_new rfl 89 3 102 _ _ _ rfl Try.underlying89 Try.underlying3 rfl rfl rfl h3.hM hk.out HR.out ?_; intro w4 x4 u4; have X4 := Lib.hid x4; clear x4)
            clear c0 c1' ha
            have h4 : IsDisk w4 d (addLoose (burnt D) n) := h3.setLoose hlt1 HF.out u4 X4.out
            have U4 : Upd (fp d D) w w4 := U3.then u4 (fun k _ hk => .inr (.inr (by rw [hk, (burnt_same D).2.1])))
            have ea : addLoose (burnt D) n = { burnt D with loose := (burnt D).loose ++ [(n, (burnt D).now.getD n [], (burnt D).clock)], clock := (burnt D).clock + 1 } := by simp [addLoose, HF.out]
            have EB := Lib.hid (show (addLoose (burnt D) n).B = D.B by rw [ea]; exact (burnt_same D).1)
            have hlt4 : n < (addLoose (burnt D) n).now.length := by rw [ea]; exact hlt1
            have EA := Lib.hid ea
            clear ea
            refine region_still_tail 8 (by kernel_rfl) (by kernel_rfl) (fun w5 n5 => ?_); simp only [List.take_succ_cons, List.take_zero, List.drop_succ_cons, List.drop_zero]
            have h5 := h4.keep (n5 (fun _ => False)) id id id
            have U5 := U4.trans (n5 _)
            have c0 := h5.c0
            have hv2 := (hv.keep U5 hd).agg
            repeat still_step
            refine wpStill_value rfl (run_op_arrayPtr 102 5 64 _ rfl Try.underlying102 rfl hge) ?_
            refine wpStill_value rfl (run_op_load_agg 102 _ rfl rfl (bvs xs) Try.isAgg98 (by rw [Try.size98, size_bvs, HX.out]) hv2) ?_
            refine wpStill_nil ?_
            go_wp2_with (guard_target =~ wpList _ _ _ (Oper.mk _ (Op.store 102 _ _) _ _ _ _ :: _) _ _; refine wpList_store_agg rfl 102 _ _ rfl rfl rfl (by rw [Try.size98, size_bvs, HX.out]) Try.some98 _ 102 h5.hB (by rw [size_bvs, size_bvs, HX.out, flat_len _ h5.len]; omega) (one_bvs _) ?_; intro w6 x6 u6; have X6 := Lib.hid x6; clear x6)
            go_ret
            refine ⟨rfl, ?_, U5.then u6 (fun k _ hk => .inr (.inl (by rw [hk, EB.out])))⟩
            have h7 := h5.setSector hlt4 HX.out u6 X6.out
            have e7 : put (burnt D) n xs = { addLoose (burnt D) n with now := (addLoose (burnt D) n).now.set n xs } := by rw [EA.out]; simp [put, EA.out]
            rw [e7]; exact h7
    · have hx' : ((xs.length : Int) != 64) = true := by simp; omega
      have hr : wr D i xs = (D, 1) := by simp [wr, hx]
      rw [hr]
      clear hr
      have HX := Lib.hid hx; clear hx
      go_enter Try.func18, Try.ntmps18
      go_wp2_with (go_at_call 48; refine (has_calls h _).mono ?_; rintro e w' ⟨rfl, rfl⟩; rw [hi])
      go_ret
      exact ⟨rfl, h, Upd.refl _ _⟩
end Go.Proofs.Ytggepeepjaoibaa

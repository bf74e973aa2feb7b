/- jalousielaw07.same: it tells yes where the two disks match. -/
import Derived.Test.YtggepeepjaoibaaDo7
namespace Go.Proofs.Ytggepeepjaoibaa
open Go.RowKit
set_option linter.unusedVariables false
section
variable {w : World} {d r base : Nat} {D : DiskG} {X : RefG}
set_option maxRecDepth 100000 in
set_option maxHeartbeats 2000000 in
theorem same7_calls (hD : IsDisk w d D) (hX : IsRef w r base X) (hm : Mt D X) :
    Calls Try.prog 37 #[.pointer (some ⟨d, 0, none⟩), .pointer (some ⟨r, 0, none⟩)] w fun e w' => e = .returned (.bool true) ∧ Upd (fun _ => False) w w' := by
  obtain ⟨M, hM⟩ := hX
  obtain ⟨n, hn⟩ : ∃ n, D.now.length = n := ⟨_, rfl⟩
  have hnx : X.now.length = n := by rw [hm.now]; exact hn
  have hfew := hM.few
  rw [hnx] at hfew
  obtain ⟨pn, cn, hnv⟩ := hM.nv_form
  rw [hnx] at hnv
  have hgo := hm.gone
  obtain ⟨gone, hgone⟩ : ∃ g, D.gone = g := ⟨_, rfl⟩
  rw [hgone] at hgo
  have SC := fun (x : World) (hx : Upd (fun _ => False) w x) => sectors_calls (hD.keep hx id id id)
  rw [hn] at SC
  have LC := fun (x : World) (hx : Upd (fun _ => False) w x) => loose_calls (hD.keep hx id id id)
  have LR := fun (x : World) (hx : Upd (fun _ => False) w x) => loose7_calls (hM.keep hx (fun _ _ => id))
  rw [hm.loose hD] at LR
  obtain ⟨q, hq⟩ : ∃ q, D.loose.length = q := ⟨_, rfl⟩
  rw [hq] at LC LR
  have GC := fun (x : World) (hx : Upd (fun _ => False) w x) => gone_calls (hD.keep hx id id id)
  rw [hgone] at GC
  have HSC := Lib.hid (fun (x : World) (hx : Upd (fun _ => False) w x) => (SC x hx).mono (fun e w' h => And.intro h.1 (show Upd (fun _ => False) x w' from h.2 ▸ Upd.refl _ _)))
  have HLC := Lib.hid (fun (x : World) (hx : Upd (fun _ => False) w x) => (LC x hx).mono (fun e w' h => And.intro h.1 (show Upd (fun _ => False) x w' from h.2 ▸ Upd.refl _ _)))
  have HLR := Lib.hid (fun (x : World) (hx : Upd (fun _ => False) w x) => (LR x hx).mono (fun e w' h => And.intro h.1 (show Upd (fun _ => False) x w' from h.2 ▸ Upd.refl _ _)))
  have HGC := Lib.hid (fun (x : World) (hx : Upd (fun _ => False) w x) => (GC x hx).mono (fun e w' h => And.intro h.1 (show Upd (fun _ => False) x w' from h.2 ▸ Upd.refl _ _)))
  have HD := Lib.hid hD
  have HM := Lib.hid hM
  have HMT := Lib.hid hm
  have HN := Lib.hid hn
  have HNX := Lib.hid hnx
  have HNV := Lib.hid hnv
  have HGO := Lib.hid hgo
  have HGN := Lib.hid hgone
  have c0 : w.cell? ⟨r, 0, none⟩ = some (.slice pn n cn) := by rw [hM.c0, hnv]
  have c4 : w.cell? ⟨r, 4, none⟩ = some (.bool gone) := by rw [hM.c4, hgo]
  have HC0 := Lib.hid c0
  have HC4 := Lib.hid c4
  clear SC LC LR GC hD hM hm hn hnx hnv hgo hgone hq c0 c4
  go_enter Try.func37, Try.ntmps37
  go_wp2
  refine region_order 1 23 (by kernel_rfl) (by kernel_rfl) rfl (by kernel_rfl) (fun x => x.cell? ⟨r, 0, none⟩ = some (.slice pn n cn) ∧ x.cell? ⟨r, 4, none⟩ = some (.bool gone)) ⟨HC0.out, HC4.out⟩ ?_
  simp only [List.take_succ_cons, List.take_zero]
  (apply r_value (by first | rfl | go_simp) (v := ?_); focus (intro _ _; go_simp; try exact rfl)); (apply r_at; focus (go_simp; exact rfl))
  refine r_nil ?_
  have ua : Upd (fun _ => False) w { w with drawn := w.drawn + 1 } := (Upd.refl _ w).drew
  generalize ({ w with drawn := w.drawn + 1 } : World) = wa at ua
  have hC := And.intro (cell_keep HC0.out ua) (cell_keep HC4.out ua)
  refine o_readsK (k := 2) 5 (fun _ _ _ h => h.1) (by kernel_rfl) hC (by decide) (by kernel_rfl) ?_
  simp only [List.drop_succ_cons, List.drop_zero, List.take_succ_cons, List.take_zero]
  (apply r_value (by first | rfl | go_simp) (v := ?_); focus (intro _ _; go_simp; try exact rfl)); (apply r_at; focus (go_simp; exact rfl))
  (apply r_value (by first | rfl | go_simp) (v := ?_); focus (intro _ _; go_simp; try exact rfl)); (apply r_at; focus (go_simp; exact rfl))
  (apply r_value (by first | rfl | go_simp) (v := ?_); focus (intro _ _; go_simp; try exact rfl)); (apply r_at; focus (go_simp; exact rfl))
  refine r_load rfl 22 (.tmp 12) rfl (fun w => by go_simp) ⟨r, 0, none⟩ rfl _ (fun x hx => hx.1) ?_; (apply r_at; focus (go_simp; exact rfl))
  (apply r_value (by first | rfl | go_simp) (v := ?_); focus (intro _ _; go_simp; try exact rfl)); (apply r_at; focus (go_simp; exact rfl))
  refine r_nil ?_
  refine o_one 1 (by kernel_rfl) rfl rfl ?_
  refine mid_call 43 #[.pointer (some ⟨d, 0, none⟩)] (by go_simp) ((HSC.out wa ua).mono ?_)
  rintro e wb ⟨rfl, ub⟩
  have hC := And.intro (cell_keep hC.1 ub) (cell_keep hC.2 ub)
  refine ⟨_, rfl, hC, ?_⟩
  (apply o_at; focus (go_simp; exact rfl))
  refine o_readsK (k := 7) 3 (fun _ _ _ h => h.1) (by kernel_rfl) hC (by decide) (by kernel_rfl) ?_
  simp only [List.drop_succ_cons, List.drop_zero, List.take_succ_cons, List.take_zero]
  (apply r_value (by first | rfl | go_simp) (v := ?_); focus (intro _ _; go_simp; try exact rfl)); (apply r_at; focus (go_simp; exact rfl))
  (apply r_value (by first | rfl | go_simp) (v := ?_); focus (intro _ _; go_simp; try exact rfl)); (apply r_at; focus (go_simp; exact rfl))
  (apply r_value (by first | rfl | go_simp) (v := ?_); focus (intro _ _; go_simp; try exact rfl)); (apply r_at; focus (go_simp; exact rfl))
  refine r_nil ?_
  refine o_readsK (k := 11) 1 (fun _ _ _ h => h.1) (by kernel_rfl) hC (by decide) (by kernel_rfl) ?_
  simp only [List.drop_succ_cons, List.drop_zero, List.take_succ_cons, List.take_zero]
  (apply r_value (by first | rfl | go_simp) (v := ?_); focus (intro _ _; go_simp; try exact rfl)); (apply r_at; focus (go_simp; exact rfl))
  refine r_nil ?_
  refine o_one 10 (by kernel_rfl) rfl rfl ?_
  refine mid_call 41 #[.pointer (some ⟨d, 0, none⟩)] (by go_simp) ((HLC.out wb (ua.trans ub)).mono ?_)
  rintro e wc ⟨rfl, uc⟩
  have hC := And.intro (cell_keep hC.1 uc) (cell_keep hC.2 uc)
  refine ⟨_, rfl, hC, ?_⟩
  (apply o_at; focus (go_simp; exact rfl))
  refine o_one 12 (by kernel_rfl) rfl rfl ?_
  refine mid_call 82 #[.pointer (some ⟨r, 0, none⟩)] (by go_simp) ((HLR.out wc ((ua.trans ub).trans uc)).mono ?_)
  rintro e wd ⟨rfl, ud⟩
  have hC := And.intro (cell_keep hC.1 ud) (cell_keep hC.2 ud)
  refine ⟨_, rfl, hC, ?_⟩
  (apply o_at; focus (go_simp; exact rfl))
  refine o_readsK (k := 13) 4 (fun _ _ _ h => h.1) (by kernel_rfl) hC (by decide) (by kernel_rfl) ?_
  simp only [List.drop_succ_cons, List.drop_zero, List.take_succ_cons, List.take_zero]
  (apply r_value (by first | rfl | go_simp) (v := ?_); focus (intro _ _; go_simp; try exact rfl)); (apply r_at; focus (go_simp; exact rfl))
  (apply r_value (by first | rfl | go_simp) (v := ?_); focus (intro _ _; go_simp; try exact rfl)); (apply r_at; focus (go_simp; exact rfl))
  (apply r_value (by first | rfl | go_simp) (v := ?_); focus (intro _ _; go_simp; try exact rfl)); (apply r_at; focus (go_simp; exact rfl))
  (apply r_value (by first | rfl | go_simp) (v := ?_); focus (intro _ _; go_simp; try exact rfl)); (apply r_at; focus (go_simp; exact rfl))
  refine r_nil ?_
  refine o_readsK (k := 18) 4 (fun _ _ _ h => h.1) (by kernel_rfl) hC (by decide) (by kernel_rfl) ?_
  simp only [List.drop_succ_cons, List.drop_zero, List.take_succ_cons, List.take_zero]
  (apply r_value (by first | rfl | go_simp) (v := ?_); focus (intro _ _; go_simp; try exact rfl)); (apply r_at; focus (go_simp; exact rfl))
  (apply r_value (by first | rfl | go_simp) (v := ?_); focus (intro _ _; go_simp; try exact rfl)); (apply r_at; focus (go_simp; exact rfl))
  (apply r_value (by first | rfl | go_simp) (v := ?_); focus (intro _ _; go_simp; try exact rfl)); (apply r_at; focus (go_simp; exact rfl))
  refine r_load rfl 4 (.tmp 28) rfl (fun w => by go_simp) ⟨r, 4, none⟩ rfl _ (fun x hx => hx.2) ?_; (apply r_at; focus (go_simp; exact rfl))
  refine r_nil ?_
  refine o_one 17 (by kernel_rfl) rfl rfl ?_
  refine mid_call 83 #[.pointer (some ⟨d, 0, none⟩)] (by go_simp) ((HGC.out wd (((ua.trans ub).trans uc).trans ud)).mono ?_)
  rintro e we ⟨rfl, ue⟩
  have hC := And.intro (cell_keep hC.1 ue) (cell_keep hC.2 ue)
  refine ⟨_, rfl, hC, ?_⟩
  (apply o_at; focus (go_simp; exact rfl))
  refine o_readsK (k := 22) 2 (fun _ _ _ h => h.1) (by kernel_rfl) hC (by decide) (by kernel_rfl) ?_
  simp only [List.drop_succ_cons, List.drop_zero, List.take_succ_cons, List.take_zero]
  (apply r_value (by first | rfl | go_simp) (v := ?_); focus (intro _ _; go_simp; try exact rfl)); (apply r_at; focus (go_simp; exact rfl))
  (apply r_value (by first | rfl | go_simp) (v := ?_); focus (intro _ _; go_simp; try exact rfl)); (apply r_at; focus (go_simp; exact rfl))
  refine r_nil ?_
  refine o_end (by kernel_rfl) ?_
  go_wp2
  go_loopw [5] (fun i wr => ∃ z : Int, -1 ≤ z ∧ z ≤ (n : Int) + 1 ∧ i = .int .i64 z ∧ Upd (fun _ => False) w wr) (fun i _ => (n + 2) - (intOf i + 1).toNat)
  case atStart => exact ⟨-1, by omega, by omega, rfl, (((ua.trans ub).trans uc).trans ud).trans ue⟩
  case round =>
    obtain ⟨z, hz1, hz2, rfl, hU⟩ := hrel
    have HU := Lib.hid hU
    have c0 := cell_keep HC0.out hU
    have Dr := Lib.hid (HD.out.keep hU id id id)
    clear hU
    have hwz : IntKind.i64.wrap (z + 1) = z + 1 := IntWalk.i64_in _ (by omega)
    by_cases hzn : z ≤ (n : Int)
    · by_cases hz0 : z < 0
      · have t1 : decide (z < 0) = true := decide_eq_true hz0
        have hr : rd D z = ([], 1) := by
          have : has D z = false := by simp [has]; omega
          simp [rd, this]
        have HR := Lib.hid hr
        clear hr
        go_wp2_with (first
          | (go_at_call 51; go_must (refine (read_calls Dr.out z).mono ?_); rw [HR.out]; rintro e w3 ⟨v3, rfl, o3, u3⟩; obtain ⟨p3, k3, rfl, -⟩ := o3.bytes.at_; have c03 := cell_keep c0 u3))
        exact ⟨⟨z + 1, by omega, by omega, rfl, HU.out.trans u3⟩, by show (n + 2) - (z + 1 + 1).toNat < (n + 2) - (z + 1).toNat; omega⟩
      · have t1 : decide (z < 0) = false := decide_eq_false hz0
        by_cases hze : z = (n : Int)
        · have t2 : (z == (n : Int)) = true := by rw [beq_iff_eq]; exact hze
          have hr : rd D z = ([], 1) := by
            have : has D z = false := by have := HN.out; simp [has]; omega
            simp [rd, this]
          have HR := Lib.hid hr
          have HZE := Lib.hid hze
          clear hr hze
          go_wp2_with (first
            | (go_at_call 51; go_must (refine (read_calls Dr.out z).mono ?_); rw [HR.out]; rintro e w3 ⟨v3, rfl, o3, u3⟩; obtain ⟨p3, k3, rfl, -⟩ := o3.bytes.at_; have c03 := cell_keep c0 u3))
          exact ⟨⟨z + 1, by omega, by omega, rfl, HU.out.trans u3⟩, by show (n + 2) - (z + 1 + 1).toNat < (n + 2) - (z + 1).toNat; omega⟩
        · have t2 : (z == (n : Int)) = false := by rw [beq_eq_false_iff_ne]; exact hze
          obtain ⟨z, rfl⟩ := Int.eq_ofNat_of_zero_le (Int.not_lt.1 hz0)
          have hzl : z < n := by omega
          obtain ⟨bs, hbs⟩ : ∃ bs, D.now.getD z [] = bs := ⟨_, rfl⟩
          have hb64 : bs.length = 64 := by rw [← hbs]; exact HD.out.secLen (by rw [HN.out]; exact hzl)
          obtain ⟨gn, cn', hg, hbn⟩ := HM.out.nv_at (by rw [HNX.out]; omega)
          rw [HNV.out] at hg
          simp only [Value.slice.injEq] at hg
          obtain ⟨rfl, -, rfl⟩ := hg
          obtain ⟨ge, ce, hel⟩ := HM.out.el_at (j := z) (by rw [HNX.out]; exact hzl)
          have hn1 := HM.out.hn
          rw [HNV.out] at hn1
          have hce : w.cell? ⟨gn, z, none⟩ = some (.slice (some ⟨ge, 0, none⟩) 64 ce) := by rw [← hel]; exact hn1.cell (getD_some (by rw [HM.out.ln, HNX.out]; exact hzl))
          have hoe := (HM.out.en z (by rw [HNX.out]; exact hzl)).1.bytes
          rw [hel, HMT.out.now, hbs] at hoe
          have HCE := Lib.hid hce
          have HOE := Lib.hid hoe
          have HB64 := Lib.hid hb64
          have HZE := Lib.hid hze
          have hhas : has D (z : Int) = true := by have := HN.out; simp [has]; omega
          cases gone with
          | true =>
            have hr : rd D (z : Int) = ([], 5) := by simp [rd, hhas, HGN.out]
            have HR := Lib.hid hr
            clear hr hze hb64 hbs hce hoe hn1 hel hhas hz0
            go_wp2_with (first
              | (go_at_call 51; go_must (refine (read_calls Dr.out (z : Int)).mono ?_); rw [HR.out]; rintro e w3 ⟨v3, rfl, o3, u3⟩; obtain ⟨p3, k3, rfl, -⟩ := o3.bytes.at_; have c03 := cell_keep c0 u3))
            have U3 := HU.out.trans u3
            have CC : w3.cell? ⟨r, 4, none⟩ = some (.bool true) ∧ True := ⟨cell_keep HC4.out U3, trivial⟩
            have HCK := Lib.hid (show ∀ y, Upd (fun _ => False) w3 y → y.cell? ⟨r, 4, none⟩ = some (.bool true) ∧ True from fun y hy => ⟨cell_keep CC.1 hy, trivial⟩)
            refine region_order 37 0 (by kernel_rfl) (by kernel_rfl) rfl (by kernel_rfl) (fun x => x.cell? ⟨r, 4, none⟩ = some (.bool true) ∧ True) (HCK.out _ ((Upd.refl (fun _ => False) w3).drew)) ?_
            simp only [List.take_succ_cons, List.take_zero]
            (apply r_value (by first | rfl | go_simp) (v := ?_); focus (intro _ _; go_simp; try exact rfl)); (apply r_at; focus (go_simp; exact rfl))
            (apply r_value (by first | rfl | go_simp) (v := ?_); focus (intro _ _; go_simp; try exact rfl)); (apply r_at; focus (go_simp; exact rfl))
            (apply r_value (by first | rfl | go_simp) (v := ?_); focus (intro _ _; go_simp; try exact rfl)); (apply r_at; focus (go_simp; exact rfl))
            refine r_load rfl 4 (.tmp 67) rfl (fun w => by go_simp) ⟨r, 4, none⟩ rfl _ (fun x hx => hx.1) ?_; (apply r_at; focus (go_simp; exact rfl))
            (apply r_value (by first | rfl | go_simp) (v := ?_); focus (intro _ _; go_simp; try exact rfl)); (apply r_at; focus (go_simp; exact rfl))
            (apply r_value (by first | rfl | go_simp) (v := ?_); focus (intro _ _; go_simp; try exact rfl)); (apply r_at; focus (go_simp; exact rfl))
            (apply r_value (by first | rfl | go_simp) (v := ?_); focus (intro _ _; go_simp; try exact rfl)); (apply r_at; focus (go_simp; exact rfl))
            (apply r_value (by first | rfl | go_simp) (v := ?_); focus (intro _ _; go_simp; try exact rfl)); (apply r_at; focus (go_simp; exact rfl))
            (apply r_value (by first | rfl | go_simp) (v := ?_); focus (intro _ _; go_simp; try exact rfl)); (apply r_at; focus (go_simp; exact rfl))
            (apply r_value (by first | rfl | go_simp) (v := ?_); focus (intro _ _; go_simp; try exact rfl)); (apply r_at; focus (go_simp; exact rfl))
            (apply r_value (by first | rfl | go_simp) (v := ?_); focus (intro _ _; go_simp; try exact rfl)); (apply r_at; focus (go_simp; exact rfl))
            (apply r_value (by first | rfl | go_simp) (v := ?_); focus (intro _ _; go_simp; try exact rfl)); (apply r_at; focus (go_simp; exact rfl))
            (apply r_value (by first | rfl | go_simp) (v := ?_); focus (intro _ _; go_simp; try exact rfl)); (apply r_at; focus (go_simp; exact rfl))
            (apply r_value (by first | rfl | go_simp) (v := ?_); focus (intro _ _; go_simp; try exact rfl)); (apply r_at; focus (go_simp; exact rfl))
            (apply r_value (by first | rfl | go_simp) (v := ?_); focus (intro _ _; go_simp; try exact rfl)); (apply r_at; focus (go_simp; exact rfl))
            (apply r_value (by first | rfl | go_simp) (v := ?_); focus (intro _ _; go_simp; try exact rfl)); (apply r_at; focus (go_simp; exact rfl))
            (apply r_value (by first | rfl | go_simp) (v := ?_); focus (intro _ _; go_simp; try exact rfl)); (apply r_at; focus (go_simp; exact rfl))
            refine r_load rfl 4 (.tmp 81) rfl (fun w => by go_simp) ⟨r, 4, none⟩ rfl _ (fun x hx => hx.1) ?_; (apply r_at; focus (go_simp; exact rfl))
            (apply r_value (by first | rfl | go_simp) (v := ?_); focus (intro _ _; go_simp; try exact rfl)); (apply r_at; focus (go_simp; exact rfl))
            (apply r_value (by first | rfl | go_simp) (v := ?_); focus (intro _ _; go_simp; try exact rfl)); (apply r_at; focus (go_simp; exact rfl))
            (refine r_skip (by first | rfl | go_simp) ?_; (apply r_at; focus (go_simp; exact rfl)))
            (refine r_skip (by first | rfl | go_simp) ?_; (apply r_at; focus (go_simp; exact rfl)))
            (refine r_skip (by first | rfl | go_simp) ?_; (apply r_at; focus (go_simp; exact rfl)))
            (refine r_skip (by first | rfl | go_simp) ?_; (apply r_at; focus (go_simp; exact rfl)))
            (refine r_skip (by first | rfl | go_simp) ?_; (apply r_at; focus (go_simp; exact rfl)))
            (refine r_skip (by first | rfl | go_simp) ?_; (apply r_at; focus (go_simp; exact rfl)))
            (refine r_skip (by first | rfl | go_simp) ?_; (apply r_at; focus (go_simp; exact rfl)))
            (refine r_skip (by first | rfl | go_simp) ?_; (apply r_at; focus (go_simp; exact rfl)))
            (refine r_skip (by first | rfl | go_simp) ?_; (apply r_at; focus (go_simp; exact rfl)))
            (refine r_skip (by first | rfl | go_simp) ?_; (apply r_at; focus (go_simp; exact rfl)))
            (refine r_skip (by first | rfl | go_simp) ?_; (apply r_at; focus (go_simp; exact rfl)))
            (refine r_skip (by first | rfl | go_simp) ?_; (apply r_at; focus (go_simp; exact rfl)))
            (refine r_skip (by first | rfl | go_simp) ?_; (apply r_at; focus (go_simp; exact rfl)))
            (refine r_skip (by first | rfl | go_simp) ?_; (apply r_at; focus (go_simp; exact rfl)))
            (refine r_skip (by first | rfl | go_simp) ?_; (apply r_at; focus (go_simp; exact rfl)))
            (apply r_value (by first | rfl | go_simp) (v := ?_); focus (intro _ _; go_simp; try exact rfl)); (apply r_at; focus (go_simp; exact rfl))
            (apply r_value (by first | rfl | go_simp) (v := ?_); focus (intro _ _; go_simp; try exact rfl)); (apply r_at; focus (go_simp; exact rfl))
            refine r_nil ?_
            have ua : Upd (fun _ => False) w3 { w3 with drawn := w3.drawn + 1 } := (Upd.refl _ w3).drew
            generalize ({ w3 with drawn := w3.drawn + 1 } : World) = wa at ua
            have hC := HCK.out wa ua
            refine o_end (by kernel_rfl) ?_
            go_wp2
            exact ⟨⟨z + 1, by omega, by omega, rfl, U3.trans ua⟩, by show (n + 2) - ((z : Int) + 1 + 1).toNat < (n + 2) - ((z : Int) + 1).toNat; omega⟩
          | false =>
            have hr : rd D (z : Int) = (bs, 0) := by simp [rd, hhas, HGN.out, ← hbs]
            have HR := Lib.hid hr
            clear hr hze hb64 hbs hce hoe hn1 hel hhas hz0
            go_wp2_with (first
              | (go_at_call 51; go_must (refine (read_calls Dr.out (z : Int)).mono ?_); rw [HR.out]; rintro e w3 ⟨v3, rfl, o3, u3⟩; obtain ⟨g3, k3, rfl, g31, g32⟩ := o3.formN HB64.out (by omega); have c03 := cell_keep c0 u3))
            have U3 := HU.out.trans u3
            have CC : w3.cell? ⟨r, 4, none⟩ = some (.bool false) ∧ w3.cell? ⟨r, 0, none⟩ = some (.slice (some ⟨gn, 0, none⟩) n cn) ∧ w3.cell? ⟨gn, z, none⟩ = some (.slice (some ⟨ge, 0, none⟩) 64 ce) ∧ IsBytes w3 (.slice (some ⟨g3, 0, none⟩) 64 k3) bs ∧ IsBytes w3 (.slice (some ⟨ge, 0, none⟩) 64 ce) bs :=
              ⟨cell_keep HC4.out U3, cell_keep HC0.out U3, cell_keep HCE.out U3, o3.bytes, HOE.out.keep U3 (fun _ _ _ => id)⟩
            have HCK := Lib.hid (show ∀ y, Upd (fun _ => False) w3 y → y.cell? ⟨r, 4, none⟩ = some (.bool false) ∧ y.cell? ⟨r, 0, none⟩ = some (.slice (some ⟨gn, 0, none⟩) n cn) ∧ y.cell? ⟨gn, z, none⟩ = some (.slice (some ⟨ge, 0, none⟩) 64 ce) ∧ IsBytes y (.slice (some ⟨g3, 0, none⟩) 64 k3) bs ∧ IsBytes y (.slice (some ⟨ge, 0, none⟩) 64 ce) bs from
              fun y hy => ⟨cell_keep CC.1 hy, cell_keep CC.2.1 hy, cell_keep CC.2.2.1 hy, CC.2.2.2.1.keep hy (fun _ _ _ => id), CC.2.2.2.2.keep hy (fun _ _ _ => id)⟩)
            refine region_order 37 0 (by kernel_rfl) (by kernel_rfl) rfl (by kernel_rfl) (fun x => x.cell? ⟨r, 4, none⟩ = some (.bool false) ∧ x.cell? ⟨r, 0, none⟩ = some (.slice (some ⟨gn, 0, none⟩) n cn) ∧ x.cell? ⟨gn, z, none⟩ = some (.slice (some ⟨ge, 0, none⟩) 64 ce) ∧ IsBytes x (.slice (some ⟨g3, 0, none⟩) 64 k3) bs ∧ IsBytes x (.slice (some ⟨ge, 0, none⟩) 64 ce) bs) (HCK.out _ ((Upd.refl (fun _ => False) w3).drew)) ?_
            simp only [List.take_succ_cons, List.take_zero]
            (apply r_value (by first | rfl | go_simp) (v := ?_); focus (intro _ _; go_simp; try exact rfl)); (apply r_at; focus (go_simp; exact rfl))
            (apply r_value (by first | rfl | go_simp) (v := ?_); focus (intro _ _; go_simp; try exact rfl)); (apply r_at; focus (go_simp; exact rfl))
            (apply r_value (by first | rfl | go_simp) (v := ?_); focus (intro _ _; go_simp; try exact rfl)); (apply r_at; focus (go_simp; exact rfl))
            refine r_load rfl 4 (.tmp 67) rfl (fun w => by go_simp) ⟨r, 4, none⟩ rfl _ (fun x hx => hx.1) ?_; (apply r_at; focus (go_simp; exact rfl))
            (apply r_value (by first | rfl | go_simp) (v := ?_); focus (intro _ _; go_simp; try exact rfl)); (apply r_at; focus (go_simp; exact rfl))
            (refine r_skip (by first | rfl | go_simp) ?_; (apply r_at; focus (go_simp; exact rfl)))
            (refine r_skip (by first | rfl | go_simp) ?_; (apply r_at; focus (go_simp; exact rfl)))
            (refine r_skip (by first | rfl | go_simp) ?_; (apply r_at; focus (go_simp; exact rfl)))
            (refine r_skip (by first | rfl | go_simp) ?_; (apply r_at; focus (go_simp; exact rfl)))
            (refine r_skip (by first | rfl | go_simp) ?_; (apply r_at; focus (go_simp; exact rfl)))
            (refine r_skip (by first | rfl | go_simp) ?_; (apply r_at; focus (go_simp; exact rfl)))
            (refine r_skip (by first | rfl | go_simp) ?_; (apply r_at; focus (go_simp; exact rfl)))
            (apply r_value (by first | rfl | go_simp) (v := ?_); focus (intro _ _; go_simp; try exact rfl)); (apply r_at; focus (go_simp; exact rfl))
            (apply r_value (by first | rfl | go_simp) (v := ?_); focus (intro _ _; go_simp; try exact rfl)); (apply r_at; focus (go_simp; exact rfl))
            (apply r_value (by first | rfl | go_simp) (v := ?_); focus (intro _ _; go_simp; try exact rfl)); (apply r_at; focus (go_simp; exact rfl))
            (apply r_value (by first | rfl | go_simp) (v := ?_); focus (intro _ _; go_simp; try exact rfl)); (apply r_at; focus (go_simp; exact rfl))
            (apply r_value (by first | rfl | go_simp) (v := ?_); focus (intro _ _; go_simp; try exact rfl)); (apply r_at; focus (go_simp; exact rfl))
            refine r_load rfl 4 (.tmp 81) rfl (fun w => by go_simp) ⟨r, 4, none⟩ rfl _ (fun x hx => hx.1) ?_; (apply r_at; focus (go_simp; exact rfl))
            (apply r_value (by first | rfl | go_simp) (v := ?_); focus (intro _ _; go_simp; try exact rfl)); (apply r_at; focus (go_simp; exact rfl))
            (apply r_value (by first | rfl | go_simp) (v := ?_); focus (intro _ _; go_simp; try exact rfl)); (apply r_at; focus (go_simp; exact rfl))
            (apply r_value (by first | rfl | go_simp) (v := ?_); focus (intro _ _; go_simp; try exact rfl)); (apply r_at; focus (go_simp; exact rfl))
            (apply r_value (by first | rfl | go_simp) (v := ?_); focus (intro _ _; go_simp; try exact rfl)); (apply r_at; focus (go_simp; exact rfl))
            (apply r_value (by first | rfl | go_simp) (v := ?_); focus (intro _ _; go_simp; try exact rfl)); (apply r_at; focus (go_simp; exact rfl))
            (apply r_value (by first | rfl | go_simp) (v := ?_); focus (intro _ _; go_simp; try exact rfl)); (apply r_at; focus (go_simp; exact rfl))
            refine r_value rfl (v := (.string ⟨bs.toArray⟩)) (fun x hx => run_op_str 26 5 9 _ rfl Try.underlying26 Try.underlying5 Try.underlying9 hx.2.2.2.1 rfl) ?_; (apply r_at; focus (go_simp; exact rfl))
            (apply r_value (by first | rfl | go_simp) (v := ?_); focus (intro _ _; go_simp; try exact rfl)); (apply r_at; focus (go_simp; exact rfl))
            (apply r_value (by first | rfl | go_simp) (v := ?_); focus (intro _ _; go_simp; try exact rfl)); (apply r_at; focus (go_simp; exact rfl))
            (apply r_value (by first | rfl | go_simp) (v := ?_); focus (intro _ _; go_simp; try exact rfl)); (apply r_at; focus (go_simp; exact rfl))
            refine r_load rfl 22 (.tmp 92) rfl (fun w => by go_simp) ⟨r, 0, none⟩ rfl _ (fun x hx => hx.2.1) ?_; (apply r_at; focus (go_simp; exact rfl))
            (apply r_value (by first | rfl | go_simp) (v := ?_); focus (intro _ _; go_simp; try exact rfl)); (apply r_at; focus (go_simp; exact rfl))
            (apply r_value (by first | rfl | go_simp) (v := ?_); focus (intro _ _; go_simp; try exact rfl)); (apply r_at; focus (go_simp; exact rfl))
            refine r_load rfl 26 (.tmp 95) rfl (fun w => by go_simp) ⟨gn, z, none⟩ rfl _ (fun x hx => hx.2.2.1) ?_; (apply r_at; focus (go_simp; exact rfl))
            refine r_value rfl (v := (.string ⟨bs.toArray⟩)) (fun x hx => run_op_str 26 5 9 _ rfl Try.underlying26 Try.underlying5 Try.underlying9 hx.2.2.2.2 rfl) ?_; (apply r_at; focus (go_simp; exact rfl))
            (apply r_value (by first | rfl | go_simp) (v := ?_); focus (intro _ _; go_simp; try exact rfl)); (apply r_at; focus (go_simp; exact rfl))
            (apply r_value (by first | rfl | go_simp) (v := ?_); focus (intro _ _; go_simp; try exact rfl)); (apply r_at; focus (go_simp; exact rfl))
            (apply r_value (by first | rfl | go_simp) (v := ?_); focus (intro _ _; go_simp; try exact rfl)); (apply r_at; focus (go_simp; exact rfl))
            (apply r_value (by first | rfl | go_simp) (v := ?_); focus (intro _ _; go_simp; try exact rfl)); (apply r_at; focus (go_simp; exact rfl))
            refine r_nil ?_
            have ua : Upd (fun _ => False) w3 { w3 with drawn := w3.drawn + 1 } := (Upd.refl _ w3).drew
            generalize ({ w3 with drawn := w3.drawn + 1 } : World) = wa at ua
            have hC := HCK.out wa ua
            refine o_end (by kernel_rfl) ?_
            go_wp2
            exact ⟨⟨z + 1, by omega, by omega, rfl, U3.trans ua⟩, by show (n + 2) - ((z : Int) + 1 + 1).toNat < (n + 2) - ((z : Int) + 1).toNat; omega⟩
    · go_wp2
      go_ret
      exact ⟨rfl, HU.out⟩
end
end Go.Proofs.Ytggepeepjaoibaa

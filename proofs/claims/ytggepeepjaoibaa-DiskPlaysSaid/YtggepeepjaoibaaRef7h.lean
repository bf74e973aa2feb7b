/- jalousieref07.Disk.Crash: the walk. -/
import Derived.Test.YtggepeepjaoibaaRef7g
namespace Go.Proofs.Ytggepeepjaoibaa
open Go.RowKit
set_option linter.unusedVariables false
section
variable {w w' : World} {r base : Nat} {X : RefG} {M : RefM}
/-- a sector in the tearing -/
def midR (Z : RefG) (i k m : Nat) : RefG := { Z with now := Z.now.set i (mixL (Z.was.getD i []) (Z.now.getD i []) k m) }
theorem midR_now (Z : RefG) (i k m : Nat) (hi : i < Z.now.length) : (midR Z i k m).now.getD i [] = mixL (Z.was.getD i []) (Z.now.getD i []) k m := by
  show (Z.now.set i _).getD i [] = _
  rw [getD_setL _ _ _ _ hi, if_pos rfl]
theorem midR_0 (Z : RefG) (i k : Nat) (hi : i < Z.now.length) : midR Z i k 0 = Z := by
  have : Z.now.set i (Z.now.getD i []) = Z.now := by
    rw [List.getD_eq_getElem?_getD, List.getElem?_eq_getElem hi]
    exact List.set_getElem_self hi
  unfold midR mixL
  rw [this]
theorem midR_step (Z : RefG) (k K q : Nat) (b : UInt8) (hk : k < Z.now.length) (hst : staysB K q = false) (hb : (Z.was.getD k []).getD q 0 = b) : ({ midR Z k K q with now := (midR Z k K q).now.set k (((midR Z k K q).now.getD k []).set q b) } : RefG) = midR Z k K (q + 1) := by
  have hs1 : mixL (Z.was.getD k []) (Z.now.getD k []) K (q + 1) = (mixL (Z.was.getD k []) (Z.now.getD k []) K q).set q b := by
    show (if staysB K q = true then _ else _) = _
    rw [hst, if_neg (by decide), hb]
  rw [midR_now Z k K q hk, ← hs1]
  show ({ Z with now := (Z.now.set k _).set k _ } : RefG) = { Z with now := Z.now.set k _ }
  rw [List.set_set]
set_option maxRecDepth 100000 in
set_option maxHeartbeats 2000000 in
theorem crash7_calls (h : IsRefM w r base X M) {v : Value} {fate : List UInt8} (hv : IsBytes w v fate) (hvb : ∀ k, fate ≠ [] → v.ownBlock = some k → k < base) :
    Calls Try.prog 81 #[.pointer (some ⟨r, 0, none⟩), v] w fun e w' => e = .returned (.tuple #[]) ∧ IsRef w' r base (refCr X fate) ∧ FR base w w' := by
  have hbr := h.hr
  obtain ⟨n, hn⟩ : ∃ n, X.now.length = n := ⟨_, rfl⟩
  have hfew := h.few
  rw [hn] at hfew
  have HH := Lib.hid h
  have HV := Lib.hid hv
  obtain ⟨pa, pcap, rfl, v1, v2, _, -⟩ := id hv.at_
  unfold maxLen at v2
  unfold refCr
  rw [hn]
  have HN := Lib.hid hn
  have HVB := Lib.hid hvb
  clear h hv hn hvb
  go_enter Try.func81, Try.ntmps81
  go_wp2
  go_loopw [4, 5] (fun nn i wr => ∃ (k : Nat) (M : RefM), k ≤ n ∧ i = .int .i64 k ∧ nn = .int .i64 ((crU X fate k).2 : Int) ∧ IsRefM wr r base (crU X fate k).1 M ∧ FR base w wr) (fun _ i _ => n - (intOf i).toNat)
  case atStart => exact ⟨0, M, by omega, rfl, rfl, HH.out, FR.refl _ _⟩
  case round =>
    obtain ⟨k, M, hk, rfl, rfl, hI, hU⟩ := hrel
    obtain ⟨q1, q2⟩ := crU_len X fate k
    obtain ⟨Z, hZ⟩ : ∃ Z, (crU X fate k).1 = Z := ⟨_, rfl⟩
    obtain ⟨m, hm⟩ : ∃ m, (crU X fate k).2 = m := ⟨_, rfl⟩
    rw [hm] at q2
    rw [hm]
    rw [hZ] at q1 hI
    have hlen : Z.now.length = n := by rw [q1]; exact HN.out
    obtain ⟨pn, cn, hnv⟩ := hI.nv_form
    rw [hlen] at hnv
    have c0 := hI.c0
    rw [hnv] at c0
    have HNV := Lib.hid hnv
    have HI := Lib.hid hI
    have HL := Lib.hid hlen
    have HZ := Lib.hid hZ
    have HM := Lib.hid hm
    have HU := Lib.hid hU
    have hsz := hI.lt
    clear hI hnv hlen q1 hZ hm hU
    by_cases hkl : k < n
    · obtain ⟨gn, cn', hg, hbn⟩ := HI.out.nv_at (by rw [HL.out]; omega)
      rw [HNV.out] at hg
      simp only [Value.slice.injEq] at hg
      obtain ⟨rfl, -, rfl⟩ := hg
      obtain ⟨gi, ci, hiv, hbi⟩ := HI.out.iv_at (by rw [HL.out]; omega)
      rw [HL.out] at hiv
      have HIV := Lib.hid hiv
      have c2 := HI.out.c2
      rw [HIV.out] at c2
      have hi1 := HI.out.hi
      rw [HIV.out] at hi1
      obtain ⟨b0, hb0⟩ : ∃ b0, Z.is[k]? = some b0 := ⟨_, List.getElem?_eq_getElem (by rw [HI.out.li, HL.out]; exact hkl)⟩
      have ci0 := hi1.cell (j := k) (u := .bool b0) (by rw [List.getElem?_map, hb0]; rfl)
      have hbd : Z.is.getD k false = b0 := by rw [List.getD_eq_getElem?_getD, hb0]; rfl
      have HBD := Lib.hid hbd
      clear hi1 hb0 hbd hiv
      cases b0 with
      | false =>
        go_wp2
        have e : crU X fate (k + 1) = crU X fate k := by
          show (if (crU X fate k).1.is.getD k false = true then _ else _) = _
          rw [HZ.out, HBD.out, if_neg (by decide)]
        exact ⟨⟨k + 1, M, hkl, by rw [Int.natCast_add]; rfl, by rw [e, HM.out], by rw [e, HZ.out]; exact HI.out, HU.out⟩, by show n - ((k : Int) + 1).toNat < n - ((k : Int)).toNat; omega⟩
      | true =>
        obtain ⟨gw, cw, hwv, hbw⟩ := HI.out.wv_at (by rw [HL.out]; omega)
        rw [HL.out] at hwv
        have HWV := Lib.hid hwv
        obtain ⟨ge, ce, hel⟩ := HI.out.el_at (j := k) (by rw [HL.out]; exact hkl)
        have HEL := Lib.hid hel
        obtain ⟨gh, ch, hwl⟩ : ∃ g c, M.wus.getD k undef = .slice (some ⟨g, 0, none⟩) 64 c := by
          obtain ⟨g, c, e, _⟩ := (HI.out.ew k (by rw [HL.out]; exact hkl)).1.formN (HI.out.ew k (by rw [HL.out]; exact hkl)).2 (by omega)
          exact ⟨g, c, e⟩
        have HWL := Lib.hid hwl
        clear hwv hel hwl
        have e1 : crU X fate (k + 1) = (crS Z k (fateAt fate m), m + 1) := by
          show (if (crU X fate k).1.is.getD k false = true then _ else _) = _
          rw [HZ.out, HBD.out, if_pos rfl, HM.out]
        have HE1 := Lib.hid e1
        clear e1
        obtain ⟨K, hK⟩ : ∃ K, fateAt fate m = K := ⟨_, rfl⟩
        have hK256 := K.toNat_lt
        have hwm : IntKind.i64.wrap ((m : Int) + 1) = (m : Int) + 1 := IntWalk.i64_in _ (by omega)
        by_cases hf0 : fate = []
        · have hK0 : fateAt fate m = 0 := by unfold fateAt; rw [if_pos hf0]
          have HK0 := Lib.hid hK0
          have t0 : decide ((0 : Int) < (fate.length : Int)) = false := by rw [hf0]; rfl
          have hfl : ¬ 0 < fate.length := by rw [hf0]; simp
          clear hf0 hK hK0 hK256
          go_wp2
          clear c0 c2 ci0
          obtain ⟨wo, hwo⟩ : ∃ wo : World, wo = wr := ⟨_, rfl⟩
          have HWO := Lib.hid hwo
          clear hwo
          go_loopw [7] (fun jj w2 => ∃ q : Nat, q ≤ 64 ∧ jj = .int .i64 q ∧ IsRefM w2 r base (midR Z k (0 : UInt8).toNat q) M ∧ FR base w w2) (fun jj _ => 64 - (intOf jj).toNat)
          case atStart => exact ⟨0, by omega, rfl, by rw [midR_0 Z k (0 : UInt8).toNat (by rw [HL.out]; exact hkl)]; exact HI.out, HU.out⟩
          case round =>
            obtain ⟨q, hq, rfl, hJ, hU2⟩ := hrel
            obtain ⟨w2, hw2e⟩ : ∃ w2 : World, w2 = wr := ⟨_, rfl⟩
            rw [← hw2e] at hJ hU2 ⊢
            have hsz2 := hJ.lt
            have HJ := Lib.hid hJ
            have HU2 := Lib.hid hU2
            clear hJ hU2 hw2e
            have HL2 := Lib.hid (show (midR Z k (0 : UInt8).toNat q).now.length = n by show (Z.now.set k _).length = n; rw [List.length_set]; exact HL.out)
            by_cases hq64 : q < 64
            · skip
              have hst : staysB (0 : UInt8).toNat q = false := by simp [staysB]
              have t2 : decide ((q : Int) < 0) = false := decide_eq_false (by omega)
              have hs1 := Lib.hid hst
              clear hst
              go_wp2
              have HP2 := HJ.out.hp
              have hn2 := HJ.out.hn
              rw [HNV.out] at hn2
              have hw2 := HJ.out.hw
              rw [HWV.out] at hw2
              have hcn : w2.cell? ⟨gn, k, none⟩ = some (.slice (some ⟨ge, 0, none⟩) 64 ce) := by rw [← HEL.out]; exact hn2.cell (getD_some (by rw [HJ.out.ln, HL2.out]; exact hkl))
              have hcw : w2.cell? ⟨gw, k, none⟩ = some (.slice (some ⟨gh, 0, none⟩) 64 ch) := by rw [← HWL.out]; exact hw2.cell (getD_some (by rw [HJ.out.lw, HL2.out]; exact hkl))
              have hob := (HJ.out.ew k (by rw [HL2.out]; exact hkl))
              rw [HWL.out] at hob
              have hch : w2.cell? ⟨gh, q, none⟩ = some (bv ((Z.was.getD k []).getD q 0)) := hob.1.cell (by rw [hob.2]; exact hq64)
              obtain ⟨bb, hbb⟩ : ∃ bb, (Z.was.getD k []).getD q 0 = bb := ⟨_, rfl⟩
              rw [hbb] at hch
              have hoe := (HJ.out.en k (by rw [HL2.out]; exact hkl))
              rw [HEL.out] at hoe
              have hce := hoe.1.cell (j := q) (by rw [hoe.2]; exact hq64)
              have hfe := hoe.1.free q
              have HBB := Lib.hid hbb
              have HOE := Lib.hid hoe
              clear hob hoe hn2 hw2 hbb
              refine region_last 19 0 19 19 (by decide) (by kernel_rfl) (by kernel_rfl) rfl rfl (by kernel_rfl) (by kernel_rfl) (fun x => x.heap[r]? = some (.cells (refA (midR Z k (0 : UInt8).toNat q) M) 135 (0, 0)) ∧ x.cell? ⟨gn, k, none⟩ = some (.slice (some ⟨ge, 0, none⟩) 64 ce) ∧ x.cell? ⟨gw, k, none⟩ = some (.slice (some ⟨gh, 0, none⟩) 64 ch) ∧ x.cell? ⟨gh, q, none⟩ = some (bv bb)) ⟨HP2, hcn, hcw, hch⟩ ?_
              simp only [List.take_succ_cons, List.take_zero]
              (apply r_value (by first | rfl | go_simp) (v := ?_); focus (intro _ _; go_simp; try exact rfl)); (apply r_at; focus (go_simp; exact rfl))
              (apply r_value (by first | rfl | go_simp) (v := ?_); focus (intro _ _; go_simp; try exact rfl)); (apply r_at; focus (go_simp; exact rfl))
              (apply r_value (by first | rfl | go_simp) (v := ?_); focus (intro _ _; go_simp; try exact rfl)); (apply r_at; focus (go_simp; exact rfl))
              refine r_load rfl 22 (.tmp 65) rfl (fun w => by go_simp) ⟨r, 0, none⟩ rfl _ (fun x hx => by rw [cell_of_row x r 0 _ _ _ hx.1]; show some M.nv = _; rw [HNV.out]) ?_; (apply r_at; focus (go_simp; exact rfl))
              (apply r_value (by first | rfl | go_simp) (v := ?_); focus (intro _ _; go_simp; try exact rfl)); (apply r_at; focus (go_simp; exact rfl))
              (apply r_value (by first | rfl | go_simp) (v := ?_); focus (intro _ _; go_simp; try exact rfl)); (apply r_at; focus (go_simp; exact rfl))
              refine r_load rfl 26 (.tmp 68) rfl (fun w => by go_simp) ⟨gn, k, none⟩ rfl _ (fun x hx => hx.2.1) ?_; (apply r_at; focus (go_simp; exact rfl))
              (apply r_value (by first | rfl | go_simp) (v := ?_); focus (intro _ _; go_simp; try exact rfl)); (apply r_at; focus (go_simp; exact rfl))
              (apply r_value (by first | rfl | go_simp) (v := ?_); focus (intro _ _; go_simp; try exact rfl)); (apply r_at; focus (go_simp; exact rfl))
              (apply r_value (by first | rfl | go_simp) (v := ?_); focus (intro _ _; go_simp; try exact rfl)); (apply r_at; focus (go_simp; exact rfl))
              (apply r_value (by first | rfl | go_simp) (v := ?_); focus (intro _ _; go_simp; try exact rfl)); (apply r_at; focus (go_simp; exact rfl))
              refine r_load rfl 22 (.tmp 73) rfl (fun w => by go_simp) ⟨r, 1, none⟩ rfl _ (fun x hx => by rw [cell_of_row x r 1 _ _ _ hx.1]; show some M.wv = _; rw [HWV.out]) ?_; (apply r_at; focus (go_simp; exact rfl))
              (apply r_value (by first | rfl | go_simp) (v := ?_); focus (intro _ _; go_simp; try exact rfl)); (apply r_at; focus (go_simp; exact rfl))
              (apply r_value (by first | rfl | go_simp) (v := ?_); focus (intro _ _; go_simp; try exact rfl)); (apply r_at; focus (go_simp; exact rfl))
              refine r_load rfl 26 (.tmp 76) rfl (fun w => by go_simp) ⟨gw, k, none⟩ rfl _ (fun x hx => hx.2.2.1) ?_; (apply r_at; focus (go_simp; exact rfl))
              (apply r_value (by first | rfl | go_simp) (v := ?_); focus (intro _ _; go_simp; try exact rfl)); (apply r_at; focus (go_simp; exact rfl))
              (apply r_value (by first | rfl | go_simp) (v := ?_); focus (intro _ _; go_simp; try exact rfl)); (apply r_at; focus (go_simp; exact rfl))
              refine r_load rfl 5 (.tmp 79) rfl (fun w => by go_simp) ⟨gh, q, none⟩ rfl _ (fun x hx => hx.2.2.2) ?_; (apply r_at; focus (go_simp; exact rfl))
              (apply r_value (by first | rfl | go_simp) (v := ?_); focus (intro _ _; go_simp; try exact rfl)); (apply r_at; focus (go_simp; exact rfl))
              refine r_nil ?_
              have ua : Upd (fun _ => False) w2 { w2 with drawn := w2.drawn + 1 } := (Upd.refl _ w2).drew
              generalize ({ w2 with drawn := w2.drawn + 1 } : World) = wa at ua
              have hC := (show _ ∧ _ ∧ _ ∧ _ from ⟨ua.heap HP2 id, cell_keep hcn ua, cell_keep hcw ua, cell_keep hch ua⟩)
              refine o_last (by kernel_rfl) (by kernel_rfl) rfl rfl ?_
              have hcea := cell_keep hce ua
              have hfea : wa.frozen? ⟨ge, q, none⟩ = false := ((HOE.out.1.keep ua (fun _ _ => id)).free q)
              unfold bv
              refine o_skip (w' := wa.setCell ⟨ge, q, none⟩ (bv bb)) (by unfold bv at hcea ⊢; go_simp) ?_
              have I3 := (HJ.out.keep ua (fun _ _ => id)).setByte (j := k) (by rw [HL2.out]; exact hkl) HEL.out q bb
              have W3 := Lib.hid ((HU2.out.trans (FR.quiet ua)).trans (FR.cell (w := wa) (g := ge) (j := q) (u := bv bb) (HOE.out.1.ty ge rfl).1 ((HOE.out.1.keep ua (fun _ _ => id)).ty ge rfl).2.2 (by decide)))
              rw [midR_step Z k (0 : UInt8).toNat q bb (by rw [HL.out]; exact hkl) hs1.out HBB.out] at I3
              have HI3 := Lib.hid I3
              clear I3 hcea hfea
              generalize (wa.setCell ⟨ge, q, none⟩ (bv bb) : World) = wd at HI3 W3 ⊢
              clear HP2 hcn hcw hch hce hfe
              go_wp2
              exact ⟨⟨q + 1, hq64, by rw [Int.natCast_add]; rfl, HI3.out, W3.out⟩, by show 64 - ((q : Int) + 1).toNat < 64 - ((q : Int)).toNat; omega⟩
            · obtain rfl : q = 64 := by omega
              have HP := HJ.out.hp
              have hn1 := HJ.out.hn
              rw [HNV.out] at hn1
              have hce : w2.cell? ⟨gn, k, none⟩ = some (.slice (some ⟨ge, 0, none⟩) 64 ce) := by rw [← HEL.out]; exact hn1.cell (getD_some (by rw [HJ.out.ln, HL2.out]; exact hkl))
              have hob := Lib.hid (HJ.out.en k (by rw [HL2.out]; exact hkl))
              have HCE := Lib.hid hce
              clear hn1 hce
              go_wp2
              refine region_last 5 10 15 15 (by decide) (by kernel_rfl) (by kernel_rfl) rfl rfl (by kernel_rfl) (by kernel_rfl) (fun x => x.heap[r]? = some (.cells (refA (midR Z k (0 : UInt8).toNat 64) M) 135 (0, 0)) ∧ x.cell? ⟨gn, k, none⟩ = some (.slice (some ⟨ge, 0, none⟩) 64 ce)) ⟨HP, HCE.out⟩ ?_
              simp only [List.take_succ_cons, List.take_zero]
              (apply r_value (by first | rfl | go_simp) (v := ?_); focus (intro _ _; go_simp; try exact rfl)); (apply r_at; focus (go_simp; exact rfl))
              (apply r_value (by first | rfl | go_simp) (v := ?_); focus (intro _ _; go_simp; try exact rfl)); (apply r_at; focus (go_simp; exact rfl))
              (apply r_value (by first | rfl | go_simp) (v := ?_); focus (intro _ _; go_simp; try exact rfl)); (apply r_at; focus (go_simp; exact rfl))
              refine r_load rfl 22 (.tmp 84) rfl (fun w => by go_simp) ⟨r, 1, none⟩ rfl _ (fun x hx => by rw [cell_of_row x r 1 _ _ _ hx.1]; show some M.wv = _; rw [HWV.out]) ?_; (apply r_at; focus (go_simp; exact rfl))
              (apply r_value (by first | rfl | go_simp) (v := ?_); focus (intro _ _; go_simp; try exact rfl)); (apply r_at; focus (go_simp; exact rfl))
              refine r_nil ?_
              have ua : Upd (fun _ => False) w2 { w2 with drawn := w2.drawn + 1 } := (Upd.refl _ w2).drew
              generalize ({ w2 with drawn := w2.drawn + 1 } : World) = wa at ua
              have hC := And.intro (ua.heap HP id) (cell_keep HCE.out ua)
              refine l_reads (k := 6) (r := 15) 7 (by kernel_rfl) (by kernel_rfl) hC (by decide) (by decide) (by kernel_rfl) ?_
              simp only [List.drop_succ_cons, List.drop_zero, List.take_succ_cons, List.take_zero]
              (apply r_value (by first | rfl | go_simp) (v := ?_); focus (intro _ _; go_simp; try exact rfl)); (apply r_at; focus (go_simp; exact rfl))
              (apply r_value (by first | rfl | go_simp) (v := ?_); focus (intro _ _; go_simp; try exact rfl)); (apply r_at; focus (go_simp; exact rfl))
              (apply r_value (by first | rfl | go_simp) (v := ?_); focus (intro _ _; go_simp; try exact rfl)); (apply r_at; focus (go_simp; exact rfl))
              refine r_load rfl 22 (.tmp 90) rfl (fun w => by go_simp) ⟨r, 0, none⟩ rfl _ (fun x hx => by rw [cell_of_row x r 0 _ _ _ hx.1]; show some M.nv = _; rw [HNV.out]) ?_; (apply r_at; focus (go_simp; exact rfl))
              (apply r_value (by first | rfl | go_simp) (v := ?_); focus (intro _ _; go_simp; try exact rfl)); (apply r_at; focus (go_simp; exact rfl))
              (apply r_value (by first | rfl | go_simp) (v := ?_); focus (intro _ _; go_simp; try exact rfl)); (apply r_at; focus (go_simp; exact rfl))
              refine r_load rfl 26 (.tmp 93) rfl (fun w => by go_simp) ⟨gn, k, none⟩ rfl _ (fun x hx => hx.2) ?_; (apply r_at; focus (go_simp; exact rfl))
              refine r_nil ?_
              refine o_one 5 (by kernel_rfl) rfl rfl ?_
              have hCa := hC
              refine o_value (v := .slice (some ⟨wa.heap.size, 0, none⟩) 0 0) (w' := wa.alloc (.cells #[] 5)) (by go_simp) ?_
              have O0 := own_emptyB wa wa.heap.size (Nat.le_refl _)
              have u0 : Upd (fun _ => False) wa (wa.alloc (.cells #[] 5)) := (Upd.refl _ _).alloc _
              generalize wa.alloc (.cells #[] 5) = wb at O0 u0 ⊢
              have hC := And.intro (u0.heap hCa.1 id) (cell_keep hCa.2 u0)
              refine ⟨hC, ?_⟩
              (apply o_at; focus (go_simp; exact rfl))
              refine o_one 13 (by kernel_rfl) rfl rfl ?_
              have hob2 := hob.out.1
              rw [HEL.out] at hob2
              have LX := Lib.hid (show ([] : List UInt8).length + ((midR Z k (0 : UInt8).toNat 64).now.getD k []).length ≤ 140737488355328 by rw [hob.out.2]; decide)
              have hb3 : IsBytes wb (.slice (some ⟨ge, 0, none⟩) 64 ce) ((midR Z k (0 : UInt8).toNat 64).now.getD k []) := by have hb4 := hob2.bytes.keep (ua.trans u0) (fun _ _ _ => id); exact hb4
              refine o_of_list (ops := #[]) rfl (wpList_append_bytesV wa.heap.size O0 hb3 rfl _ _ rfl rfl rfl u0.size LX.out ?_)
              intro v3 wc O3 u3
              rw [List.nil_append] at O3
              obtain ⟨p3, l3, c3, rfl⟩ : ∃ p l c, v3 = .slice p l c := by obtain ⟨p, c, e, _⟩ := id O3.bytes.at_; exact ⟨p, _, c, e⟩
              have V3 : Upd (fun _ => False) wa wc := u0.then u3 (fun i hi e => absurd hi (Nat.not_lt.2 (O0.base_le i e.symm)))
              have hC := And.intro (V3.heap hCa.1 id) (cell_keep hCa.2 V3)
              have I3 := Lib.hid (HJ.out.keep (ua.trans V3) (fun _ _ => id))
              refine ⟨rfl, hC, ?_⟩
              (apply o_at; focus (go_simp; exact rfl))
              refine l_reads (k := 14) (r := 15) 1 (by kernel_rfl) (by kernel_rfl) hC (by decide) (by decide) (by kernel_rfl) ?_
              simp only [List.drop_succ_cons, List.drop_zero, List.take_succ_cons, List.take_zero]
              (apply r_value (by first | rfl | go_simp) (v := ?_); focus (intro _ _; go_simp; try exact rfl)); (apply r_at; focus (go_simp; exact rfl))
              refine r_nil ?_
              refine o_last (by kernel_rfl) (by kernel_rfl) rfl rfl ?_
              have hw3 := I3.out.hw
              rw [HWV.out] at hw3
              have cc : wc.cell? ⟨gw, k, none⟩ = some (M.wus.getD k undef) := hw3.cell (getD_some (by rw [I3.out.lw, HL2.out]; exact hkl))
              have ff : wc.frozen? ⟨gw, k, none⟩ = false := hw3.free k
              have hbs : base ≤ wa.heap.size := by have := ua.size; omega
              have I4 := Lib.hid (I3.out.setWas HWV.out (by rw [HL2.out]; exact hkl) (O3.mono hbs) hob.out.2 (fun kk hk => (HJ.out.fresh ua.size O3 kk hk).1))
              refine o_skip (w' := wc.setCell ⟨gw, k, none⟩ (.slice p3 l3 c3)) (by go_simp) ?_
              have W4 : FR base w (wc.setCell ⟨gw, k, none⟩ (.slice p3 l3 c3)) := (HU2.out.trans (FR.quiet (ua.trans V3))).trans (FR.cell hbw (hw3.le gw rfl).2.2 (by decide))
              clear cc ff hw3
              generalize (wc.setCell ⟨gw, k, none⟩ (.slice p3 l3 c3) : World) = wd at I4 W4 ⊢
              have c2 := I4.out.c2
              change wd.cell? ⟨r, 2, none⟩ = some M.iv at c2
              rw [HIV.out] at c2
              have hi4 := I4.out.hi
              change OwnT 4 wd base M.iv _ at hi4
              rw [HIV.out] at hi4
              obtain ⟨b0, hb0⟩ : ∃ b0, Z.is[k]? = some b0 := ⟨_, List.getElem?_eq_getElem (by rw [HI.out.li, HL.out]; exact hkl)⟩
              have cc := hi4.cell (j := k) (u := .bool b0) (by rw [List.getElem?_map]; show Option.map _ Z.is[k]? = _; rw [hb0]; rfl)
              have ff := hi4.free k
              have I5 := Lib.hid (I4.out.setIs (g := gi) HIV.out k false)
              have W5 := Lib.hid W4
              have HTI := Lib.hid (hi4.le gi rfl).2.2
              clear hi4 W4 hb0 HP
              go_wp2
              have I6 := I5.out
              have e6 : (midR Z k (0 : UInt8).toNat 64).now.getD k [] = tornL (Z.was.getD k []) (Z.now.getD k []) (fateAt fate m) := by
                rw [midR_now Z k (0 : UInt8).toNat 64 (by rw [HL.out]; exact hkl), ← HK0.out]
                exact mixL_torn _ (HI.out.ew k (by rw [HL.out]; exact hkl)).2 (HI.out.en k (by rw [HL.out]; exact hkl)).2
              rw [e6] at I6
              have e7 : (midR Z k (0 : UInt8).toNat 64).now = Z.now.set k (tornL (Z.was.getD k []) (Z.now.getD k []) (fateAt fate m)) := by
                show Z.now.set k (mixL _ _ (0 : UInt8).toNat 64) = _
                rw [← midR_now Z k (0 : UInt8).toNat 64 (by rw [HL.out]; exact hkl), e6]
              rw [e7] at I6
              refine ⟨⟨k + 1, _, hkl, by rw [Int.natCast_add]; rfl, by rw [HE1.out]; rw [Int.natCast_add]; rfl, by rw [HE1.out]; exact I6, W5.out.trans (FR.cell hbi HTI.out (by decide))⟩, by show n - ((k : Int) + 1).toNat < n - ((k : Int)).toNat; omega⟩
        · have hfl : 0 < fate.length := List.length_pos_iff.2 hf0
          have t0 : decide ((0 : Int) < (fate.length : Int)) = true := decide_eq_true (by omega)
          obtain ⟨b, off, rfl, hcf⟩ : ∃ b off, pa = some ⟨b, off, none⟩ ∧ ∀ j, j < fate.length → wr.cell? ⟨b, off + j, none⟩ = some (bv (fate.getD j 0)) := by
            obtain ⟨a', c', e, _, _, _, q3⟩ := HV.out.at_
            simp only [Value.slice.injEq] at e
            obtain ⟨rfl, -, -⟩ := e
            obtain ⟨b, off, rfl, hc⟩ := q3.resolve_left hf0
            refine ⟨b, off, rfl, fun j hj => ?_⟩
            have hcj := hc j hj
            rw [World.cell?_of_block (HU.out.block b (World.block_lt_of_cell? w _ hcj) (fun hle => by have := HVB.out b hf0 rfl; have := hle.1; omega))]
            exact hcj
          have hcp := hcf (m % fate.length) (Nat.mod_lt _ hfl)
          have hKp : fate.getD (m % fate.length) 0 = K := by rw [← hK]; unfold fateAt; rw [if_neg hf0]
          rw [hKp] at hcp
          unfold bv at hcp
          have hb1 : (m : Int) % (fate.length : Int) < (fate.length : Int) := Int.emod_lt_of_pos _ (by omega)
          have hb0 : (0 : Int) ≤ (m : Int) % (fate.length : Int) := Int.emod_nonneg _ (by omega)
          have HK := Lib.hid hK
          clear hK hKp hcf hf0
          go_wp2
          clear c0 c2 ci0
          obtain ⟨wo, hwo⟩ : ∃ wo : World, wo = wr := ⟨_, rfl⟩
          have HWO := Lib.hid hwo
          clear hwo
          go_loopw [7] (fun jj w2 => ∃ q : Nat, q ≤ 64 ∧ jj = .int .i64 q ∧ IsRefM w2 r base (midR Z k K.toNat q) M ∧ FR base w w2) (fun jj _ => 64 - (intOf jj).toNat)
          case atStart => exact ⟨0, by omega, rfl, by rw [midR_0 Z k K.toNat (by rw [HL.out]; exact hkl)]; exact HI.out, HU.out⟩
          case round =>
            obtain ⟨q, hq, rfl, hJ, hU2⟩ := hrel
            obtain ⟨w2, hw2e⟩ : ∃ w2 : World, w2 = wr := ⟨_, rfl⟩
            rw [← hw2e] at hJ hU2 ⊢
            have hsz2 := hJ.lt
            have HJ := Lib.hid hJ
            have HU2 := Lib.hid hU2
            clear hJ hU2 hw2e
            have HL2 := Lib.hid (show (midR Z k K.toNat q).now.length = n by show (Z.now.set k _).length = n; rw [List.length_set]; exact HL.out)
            by_cases hq64 : q < 64
            · skip
              have hwq : IntKind.i64.wrap (64 - (q : Int)) = 64 - (q : Int) := IntWalk.i64_in _ (by omega)
              have hwK : IntKind.i64.wrap ((K.toNat : Int) - 128) = (K.toNat : Int) - 128 := IntWalk.i64_in _ (by omega)
              by_cases h128 : K.toNat < 128
              · by_cases hqk : q < K.toNat
                · have hst : staysB K.toNat q = true := by simp [staysB, h128, hqk]
                  have t1 : decide ((K.toNat : Int) < 128) = true := decide_eq_true (by omega)
                  have t2 : decide ((q : Int) < (K.toNat : Int)) = true := decide_eq_true (by omega)
                  have hs1 : mixL (Z.was.getD k []) (Z.now.getD k []) K.toNat (q + 1) = mixL (Z.was.getD k []) (Z.now.getD k []) K.toNat q := by show (if staysB K.toNat q = true then _ else _) = _; rw [hst, if_pos rfl]
                  have e3 : midR Z k K.toNat (q + 1) = midR Z k K.toNat q := by unfold midR; rw [hs1]
                  have HE3 := Lib.hid e3
                  clear hst hs1 e3
                  go_wp2
                  exact ⟨⟨q + 1, hq64, by rw [Int.natCast_add]; rfl, by rw [HE3.out]; exact HJ.out, HU2.out⟩, by show 64 - ((q : Int) + 1).toNat < 64 - ((q : Int)).toNat; omega⟩
                · have hst : staysB K.toNat q = false := by simp [staysB]; omega
                  have t1 : decide ((K.toNat : Int) < 128) = true := decide_eq_true (by omega)
                  have t2 : decide ((q : Int) < (K.toNat : Int)) = false := decide_eq_false (by omega)
                  have t3 : decide ((128 : Int) ≤ (K.toNat : Int)) = false := decide_eq_false (by omega)
                  have hs1 := Lib.hid hst
                  clear hst
                  go_wp2
                  have HP2 := HJ.out.hp
                  have hn2 := HJ.out.hn
                  rw [HNV.out] at hn2
                  have hw2 := HJ.out.hw
                  rw [HWV.out] at hw2
                  have hcn : w2.cell? ⟨gn, k, none⟩ = some (.slice (some ⟨ge, 0, none⟩) 64 ce) := by rw [← HEL.out]; exact hn2.cell (getD_some (by rw [HJ.out.ln, HL2.out]; exact hkl))
                  have hcw : w2.cell? ⟨gw, k, none⟩ = some (.slice (some ⟨gh, 0, none⟩) 64 ch) := by rw [← HWL.out]; exact hw2.cell (getD_some (by rw [HJ.out.lw, HL2.out]; exact hkl))
                  have hob := (HJ.out.ew k (by rw [HL2.out]; exact hkl))
                  rw [HWL.out] at hob
                  have hch : w2.cell? ⟨gh, q, none⟩ = some (bv ((Z.was.getD k []).getD q 0)) := hob.1.cell (by rw [hob.2]; exact hq64)
                  obtain ⟨bb, hbb⟩ : ∃ bb, (Z.was.getD k []).getD q 0 = bb := ⟨_, rfl⟩
                  rw [hbb] at hch
                  have hoe := (HJ.out.en k (by rw [HL2.out]; exact hkl))
                  rw [HEL.out] at hoe
                  have hce := hoe.1.cell (j := q) (by rw [hoe.2]; exact hq64)
                  have hfe := hoe.1.free q
                  have HBB := Lib.hid hbb
                  have HOE := Lib.hid hoe
                  clear hob hoe hn2 hw2 hbb
                  refine region_last 19 0 19 19 (by decide) (by kernel_rfl) (by kernel_rfl) rfl rfl (by kernel_rfl) (by kernel_rfl) (fun x => x.heap[r]? = some (.cells (refA (midR Z k K.toNat q) M) 135 (0, 0)) ∧ x.cell? ⟨gn, k, none⟩ = some (.slice (some ⟨ge, 0, none⟩) 64 ce) ∧ x.cell? ⟨gw, k, none⟩ = some (.slice (some ⟨gh, 0, none⟩) 64 ch) ∧ x.cell? ⟨gh, q, none⟩ = some (bv bb)) ⟨HP2, hcn, hcw, hch⟩ ?_
                  simp only [List.take_succ_cons, List.take_zero]
                  (apply r_value (by first | rfl | go_simp) (v := ?_); focus (intro _ _; go_simp; try exact rfl)); (apply r_at; focus (go_simp; exact rfl))
                  (apply r_value (by first | rfl | go_simp) (v := ?_); focus (intro _ _; go_simp; try exact rfl)); (apply r_at; focus (go_simp; exact rfl))
                  (apply r_value (by first | rfl | go_simp) (v := ?_); focus (intro _ _; go_simp; try exact rfl)); (apply r_at; focus (go_simp; exact rfl))
                  refine r_load rfl 22 (.tmp 65) rfl (fun w => by go_simp) ⟨r, 0, none⟩ rfl _ (fun x hx => by rw [cell_of_row x r 0 _ _ _ hx.1]; show some M.nv = _; rw [HNV.out]) ?_; (apply r_at; focus (go_simp; exact rfl))
                  (apply r_value (by first | rfl | go_simp) (v := ?_); focus (intro _ _; go_simp; try exact rfl)); (apply r_at; focus (go_simp; exact rfl))
                  (apply r_value (by first | rfl | go_simp) (v := ?_); focus (intro _ _; go_simp; try exact rfl)); (apply r_at; focus (go_simp; exact rfl))
                  refine r_load rfl 26 (.tmp 68) rfl (fun w => by go_simp) ⟨gn, k, none⟩ rfl _ (fun x hx => hx.2.1) ?_; (apply r_at; focus (go_simp; exact rfl))
                  (apply r_value (by first | rfl | go_simp) (v := ?_); focus (intro _ _; go_simp; try exact rfl)); (apply r_at; focus (go_simp; exact rfl))
                  (apply r_value (by first | rfl | go_simp) (v := ?_); focus (intro _ _; go_simp; try exact rfl)); (apply r_at; focus (go_simp; exact rfl))
                  (apply r_value (by first | rfl | go_simp) (v := ?_); focus (intro _ _; go_simp; try exact rfl)); (apply r_at; focus (go_simp; exact rfl))
                  (apply r_value (by first | rfl | go_simp) (v := ?_); focus (intro _ _; go_simp; try exact rfl)); (apply r_at; focus (go_simp; exact rfl))
                  refine r_load rfl 22 (.tmp 73) rfl (fun w => by go_simp) ⟨r, 1, none⟩ rfl _ (fun x hx => by rw [cell_of_row x r 1 _ _ _ hx.1]; show some M.wv = _; rw [HWV.out]) ?_; (apply r_at; focus (go_simp; exact rfl))
                  (apply r_value (by first | rfl | go_simp) (v := ?_); focus (intro _ _; go_simp; try exact rfl)); (apply r_at; focus (go_simp; exact rfl))
                  (apply r_value (by first | rfl | go_simp) (v := ?_); focus (intro _ _; go_simp; try exact rfl)); (apply r_at; focus (go_simp; exact rfl))
                  refine r_load rfl 26 (.tmp 76) rfl (fun w => by go_simp) ⟨gw, k, none⟩ rfl _ (fun x hx => hx.2.2.1) ?_; (apply r_at; focus (go_simp; exact rfl))
                  (apply r_value (by first | rfl | go_simp) (v := ?_); focus (intro _ _; go_simp; try exact rfl)); (apply r_at; focus (go_simp; exact rfl))
                  (apply r_value (by first | rfl | go_simp) (v := ?_); focus (intro _ _; go_simp; try exact rfl)); (apply r_at; focus (go_simp; exact rfl))
                  refine r_load rfl 5 (.tmp 79) rfl (fun w => by go_simp) ⟨gh, q, none⟩ rfl _ (fun x hx => hx.2.2.2) ?_; (apply r_at; focus (go_simp; exact rfl))
                  (apply r_value (by first | rfl | go_simp) (v := ?_); focus (intro _ _; go_simp; try exact rfl)); (apply r_at; focus (go_simp; exact rfl))
                  refine r_nil ?_
                  have ua : Upd (fun _ => False) w2 { w2 with drawn := w2.drawn + 1 } := (Upd.refl _ w2).drew
                  generalize ({ w2 with drawn := w2.drawn + 1 } : World) = wa at ua
                  have hC := (show _ ∧ _ ∧ _ ∧ _ from ⟨ua.heap HP2 id, cell_keep hcn ua, cell_keep hcw ua, cell_keep hch ua⟩)
                  refine o_last (by kernel_rfl) (by kernel_rfl) rfl rfl ?_
                  have hcea := cell_keep hce ua
                  have hfea : wa.frozen? ⟨ge, q, none⟩ = false := ((HOE.out.1.keep ua (fun _ _ => id)).free q)
                  unfold bv
                  refine o_skip (w' := wa.setCell ⟨ge, q, none⟩ (bv bb)) (by unfold bv at hcea ⊢; go_simp) ?_
                  have I3 := (HJ.out.keep ua (fun _ _ => id)).setByte (j := k) (by rw [HL2.out]; exact hkl) HEL.out q bb
                  have W3 := Lib.hid ((HU2.out.trans (FR.quiet ua)).trans (FR.cell (w := wa) (g := ge) (j := q) (u := bv bb) (HOE.out.1.ty ge rfl).1 ((HOE.out.1.keep ua (fun _ _ => id)).ty ge rfl).2.2 (by decide)))
                  rw [midR_step Z k K.toNat q bb (by rw [HL.out]; exact hkl) hs1.out HBB.out] at I3
                  have HI3 := Lib.hid I3
                  clear I3 hcea hfea
                  generalize (wa.setCell ⟨ge, q, none⟩ (bv bb) : World) = wd at HI3 W3 ⊢
                  clear HP2 hcn hcw hch hce hfe
                  go_wp2
                  exact ⟨⟨q + 1, hq64, by rw [Int.natCast_add]; rfl, HI3.out, W3.out⟩, by show 64 - ((q : Int) + 1).toNat < 64 - ((q : Int)).toNat; omega⟩
              · have t1 : decide ((K.toNat : Int) < 128) = false := decide_eq_false (by omega)
                have t3 : decide ((128 : Int) ≤ (K.toNat : Int)) = true := decide_eq_true (by omega)
                by_cases hqk : 64 - (q : Int) ≤ (K.toNat : Int) - 128
                · have hst : staysB K.toNat q = true := by simp [staysB]; omega
                  have t2 : decide (64 - (q : Int) ≤ (K.toNat : Int) - 128) = true := decide_eq_true hqk
                  have hs1 : mixL (Z.was.getD k []) (Z.now.getD k []) K.toNat (q + 1) = mixL (Z.was.getD k []) (Z.now.getD k []) K.toNat q := by show (if staysB K.toNat q = true then _ else _) = _; rw [hst, if_pos rfl]
                  have e3 : midR Z k K.toNat (q + 1) = midR Z k K.toNat q := by unfold midR; rw [hs1]
                  have HE3 := Lib.hid e3
                  clear hst hs1 e3
                  go_wp2
                  exact ⟨⟨q + 1, hq64, by rw [Int.natCast_add]; rfl, by rw [HE3.out]; exact HJ.out, HU2.out⟩, by show 64 - ((q : Int) + 1).toNat < 64 - ((q : Int)).toNat; omega⟩
                · have hst : staysB K.toNat q = false := by simp [staysB]; omega
                  have t2 : decide (64 - (q : Int) ≤ (K.toNat : Int) - 128) = false := decide_eq_false hqk
                  have hs1 := Lib.hid hst
                  clear hst
                  go_wp2
                  have HP2 := HJ.out.hp
                  have hn2 := HJ.out.hn
                  rw [HNV.out] at hn2
                  have hw2 := HJ.out.hw
                  rw [HWV.out] at hw2
                  have hcn : w2.cell? ⟨gn, k, none⟩ = some (.slice (some ⟨ge, 0, none⟩) 64 ce) := by rw [← HEL.out]; exact hn2.cell (getD_some (by rw [HJ.out.ln, HL2.out]; exact hkl))
                  have hcw : w2.cell? ⟨gw, k, none⟩ = some (.slice (some ⟨gh, 0, none⟩) 64 ch) := by rw [← HWL.out]; exact hw2.cell (getD_some (by rw [HJ.out.lw, HL2.out]; exact hkl))
                  have hob := (HJ.out.ew k (by rw [HL2.out]; exact hkl))
                  rw [HWL.out] at hob
                  have hch : w2.cell? ⟨gh, q, none⟩ = some (bv ((Z.was.getD k []).getD q 0)) := hob.1.cell (by rw [hob.2]; exact hq64)
                  obtain ⟨bb, hbb⟩ : ∃ bb, (Z.was.getD k []).getD q 0 = bb := ⟨_, rfl⟩
                  rw [hbb] at hch
                  have hoe := (HJ.out.en k (by rw [HL2.out]; exact hkl))
                  rw [HEL.out] at hoe
                  have hce := hoe.1.cell (j := q) (by rw [hoe.2]; exact hq64)
                  have hfe := hoe.1.free q
                  have HBB := Lib.hid hbb
                  have HOE := Lib.hid hoe
                  clear hob hoe hn2 hw2 hbb
                  refine region_last 19 0 19 19 (by decide) (by kernel_rfl) (by kernel_rfl) rfl rfl (by kernel_rfl) (by kernel_rfl) (fun x => x.heap[r]? = some (.cells (refA (midR Z k K.toNat q) M) 135 (0, 0)) ∧ x.cell? ⟨gn, k, none⟩ = some (.slice (some ⟨ge, 0, none⟩) 64 ce) ∧ x.cell? ⟨gw, k, none⟩ = some (.slice (some ⟨gh, 0, none⟩) 64 ch) ∧ x.cell? ⟨gh, q, none⟩ = some (bv bb)) ⟨HP2, hcn, hcw, hch⟩ ?_
                  simp only [List.take_succ_cons, List.take_zero]
                  (apply r_value (by first | rfl | go_simp) (v := ?_); focus (intro _ _; go_simp; try exact rfl)); (apply r_at; focus (go_simp; exact rfl))
                  (apply r_value (by first | rfl | go_simp) (v := ?_); focus (intro _ _; go_simp; try exact rfl)); (apply r_at; focus (go_simp; exact rfl))
                  (apply r_value (by first | rfl | go_simp) (v := ?_); focus (intro _ _; go_simp; try exact rfl)); (apply r_at; focus (go_simp; exact rfl))
                  refine r_load rfl 22 (.tmp 65) rfl (fun w => by go_simp) ⟨r, 0, none⟩ rfl _ (fun x hx => by rw [cell_of_row x r 0 _ _ _ hx.1]; show some M.nv = _; rw [HNV.out]) ?_; (apply r_at; focus (go_simp; exact rfl))
                  (apply r_value (by first | rfl | go_simp) (v := ?_); focus (intro _ _; go_simp; try exact rfl)); (apply r_at; focus (go_simp; exact rfl))
                  (apply r_value (by first | rfl | go_simp) (v := ?_); focus (intro _ _; go_simp; try exact rfl)); (apply r_at; focus (go_simp; exact rfl))
                  refine r_load rfl 26 (.tmp 68) rfl (fun w => by go_simp) ⟨gn, k, none⟩ rfl _ (fun x hx => hx.2.1) ?_; (apply r_at; focus (go_simp; exact rfl))
                  (apply r_value (by first | rfl | go_simp) (v := ?_); focus (intro _ _; go_simp; try exact rfl)); (apply r_at; focus (go_simp; exact rfl))
                  (apply r_value (by first | rfl | go_simp) (v := ?_); focus (intro _ _; go_simp; try exact rfl)); (apply r_at; focus (go_simp; exact rfl))
                  (apply r_value (by first | rfl | go_simp) (v := ?_); focus (intro _ _; go_simp; try exact rfl)); (apply r_at; focus (go_simp; exact rfl))
                  (apply r_value (by first | rfl | go_simp) (v := ?_); focus (intro _ _; go_simp; try exact rfl)); (apply r_at; focus (go_simp; exact rfl))
                  refine r_load rfl 22 (.tmp 73) rfl (fun w => by go_simp) ⟨r, 1, none⟩ rfl _ (fun x hx => by rw [cell_of_row x r 1 _ _ _ hx.1]; show some M.wv = _; rw [HWV.out]) ?_; (apply r_at; focus (go_simp; exact rfl))
                  (apply r_value (by first | rfl | go_simp) (v := ?_); focus (intro _ _; go_simp; try exact rfl)); (apply r_at; focus (go_simp; exact rfl))
                  (apply r_value (by first | rfl | go_simp) (v := ?_); focus (intro _ _; go_simp; try exact rfl)); (apply r_at; focus (go_simp; exact rfl))
                  refine r_load rfl 26 (.tmp 76) rfl (fun w => by go_simp) ⟨gw, k, none⟩ rfl _ (fun x hx => hx.2.2.1) ?_; (apply r_at; focus (go_simp; exact rfl))
                  (apply r_value (by first | rfl | go_simp) (v := ?_); focus (intro _ _; go_simp; try exact rfl)); (apply r_at; focus (go_simp; exact rfl))
                  (apply r_value (by first | rfl | go_simp) (v := ?_); focus (intro _ _; go_simp; try exact rfl)); (apply r_at; focus (go_simp; exact rfl))
                  refine r_load rfl 5 (.tmp 79) rfl (fun w => by go_simp) ⟨gh, q, none⟩ rfl _ (fun x hx => hx.2.2.2) ?_; (apply r_at; focus (go_simp; exact rfl))
                  (apply r_value (by first | rfl | go_simp) (v := ?_); focus (intro _ _; go_simp; try exact rfl)); (apply r_at; focus (go_simp; exact rfl))
                  refine r_nil ?_
                  have ua : Upd (fun _ => False) w2 { w2 with drawn := w2.drawn + 1 } := (Upd.refl _ w2).drew
                  generalize ({ w2 with drawn := w2.drawn + 1 } : World) = wa at ua
                  have hC := (show _ ∧ _ ∧ _ ∧ _ from ⟨ua.heap HP2 id, cell_keep hcn ua, cell_keep hcw ua, cell_keep hch ua⟩)
                  refine o_last (by kernel_rfl) (by kernel_rfl) rfl rfl ?_
                  have hcea := cell_keep hce ua
                  have hfea : wa.frozen? ⟨ge, q, none⟩ = false := ((HOE.out.1.keep ua (fun _ _ => id)).free q)
                  unfold bv
                  refine o_skip (w' := wa.setCell ⟨ge, q, none⟩ (bv bb)) (by unfold bv at hcea ⊢; go_simp) ?_
                  have I3 := (HJ.out.keep ua (fun _ _ => id)).setByte (j := k) (by rw [HL2.out]; exact hkl) HEL.out q bb
                  have W3 := Lib.hid ((HU2.out.trans (FR.quiet ua)).trans (FR.cell (w := wa) (g := ge) (j := q) (u := bv bb) (HOE.out.1.ty ge rfl).1 ((HOE.out.1.keep ua (fun _ _ => id)).ty ge rfl).2.2 (by decide)))
                  rw [midR_step Z k K.toNat q bb (by rw [HL.out]; exact hkl) hs1.out HBB.out] at I3
                  have HI3 := Lib.hid I3
                  clear I3 hcea hfea
                  generalize (wa.setCell ⟨ge, q, none⟩ (bv bb) : World) = wd at HI3 W3 ⊢
                  clear HP2 hcn hcw hch hce hfe
                  go_wp2
                  exact ⟨⟨q + 1, hq64, by rw [Int.natCast_add]; rfl, HI3.out, W3.out⟩, by show 64 - ((q : Int) + 1).toNat < 64 - ((q : Int)).toNat; omega⟩
            · obtain rfl : q = 64 := by omega
              have HP := HJ.out.hp
              have hn1 := HJ.out.hn
              rw [HNV.out] at hn1
              have hce : w2.cell? ⟨gn, k, none⟩ = some (.slice (some ⟨ge, 0, none⟩) 64 ce) := by rw [← HEL.out]; exact hn1.cell (getD_some (by rw [HJ.out.ln, HL2.out]; exact hkl))
              have hob := Lib.hid (HJ.out.en k (by rw [HL2.out]; exact hkl))
              have HCE := Lib.hid hce
              clear hn1 hce
              go_wp2
              refine region_last 5 10 15 15 (by decide) (by kernel_rfl) (by kernel_rfl) rfl rfl (by kernel_rfl) (by kernel_rfl) (fun x => x.heap[r]? = some (.cells (refA (midR Z k K.toNat 64) M) 135 (0, 0)) ∧ x.cell? ⟨gn, k, none⟩ = some (.slice (some ⟨ge, 0, none⟩) 64 ce)) ⟨HP, HCE.out⟩ ?_
              simp only [List.take_succ_cons, List.take_zero]
              (apply r_value (by first | rfl | go_simp) (v := ?_); focus (intro _ _; go_simp; try exact rfl)); (apply r_at; focus (go_simp; exact rfl))
              (apply r_value (by first | rfl | go_simp) (v := ?_); focus (intro _ _; go_simp; try exact rfl)); (apply r_at; focus (go_simp; exact rfl))
              (apply r_value (by first | rfl | go_simp) (v := ?_); focus (intro _ _; go_simp; try exact rfl)); (apply r_at; focus (go_simp; exact rfl))
              refine r_load rfl 22 (.tmp 84) rfl (fun w => by go_simp) ⟨r, 1, none⟩ rfl _ (fun x hx => by rw [cell_of_row x r 1 _ _ _ hx.1]; show some M.wv = _; rw [HWV.out]) ?_; (apply r_at; focus (go_simp; exact rfl))
              (apply r_value (by first | rfl | go_simp) (v := ?_); focus (intro _ _; go_simp; try exact rfl)); (apply r_at; focus (go_simp; exact rfl))
              refine r_nil ?_
              have ua : Upd (fun _ => False) w2 { w2 with drawn := w2.drawn + 1 } := (Upd.refl _ w2).drew
              generalize ({ w2 with drawn := w2.drawn + 1 } : World) = wa at ua
              have hC := And.intro (ua.heap HP id) (cell_keep HCE.out ua)
              refine l_reads (k := 6) (r := 15) 7 (by kernel_rfl) (by kernel_rfl) hC (by decide) (by decide) (by kernel_rfl) ?_
              simp only [List.drop_succ_cons, List.drop_zero, List.take_succ_cons, List.take_zero]
              (apply r_value (by first | rfl | go_simp) (v := ?_); focus (intro _ _; go_simp; try exact rfl)); (apply r_at; focus (go_simp; exact rfl))
              (apply r_value (by first | rfl | go_simp) (v := ?_); focus (intro _ _; go_simp; try exact rfl)); (apply r_at; focus (go_simp; exact rfl))
              (apply r_value (by first | rfl | go_simp) (v := ?_); focus (intro _ _; go_simp; try exact rfl)); (apply r_at; focus (go_simp; exact rfl))
              refine r_load rfl 22 (.tmp 90) rfl (fun w => by go_simp) ⟨r, 0, none⟩ rfl _ (fun x hx => by rw [cell_of_row x r 0 _ _ _ hx.1]; show some M.nv = _; rw [HNV.out]) ?_; (apply r_at; focus (go_simp; exact rfl))
              (apply r_value (by first | rfl | go_simp) (v := ?_); focus (intro _ _; go_simp; try exact rfl)); (apply r_at; focus (go_simp; exact rfl))
              (apply r_value (by first | rfl | go_simp) (v := ?_); focus (intro _ _; go_simp; try exact rfl)); (apply r_at; focus (go_simp; exact rfl))
              refine r_load rfl 26 (.tmp 93) rfl (fun w => by go_simp) ⟨gn, k, none⟩ rfl _ (fun x hx => hx.2) ?_; (apply r_at; focus (go_simp; exact rfl))
              refine r_nil ?_
              refine o_one 5 (by kernel_rfl) rfl rfl ?_
              have hCa := hC
              refine o_value (v := .slice (some ⟨wa.heap.size, 0, none⟩) 0 0) (w' := wa.alloc (.cells #[] 5)) (by go_simp) ?_
              have O0 := own_emptyB wa wa.heap.size (Nat.le_refl _)
              have u0 : Upd (fun _ => False) wa (wa.alloc (.cells #[] 5)) := (Upd.refl _ _).alloc _
              generalize wa.alloc (.cells #[] 5) = wb at O0 u0 ⊢
              have hC := And.intro (u0.heap hCa.1 id) (cell_keep hCa.2 u0)
              refine ⟨hC, ?_⟩
              (apply o_at; focus (go_simp; exact rfl))
              refine o_one 13 (by kernel_rfl) rfl rfl ?_
              have hob2 := hob.out.1
              rw [HEL.out] at hob2
              have LX := Lib.hid (show ([] : List UInt8).length + ((midR Z k K.toNat 64).now.getD k []).length ≤ 140737488355328 by rw [hob.out.2]; decide)
              have hb3 : IsBytes wb (.slice (some ⟨ge, 0, none⟩) 64 ce) ((midR Z k K.toNat 64).now.getD k []) := by have hb4 := hob2.bytes.keep (ua.trans u0) (fun _ _ _ => id); exact hb4
              refine o_of_list (ops := #[]) rfl (wpList_append_bytesV wa.heap.size O0 hb3 rfl _ _ rfl rfl rfl u0.size LX.out ?_)
              intro v3 wc O3 u3
              rw [List.nil_append] at O3
              obtain ⟨p3, l3, c3, rfl⟩ : ∃ p l c, v3 = .slice p l c := by obtain ⟨p, c, e, _⟩ := id O3.bytes.at_; exact ⟨p, _, c, e⟩
              have V3 : Upd (fun _ => False) wa wc := u0.then u3 (fun i hi e => absurd hi (Nat.not_lt.2 (O0.base_le i e.symm)))
              have hC := And.intro (V3.heap hCa.1 id) (cell_keep hCa.2 V3)
              have I3 := Lib.hid (HJ.out.keep (ua.trans V3) (fun _ _ => id))
              refine ⟨rfl, hC, ?_⟩
              (apply o_at; focus (go_simp; exact rfl))
              refine l_reads (k := 14) (r := 15) 1 (by kernel_rfl) (by kernel_rfl) hC (by decide) (by decide) (by kernel_rfl) ?_
              simp only [List.drop_succ_cons, List.drop_zero, List.take_succ_cons, List.take_zero]
              (apply r_value (by first | rfl | go_simp) (v := ?_); focus (intro _ _; go_simp; try exact rfl)); (apply r_at; focus (go_simp; exact rfl))
              refine r_nil ?_
              refine o_last (by kernel_rfl) (by kernel_rfl) rfl rfl ?_
              have hw3 := I3.out.hw
              rw [HWV.out] at hw3
              have cc : wc.cell? ⟨gw, k, none⟩ = some (M.wus.getD k undef) := hw3.cell (getD_some (by rw [I3.out.lw, HL2.out]; exact hkl))
              have ff : wc.frozen? ⟨gw, k, none⟩ = false := hw3.free k
              have hbs : base ≤ wa.heap.size := by have := ua.size; omega
              have I4 := Lib.hid (I3.out.setWas HWV.out (by rw [HL2.out]; exact hkl) (O3.mono hbs) hob.out.2 (fun kk hk => (HJ.out.fresh ua.size O3 kk hk).1))
              refine o_skip (w' := wc.setCell ⟨gw, k, none⟩ (.slice p3 l3 c3)) (by go_simp) ?_
              have W4 : FR base w (wc.setCell ⟨gw, k, none⟩ (.slice p3 l3 c3)) := (HU2.out.trans (FR.quiet (ua.trans V3))).trans (FR.cell hbw (hw3.le gw rfl).2.2 (by decide))
              clear cc ff hw3
              generalize (wc.setCell ⟨gw, k, none⟩ (.slice p3 l3 c3) : World) = wd at I4 W4 ⊢
              have c2 := I4.out.c2
              change wd.cell? ⟨r, 2, none⟩ = some M.iv at c2
              rw [HIV.out] at c2
              have hi4 := I4.out.hi
              change OwnT 4 wd base M.iv _ at hi4
              rw [HIV.out] at hi4
              obtain ⟨b0, hb0⟩ : ∃ b0, Z.is[k]? = some b0 := ⟨_, List.getElem?_eq_getElem (by rw [HI.out.li, HL.out]; exact hkl)⟩
              have cc := hi4.cell (j := k) (u := .bool b0) (by rw [List.getElem?_map]; show Option.map _ Z.is[k]? = _; rw [hb0]; rfl)
              have ff := hi4.free k
              have I5 := Lib.hid (I4.out.setIs (g := gi) HIV.out k false)
              have W5 := Lib.hid W4
              have HTI := Lib.hid (hi4.le gi rfl).2.2
              clear hi4 W4 hb0 HP
              go_wp2
              have I6 := I5.out
              have e6 : (midR Z k K.toNat 64).now.getD k [] = tornL (Z.was.getD k []) (Z.now.getD k []) (fateAt fate m) := by
                rw [midR_now Z k K.toNat 64 (by rw [HL.out]; exact hkl), ← HK.out]
                exact mixL_torn _ (HI.out.ew k (by rw [HL.out]; exact hkl)).2 (HI.out.en k (by rw [HL.out]; exact hkl)).2
              rw [e6] at I6
              have e7 : (midR Z k K.toNat 64).now = Z.now.set k (tornL (Z.was.getD k []) (Z.now.getD k []) (fateAt fate m)) := by
                show Z.now.set k (mixL _ _ K.toNat 64) = _
                rw [← midR_now Z k K.toNat 64 (by rw [HL.out]; exact hkl), e6]
              rw [e7] at I6
              refine ⟨⟨k + 1, _, hkl, by rw [Int.natCast_add]; rfl, by rw [HE1.out]; rw [Int.natCast_add]; rfl, by rw [HE1.out]; exact I6, W5.out.trans (FR.cell hbi HTI.out (by decide))⟩, by show n - ((k : Int) + 1).toNat < n - ((k : Int)).toNat; omega⟩
    · have t9 : ¬ (k : Int) < (n : Int) := by omega
      obtain rfl : k = n := by omega
      have c3 := HI.out.c3
      have c4 := HI.out.c4
      have f3 := HI.out.fr 3
      have f4 := HI.out.fr 4
      go_wp2
      go_end0
      have I1 := (HI.out.setGone false).setFuse (-1) (by omega) (by omega)
      rw [← HZ.out] at I1
      exact ⟨rfl, ⟨_, I1⟩, (HU.out.trans (FR.ofr HI.out (upd_cell _ rfl))).trans (FR.ofr (HI.out.setGone false) (upd_cell _ rfl))⟩
end
end Go.Proofs.Ytggepeepjaoibaa

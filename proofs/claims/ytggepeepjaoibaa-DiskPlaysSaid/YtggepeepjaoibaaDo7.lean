/- jalousielaw07.do: a call on both disks. -/
import Derived.Test.YtggepeepjaoibaaMatch7
import Derived.Test.YtggepeepjaoibaaOps
namespace Go.Proofs.Ytggepeepjaoibaa
open Go.RowKit
set_option linter.unusedVariables false
section
variable {w : World} {d r base : Nat} {D : DiskG} {X : RefG}
/-- what a call on both leaves -/
def Both (w w' : World) (d r base : Nat) (D : DiskG) : Prop := ∃ E Y, IsDisk w' d E ∧ IsRef w' r base Y ∧ Mt E Y ∧ Like D E ∧ Upd (fun k => fp d D k ∨ base ≤ k) w w'
theorem both_of {w w1 w2 : World} {d r base : Nat} {D E : DiskG} {Y : RefG} (hD : IsDisk w1 d E) (hl : Like D E) (hu : Upd (Go.Proofs.Ytggepeepjaoibaa.fp d D) w w1) (hf : FR base w1 w2) (hX : IsRef w2 r base Y) (hm : Mt E Y) (h1 : d < base) (h2 : D.B < base) (h3 : D.M < base) : Both w w2 d r base D :=
  ⟨E, Y, hD.keep hf.base (by omega) (by rw [hl.hB]; omega) (by rw [hl.hM]; omega), hX, hm, hl, (hu.mono (fun _ _ h => .inl h)).trans (hf.base.mono (fun _ _ h => .inr h))⟩
theorem IsRef.keepD {w w' : World} {r base d : Nat} {X : RefG} {D : DiskG} (h : IsRef w r base X) (hu : Upd (fp d D) w w') (h1 : d < base) (h2 : D.B < base) (h3 : D.M < base) : IsRef w' r base X := by
  obtain ⟨M, hM⟩ := h
  exact ⟨M, hM.keep hu (fun k hk hf => by rcases hf with hf | hf | hf <;> omega)⟩
theorem IsRef.keep0 {w w' : World} {r base : Nat} {X : RefG} (h : IsRef w r base X) (hu : Upd (fun _ => False) w w') : IsRef w' r base X := by
  obtain ⟨M, hM⟩ := h
  exact ⟨M, hM.keep hu (fun _ _ => id)⟩
theorem IsDisk.keepR {w w' : World} {d base : Nat} {D : DiskG} (h : IsDisk w d D) (hu : Upd (fun k => base ≤ k) w w') (h1 : d < base) (h2 : D.B < base) (h3 : D.M < base) : IsDisk w' d D := h.keep hu (by omega) (by omega) (by omega)
set_option maxRecDepth 100000 in
set_option maxHeartbeats 2000000 in
theorem do7_calls (hD : IsDisk w d D) (hX : IsRef w r base X) (hm : Mt D X) (h1 : d < base) (h2 : D.B < base) (h3 : D.M < base) {k xb : UInt8} {i : Int} {ob : List UInt8} {v : Value} (hi : -9223372036854775808 ≤ i ∧ i ≤ 9223372036854775807) (hv : IsBytes w v ob)
    (hvb : ob ≠ [] → ∀ q, v.ownBlock = some q → q < base ∧ ¬ fp d D q) :
    Calls Try.prog 36 #[.pointer (some ⟨d, 0, none⟩), .pointer (some ⟨r, 0, none⟩), .agg (opA7 ⟨k, xb, i, ob, v⟩)] w fun e w' => e = .returned (.bool true) ∧ Both w w' d r base D := by
  obtain ⟨pa, pcap, rfl, v1, v2, -⟩ := id hv.at_
  have HD := Lib.hid hD
  have HX := Lib.hid hX
  have HM := Lib.hid hm
  have HV := Lib.hid hv
  have HVB := Lib.hid hvb
  have HI := Lib.hid hi
  clear hD hX hm hv hvb hi
  show Calls Try.prog 36 #[.pointer (some ⟨d, 0, none⟩), .pointer (some ⟨r, 0, none⟩), .agg #[.int .u8 (k.toNat : Int), .int .i64 i, .int .u8 (xb.toNat : Int), .slice pa ob.length pcap]] w _
  have hdw := HD.out.lt
  have hrw : r < w.heap.size := by obtain ⟨M, hM⟩ := HX.out; exact hM.lt
  have hbw : base ≤ w.heap.size := by obtain ⟨M, hM⟩ := HX.out; have := hM.hr; omega
  have UA : Upd (fp d D) w (w.alloc (.cells #[.int .u8 (k.toNat : Int), .int .i64 i, .int .u8 (xb.toNat : Int), .slice pa ob.length pcap] 76)) := (Upd.refl _ _).alloc _
  have XA := Lib.hid (heap_alloc_new w (.cells #[.int .u8 (k.toNat : Int), .int .i64 i, .int .u8 (xb.toNat : Int), .slice pa ob.length pcap] 76))
  have DA := Lib.hid (HD.out.alloc (.cells #[.int .u8 (k.toNat : Int), .int .i64 i, .int .u8 (xb.toNat : Int), .slice pa ob.length pcap] 76))
  have RA := Lib.hid (HX.out.keep0 ((Upd.refl _ w).alloc (.cells #[.int .u8 (k.toNat : Int), .int .i64 i, .int .u8 (xb.toNat : Int), .slice pa ob.length pcap] 76)))
  have VA := Lib.hid (HV.out.keep ((Upd.refl (fun _ => False) w).alloc (.cells #[.int .u8 (k.toNat : Int), .int .i64 i, .int .u8 (xb.toNat : Int), .slice pa ob.length pcap] 76)) (fun _ _ _ => id))
  have HUA := Lib.hid UA
  clear UA
  have hbne := Lib.hid (show ∀ q, (Value.slice pa ob.length pcap).ownBlock = some q → ob ≠ [] → q ≠ r from fun q hq hne e => by
    obtain ⟨M, hM⟩ := HX.out
    have := (HVB.out hne q hq).1
    have := hM.hr
    omega)
  have HNB := Lib.hid (show ¬ fp d D w.heap.size from fun hf => by rcases hf with hf | hf | hf <;> omega)
  by_cases k0 : k.toNat = 0
  · have e0 : ((k.toNat : Int) == 0) = true := by rw [beq_iff_eq]; omega
    clear k0
    go_enter Try.func36, Try.ntmps36
    go_wp2_with (first
      | (go_at_call 19; go_must (refine (full_calls xb VA.out).mono ?_); rintro e w1 ⟨vb, rfl, ob1, u1⟩; obtain ⟨g, gc, rfl, hg1, hg2⟩ := ob1.formN (full_len xb ob) (by omega)))
    have hszA : (w.alloc (.cells #[.int .u8 (k.toNat : Int), .int .i64 i, .int .u8 (xb.toNat : Int), .slice pa ob.length pcap] 76)).heap.size = w.heap.size + 1 := World.size_alloc w _
    have HB := u1.heap XA.out id
    have D0 := DA.out.keep u1 id id id
    have R0 := RA.out.keep0 u1
    have O0 := ob1.bytes
    have U0 := HUA.out.trans (u1.mono (T := fp d D) (fun _ _ hf => hf.elim))
    have nf : fullL xb ob ≠ [] → ∀ q, (Value.slice (some ⟨g, 0, none⟩) 64 gc).ownBlock = some q → ¬ fp d D q := fun _ q hq hf => by have e : g = q := Option.some.inj hq; rcases hf with hf | hf | hf <;> omega
    have nr : fullL xb ob ≠ [] → ∀ q, (Value.slice (some ⟨g, 0, none⟩) 64 gc).ownBlock = some q → q ≠ r := fun _ q hq hf => by have e : g = q := Option.some.inj hq; omega
    have NF := Lib.hid nf
    have NR := Lib.hid nr
    have OO := Lib.hid O0
    have UU := Lib.hid U0
    clear nf nr O0 U0
    refine region_order 4 8 (by kernel_rfl) (by kernel_rfl) rfl (by kernel_rfl) (fun x => x.heap[w.heap.size]? = some (.cells #[.int .u8 (k.toNat : Int), .int .i64 i, .int .u8 (xb.toNat : Int), .slice pa ob.length pcap] 76 (0, 0))) HB ?_
    simp only [List.take_succ_cons, List.take_zero]
    (apply r_value (by first | rfl | go_simp) (v := ?_); focus (intro _ _; go_simp; try exact rfl)); (apply r_at; focus (go_simp; exact rfl))
    (apply r_value (by first | rfl | go_simp) (v := ?_); focus (intro _ _; go_simp; try exact rfl)); (apply r_at; focus (go_simp; exact rfl))
    refine r_load rfl 3 (.tmp 18) rfl (fun w => by go_simp) ⟨w.heap.size, 1, none⟩ rfl _ (fun y hy => by rw [cell_of_row y _ 1 _ _ _ hy]; rfl) ?_; (apply r_at; focus (go_simp; exact rfl))
    (apply r_value (by first | rfl | go_simp) (v := ?_); focus (intro _ _; go_simp; try exact rfl)); (apply r_at; focus (go_simp; exact rfl))
    refine r_nil ?_
    have ua : Upd (fun _ => False) w1 { w1 with drawn := w1.drawn + 1 } := (Upd.refl _ w1).drew
    generalize ({ w1 with drawn := w1.drawn + 1 } : World) = wa at ua
    have hC := ua.heap HB id
    refine o_readsK (k := 5) 4 (fun _ _ _ h => h.1) (by kernel_rfl) hC (by decide) (by kernel_rfl) ?_
    simp only [List.drop_succ_cons, List.drop_zero, List.take_succ_cons, List.take_zero]
    (apply r_value (by first | rfl | go_simp) (v := ?_); focus (intro _ _; go_simp; try exact rfl)); (apply r_at; focus (go_simp; exact rfl))
    (apply r_value (by first | rfl | go_simp) (v := ?_); focus (intro _ _; go_simp; try exact rfl)); (apply r_at; focus (go_simp; exact rfl))
    refine r_load rfl 3 (.tmp 23) rfl (fun w => by go_simp) ⟨w.heap.size, 1, none⟩ rfl _ (fun y hy => by rw [cell_of_row y _ 1 _ _ _ hy]; rfl) ?_; (apply r_at; focus (go_simp; exact rfl))
    (apply r_value (by first | rfl | go_simp) (v := ?_); focus (intro _ _; go_simp; try exact rfl)); (apply r_at; focus (go_simp; exact rfl))
    refine r_nil ?_
    refine o_one 4 (by kernel_rfl) rfl rfl ?_
    refine mid_call 18 #[.pointer (some ⟨d, 0, none⟩), .int .i64 i, .slice (some ⟨g, 0, none⟩) 64 gc] (by go_simp) ((write_calls (D0.keep ua id id id) i (OO.out.keep ua (fun _ _ _ => id)) NF.out).mono ?_)
    rintro e wb ⟨rfl, D1, u2⟩
    have hC := u2.heap hC HNB.out
    refine ⟨_, rfl, hC, ?_⟩
    (apply o_at; focus (go_simp; exact rfl))
    refine o_one 9 (by kernel_rfl) rfl rfl ?_
    obtain ⟨M, hM⟩ := ((R0.keep0 ua).keepD u2 h1 h2 h3)
    have W7 := (write7_calls hM i HI.out ((OO.out.keep ua (fun _ _ _ => id)).keep u2 NF.out) NR.out)
    rw [← (HM.out.wr i (fullL xb ob)).1] at W7
    refine mid_call 78 #[.pointer (some ⟨r, 0, none⟩), .int .i64 i, .slice (some ⟨g, 0, none⟩) 64 gc] (by go_simp) (W7.mono ?_)
    rintro e wc ⟨rfl, X2, u3⟩
    have hC := u3.heap hC
    refine ⟨_, rfl, hC, ?_⟩
    (apply o_at; focus (go_simp; exact rfl))
    refine o_readsK (k := 10) 2 (fun _ _ _ h => h.1) (by kernel_rfl) hC (by decide) (by kernel_rfl) ?_
    simp only [List.drop_succ_cons, List.drop_zero, List.take_succ_cons, List.take_zero]
    (apply r_value (by first | rfl | go_simp) (v := ?_); focus (intro _ _; go_simp; try exact rfl)); (apply r_at; focus (go_simp; exact rfl))
    (apply r_value (by first | rfl | go_simp) (v := ?_); focus (intro _ _; go_simp; try exact rfl)); (apply r_at; focus (go_simp; exact rfl))
    refine r_nil ?_
    refine o_end (by kernel_rfl) ?_
    go_wp2
    go_ret
    exact ⟨by simp, both_of (w := w) D1 (wr_like D i (fullL xb ob)) ((UU.out.trans (ua.mono (fun _ _ hf => hf.elim))).trans u2) u3 X2 (HM.out.wr i (fullL xb ob)).2 h1 h2 h3⟩
  by_cases k1 : k.toNat = 1
  · have e0 : ((k.toNat : Int) == 0) = false := by rw [beq_eq_false_iff_ne]; omega
    have e1 : ((k.toNat : Int) == 1) = true := by rw [beq_iff_eq]; omega
    have HS := Lib.hid HM.out.syn
    clear k1 k0
    go_enter Try.func36, Try.ntmps36
    go_wp2_with (first
      | (go_at_call 79; go_must (refine (sync_calls DA.out).mono ?_); rintro e w1 ⟨rfl, D1, u1⟩; obtain ⟨M, hM⟩ := RA.out.keepD u1 h1 h2 h3)
      | (go_at_call 80; go_must (refine (sync7_calls hM).mono ?_); rw [← HS.out.1]; rintro e w2 ⟨rfl, X2, u2⟩))
    go_ret
    exact ⟨rfl, both_of D1 (syn_like D) (HUA.out.trans u1) u2 X2 HS.out.2 h1 h2 h3⟩
  by_cases k2 : k.toNat = 2
  · have e0 : ((k.toNat : Int) == 0) = false := by rw [beq_eq_false_iff_ne]; omega
    have e1 : ((k.toNat : Int) == 1) = false := by rw [beq_eq_false_iff_ne]; omega
    have e2 : ((k.toNat : Int) == 2) = true := by rw [beq_iff_eq]; omega
    clear k1 k0 k2
    go_enter Try.func36, Try.ntmps36
    go_wp2_with (first
      | (go_at_call 42; go_must (refine (fuse_calls DA.out i HI.out.2).mono ?_); rintro e w1 ⟨rfl, D1, u1⟩; obtain ⟨M, hM⟩ := RA.out.keepD u1 h1 h2 h3; have c3 := hM.c3; have f3 := hM.fr 3; have X1 := Lib.hid (u1.heap XA.out (fun hf => by rcases hf with hf | hf | hf <;> omega)); have r1 : w1.cell? ⟨w.heap.size, 1, none⟩ = some (.int .i64 i) := (by rw [cell_of_row w1 _ 1 _ _ _ X1.out]; rfl); have HM1 := Lib.hid hM; clear hM))
    go_ret
    exact ⟨rfl, both_of D1 ⟨rfl, rfl, rfl⟩ (HUA.out.trans u1) (FR.ofr HM1.out (upd_cell _ rfl)) ⟨_, HM1.out.setFuse (max i (-1)) (by omega) (by have := HI.out.2; omega)⟩ (HM.out.fuseSet (max i (-1))) h1 h2 h3⟩
  by_cases k3 : k.toNat = 3
  · have e0 : ((k.toNat : Int) == 0) = false := by rw [beq_eq_false_iff_ne]; omega
    have e1 : ((k.toNat : Int) == 1) = false := by rw [beq_eq_false_iff_ne]; omega
    have e2 : ((k.toNat : Int) == 2) = false := by rw [beq_eq_false_iff_ne]; omega
    have e3 : ((k.toNat : Int) == 3) = true := by rw [beq_iff_eq]; omega
    clear k1 k0 k2 k3
    go_enter Try.func36, Try.ntmps36
    go_wp2_with (first
      | (go_at_call 40; go_must (refine (crash_calls (fate := ob) DA.out VA.out (fun hne q hq => (HVB.out hne q hq).2)).mono ?_); rintro e w1 ⟨rfl, D1, u1⟩; obtain ⟨M, hM⟩ := RA.out.keepD u1 h1 h2 h3; have X1 := Lib.hid (u1.heap XA.out (fun hf => by rcases hf with hf | hf | hf <;> omega)); have r1 : w1.cell? ⟨w.heap.size, 3, none⟩ = some (.slice pa ob.length pcap) := (by rw [cell_of_row w1 _ 3 _ _ _ X1.out]; rfl); have V1 := Lib.hid (VA.out.keep u1 (fun hne q hq => (HVB.out hne q hq).2)))
      | (go_at_call 81; go_must (refine (crash7_calls hM V1.out (fun q hne hq => (HVB.out hne q hq).1)).mono ?_); rintro e w2 ⟨rfl, X2, u2⟩))
    go_ret
    exact ⟨rfl, both_of D1 (crash_like D ob) (HUA.out.trans u1) u2 X2 (HM.out.crash ob) h1 h2 h3⟩
  · have e0 : ((k.toNat : Int) == 0) = false := by rw [beq_eq_false_iff_ne]; omega
    have e1 : ((k.toNat : Int) == 1) = false := by rw [beq_eq_false_iff_ne]; omega
    have e2 : ((k.toNat : Int) == 2) = false := by rw [beq_eq_false_iff_ne]; omega
    have e3 : ((k.toNat : Int) == 3) = false := by rw [beq_eq_false_iff_ne]; omega
    clear k1 k0 k2 k3
    go_enter Try.func36, Try.ntmps36
    go_wp2
    generalize w.alloc (.cells #[.int .u8 (k.toNat : Int), .int .i64 i, .int .u8 (xb.toNat : Int), .slice pa ob.length pcap] 76) = wA at XA DA RA VA HUA ⊢
    have HB := XA.out
    refine region_order 5 9 (by kernel_rfl) (by kernel_rfl) rfl (by kernel_rfl) (fun x => x.heap[w.heap.size]? = some (.cells #[.int .u8 (k.toNat : Int), .int .i64 i, .int .u8 (xb.toNat : Int), .slice pa ob.length pcap] 76 (0, 0))) HB ?_
    simp only [List.take_succ_cons, List.take_zero]
    (apply r_value (by first | rfl | go_simp) (v := ?_); focus (intro _ _; go_simp; try exact rfl)); (apply r_at; focus (go_simp; exact rfl))
    (apply r_value (by first | rfl | go_simp) (v := ?_); focus (intro _ _; go_simp; try exact rfl)); (apply r_at; focus (go_simp; exact rfl))
    refine r_load rfl 3 (.tmp 58) rfl (fun w => by go_simp) ⟨w.heap.size, 1, none⟩ rfl _ (fun y hy => by rw [cell_of_row y _ 1 _ _ _ hy]; rfl) ?_; (apply r_at; focus (go_simp; exact rfl))
    (apply r_value (by first | rfl | go_simp) (v := ?_); focus (intro _ _; go_simp; try exact rfl)); (apply r_at; focus (go_simp; exact rfl))
    refine r_load rfl 26 (.tmp 60) rfl (fun w => by go_simp) ⟨w.heap.size, 3, none⟩ rfl _ (fun y hy => by rw [cell_of_row y _ 3 _ _ _ hy]; rfl) ?_; (apply r_at; focus (go_simp; exact rfl))
    refine r_nil ?_
    have ua : Upd (fun _ => False) wA { wA with drawn := wA.drawn + 1 } := (Upd.refl _ wA).drew
    generalize ({ wA with drawn := wA.drawn + 1 } : World) = wa at ua
    have hC := ua.heap HB id
    refine o_readsK (k := 6) 5 (fun _ _ _ h => h.1) (by kernel_rfl) hC (by decide) (by kernel_rfl) ?_
    simp only [List.drop_succ_cons, List.drop_zero, List.take_succ_cons, List.take_zero]
    (apply r_value (by first | rfl | go_simp) (v := ?_); focus (intro _ _; go_simp; try exact rfl)); (apply r_at; focus (go_simp; exact rfl))
    (apply r_value (by first | rfl | go_simp) (v := ?_); focus (intro _ _; go_simp; try exact rfl)); (apply r_at; focus (go_simp; exact rfl))
    refine r_load rfl 3 (.tmp 64) rfl (fun w => by go_simp) ⟨w.heap.size, 1, none⟩ rfl _ (fun y hy => by rw [cell_of_row y _ 1 _ _ _ hy]; rfl) ?_; (apply r_at; focus (go_simp; exact rfl))
    (apply r_value (by first | rfl | go_simp) (v := ?_); focus (intro _ _; go_simp; try exact rfl)); (apply r_at; focus (go_simp; exact rfl))
    refine r_load rfl 26 (.tmp 66) rfl (fun w => by go_simp) ⟨w.heap.size, 3, none⟩ rfl _ (fun y hy => by rw [cell_of_row y _ 3 _ _ _ hy]; rfl) ?_; (apply r_at; focus (go_simp; exact rfl))
    refine r_nil ?_
    refine o_one 5 (by kernel_rfl) rfl rfl ?_
    refine mid_call 18 #[.pointer (some ⟨d, 0, none⟩), .int .i64 i, .slice pa ob.length pcap] (by go_simp) ((write_calls (DA.out.keep ua id id id) i (VA.out.keep ua (fun _ _ _ => id)) (fun hne q hq => (HVB.out hne q hq).2)).mono ?_)
    rintro e wb ⟨rfl, D1, u2⟩
    have hC := u2.heap hC HNB.out
    refine ⟨_, rfl, hC, ?_⟩
    (apply o_at; focus (go_simp; exact rfl))
    refine o_one 11 (by kernel_rfl) rfl rfl ?_
    obtain ⟨M, hM⟩ := ((RA.out.keep0 ua).keepD u2 h1 h2 h3)
    have W7 := (write7_calls hM i HI.out ((VA.out.keep ua (fun _ _ _ => id)).keep u2 (fun hne q hq => (HVB.out hne q hq).2)) (fun hne q hq => hbne.out q hq hne))
    rw [← (HM.out.wr i ob).1] at W7
    refine mid_call 78 #[.pointer (some ⟨r, 0, none⟩), .int .i64 i, .slice pa ob.length pcap] (by go_simp) (W7.mono ?_)
    rintro e wc ⟨rfl, X2, u3⟩
    have hC := u3.heap hC
    refine ⟨_, rfl, hC, ?_⟩
    (apply o_at; focus (go_simp; exact rfl))
    refine o_readsK (k := 12) 2 (fun _ _ _ h => h.1) (by kernel_rfl) hC (by decide) (by kernel_rfl) ?_
    simp only [List.drop_succ_cons, List.drop_zero, List.take_succ_cons, List.take_zero]
    (apply r_value (by first | rfl | go_simp) (v := ?_); focus (intro _ _; go_simp; try exact rfl)); (apply r_at; focus (go_simp; exact rfl))
    (apply r_value (by first | rfl | go_simp) (v := ?_); focus (intro _ _; go_simp; try exact rfl)); (apply r_at; focus (go_simp; exact rfl))
    refine r_nil ?_
    refine o_end (by kernel_rfl) ?_
    go_wp2
    go_ret
    exact ⟨by simp, both_of (w := w) D1 (wr_like D i ob) ((HUA.out.trans (ua.mono (fun _ _ hf => hf.elim))).trans u2) u3 X2 (HM.out.wr i ob).2 h1 h2 h3⟩
end
end Go.Proofs.Ytggepeepjaoibaa

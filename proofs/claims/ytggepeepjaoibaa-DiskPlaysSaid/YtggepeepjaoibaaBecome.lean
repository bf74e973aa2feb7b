/- Log.become. -/
import Derived.Test.YtggepeepjaoibaaFill
namespace Go.Proofs.Ytggepeepjaoibaa
open Go.RowKit
set_option linter.unusedVariables false

theorem turnF_like (D : DiskG) (f s z : Nat) (n : List UInt8) : Like D (turnF D f s z n).1 := by
  unfold turnF
  simp only
  split
  · exact (wr_like _ _ _).trans (syn_like _)
  · exact wr_like _ _ _
/-- the disk behind a change, and its code -/
def becomeF (D : DiskG) (L : LogG) (xs note : List UInt8) (fill : Bool) (N : Nat) : DiskG × Int :=
  let r := if fill then fillF xs (L.f + 2) N (L.xs.length / 64) D else (D, 0)
  if r.2 = 0 then turnF r.1 L.f (L.s + 1) xs.length note else r
/-- the log behind a change -/
def nextL (L : LogG) (r : Int) (v : Value) (xs note : List UInt8) : LogG := if r = 0 then { L with s := L.s + 1, z := xs.length, n := note, v := v, xs := xs } else { L with over := true }
theorem logA_over (L : LogG) (h : L.n.length = 16) : (logA L).setIfInBounds 22 (.bool true) = logA { L with over := true } := by
  apply Array.ext'
  have e : (headA L.s L.z L.n).size = 18 := by rw [headA_size, h]
  simp only [logA, Array.toList_setIfInBounds, Array.toList_append]
  rw [List.append_assoc, List.set_append_right _ _ (by simp), List.set_append_right _ _ (by simp [e]), List.append_assoc]
  simp [e]

theorem IsDisk.keepP {w w' : World} {d p : Nat} {T : DiskG} (h : IsDisk w d T) (hp : ¬ fp d T p) (hu : Upd (fun k => k = p) w w') : IsDisk w' d T :=
  h.keep hu (fun e => hp (.inl e.symm)) (fun e => hp (.inr (.inl e.symm))) (fun e => hp (.inr (.inr e.symm)))
attribute [local irreducible] wpStill wpReads
set_option maxRecDepth 100000 in
set_option maxHeartbeats 2000000 in
theorem become_calls {w : World} {p : Nat} {L : LogG} {D : DiskG} (h : IsLog w p L) (hD : IsDisk w L.d D) (hsep : ∀ k, lp p L k → ¬ fp L.d D k) {v : Value} {xs note : List UInt8} (hv : OwnB w (p + 1) v xs) (hvs : ∀ k, v.ownBlock = some k → ¬ fp L.d D k)
    (hs : L.s + 1 < 18446744073709551616) (hn : note.length = 16) (hx : xs.length ≤ 1048576) (b : Bool) {N : Nat} (hb : b = true → L.xs.length ≤ xs.length ∧ xs.length ≤ 64 * (L.xs.length / 64 + N)) :
    Calls Try.prog 46 #[.pointer (some ⟨p, 0, none⟩), v, .agg (bvs note), .bool b] w fun e w' => e = .returned (.int .i64 (if (becomeF D L xs note b N).2 = 0 then 0 else 5)) ∧ IsDisk w' L.d (becomeF D L xs note b N).1 ∧
      IsLog w' p (nextL L (becomeF D L xs note b N).2 v xs note) ∧ Upd (fun k => k = p ∨ fp L.d D k) w w' := by
  have hlt := hD.lt
  have hltp := h.lt
  have hsz : (Try.prog.info? 32).isSome = true := by kernel_rfl
  obtain ⟨va, vcap, hve, v1, v2, _⟩ := id hv.bytes.at_
  subst hve
  unfold maxLen at v2
  have HB := Lib.hid (Try.built102 (L.s + 1) xs.length note hn)
  have l18 : (headA (L.s + 1) xs.length note).size = 18 := by rw [headA_size, hn]
  have w1 : IntKind.u64.wrap ((L.s : Int) + 1) = (L.s : Int) + 1 := IntWalk.u64_in _ (by omega)
  have w2 : IntKind.u64.wrap (xs.length : Int) = (xs.length : Int) := IntWalk.u64_in _ (by omega)
  obtain ⟨⟨B1, B2⟩, hBF⟩ : ∃ r, becomeF D L xs note b N = r := ⟨_, rfl⟩
  rw [hBF]
  obtain ⟨c, hc⟩ : ∃ c : Int, (if B2 = 0 then (0 : Int) else 5) = c := ⟨_, rfl⟩
  obtain ⟨NL, hNL⟩ : ∃ NL, nextL L B2 (.slice va xs.length vcap) xs note = NL := ⟨_, rfl⟩
  show Calls Try.prog 46 _ w fun e w' => e = .returned (.int .i64 (if B2 = 0 then (0 : Int) else 5)) ∧ IsDisk w' L.d B1 ∧ IsLog w' p (nextL L B2 (.slice va xs.length vcap) xs note) ∧ Upd (fun k => k = p ∨ fp L.d D k) w w'
  rw [hc, hNL]
  have HBF := Lib.hid hBF
  have HC := Lib.hid hc
  have HNL := Lib.hid hNL
  clear hBF hc hNL
  go_enter Try.func46, Try.ntmps46
  go_wp2_with (first
    | (guard_target =~ wpList _ _ _ (Oper.mk _ (Op.box 32 _) _ _ _ _ :: _) _ _; go_must (refine wpList_box_new rfl 32 _ rfl rfl ?_); intro g1 w1' hg1 x1 z1 u1; have Y1 := Lib.hid x1; have G1 := Lib.hid hg1; clear x1 z1 hg1))
  have h1 := h.quiet u1
  have d1 := hD.keep u1 id id id
  have o1 := hv.keep u1 (fun _ _ => id)
  have k3 := fun x (hx : Upd (fun _ => False) w1' x) => (h1.quiet hx).c3
  have kn : ∀ x, Upd (fun _ => False) w1' x → AggIs x g1 0 (bvs note) := fun x hx => agg_heap (hx.heap Y1.out id)
  have kl : True := trivial
  refine region_order 11 2 (by kernel_rfl) (by kernel_rfl) rfl (by kernel_rfl) (fun x => Upd (fun _ => False) w1' x) ((Upd.refl _ w1').drew) ?_
  simp only [List.take_succ_cons, List.take_zero]
  iterate 4 ((apply r_value (by first | rfl | go_simp) (v := ?_); focus (intro _ _; go_simp; try exact rfl)); (apply r_at; focus (go_simp; exact rfl)))
  refine r_load rfl 35 (.tmp 14) rfl (fun w => by go_simp) ⟨p, 3, none⟩ rfl _ k3 ?_; (apply r_at; focus (go_simp; exact rfl))
  iterate 4 ((apply r_value (by first | rfl | go_simp) (v := ?_); focus (intro _ _; go_simp; try exact rfl)); (apply r_at; focus (go_simp; exact rfl)))
  refine r_value rfl (v := .agg (bvs note)) (fun x hx => run_op_load_agg 32 _ rfl rfl _ Try.isAgg37 (by rw [Try.size37, size_bvs, hn]) (kn x hx)) ?_
  (apply r_at; focus (go_simp; exact rfl))
  refine r_value rfl (v := .agg (headA (L.s + 1) xs.length note)) (fun x hx => run_op_build 93 #[(0, .tmp 16), (1, .tmp 19), (2, .tmp 20)] rfl _ (by go_simp) _ HB.out) ?_
  (apply r_at; focus (go_simp; exact rfl))
  refine r_nil ?_
  clear k3 kn kl
  refine o_one 11 (by kernel_rfl) rfl rfl ?_
  refine o_alloc 93 rfl _ Try.zero102 ?_
  intro g2 w2 hg2 x2 z2 u2
  have U2 : Upd (fun _ => False) w1' w2 := Upd.trans (Upd.refl _ w1').drew u2
  have G2 := Lib.hid (show g2 = w1'.heap.size from hg2)
  have X2 := Lib.hid x2
  clear hg2 z2 x2
  refine ⟨U2, ?_⟩
  (apply o_at; focus (go_simp; exact rfl))
  refine o_one 12 (by kernel_rfl) rfl rfl ?_
  refine o_store_agg 93 _ _ rfl rfl rfl (by rw [Try.size102, l18]) Try.some102 _ 93 X2.out (by rw [l18]; exact Nat.le_refl _) (headA_one _ _ _) ?_
  intro w3 x3 u3
  rw [splice_all _ _ (by rw [Array.length_toList, Array.length_toList, l18]; rfl)] at x3
  have U3 : Upd (fun _ => False) w1' w3 := U2.then u3 (fun i hi e => absurd hi (by rw [e, G2.out]; exact Nat.lt_irrefl _))
  refine ⟨U3, ?_⟩
  (apply o_at; focus (go_simp; exact rfl))
  refine o_end (by kernel_rfl) ?_
  have X3 : w3.heap[g2]? = some (.cells (headA (L.s + 1) xs.length note) 93 (0, 0)) := by simpa using x3
  have hg2 : ¬ fp L.d D g2 := fun hf => by
    have q1 := G2.out
    have q2 := u1.size
    rcases hf with hf | hf | hf <;> omega
  have HX3 := Lib.hid X3
  clear x3 X3 X2 u2 u3 U2
  have U := u1.trans U3
  have L3 := h.quiet U
  have D3 := hD.keep U id id id
  have O3 := hv.keep U (fun _ _ => id)
  clear u1 U3 h1 d1 o1
  have hpp : ¬ fp L.d D p := hsep p (.inl rfl)
  have hx4 : ∀ x, Upd (fp L.d D) w3 x → x.heap[g2]? = some (.cells (headA (L.s + 1) xs.length note) 93 (0, 0)) := fun x hx => hx.heap HX3.out hg2
  have hp5 : ∀ x, Upd (fp L.d D) w3 x → x.heap[p]? = some (.cells (logA L) 95 (0, 0)) := fun x hx => hx.heap L3.hp hpp
  have after6 : ∀ x : World, x.heap[p]? = some (.cells (logA { L with s := L.s + 1, z := xs.length, n := note }) 95 (0, 0)) → Hid (x.heap[p]? = some (.cells (logA { L with s := L.s + 1, z := xs.length, n := note }) 95 (0, 0))) ∧ x.cell? ⟨p, 21, none⟩ = some L.v ∧ x.frozen? ⟨p, 21, none⟩ = false := fun x hx => by
    refine ⟨Lib.hid hx, ?_, frozen_of_row x p 21 _ _ hx⟩
    rw [cell_of_row x p 21 _ _ _ hx, logA, Array.getElem?_append_right (by simp [headA_size, hn])]; simp [headA_size, hn]
  obtain ⟨E, fillR, hR⟩ : ∃ E e, (if b then fillF xs (L.f + 2) N (L.xs.length / 64) D else (D, 0)) = (E, e) := ⟨_, _, rfl⟩
  have hlk : Like D E := by
    cases b with
    | true => have := fillF_like xs (L.f + 2) N (L.xs.length / 64) D; simp only [if_true] at hR; rw [hR] at this; exact this
    | false => simp only [Bool.false_eq_true, if_false] at hR; cases hR; exact Like.refl D
  have fpE : fp L.d E = fp L.d D := hlk.fp L.d
  obtain ⟨⟨T, t⟩, hT⟩ : ∃ r, turnF E L.f (L.s + 1) xs.length note = r := ⟨_, rfl⟩
  have hB : becomeF D L xs note b N = if fillR = 0 then (T, t) else (E, fillR) := by unfold becomeF; rw [hR, ← hT]
  have hpT : ¬ fp L.d T p := by have := turnF_like E L.f (L.s + 1) xs.length note; rw [hT] at this; rw [(hlk.trans this).fp]; exact hpp
  have hpE : ¬ fp L.d E p := by rw [fpE]; exact hpp
  have turnC : ∀ x, IsDisk x L.d E → Upd (fp L.d D) w3 x → Calls Try.prog 89 #[.pointer (some ⟨p, 0, none⟩), .agg (headA (L.s + 1) xs.length note)] x fun e w' => e = .returned (.int .i64 t) ∧ IsDisk w' L.d T ∧ Upd (fp L.d E) x w' := fun x hE hx => by
    have := turn_calls (L3.keep hx hsep) hE (fun k hk => by rw [fpE]; exact hsep k hk) (s := L.s + 1) (z := xs.length) (n := note) hs (by omega) hn
    rw [hT] at this
    exact this
  have HB2 := Lib.hid hB
  have HR := Lib.hid hR
  clear hR hT hB
  have hUu : ∀ x, Upd (fp L.d D) w3 x → Upd (fun k => k = p ∨ fp L.d D k) w x := fun x hx => (U.mono (fun _ _ hk => hk.elim)).then hx (fun k _ hk => .inr hk)
  cases b with
  | true =>
    obtain ⟨hb1, hb2⟩ := hb rfl
    have fill := fill_calls L3 D3 hsep O3.bytes (fun _ => hvs) (k0 := L.xs.length) hb1 hx hb2
    have hR := HR.out
    simp only [if_true] at hR
    rw [hR] at fill
    clear hR
    have k21 := L3.c21
    obtain ⟨la, lc, hle, _⟩ := id L3.hv.bytes.at_
    rw [hle] at k21
    by_cases he : fillR = 0
    · subst he
      by_cases ht : t = 0
      · subst ht
        go_wp2_with (first | (go_at_call 88; go_must (refine fill.mono ?_); rintro e' w4 ⟨rfl, E4, u4⟩) | (guard_target =~ wpList _ _ _ (Oper.mk _ (Op.load 93 _) _ _ _ _ :: _) _ _; first | (refine wpList_value rfl (run_op_load_agg 93 _ rfl rfl (headA (L.s + 1) xs.length note) Try.isAgg102 (by rw [Try.size102, l18]) (agg_heap (hx4 _ u4))) ?_) | (refine wpList_value rfl (run_op_load_agg 93 _ rfl rfl (headA (L.s + 1) xs.length note) Try.isAgg102 (by rw [Try.size102, l18]) (agg_heap (hx4 _ U5))) ?_)) | (go_at_call 89; go_must (refine (turnC w4 E4 u4).mono ?_); rintro e' w5 ⟨rfl, T5, u5⟩; have U5 : Upd (fp L.d D) w3 w5 := (u4.trans (fpE ▸ u5)); have c22 := (L3.keep U5 hsep).c22; have f22 := (L3.keep U5 hsep).fr 22) | (guard_target =~ wpList _ _ _ (Oper.mk _ (Op.store 93 _ _) _ _ _ _ :: _) _ _; go_must (refine wpList_store_agg rfl 93 _ _ rfl rfl rfl (by rw [Try.size102, l18]) Try.some102 _ 95 (hp5 w5 U5) (by (rw [l18, logA_size _ h.hn]; decide)) (headA_one _ _ _) ?_); intro w6 x6 u6; rw [logA_head_set _ h.hn _ _ _ hn] at x6; obtain ⟨X6, c21, f21⟩ := after6 w6 x6; clear x6))
        (have hB := HB2.out; simp only [if_true] at hB; rw [HBF.out] at hB; cases hB; have hc := HC.out; have hNL := HNL.out; rw [if_pos rfl] at hc; rw [nextL, if_pos rfl] at hNL; go_ret; rw [← hc, ← hNL]; have O6 := (O3.keep U5 hvs).keep u6 (fun k hk e => by have := hv.base_le k hk; omega); have up := upd_cell (S := fun k => k = p) (w := w6) (b := p) (o := 21) (.slice va xs.length vcap) rfl; exact ⟨rfl, (T5.keepP hpT u6).keepP hpT up, { hp := (by rw [heap_setCell_same w6 p 21 _ _ _ X6.out, logA_bytes _ hn _ xs]), hn := hn, hs := hs, hz := (by show xs.length < _; omega), hv := O6.keep up (fun k hk e => by have := hv.base_le k hk; omega), hf := h.hf, hm := h.hm }, ((hUu w5 U5).then u6 (fun k _ hk => .inl hk)).setCell (p := ⟨p, 21, none⟩) (fun _ => .inl rfl) _⟩)
      · have hne := ht
        have ht' : (t == 0) = false := by rw [beq_eq_false_iff_ne]; exact ht
        go_wp2_with (first | (go_at_call 88; go_must (refine fill.mono ?_); rintro e' w4 ⟨rfl, E4, u4⟩) | (guard_target =~ wpList _ _ _ (Oper.mk _ (Op.load 93 _) _ _ _ _ :: _) _ _; first | (refine wpList_value rfl (run_op_load_agg 93 _ rfl rfl (headA (L.s + 1) xs.length note) Try.isAgg102 (by rw [Try.size102, l18]) (agg_heap (hx4 _ u4))) ?_) | (refine wpList_value rfl (run_op_load_agg 93 _ rfl rfl (headA (L.s + 1) xs.length note) Try.isAgg102 (by rw [Try.size102, l18]) (agg_heap (hx4 _ U5))) ?_)) | (go_at_call 89; go_must (refine (turnC w4 E4 u4).mono ?_); rintro e' w5 ⟨rfl, T5, u5⟩; have U5 : Upd (fp L.d D) w3 w5 := (u4.trans (fpE ▸ u5)); have c22 := (L3.keep U5 hsep).c22; have f22 := (L3.keep U5 hsep).fr 22) | (guard_target =~ wpList _ _ _ (Oper.mk _ (Op.store 93 _ _) _ _ _ _ :: _) _ _; go_must (refine wpList_store_agg rfl 93 _ _ rfl rfl rfl (by rw [Try.size102, l18]) Try.some102 _ 95 (hp5 w5 U5) (by (rw [l18, logA_size _ h.hn]; decide)) (headA_one _ _ _) ?_); intro w6 x6 u6; rw [logA_head_set _ h.hn _ _ _ hn] at x6; obtain ⟨X6, c21, f21⟩ := after6 w6 x6; clear x6))
        have hB := HB2.out
        simp only [if_true] at hB
        (rw [HBF.out] at hB; cases hB; have hc := HC.out; have hNL := HNL.out; rw [if_neg hne] at hc; rw [nextL, if_neg hne] at hNL; go_ret; rw [← hc, ← hNL]; have Lx := L3.keep U5 hsep; have up := upd_cell (S := fun k => k = p) (w := w5) (b := p) (o := 22) (.bool true) rfl; exact ⟨rfl, T5.keepP hpT up, { Lx with hp := (by rw [heap_setCell_same w5 p 22 _ _ _ Lx.hp, logA_over _ h.hn]), hv := Lx.hv.keep up (fun k hk e => by have := Lx.hv.base_le k hk; omega) }, (hUu w5 U5).setCell (p := ⟨p, 22, none⟩) (fun _ => .inl rfl) _⟩)
    · have hne := he
      have he' : (fillR == 0) = false := by rw [beq_eq_false_iff_ne]; exact he
      go_wp2_with (first | (go_at_call 88; go_must (refine fill.mono ?_); rintro e' w4 ⟨rfl, E4, u4⟩; have c22 := (L3.keep u4 hsep).c22; have f22 := (L3.keep u4 hsep).fr 22) | (guard_target =~ wpList _ _ _ (Oper.mk _ (Op.load 93 _) _ _ _ _ :: _) _ _; first | (refine wpList_value rfl (run_op_load_agg 93 _ rfl rfl (headA (L.s + 1) xs.length note) Try.isAgg102 (by rw [Try.size102, l18]) (agg_heap (hx4 _ u4))) ?_) | (refine wpList_value rfl (run_op_load_agg 93 _ rfl rfl (headA (L.s + 1) xs.length note) Try.isAgg102 (by rw [Try.size102, l18]) (agg_heap (hx4 _ U5))) ?_)) | (go_at_call 89; go_must (refine (turnC w4 E4 u4).mono ?_); rintro e' w5 ⟨rfl, T5, u5⟩; have U5 : Upd (fp L.d D) w3 w5 := (u4.trans (fpE ▸ u5)); have c22 := (L3.keep U5 hsep).c22; have f22 := (L3.keep U5 hsep).fr 22) | (guard_target =~ wpList _ _ _ (Oper.mk _ (Op.store 93 _ _) _ _ _ _ :: _) _ _; go_must (refine wpList_store_agg rfl 93 _ _ rfl rfl rfl (by rw [Try.size102, l18]) Try.some102 _ 95 (hp5 w5 U5) (by (rw [l18, logA_size _ h.hn]; decide)) (headA_one _ _ _) ?_); intro w6 x6 u6; rw [logA_head_set _ h.hn _ _ _ hn] at x6; obtain ⟨X6, c21, f21⟩ := after6 w6 x6; clear x6))
      have hB := HB2.out
      rw [if_neg he] at hB
      (rw [HBF.out] at hB; cases hB; have hc := HC.out; have hNL := HNL.out; rw [if_neg hne] at hc; rw [nextL, if_neg hne] at hNL; go_ret; rw [← hc, ← hNL]; have Lx := L3.keep u4 hsep; have up := upd_cell (S := fun k => k = p) (w := w4) (b := p) (o := 22) (.bool true) rfl; exact ⟨rfl, E4.keepP hpE up, { Lx with hp := (by rw [heap_setCell_same w4 p 22 _ _ _ Lx.hp, logA_over _ h.hn]), hv := Lx.hv.keep up (fun k hk e => by have := Lx.hv.base_le k hk; omega) }, (hUu w4 u4).setCell (p := ⟨p, 22, none⟩) (fun _ => .inl rfl) _⟩)
  | false =>
    have hR := HR.out
    simp only [Bool.false_eq_true, if_false] at hR
    cases hR
    have E4 := D3
    have u4 : Upd (fp L.d D) w3 w3 := Upd.refl _ _
    have k21 := L3.c21
    by_cases ht : t = 0
    · subst ht
      go_wp2_with (first | (guard_target =~ wpList _ _ _ (Oper.mk _ (Op.load 93 _) _ _ _ _ :: _) _ _; first | (refine wpList_value rfl (run_op_load_agg 93 _ rfl rfl (headA (L.s + 1) xs.length note) Try.isAgg102 (by rw [Try.size102, l18]) (agg_heap (hx4 _ u4))) ?_) | (refine wpList_value rfl (run_op_load_agg 93 _ rfl rfl (headA (L.s + 1) xs.length note) Try.isAgg102 (by rw [Try.size102, l18]) (agg_heap (hx4 _ U5))) ?_)) | (go_at_call 89; go_must (refine (turnC w3 E4 u4).mono ?_); rintro e' w5 ⟨rfl, T5, u5⟩; have U5 : Upd (fp L.d D) w3 w5 := (u4.trans (fpE ▸ u5)); have c22 := (L3.keep U5 hsep).c22; have f22 := (L3.keep U5 hsep).fr 22) | (guard_target =~ wpList _ _ _ (Oper.mk _ (Op.store 93 _ _) _ _ _ _ :: _) _ _; go_must (refine wpList_store_agg rfl 93 _ _ rfl rfl rfl (by rw [Try.size102, l18]) Try.some102 _ 95 (hp5 w5 U5) (by (rw [l18, logA_size _ h.hn]; decide)) (headA_one _ _ _) ?_); intro w6 x6 u6; rw [logA_head_set _ h.hn _ _ _ hn] at x6; obtain ⟨X6, c21, f21⟩ := after6 w6 x6; clear x6))
      (have hB := HB2.out; simp only [if_true] at hB; rw [HBF.out] at hB; cases hB; have hc := HC.out; have hNL := HNL.out; rw [if_pos rfl] at hc; rw [nextL, if_pos rfl] at hNL; go_ret; rw [← hc, ← hNL]; have O6 := (O3.keep U5 hvs).keep u6 (fun k hk e => by have := hv.base_le k hk; omega); have up := upd_cell (S := fun k => k = p) (w := w6) (b := p) (o := 21) (.slice va xs.length vcap) rfl; exact ⟨rfl, (T5.keepP hpT u6).keepP hpT up, { hp := (by rw [heap_setCell_same w6 p 21 _ _ _ X6.out, logA_bytes _ hn _ xs]), hn := hn, hs := hs, hz := (by show xs.length < _; omega), hv := O6.keep up (fun k hk e => by have := hv.base_le k hk; omega), hf := h.hf, hm := h.hm }, ((hUu w5 U5).then u6 (fun k _ hk => .inl hk)).setCell (p := ⟨p, 21, none⟩) (fun _ => .inl rfl) _⟩)
    · have hne := ht
      have ht' : (t == 0) = false := by rw [beq_eq_false_iff_ne]; exact ht
      go_wp2_with (first | (guard_target =~ wpList _ _ _ (Oper.mk _ (Op.load 93 _) _ _ _ _ :: _) _ _; first | (refine wpList_value rfl (run_op_load_agg 93 _ rfl rfl (headA (L.s + 1) xs.length note) Try.isAgg102 (by rw [Try.size102, l18]) (agg_heap (hx4 _ u4))) ?_) | (refine wpList_value rfl (run_op_load_agg 93 _ rfl rfl (headA (L.s + 1) xs.length note) Try.isAgg102 (by rw [Try.size102, l18]) (agg_heap (hx4 _ U5))) ?_)) | (go_at_call 89; go_must (refine (turnC w3 E4 u4).mono ?_); rintro e' w5 ⟨rfl, T5, u5⟩; have U5 : Upd (fp L.d D) w3 w5 := (u4.trans (fpE ▸ u5)); have c22 := (L3.keep U5 hsep).c22; have f22 := (L3.keep U5 hsep).fr 22) | (guard_target =~ wpList _ _ _ (Oper.mk _ (Op.store 93 _ _) _ _ _ _ :: _) _ _; go_must (refine wpList_store_agg rfl 93 _ _ rfl rfl rfl (by rw [Try.size102, l18]) Try.some102 _ 95 (hp5 w5 U5) (by (rw [l18, logA_size _ h.hn]; decide)) (headA_one _ _ _) ?_); intro w6 x6 u6; rw [logA_head_set _ h.hn _ _ _ hn] at x6; obtain ⟨X6, c21, f21⟩ := after6 w6 x6; clear x6))
      have hB := HB2.out
      simp only [if_true] at hB
      (rw [HBF.out] at hB; cases hB; have hc := HC.out; have hNL := HNL.out; rw [if_neg hne] at hc; rw [nextL, if_neg hne] at hNL; go_ret; rw [← hc, ← hNL]; have Lx := L3.keep U5 hsep; have up := upd_cell (S := fun k => k = p) (w := w5) (b := p) (o := 22) (.bool true) rfl; exact ⟨rfl, T5.keepP hpT up, { Lx with hp := (by rw [heap_setCell_same w5 p 22 _ _ _ Lx.hp, logA_over _ h.hn]), hv := Lx.hv.keep up (fun k hk e => by have := Lx.hv.base_le k hk; omega) }, (hUu w5 U5).setCell (p := ⟨p, 22, none⟩) (fun _ => .inl rfl) _⟩)
end Go.Proofs.Ytggepeepjaoibaa

/- Log.fill. -/
import Derived.Test.YtggepeepjaoibaaTurn
namespace Go.Proofs.Ytggepeepjaoibaa
open Go.RowKit
set_option linter.unusedVariables false

theorem wpList_make_bytes {ops : Array Oper} {rest : List Oper} {o : Oper} {a : Act} {w : World} {Q : Exit → Act → World → Prop} (hgd : Region.wanted o (yielded ops a.tmps) = true) (x y : Operand) (ho : o.op = .makeSlice 26 x y) (n : Nat) (hx : a.eval x = .int .i64 (n : Int)) (hy : a.eval y = .int .i64 (n : Int)) (hn : n ≤ 1048576)
    (h : ∀ g w', g = w.heap.size → w'.heap[g]? = some (.cells (bvs (zeros n)) 5 (0, 0)) → w'.heap.size = g + 1 → Upd (fun _ => False) w w' → wpList Try.prog ops Q rest (a.put o.dst (.slice (some ⟨g, 0, none⟩) n n)) w') : wpList Try.prog ops Q (o :: rest) a w := by
  obtain ⟨i0, hi, hz0, hz1, hz2⟩ := info_parts Try.info5b
  have hc : madeCells (Value.int IntKind.u8 0).cells (n * i0.size) = bvs (zeros n) := by
    rw [hz1, Nat.mul_one]
    exact madeCells_zero n 1 (by omega)
  have hr := run_op_makeSlice (P := Try.prog) (o := o) (a := a) (w := w) 26 5 i0 (.int .u8 0) x y ho Try.underlying26 hi hz0 .i64 .i64 n hx hy (by rw [hz2]; omega) (by omega)
  rw [hc] at hr
  exact wpList_value hgd hr (h _ _ rfl (heap_alloc_new w _) (by simp) ((Upd.refl _ _).alloc _))

theorem run_op_slice_from {P : Program} {o : Oper} {a : Act} {w : World} (t e : TypeId) (x y : Operand) (ho : o.op = .slice t x (some y) none none) (ht : P.underlying t = some (.slice e)) (he : (P.info? e).map (·.size) = some 1)
    {b off n cap : Nat} (hx : a.eval x = .slice (some ⟨b, off, none⟩) n cap) {l : Nat} (hy : a.eval y = .int .i64 (l : Int)) (hl : l ≤ n) (hc : n ≤ cap) (hlt : l < cap) :
    (execOp a.eval o).run P w = .ok (.value (.slice (some ⟨b, off + l, none⟩) (n - l) (cap - l))) w := by
  have h0 : (0 : Int) ≤ (l : Int) ∧ (l : Int) ≤ (n : Int) ∧ (n : Int) ≤ (cap : Int) := by omega
  have h1 : ¬ cap = l := by omega
  simp [execOp, ho, Instr.sliceAt, Instr.slice, run_underlying ht, hx, hy, Instr.sureAddr, Instr.sliceBounds, Instr.sliceBound, asIntOf, h0, hl, hc, run_sizeOf_one e he, h1, add_plain]
def secAt (xs : List UInt8) (i : Nat) : List UInt8 := splice (zeros 64) 0 ((xs.drop (64 * i)).take 64)
theorem secAt_len (xs : List UInt8) (i : Nat) : (secAt xs i).length = 64 := by simp [secAt, splice, zeros]; omega
def fillF (xs : List UInt8) (base : Nat) : Nat → Nat → DiskG → DiskG × Int
  | 0, _, D => syn D
  | k + 1, i, D => if 64 * i < xs.length then (if (wr D ((base + i : Nat) : Int) (secAt xs i)).2 = 0 then fillF xs base k (i + 1) (wr D ((base + i : Nat) : Int) (secAt xs i)).1 else wr D ((base + i : Nat) : Int) (secAt xs i)) else syn D
theorem fillF_end (xs : List UInt8) (base k i : Nat) (D : DiskG) (h : ¬ 64 * i < xs.length) : fillF xs base k i D = syn D := by
  cases k with
  | zero => rfl
  | succ k => simp only [fillF, if_neg h]
theorem fillF_like (xs : List UInt8) (base : Nat) : ∀ (k i : Nat) (D : DiskG), Like D (fillF xs base k i D).1
  | 0, _, D => syn_like D
  | k + 1, i, D => by
    simp only [fillF]
    split
    · split
      · exact (wr_like _ _ _).trans (fillF_like xs base k (i + 1) _)
      · exact wr_like _ _ _
    · exact syn_like D

attribute [local irreducible] wpStill wpReads
set_option maxRecDepth 100000 in
set_option maxHeartbeats 2000000 in
theorem fill_calls {w : World} {p : Nat} {L : LogG} {D : DiskG} (h : IsLog w p L) (hD : IsDisk w L.d D) (hsep : ∀ k, lp p L k → ¬ fp L.d D k) {v : Value} {xs : List UInt8} (hv : IsBytes w v xs) (hvs : xs ≠ [] → ∀ k, v.ownBlock = some k → ¬ fp L.d D k) {k0 N : Nat} (hk : k0 ≤ xs.length) (hx : xs.length ≤ 1048576) (hN : xs.length ≤ 64 * (k0 / 64 + N)) :
    Calls Try.prog 88 #[.pointer (some ⟨p, 0, none⟩), v, .int .i64 (k0 : Int)] w fun e w' => e = .returned (.int .i64 (fillF xs (L.f + 2) N (k0 / 64) D).2) ∧ IsDisk w' L.d (fillF xs (L.f + 2) N (k0 / 64) D).1 ∧ Upd (fp L.d D) w w' := by
  have hff := h.hf
  have hlt := hD.lt
  obtain ⟨va, vcap, rfl, v1, v2, v0, v3⟩ := id hv.at_
  unfold maxLen at v2
  have hq : (k0 : Int).tdiv 64 = ((k0 / 64 : Nat) : Int) := by rfl
  obtain ⟨i0, hi0⟩ : ∃ i0, k0 / 64 = i0 := ⟨_, rfl⟩
  rw [hi0] at hN hq ⊢
  have hi1 : 64 * i0 ≤ xs.length := by omega
  clear hi0
  obtain ⟨F, hF⟩ : ∃ F, fillF xs (L.f + 2) N i0 D = F := ⟨_, rfl⟩
  rw [hF]
  have HF := Lib.hid hF
  clear hF
  go_enter Try.func88, Try.ntmps88
  go_wp2
  go_loopw [7] (fun y wr => ∃ (i M : Nat) (E : DiskG), 64 * i ≤ xs.length + 63 ∧ y = .int .i64 i ∧ F = fillF xs (L.f + 2) M i E ∧ xs.length ≤ 64 * (i + M) ∧ Like D E ∧ IsDisk wr L.d E ∧ Upd (fp L.d D) w wr) (fun y _ => xs.length + 64 - 64 * (intOf y).toNat)
  case atStart => exact ⟨i0, N, D, by omega, rfl, HF.out.symm, hN, Like.refl D, hD, Upd.refl _ _⟩
  case round =>
    obtain ⟨i, M, E, hi, rfl, hFe, hM, hL, hE, hU⟩ := hrel
    have hsepE : ∀ k, lp p L k → ¬ fp L.d E k := fun k hk => by rw [hL.fp]; exact hsep k hk
    have Lr := h.keep hU hsep
    have hvr := hv.keep hU hvs
    have w1 : IntKind.i64.wrap ((i : Int) * 64) = (i : Int) * 64 := IntWalk.i64_in _ (by omega)
    have HFE := Lib.hid hFe
    clear hFe
    by_cases hlt2 : 64 * i < xs.length
    · have hxne : xs ≠ [] := by intro e; rw [e] at hlt2; simp at hlt2
      obtain ⟨b, off, rfl, hcell⟩ : ∃ b off, va = some ⟨b, off, none⟩ ∧ ∀ j, j < xs.length → wr.cell? ⟨b, off + j, none⟩ = some (bv (xs.getD j 0)) := by
        obtain ⟨a', c', e, _, _, _, q3⟩ := hvr.at_
        simp only [Value.slice.injEq] at e
        obtain ⟨rfl, _, _⟩ := e
        exact q3.resolve_left hxne
      have t1 : decide ((i : Int) * 64 < (xs.length : Int)) = true := decide_eq_true (by omega)
      have lcs : ((xs.drop (64 * i)).take 64).length = Nat.min (xs.length - 64 * i) 64 := by rw [List.length_take, List.length_drop]; show min _ _ = min _ _; omega
      have hfit : 0 + ((xs.drop (64 * i)).take 64).length ≤ (zeros 64).length := by rw [List.length_take]; simp [zeros]; omega
      have hsrc : ∀ w2, Upd (fun _ => False) wr w2 → ∀ j, j < ((xs.drop (64 * i)).take 64).length → w2.cell? ⟨b, (off + 64 * i) + j, none⟩ = some (bv (((xs.drop (64 * i)).take 64).getD j 0)) := fun w2 u2 j hj => by
        rw [List.length_take, List.length_drop] at hj
        have hc := hcell (64 * i + j) (by omega)
        rw [World.cell?_of_block (u2.block b (World.block_lt_of_cell? wr _ hc) id), show off + 64 * i + j = off + (64 * i + j) by omega, hc]
        have : ((xs.drop (64 * i)).take 64).getD j 0 = xs.getD (64 * i + j) 0 := by simp only [List.getD_eq_getElem?_getD, List.getElem?_take, if_pos (show j < 64 by omega), List.getElem?_drop]
        rw [this]
      have LCS := Lib.hid lcs
      have HFIT := Lib.hid hfit
      clear lcs hfit hcell
      go_wp2_with (first
        | (guard_target =~ wpList _ _ _ (Oper.mk _ (Op.makeSlice 26 _ _) _ _ _ _ :: _) _ _; go_must (refine wpList_make_bytes rfl _ _ rfl 64 rfl rfl (by omega) ?_); intro g2 w2 hg2 x2 z2 u2; have X2 := Lib.hid x2; have G2 := Lib.hid hg2; have Z2 := Lib.hid z2; clear x2 hg2 z2; have src := hsrc w2 u2)
        | (guard_target =~ wpList _ _ _ (Oper.mk _ (Op.slice 26 _ _ _ _) _ _ _ _ :: _) _ _; go_must (refine wpList_value rfl (run_op_slice_from 26 5 _ _ rfl Try.underlying26 (by kernel_rfl) rfl (l := 64 * i) (by rw [show ((64 * i : Nat) : Int) = (i : Int) * 64 by omega]; rfl) (by omega) v1 (by omega)) ?_))
        | (guard_target =~ wpList _ _ _ (Oper.mk _ (Op.call (Call.mk (Callee.builtin Builtin.copy) _ _)) _ _ _ _ :: _) _ _; go_must (refine wpList_copy_bytes rfl _ _ 26 26 rfl 5 Try.underlying26 (by kernel_rfl) rfl rfl g2 0 (zeros 64) 5 X2.out ((xs.drop (64 * i)).take 64) LCS.out (fun _ => ⟨rfl, _, _, rfl, src⟩) HFIT.out ?_); intro w3 x3 u3; have X3 := Lib.hid x3; clear x3))
      have u23 : Upd (fun _ => False) wr w3 := u2.then u3 (fun i hi e => absurd hi (by rw [e, G2.out]; exact Nat.lt_irrefl _))
      have L3 := Lr.quiet u23
      have E3 := hE.keep u23 id id id
      have hX : splice (zeros 64) 0 ((xs.drop (64 * i)).take 64) = secAt xs i := rfl
      have b3 : IsBytes w3 (.slice (some ⟨g2, 0, none⟩) 64 64) (secAt xs i) := by
        have x3 := X3.out
        rw [hX] at x3
        have := part_bytes (off := 0) (n := 64) (cap := 64) x3 (by rw [secAt_len]; omega) (by omega) (by decide)
        rwa [List.drop_zero, List.take_of_length_le (by rw [secAt_len]; omega)] at this
      have hb3 : ∀ k, (Value.slice (some ⟨g2, 0, none⟩) 64 64).ownBlock = some k → ¬ fp L.d E k := fun k hk hf => by
        have hk' : g2 = k := Option.some.inj hk
        have h1 := hE.lt
        have h2 := G2.out
        rcases hf with hf | hf | hf <;> omega
      clear hsrc src
      have kd := fun x (hx : Upd (fun _ => False) w3 x) => (L3.quiet hx).c0
      have kf := fun x (hx : Upd (fun _ => False) w3 x) => (L3.quiet hx).c1
      have w4 : IntKind.i64.wrap ((L.f : Int) + 2) = (L.f : Int) + 2 := IntWalk.i64_in _ (by omega)
      have w5 : IntKind.i64.wrap ((L.f : Int) + 2 + (i : Int)) = (L.f : Int) + 2 + (i : Int) := IntWalk.i64_in _ (by omega)
      have W6 := Lib.hid (show ((L.f + 2 + i : Nat) : Int) = (L.f : Int) + 2 + (i : Int) by omega)
      refine region_mid 12 (by kernel_rfl) (by kernel_rfl) (fun x => Upd (fun _ => False) w3 x) ((Upd.refl _ w3).drew) rfl ?_
      simp only [List.take_succ_cons, List.take_zero]
      iterate 3 ((apply quiet_value (by first | rfl | go_simp); focus (intro _ _; go_simp; try exact rfl)); (apply q_at; focus (go_simp; exact rfl)))
      refine q_load rfl 24 (.tmp 28) rfl (fun w => by go_simp) ⟨p, 0, none⟩ rfl _ kd ?_; (apply q_at; focus (go_simp; exact rfl))
      iterate 3 ((apply quiet_value (by first | rfl | go_simp); focus (intro _ _; go_simp; try exact rfl)); (apply q_at; focus (go_simp; exact rfl)))
      refine q_load rfl 3 (.tmp 32) rfl (fun w => by go_simp) ⟨p, 1, none⟩ rfl _ kf ?_; (apply q_at; focus (go_simp; exact rfl))
      iterate 4 ((apply quiet_value (by first | rfl | go_simp); focus (intro _ _; go_simp; try exact rfl)); (apply q_at; focus (go_simp; exact rfl)))
      obtain ⟨⟨E', e⟩, hW⟩ : ∃ r, Go.Proofs.Ytggepeepjaoibaa.wr E ((L.f : Int) + 2 + (i : Int)) (secAt xs i) = r := ⟨_, rfl⟩
      have hlk := wr_like E ((L.f : Int) + 2 + (i : Int)) (secAt xs i)
      rw [hW] at hlk
      have hFE := HFE.out
      obtain ⟨M', rfl⟩ : ∃ M', M = M' + 1 := ⟨M - 1, by omega⟩
      simp only [fillF, if_pos hlt2] at hFE
      rw [W6.out, hW] at hFE
      simp only at hFE
      have HW := Lib.hid hW
      have HFE2 := Lib.hid hFE
      clear hW hFE HFE
      refine wpQuiet_nil ⟨rfl, fun x hx => mid_call 18 #[.pointer (some ⟨L.d, 0, none⟩), .int .i64 ((L.f : Int) + 2 + (i : Int)), .slice (some ⟨g2, 0, none⟩) 64 64] (by go_simp) ((write_calls (E3.keep hx id id id) ((L.f : Int) + 2 + (i : Int)) (b3.keep hx (fun _ _ _ => id)) (fun _ => hb3)).mono ?_)⟩
      rw [HW.out]
      rintro e' w7 ⟨rfl, D7, u7⟩
      refine ⟨_, rfl, ?_⟩
      clear kd kf
      have U7 : Upd (fp L.d D) w w7 := ((hU.then u23 (fun _ _ hk => hk.elim)).then hx (fun _ _ hk => hk.elim)).trans (by rw [hL.fp] at u7; exact u7)
      (apply s_at; focus (go_simp; exact rfl))
      (apply s_value (by first | rfl | go_simp) (v := ?_); focus (go_simp; exact rfl))
      (apply s_at; focus (go_simp; exact rfl))
      refine wpStill_nil ?_
      by_cases he : e = 0
      · subst he
        have hF3 := HFE2.out
        rw [if_pos rfl] at hF3
        have HF3 := Lib.hid hF3
        clear hF3
        go_wp2
        refine ⟨⟨i + 1, M', E', by omega, by rw [Int.natCast_add]; rfl, HF3.out, by omega, hL.trans hlk, D7, U7⟩, ?_⟩
        show xs.length + 64 - 64 * ((i : Int) + 1).toNat < xs.length + 64 - 64 * ((i : Int)).toNat
        omega
      · have he' : (e == 0) = false := by rw [beq_eq_false_iff_ne]; exact he
        have hF3 := HFE2.out
        rw [if_neg he] at hF3
        have HF3 := Lib.hid hF3
        clear hF3
        go_wp2
        go_ret
        rw [HF3.out]
        exact ⟨rfl, D7, U7⟩
    · have hF2 := HFE.out
      rw [fillF_end _ _ _ _ _ hlt2] at hF2
      have t1 : decide ((i : Int) * 64 < (xs.length : Int)) = false := decide_eq_false (by omega)
      have c0 := Lr.c0
      have HF2 := Lib.hid hF2
      clear hF2
      go_wp2_with (go_at_call 79; go_must (refine (sync_calls hE).mono ?_); rw [← HF2.out]; rintro e w8 ⟨rfl, D8, u8⟩)
      go_ret
      exact ⟨rfl, D8, hU.trans (by rw [hL.fp] at u8; exact u8)⟩
end Go.Proofs.Ytggepeepjaoibaa

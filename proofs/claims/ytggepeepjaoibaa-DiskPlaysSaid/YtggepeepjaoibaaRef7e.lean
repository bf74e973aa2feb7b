/- jalousieref07.Disk: Write, Sync. -/
import Derived.Test.YtggepeepjaoibaaRef7d
namespace Go.Proofs.Ytggepeepjaoibaa
open Go.RowKit
set_option linter.unusedVariables false
/-- the reference's disk, wherever its rows lie -/
def IsRef (w : World) (r base : Nat) (X : RefG) : Prop := ∃ M, IsRefM w r base X M
/-- a block of the reference's: it lies behind base, and is no call's -/
def RS (base : Nat) (w : World) (k : Nat) : Prop := base ≤ k ∧ ∃ cs t fr, w.heap[k]? = some (.cells cs t fr) ∧ t ≠ 76
def FR (base : Nat) (w w' : World) : Prop := Upd (RS base w) w w'
theorem FR.refl (base : Nat) (w : World) : FR base w w := Upd.refl _ _
theorem FR.trans {base : Nat} {a b c : World} (h : FR base a b) (k : FR base b c) : FR base a c :=
  ⟨k.os.trans h.os, k.tape.trans h.tape, k.output.trans h.output, Nat.le_trans h.size k.size, fun i hi hs => by
    have h1 := h.block i hi hs
    refine (k.block i (Nat.lt_of_lt_of_le hi h.size) (fun hk => hs ⟨hk.1, ?_⟩)).trans h1
    obtain ⟨cs, t, fr, e, ht⟩ := hk.2
    exact ⟨cs, t, fr, by rw [← h1]; exact e, ht⟩⟩
theorem FR.quiet {base : Nat} {a b : World} (h : Upd (fun _ => False) a b) : FR base a b := h.mono (fun _ _ hf => hf.elim)
theorem FR.cell {base : Nat} {w : World} {g j : Nat} {u : Value} {t : TypeId} (hb : base ≤ g) (ht : ∃ cur, w.heap[g]? = some (.cells cur t (0, 0))) (hne : t ≠ 76) : FR base w (w.setCell ⟨g, j, none⟩ u) := by
  obtain ⟨cur, hc⟩ := ht
  exact upd_cell _ ⟨hb, cur, t, _, hc, hne⟩
theorem FR.ofr {w w' : World} {r base : Nat} {X : RefG} {M : RefM} (h : IsRefM w r base X M) (hu : Upd (fun k => k = r) w w') : FR base w w' := hu.mono (fun k _ hk => by rw [hk]; exact ⟨h.hr, _, _, _, h.hp, by decide⟩)
theorem FR.base {base : Nat} {w w' : World} (h : FR base w w') : Upd (fun k => base ≤ k) w w' := h.mono (fun _ _ hk => hk.1)
/-- a call stays -/
theorem FR.heap {base : Nat} {w w' : World} (h : FR base w w') {k : Nat} {cs : Array Value} {fr : Nat × Nat} (hk : w.heap[k]? = some (.cells cs 76 fr)) : w'.heap[k]? = some (.cells cs 76 fr) :=
  Upd.heap h hk (fun hs => by
    obtain ⟨_, cs', t, fr', e, ht⟩ := hs
    rw [hk] at e
    cases e
    exact ht rfl)
section
variable {w w' : World} {r base : Nat} {X : RefG} {M : RefM}
theorem IsRefM.nv_form (h : IsRefM w r base X M) : ∃ p c, M.nv = .slice p X.now.length c := by
  obtain ⟨p, c, e⟩ := h.hn.slice
  exact ⟨p, c, by rw [e, h.ln]⟩
theorem IsRefM.wv_form (h : IsRefM w r base X M) : ∃ p c, M.wv = .slice p X.now.length c := by
  obtain ⟨p, c, e⟩ := h.hw.slice
  exact ⟨p, c, by rw [e, h.lw]⟩
theorem IsRefM.iv_form (h : IsRefM w r base X M) : ∃ p c, M.iv = .slice p X.now.length c := by
  obtain ⟨p, c, e⟩ := h.hi.slice
  exact ⟨p, c, by rw [e, List.length_map, h.li]⟩
theorem IsRefM.nv_at (h : IsRefM w r base X M) (hp : 0 < X.now.length) : ∃ g c, M.nv = .slice (some ⟨g, 0, none⟩) X.now.length c ∧ base ≤ g := by
  obtain ⟨g, c, e, hb, _⟩ := h.hn.form (by rw [h.ln]; exact hp)
  exact ⟨g, c, by rw [e, h.ln], hb⟩
theorem IsRefM.wv_at (h : IsRefM w r base X M) (hp : 0 < X.now.length) : ∃ g c, M.wv = .slice (some ⟨g, 0, none⟩) X.now.length c ∧ base ≤ g := by
  obtain ⟨g, c, e, hb, _⟩ := h.hw.form (by rw [h.lw]; exact hp)
  exact ⟨g, c, by rw [e, h.lw], hb⟩
theorem IsRefM.iv_at (h : IsRefM w r base X M) (hp : 0 < X.now.length) : ∃ g c, M.iv = .slice (some ⟨g, 0, none⟩) X.now.length c ∧ base ≤ g := by
  obtain ⟨g, c, e, hb, _⟩ := h.hi.form (by rw [List.length_map, h.li]; exact hp)
  exact ⟨g, c, by rw [e, List.length_map, h.li], hb⟩
theorem IsRefM.el_at (h : IsRefM w r base X M) {j : Nat} (hj : j < X.now.length) : ∃ g c, M.nus.getD j undef = .slice (some ⟨g, 0, none⟩) 64 c := by
  obtain ⟨g, c, e, _⟩ := (h.en j hj).1.formN (h.en j hj).2 (by omega)
  exact ⟨g, c, e⟩
/-- a fresh block is none of its elements -/
theorem IsRefM.fresh (h : IsRefM w r base X M) {w2 : World} {N : Nat} {u : Value} {xs : List UInt8} (hN : w.heap.size ≤ N) (hu : OwnB w2 N u xs) : ∀ k, u.ownBlock = some k → (∀ i, i < X.now.length → (M.nus.getD i undef).ownBlock ≠ some k) ∧ (∀ i, i < X.now.length → (M.wus.getD i undef).ownBlock ≠ some k) := fun k hk =>
  ⟨fun i hi e => by have q1 := ((h.en i hi).1.ty k e).2.1; have q2 := (hu.ty k hk).1; omega, fun i hi e => by have q1 := ((h.ew i hi).1.ty k e).2.1; have q2 := (hu.ty k hk).1; omega⟩
theorem own_emptyB (w : World) (N : Nat) (h : N ≤ w.heap.size) : OwnB (w.alloc (.cells #[] 5)) N (.slice (some ⟨w.heap.size, 0, none⟩) 0 0) [] := by
  have : OwnB (w.alloc (.cells #[] 5)) w.heap.size (.slice (some ⟨w.heap.size, 0, none⟩) 0 0) [] := World.ownsRow_made w #[] 0 (Nat.le_refl _) (by unfold maxLen; omega) rfl
  exact this.mono h
/-- append(own, xs...), with what it writes -/
theorem wpList_append_bytesV {ops : Array Oper} {rest : List Oper} {o : Oper} {a : Act} {W : World} {Q : Exit → Act → World → Prop} (base : Nat) {v u : Value} {l xs : List UInt8} (hown : OwnB W base v l) (hu : IsBytes W u xs) (hgd : o.guard = none) (s x : Operand) (ho : o.op = .call { callee := .builtin .append, args := #[s, x], argTypes := #[26, 26] })
    (hs : a.eval s = v) (hx : a.eval x = u) (hbase : base ≤ W.heap.size) (hl : l.length + xs.length ≤ 140737488355328)
    (h : ∀ v' w', OwnB w' base v' (l ++ xs) → Upd (fun k => some k = v.ownBlock) W w' → wpList Try.prog ops Q rest (a.put o.dst v') w') : wpList Try.prog ops Q (o :: rest) a W := by
  obtain ⟨i0, hi, hz0, hz1, hz2⟩ := info_parts Try.info5b
  obtain ⟨p, cap, rfl, h1, h2, h0, h3⟩ := hu.at_
  have hone := one_map xs
  cases p with
  | some ad =>
    have hn : ∀ j u, (xs.map bv)[j]? = some u → W.cell? (ad.add j) = some u := by
      rcases h3 with h3 | ⟨b, off, h3, hc⟩
      · subst h3; intro j u hj; simp at hj
      · cases h3; exact cells_of hc
    refine wpList_append_own _ hgd s x 26 ho base 5 i0 (.int .u8 0) 1 1 Try.underlying26 hi hz0 hz1 hz2 rfl (by decide) v l.length (l.map bv) hs hown ad xs.length cap (xs.map bv) hx (by simp)
      hn hone (by unfold maxLen; omega) (by omega) hbase ?_
    intro v' w1 hown1 hg1 _
    refine h v' w1 ?_ (Upd.of_grown hg1)
    unfold OwnB; simpa using hown1
  | none =>
    have hx0 : xs = [] := by
      rcases h3 with h3 | ⟨b, off, h3, _⟩
      · exact h3
      · cases h3
    subst hx0
    obtain rfl := h0 rfl
    refine wpList_append_own_none hgd s x 26 ho base 5 i0 1 Try.underlying26 hi v l.length (l.map bv) hs hown (by simpa using hx) ?_
    exact h v W (by simpa using hown) (Upd.refl _ _)
theorem upd_base {S : Nat → Prop} {a b : World} (h : Upd S a b) (hs : ∀ k, k < a.heap.size → S k → base ≤ k) : Upd (fun k => base ≤ k) a b := h.mono hs
set_option maxRecDepth 100000 in
theorem write7_calls (h : IsRefM w r base X M) (i : Int) (hi : -9223372036854775808 ≤ i ∧ i ≤ 9223372036854775807) {v : Value} {xs : List UInt8} (hv : IsBytes w v xs) (hvr : xs ≠ [] → ∀ k, v.ownBlock = some k → k ≠ r) :
    Calls Try.prog 78 #[.pointer (some ⟨r, 0, none⟩), .int .i64 i, v] w fun e w' => e = .returned (.int .i64 (refWr X i xs).2) ∧ IsRef w' r base (refWr X i xs).1 ∧ FR base w w' := by
  obtain ⟨pn, cn, hnv⟩ := h.nv_form
  have c0 := h.c0
  rw [hnv] at c0
  have hfew := h.few
  obtain ⟨pa, pcap, rfl, v1, v2, _⟩ := id hv.at_
  have hbr := h.hr
  have HH := Lib.hid h
  have HV := Lib.hid hv
  clear h hv
  by_cases hbad : i < 0 ∨ (X.now.length : Int) ≤ i ∨ xs.length ≠ 64
  · have e : refWr X i xs = (X, 1) := by unfold refWr; rw [if_pos hbad]
    rw [e]
    clear e
    by_cases h1 : i < 0
    · have t1 : decide (i < 0) = true := decide_eq_true h1
      clear hbad
      go_enter Try.func78, Try.ntmps78
      go_wp2
      go_ret
      exact ⟨rfl, ⟨M, HH.out⟩, FR.refl _ _⟩
    · have t1 : decide (i < 0) = false := decide_eq_false h1
      by_cases h2 : (X.now.length : Int) ≤ i
      · have t2 : decide ((X.now.length : Int) ≤ i) = true := decide_eq_true h2
        clear hbad
        go_enter Try.func78, Try.ntmps78
        go_wp2
        go_ret
        exact ⟨rfl, ⟨M, HH.out⟩, FR.refl _ _⟩
      · have t2 : decide ((X.now.length : Int) ≤ i) = false := decide_eq_false h2
        have h3 : xs.length ≠ 64 := hbad.resolve_left h1 |>.resolve_left h2
        have t3 : ((xs.length : Int) == 64) = false := by rw [beq_eq_false_iff_ne]; omega
        clear hbad h3
        go_enter Try.func78, Try.ntmps78
        go_wp2
        go_ret
        exact ⟨rfl, ⟨M, HH.out⟩, FR.refl _ _⟩
  · have h1 : ¬ i < 0 := fun e => hbad (.inl e)
    have h2 : ¬ (X.now.length : Int) ≤ i := fun e => hbad (.inr (.inl e))
    have h3 : xs.length = 64 := Classical.byContradiction fun e => hbad (.inr (.inr e))
    have e : refWr X i xs = if (chg X).2 = true then ({ (chg X).1 with now := X.now.set i.toNat xs, is := X.is.set i.toNat true }, 0) else ((chg X).1, 5) := by unfold refWr; rw [if_neg hbad]
    rw [e]
    clear e hbad
    have t1 : decide (i < 0) = false := decide_eq_false h1
    have t2 : decide ((X.now.length : Int) ≤ i) = false := decide_eq_false h2
    have t3 : ((xs.length : Int) == 64) = true := by rw [beq_iff_eq]; omega
    have H3 := Lib.hid h3
    clear h3
    obtain ⟨s1, s2, s3⟩ := chg_same X
    cases hc : (chg X).2 with
    | false =>
      have HC := Lib.hid hc
      clear hc
      rw [if_neg (by decide)]
      go_enter Try.func78, Try.ntmps78
      go_wp2_with (first
        | (go_at_call 111; go_must (refine (change_calls HH.out).mono ?_); rintro e w1 ⟨rfl, h1', u1⟩; rw [HC.out]))
      go_ret
      exact ⟨rfl, ⟨M, h1'⟩, FR.ofr HH.out u1⟩
    | true =>
      have HC := Lib.hid hc
      clear hc
      rw [if_pos rfl]
      obtain ⟨j, rfl⟩ := Int.eq_ofNat_of_zero_le (Int.not_lt.1 h1)
      have hj : j < X.now.length := by omega
      obtain ⟨g, cg, hg, hbg⟩ := HH.out.nv_at (by omega)
      rw [hnv] at hg
      simp only [Value.slice.injEq] at hg
      obtain ⟨rfl, _, rfl⟩ := hg
      obtain ⟨gi, ci, hiv, hbgi⟩ := HH.out.iv_at (by omega)
      rw [Int.toNat_natCast]
      have HS := Lib.hid (And.intro s1 (And.intro s2 s3))
      clear s1 s2 s3
      have HNV := Lib.hid hnv
      have HIV := Lib.hid hiv
      clear hnv hiv
      go_enter Try.func78, Try.ntmps78
      go_wp2_with (first
        | (go_at_call 111; go_must (refine (change_calls HH.out).mono ?_); rintro e w1 ⟨rfl, h1', u1⟩; rw [HC.out]))
      have hl1 : (chg X).1.now.length = X.now.length := by rw [HS.out.1]
      have HP := h1'.hp
      have hv1 : IsBytes w1 (.slice pa xs.length pcap) xs := HV.out.keep u1 hvr
      have LX := Lib.hid (show ([] : List UInt8).length + xs.length ≤ 140737488355328 by rw [H3.out]; decide)
      have HI1 := Lib.hid h1'
      have HL1 := Lib.hid hl1
      have HV1 := Lib.hid hv1
      have hsz1 : r < w1.heap.size := h1'.lt
      clear h1' hl1 hv1 c0
      refine region_last 5 4 9 9 (by decide) (by kernel_rfl) (by kernel_rfl) rfl rfl (by kernel_rfl) (by kernel_rfl) (fun x => x.heap[r]? = some (.cells (refA (chg X).1 M) 135 (0, 0))) HP ?_
      simp only [List.take_succ_cons, List.take_zero]
      (apply r_value (by first | rfl | go_simp) (v := ?_); focus (intro _ _; go_simp; try exact rfl)); (apply r_at; focus (go_simp; exact rfl))
      (apply r_value (by first | rfl | go_simp) (v := ?_); focus (intro _ _; go_simp; try exact rfl)); (apply r_at; focus (go_simp; exact rfl))
      (apply r_value (by first | rfl | go_simp) (v := ?_); focus (intro _ _; go_simp; try exact rfl)); (apply r_at; focus (go_simp; exact rfl))
      refine r_load rfl 22 (.tmp 28) rfl (fun w => by go_simp) ⟨r, 0, none⟩ rfl _ (fun x hx => by rw [cell_of_row x r 0 _ _ _ hx]; show some M.nv = _; rw [HNV.out]) ?_; (apply r_at; focus (go_simp; exact rfl))
      (apply r_value (by first | rfl | go_simp) (v := ?_); focus (intro _ _; go_simp; try exact rfl)); (apply r_at; focus (go_simp; exact rfl))
      refine r_nil ?_
      have ua : Upd (fun _ => False) w1 { w1 with drawn := w1.drawn + 1 } := (Upd.refl _ w1).drew
      generalize ({ w1 with drawn := w1.drawn + 1 } : World) = wa at ua
      have hC := ua.heap HP id
      refine l_reads (k := 6) (r := 9) 1 (by kernel_rfl) (by kernel_rfl) hC (by decide) (by decide) (by kernel_rfl) ?_
      simp only [List.drop_succ_cons, List.drop_zero, List.take_succ_cons, List.take_zero]
      (apply r_value (by first | rfl | go_simp) (v := ?_); focus (intro _ _; go_simp; try exact rfl)); (apply r_at; focus (go_simp; exact rfl))
      refine r_nil ?_
      refine o_one 5 (by kernel_rfl) rfl rfl ?_
      have hCa := hC
      refine o_value (v := .slice (some ⟨wa.heap.size, 0, none⟩) 0 0) (w' := wa.alloc (.cells #[] 5)) (by go_simp) ?_
      have O0 := own_emptyB wa wa.heap.size (Nat.le_refl _)
      have u0 : Upd (fun _ => False) wa (wa.alloc (.cells #[] 5)) := (Upd.refl _ _).alloc _
      generalize wa.alloc (.cells #[] 5) = wb at O0 u0 ⊢
      have hC := u0.heap hCa id
      refine ⟨hC, ?_⟩
      (apply o_at; focus (go_simp; exact rfl))
      refine o_one 7 (by kernel_rfl) rfl rfl ?_
      refine o_of_list (ops := #[]) rfl (wpList_append_bytesV wa.heap.size O0 (HV1.out.keep (ua.trans u0) (fun _ _ _ => id)) rfl _ _ rfl rfl rfl u0.size LX.out ?_)
      intro v3 wc O3 u3
      rw [List.nil_append] at O3
      obtain ⟨p3, l3, c3, rfl⟩ : ∃ p l c, v3 = .slice p l c := by obtain ⟨p, c, e, _⟩ := id O3.bytes.at_; exact ⟨p, _, c, e⟩
      have V3 : Upd (fun _ => False) wa wc := u0.then u3 (fun i hi e => absurd hi (Nat.not_lt.2 (O0.base_le i e.symm)))
      have hC := V3.heap hCa id
      have I3 := Lib.hid (HI1.out.keep (ua.trans V3) (fun _ _ => id))
      refine ⟨rfl, hC, ?_⟩
      (apply o_at; focus (go_simp; exact rfl))
      refine l_reads (k := 8) (r := 9) 1 (by kernel_rfl) (by kernel_rfl) hC (by decide) (by decide) (by kernel_rfl) ?_
      simp only [List.drop_succ_cons, List.drop_zero, List.take_succ_cons, List.take_zero]
      (apply r_value (by first | rfl | go_simp) (v := ?_); focus (intro _ _; go_simp; try exact rfl)); (apply r_at; focus (go_simp; exact rfl))
      refine r_nil ?_
      refine o_last (by kernel_rfl) (by kernel_rfl) rfl rfl ?_
      have hn3 := I3.out.hn
      rw [HNV.out] at hn3
      have cc : wc.cell? ⟨g, j, none⟩ = some (M.nus.getD j undef) := hn3.cell (getD_some (by rw [I3.out.ln, HL1.out]; exact hj))
      have ff : wc.frozen? ⟨g, j, none⟩ = false := hn3.free j
      have hbs : base ≤ wa.heap.size := by have := ua.size; omega
      have I4 := Lib.hid (I3.out.setNow HNV.out (by rw [HL1.out]; exact hj) (O3.mono hbs) H3.out (HI1.out.fresh ua.size O3))
      refine o_skip (w' := wc.setCell ⟨g, j, none⟩ (.slice p3 l3 c3)) (by go_simp) ?_
      have W4 : FR base w (wc.setCell ⟨g, j, none⟩ (.slice p3 l3 c3)) := ((FR.ofr HH.out u1).trans (FR.quiet (ua.trans V3))).trans (FR.cell hbg (hn3.le g rfl).2.2 (by decide))
      clear cc ff hn3
      generalize (wc.setCell ⟨g, j, none⟩ (.slice p3 l3 c3) : World) = wd at I4 W4 ⊢
      have c2 := I4.out.c2
      change wd.cell? ⟨r, 2, none⟩ = some M.iv at c2
      rw [HIV.out] at c2
      have hi4 := I4.out.hi
      change OwnT 4 wd base M.iv _ at hi4
      rw [HIV.out] at hi4
      obtain ⟨b0, hb0⟩ : ∃ b0, (chg X).1.is[j]? = some b0 := ⟨_, List.getElem?_eq_getElem (by rw [HI1.out.li, HL1.out]; exact hj)⟩
      have cc := hi4.cell (j := j) (u := .bool b0) (by rw [List.getElem?_map, hb0]; rfl)
      have ff := hi4.free j
      have I5 := Lib.hid (I4.out.setIs (g := gi) HIV.out j true)
      have W5 := Lib.hid W4
      have HTI := Lib.hid (hi4.le gi rfl).2.2
      clear hi4 W4 hb0 HP
      go_wp2
      go_ret
      have I6 := I5.out
      rw [HS.out.1, HS.out.2.2] at I6
      exact ⟨rfl, ⟨_, I6⟩, W5.out.trans (FR.cell hbgi HTI.out (by decide))⟩
end
end Go.Proofs.Ytggepeepjaoibaa
